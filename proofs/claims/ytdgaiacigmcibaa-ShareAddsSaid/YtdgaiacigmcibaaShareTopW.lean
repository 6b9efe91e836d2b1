/- ShareTop's walk, given that what each statement begins with answers true. Condition: that. -/
import Derived.Test.YtdgaiacigmcibaaTopP
namespace Go.Proofs.Ytdgaiacigmcibaa
open Go.RowKit Go.Sort

theorem told_sl {L : List Int} {w w' : World} {e : Ending} (h : TopTold L w e w') : ∃ (a : Option Addr) (c : Nat), e = .returned (.slice a L.length c) ∧ L.length ≤ c ∧ c ≤ maxLen ∧ Sl w' a (L.map (Value.int .i64)) ∧ Fr Nothing w w' := by
  obtain ⟨a, c, he, h1, h2, hor, F⟩ := h
  refine ⟨a, c, he, h1, h2, ?_, F⟩
  rcases hor with ⟨_, h2, _⟩ | ⟨g2, rest, rfl, _, h3⟩
  · rw [h2]; exact Sl.nil _ _
  · refine .inr ⟨g2, 0, rfl, fun i hi => ?_⟩
    have hi' : i < L.length := by simpa using hi
    have := h3.cell (i := i) (by simpa using hi')
    rw [Nat.zero_add, this, List.getElem?_map, List.getElem?_eq_getElem hi', getElem!_pos L.toArray i (by simpa using hi')]
    simp
theorem share_early (a : Option Addr) (n c : Nat) (w : World) (hn : n ≤ c) (hc : (c : Int) ≤ 9223372036854775807) :
    Calls Try.prog 10 #[.slice a n c] w fun e w' => e = .returned (.slice a (min n 60) c) ∧ w = w' := by
  have h1 : (n : Int) ≤ c := by omega
  by_cases h2 : (60 : Int) < n
  · have h3 : (60 : Int) ≤ c := by omega
    have hm : min n 60 = 60 := by omega
    rw [hm]
    clear hm
    go_enter Try.func10, Try.ntmps10
    go_wp2
    go_ret
    exact ⟨rfl, rfl⟩
  · have hm : min n 60 = n := by omega
    rw [hm]
    clear hm
    go_enter Try.func10, Try.ntmps10
    go_wp2
    go_ret
    exact ⟨rfl, rfl⟩
set_option maxHeartbeats 8000000 in
set_option maxRecDepth 100000 in
theorem sharetop_walk (hlives : ∀ W, Calls Try.prog 9 #[] W fun e w' => e = .returned (.bool true) ∧ Fr Nothing W w')
    (a : Option Addr) (l0 : List Nat) (c : Nat) (n : Int) (w : World) (hl : Fs w a l0) (hw : ∀ z ∈ l0, z < 18446744073709551616) (hc : l0.length ≤ c) (hm : c ≤ maxLen) :
    Calls Try.prog 5 #[.slice a l0.length c, .int .i64 n] w fun e w' => e = .returned (.bool true) ∧ Below w.heap.size w w' := by
  obtain ⟨l, hll⟩ : ∃ l, l = l0.take 60 := ⟨_, rfl⟩
  obtain ⟨N, hN⟩ : ∃ N, N = l.length := ⟨_, rfl⟩
  obtain ⟨N0, hN0⟩ : ∃ N, N = l0.length := ⟨_, rfl⟩
  have hmin : min N0 60 = N := by rw [hN, hll, List.length_take, hN0, Nat.min_comm]
  have hc9 : (c : Int) ≤ 9223372036854775807 := by unfold maxLen at hm; omega
  have hls : Fs w a l := by
    have := Sl.take hl 60
    rw [← List.map_take] at this
    rw [hll]; exact this
  have hlw : ∀ z ∈ l, z < 18446744073709551616 := fun z hz => by rw [hll] at hz; exact hw z (List.mem_of_mem_take hz)
  have hN60 : N ≤ 60 := by omega
  obtain ⟨T, hT⟩ : ∃ T, T = topL l := ⟨_, rfl⟩
  obtain ⟨M, hM⟩ : ∃ M, M = T.length := ⟨_, rfl⟩
  have hMN : M ≤ N := by rw [hM, hT, hN]; exact topL_len l
  obtain ⟨K, hK⟩ : ∃ K, K = (min (max n 0) (M : Int)).toNat := ⟨_, rfl⟩
  have hKI : min (max n 0) (M : Int) = K := by omega
  have hKM : K ≤ M := by omega
  have hTk : (T.take K).length = K := by rw [List.length_take, ← hM]; omega
  have HE := Lib.hid (fun W => share_early a N0 c W (by rw [hN0]; exact hc) hc9)
  rw [hmin] at HE
  have HT1 : Hid (∀ W, Fr Nothing w W → Calls Try.prog 15 #[.slice a N c, .int .i64 n] W (TopTold (T.take K) W)) := Lib.hid fun W F => by
    have := top_f a l c n W (Sl.fr hls F (fun _ _ h => h)) hlw (by omega) (by omega)
    rw [← hT, ← hM, ← hK, ← hN] at this
    exact this
  have HT2 : Hid (∀ W, Fr Nothing w W → Calls Try.prog 15 #[.slice a N c, .int .i64 (N : Int)] W (TopTold T W)) := Lib.hid fun W F => by
    have := top_f a l c (N : Int) W (Sl.fr hls F (fun _ _ h => h)) hlw (by omega) (by omega)
    rw [← hT, ← hM, List.take_of_length_le (by omega), ← hN] at this
    exact this
  have HL := Lib.hid hlives
  have HLS := Lib.hid hls
  have HLW := Lib.hid hlw
  have HTL := Lib.hid hT
  have HTM := Lib.hid hM.symm
  have HTK := Lib.hid hTk
  have HLN := Lib.hid hN.symm
  have hMK : ((K : Int) != K) = false := by simp
  rw [← hN0]
  clear hlives hl hw hc hm hll hN hN0 hmin hls hlw hT hM hK hTk
  go_enter Try.func5, Try.ntmps5
  go_wp2_with (first
    | (go_at_call 9; refine (HL.out _).mono ?_; rintro _ w1 ⟨rfl, F1⟩)
    | (go_at_call 10; refine (HE.out _).mono ?_; rintro _ w2 ⟨rfl, rfl⟩)
    | (go_at_call 15; with_reducible refine (HT1.out _ F1).mono ?_; rintro _ w3 h3; obtain ⟨a3, c3, rfl, h31, h32, h33, F3⟩ := told_sl h3; rw [HTK.out]; have F4 := F1.trans' F3)
    | (go_at_call 15; with_reducible refine (HT2.out _ F4).mono ?_; rintro _ w5 h5; obtain ⟨a5, c5, rfl, h51, h52, h53, F5⟩ := told_sl h5; rw [HTM.out]))
  all_goals
    have FW := F4.trans' F5
    have H3 := Lib.hid (Sl.fr h33 F5 (fun _ _ h => h))
    have H5 := Lib.hid h53
    have hKc := h31
    have hMc := h51
    rw [HTK.out] at hKc
    rw [HTM.out] at hMc
    clear h33 h53 h3 h5 h31 h51 F1 F3 F4 F5
    go_loopg [7] M (fun gg vi wr => ∃ i, i ≤ M ∧ gg = M - i ∧ vi = .int .i64 (i : Nat) ∧ Fr Nothing w5 wr)
    case atStart => exact ⟨0, Nat.zero_le _, rfl, rfl, Fr.refl _ _⟩
    case round =>
      obtain ⟨i, hi, rfl, rfl, F⟩ := hrel
      by_cases hlt : i < M
      · have hltI : (i : Int) < M := by omega
        have hiT : i < T.length := by rw [HTM.out]; exact hlt
        have hgd : GT l T[i] := topL_good (by rw [← HTL.out]; exact List.getElem_mem hiT)
        obtain ⟨p, hp⟩ : ∃ p, p = (T[i]).toNat := ⟨_, rfl⟩
        have hpI : T[i] = (p : Int) := by have := hgd.1; omega
        have hpN : p < N := by have := hgd.2.1; rw [← hp, HLN.out] at this; exact this
        have hfin := (ct_iff (by have := hgd.2.1; rw [getD_at this]; exact HLW.out _ (List.getElem_mem _))).1 hgd.2.2
        obtain ⟨x, hx⟩ : ∃ x, x = l.getD p 0 := ⟨_, rfl⟩
        rw [← hp, ← hx] at hfin
        obtain ⟨b5, o5, rfl, c50⟩ := Sl.oneCell H5.out (j := i) (v := .int .i64 (p : Nat)) (by simp [hiT, hpI])
        obtain ⟨b, o, rfl, cx0⟩ := Fs.at_ (Sl.fr HLS.out FW (fun _ _ h => h)) (i := p) (by rw [HLN.out]; exact hpN)
        rw [← getD_at (by rw [HLN.out]; exact hpN), ← hx] at cx0
        have c5 := cell_fr c50 F (fun h => h)
        have cx := cell_fr cx0 F (fun h => h)
        have hpNI : (p : Int) < N := by omega
        have hgt : (ordF x 0 == some Ordering.gt) = true := by rw [ord_gt hfin.2 (by decide : Fin 0) hfin.1]; rfl
        have HFIN := Lib.hid hfin
        have HX := Lib.hid hx
        have HPI := Lib.hid hpI
        clear hgd hp hpI hfin hx c50 cx0
        go_upto_region 10 with fail
        go_cut [58] from 27 (fun s58 wx => s58 = .bool false ∧ ∃ q, wx = wr.drewN q)
        case first =>
          by_cases hK : i < K
          · have hKi : (i : Int) < K := by omega
            obtain ⟨b3, o3, rfl, c30⟩ := Sl.oneCell H3.out (j := i) (v := .int .i64 (p : Nat)) (by
              rw [List.getElem?_map, List.getElem?_take_of_lt hK, List.getElem?_eq_getElem hiT, HPI.out]; rfl)
            have c3 := cell_fr c30 F (fun h => h)
            have hne : ((p : Int) != p) = false := by simp
            clear c30
            go_quiet (fail)
            go_wp2_with fail
            go_meet
            case rel => exact ⟨rfl, nq, rfl⟩
          · have hKi : ¬ ((i : Int) < K) := by omega
            go_quiet (fail)
            go_wp2_with fail
            go_meet
            case rel => exact ⟨rfl, nq, rfl⟩
        case rest =>
          obtain ⟨rfl, q, rfl⟩ := hcut
          obtain ⟨V, hV⟩ : ∃ V, V = wr.drewN q := ⟨_, rfl⟩
          have FV : Fr Nothing w5 V := by rw [hV]; exact F.trans' (Fr.drewN _ _ _)
          have d5 : V.cell? ⟨b5, o5 + i, none⟩ = some (.int .i64 (p : Nat)) := by rw [hV]; exact cell_fr c5 (Fr.drewN Nothing _ _) (fun h => h)
          have dx : V.cell? ⟨b, o + p, none⟩ = some (.float .f64 x) := by rw [hV]; exact cell_fr cx (Fr.drewN Nothing _ _) (fun h => h)
          rw [← hV]
          clear hV c5 cx F
          by_cases hi0 : i = 0
          · subst hi0
            go_wp2_with (fail)
            go_quiet (fail)
            go_wp2_with (fail)
            go_roundg (M - (0 + 1))
            case measure => omega
            case rel => exact ⟨0 + 1, by omega, rfl, by go_num, FV.trans' (Fr.drewN _ _ _)⟩
          · obtain ⟨j, rfl⟩ : ∃ j, i = j + 1 := ⟨i - 1, by omega⟩
            have hjT : j < T.length := by omega
            have hgd : GT l T[j] := topL_good (by rw [← HTL.out]; exact List.getElem_mem hjT)
            obtain ⟨r, hr⟩ : ∃ r, r = (T[j]).toNat := ⟨_, rfl⟩
            have hrI : T[j] = (r : Int) := by have := hgd.1; omega
            have hrN : r < N := by have := hgd.2.1; rw [← hr, HLN.out] at this; exact this
            have hfr := (ct_iff (by have := hgd.2.1; rw [getD_at this]; exact HLW.out _ (List.getElem_mem _))).1 hgd.2.2
            obtain ⟨y, hy⟩ : ∃ y, y = l.getD r 0 := ⟨_, rfl⟩
            rw [← hr, ← hy] at hfr
            obtain ⟨b6, o6, hb6, c60⟩ := Sl.oneCell H5.out (j := j) (v := .int .i64 (r : Nat)) (by simp [hjT, hrI])
            cases hb6
            obtain ⟨b7, o7, hb7, cy0⟩ := Fs.at_ (Sl.fr HLS.out FW (fun _ _ h => h)) (i := r) (by rw [HLN.out]; exact hrN)
            cases hb7
            rw [← getD_at (by rw [HLN.out]; exact hrN), ← hy] at cy0
            have c6 := cell_fr c60 FV (fun h => h)
            have cy := cell_fr cy0 FV (fun h => h)
            have hrNI : (r : Int) < N := by omega
            have hjM : (j : Int) < M := by omega
            have hst := topL_sorted l (by rw [HLN.out]; exact hN60) j (j + 1) (by omega) (by rw [← HTL.out]; exact hiT)
            have hkx : x < y ∨ (x = y ∧ r < p) := by
              have e1 : (topL l)[j + 1]'(by rw [← HTL.out]; exact hiT) = (p : Int) := by rw [← HPI.out]; simp [HTL.out]
              have e2 : (topL l)[j]'(by rw [← HTL.out]; exact hjT) = (r : Int) := by rw [← hrI]; simp [HTL.out]
              rw [e1, e2] at hst
              unfold keyF at hst
              rw [Int.toNat_natCast, Int.toNat_natCast, ← HX.out, ← hy] at hst
              omega
            have HFR := Lib.hid hfr
            clear hgd hr hrI hfr hy c60 cy0 hst hi0
            rcases hkx with hk | ⟨hk, hrp⟩
            · have o1 : (ordF y x == some Ordering.lt) = false := by rw [ord_gt HFR.out.2 HFIN.out.2 hk]; rfl
              have o2 : (ordF y x == some Ordering.eq) = false := by rw [ord_gt HFR.out.2 HFIN.out.2 hk]; rfl
              clear hk
              go_wp2_with (fail)
              go_quiet (fail)
              go_wp2_with (fail)
              go_roundg (M - (j + 1 + 1))
              case measure => omega
              case rel => exact ⟨j + 1 + 1, by omega, rfl, by go_num, FV.trans' (Fr.drewN _ _ _)⟩
            · have o1 : (ordF y x == some Ordering.lt) = false := by rw [hk, ord_eq HFR.out.2]; rfl
              have o2 : (ordF y x == some Ordering.eq) = true := by rw [hk, ord_eq HFR.out.2]; rfl
              have hrpI : (r : Int) < p := by omega
              have hrp2 : ¬ ((p : Int) ≤ r) := by omega
              have hrp3 : decide ((p : Int) ≤ r) = false := decide_eq_false hrp2
              have hrp4 : ¬ p ≤ r := by omega
              clear hk
              go_wp2_with (fail)
              go_quiet (fail)
              go_wp2_with (fail)
              go_roundg (M - (j + 1 + 1))
              case measure => omega
              case rel => exact ⟨j + 1 + 1, by omega, rfl, by go_num, FV.trans' (Fr.drewN _ _ _)⟩
      · obtain rfl : i = M := by omega
        go_wp2_with (fail)
        go_ret
        exact ⟨rfl, (FW.trans' F).fromN.belowB⟩
end Go.Proofs.Ytdgaiacigmcibaa
