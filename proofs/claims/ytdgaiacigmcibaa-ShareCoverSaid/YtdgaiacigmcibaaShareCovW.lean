/- ShareCover's walk, given that what each statement begins with answers true. Condition: that. -/
import Derived.Test.YtdgaiacigmcibaaShareTopW
import Derived.Test.YtdgaiacigmcibaaCover
namespace Go.Proofs.Ytdgaiacigmcibaa
open Go.RowKit Go.Sort

theorem cov_form {l : List Nat} {part : Nat} {z : Int} (h : CovIs l part z) : ∃ L, L ≤ (topL l).length ∧ ((z = -1 ∧ L = (topL l).length ∧ geF (cs l L) part = false) ∨ (z = (L : Int) ∧ geF (cs l L) part = true ∧ (L = 0 ∨ geF (cs l (L - 1)) part = false))) := by
  rcases h with ⟨rfl, h0⟩ | ⟨h0, k, hk, rfl, hg, ha⟩ | ⟨rfl, h0, ha⟩
  · exact ⟨0, Nat.zero_le _, .inr ⟨rfl, h0, .inl rfl⟩⟩
  · refine ⟨k + 1, hk, .inr ⟨by omega, hg, .inr ?_⟩⟩
    rw [Nat.add_sub_cancel]
    cases k with
    | zero => exact h0
    | succ k => exact ha k (by omega)
  · refine ⟨(topL l).length, Nat.le_refl _, .inl ⟨rfl, rfl, ?_⟩⟩
    cases hM : (topL l).length with
    | zero => exact h0
    | succ m => exact ha m (by omega)
set_option maxHeartbeats 8000000 in
set_option maxRecDepth 100000 in
theorem sharecover_walk (hlives : ∀ W, Calls Try.prog 9 #[] W fun e w' => e = .returned (.bool true) ∧ Fr Nothing W w')
    (a : Option Addr) (l0 : List Nat) (c : Nat) (part : Nat) (w : World) (hl : Fs w a l0) (hw : ∀ z ∈ l0, z < 18446744073709551616) (hc : l0.length ≤ c) (hm : c ≤ maxLen) :
    Calls Try.prog 6 #[.slice a l0.length c, .float .f64 part] w fun e w' => e = .returned (.bool true) ∧ Below w.heap.size w w' := by
  obtain ⟨l, hll⟩ : ∃ l, l = l0.take 60 := ⟨_, rfl⟩
  obtain ⟨N, hN⟩ : ∃ N, N = l.length := ⟨_, rfl⟩
  obtain ⟨N0, hN0⟩ : ∃ N, N = l0.length := ⟨_, rfl⟩
  have hmin : min N0 60 = N := by rw [hN, hll, List.length_take, hN0, Nat.min_comm]
  have hc9 : (c : Int) ≤ 9223372036854775807 := by unfold maxLen at hm; omega
  have hls : Fs w a l := by
    have := Sl.take hl 60
    rw [← List.map_take] at this
    rw [hll]; exact this
  have hlw : ∀ z ∈ l, z < 18446744073709551616 := fun z hz => by rw [hll] at hz; exact hw z (List.mem_of_mem_take hz)
  have hN60 : N ≤ 60 := by omega
  obtain ⟨T, hT⟩ : ∃ T, T = topL l := ⟨_, rfl⟩
  obtain ⟨M, hM⟩ : ∃ M, M = T.length := ⟨_, rfl⟩
  have hMN : M ≤ N := by rw [hM, hT, hN]; exact topL_len l
  have HE := Lib.hid (fun W => share_early a N0 c W (by rw [hN0]; exact hc) hc9)
  rw [hmin] at HE
  have HC : Hid (∀ W, Fr Nothing w W → Calls Try.prog 17 #[.slice a N c, .float .f64 part] W (CovTold l part W)) := Lib.hid fun W F => by
    rw [hN]; exact cover_f a l c part W (Sl.fr hls F (fun _ _ h => h)) hlw (by omega) (by omega) (fun x hx => topL_good hx)
  have HP : Hid (∀ W, Fr Nothing w W → Calls Try.prog 12 #[.slice a N c] W fun e w' => ∃ g, e = .returned (.slice (some ⟨g, 0, none⟩) N N) ∧ W.heap.size ≤ g ∧ Row w' g (pRow l N) 23 ∧ Fr Nothing W w') := Lib.hid fun W F => by
    rw [hN]; exact parts_f a l c W (Sl.fr hls F (fun _ _ h => h)) hlw (by omega)
  have HT2 : Hid (∀ W, Fr Nothing w W → Calls Try.prog 15 #[.slice a N c, .int .i64 (N : Int)] W (TopTold T W)) := Lib.hid fun W F => by
    have := top_f a l c (N : Int) W (Sl.fr hls F (fun _ _ h => h)) hlw (by omega) (by omega)
    rw [← hT, ← hM, List.take_of_length_le (by omega), ← hN] at this
    exact this
  have HL := Lib.hid hlives
  have HLW := Lib.hid hlw
  have HTL := Lib.hid hT
  have HTM := Lib.hid hM.symm
  have HLN := Lib.hid hN.symm
  have hM60 : (M : Int) ≤ 60 := by omega
  rw [← hN0]
  clear hlives hl hw hc hm hll hN hN0 hmin hls hlw hT hM
  go_enter Try.func6, Try.ntmps6
  go_upto_region 4 with (first
    | (go_at_call 9; refine (HL.out _).mono ?_; rintro _ w1 ⟨rfl, F1⟩)
    | (go_at_call 10; refine (HE.out _).mono ?_; rintro _ w2 ⟨rfl, rfl⟩))
  go_upto_region 5 with (go_at_call 17; refine (HC.out _ F1).mono ?_; rintro _ w3 ⟨z, rfl, hz, F3⟩)
  have FC := F1.trans' F3
  obtain ⟨L, hLM, hform⟩ := cov_form hz
  rw [← HTL.out, HTM.out] at hLM hform
  clear hz F1 F3
  rcases hform with ⟨rfl, rfl, hge⟩ | ⟨rfl, hge, hga⟩
  · have HGE := Lib.hid hge
    clear hge
    go_wp2_with (first
      | (go_at_call 12; refine (HP.out _ FC).mono ?_; rintro _ w4 ⟨g, rfl, hg, hR, F4⟩; have FW := FC.trans' F4)
      | (go_at_call 15; refine (HT2.out _ FW).mono ?_; rintro _ w5 h5; obtain ⟨a5, c5, rfl, h51, h52, h53, F5⟩ := told_sl h5; rw [HTM.out]))
    have HR : Hid (Row w5 g (pRow l N) 23) := Lib.hid (hR.fr F5 (fun h => h))
    have H5 := Lib.hid h53
    clear hg hR h5 h53 F4 FC
    go_loopg [8, 9, 10] L (fun gg vs va vi wr => ∃ i, i ≤ L ∧ gg = L - i ∧ vi = .int .i64 (i : Nat) ∧ vs = .float .f64 (cs l i) ∧ va = .float .f64 (cs l (i - 1)) ∧ wr = w5)
    case atStart => exact ⟨0, Nat.zero_le _, rfl, rfl, rfl, rfl, rfl⟩
    case round =>
      obtain ⟨i, hi, rfl, rfl, rfl, rfl, rfl⟩ := hrel
      by_cases hlt : i < L
      · have hltI : (i : Int) < L := by omega
        have hkT : i < T.length := by rw [HTM.out]; omega
        obtain ⟨x, hx⟩ : ∃ x, x = (T[i]).toNat := ⟨_, rfl⟩
        have hgd : GT l T[i] := topL_good (by rw [← HTL.out]; exact List.getElem_mem hkT)
        have hxN : x < N := by rw [hx]; have := hgd.2.1; rw [HLN.out] at this; exact this
        have hxI : (T[i] : Int) = (x : Nat) := by rw [hx]; have := hgd.1; omega
        obtain ⟨b2, o2, rfl, c0⟩ := Sl.oneCell H5.out (j := i) (v := .int .i64 (T[i])) (by simp [hkT])
        rw [hxI] at c0
        obtain ⟨s, hs⟩ : ∃ s, s = cs l i := ⟨_, rfl⟩
        obtain ⟨q, hq⟩ : ∃ q, q = pAt l x := ⟨_, rfl⟩
        have c1 : wr.cell? ⟨g, x, none⟩ = some (.float .f64 q) := HR.out.cell x (by
          unfold pRow
          rw [List.getElem?_map, List.getElem?_range hxN, hq]; rfl)
        obtain ⟨s2, hs2⟩ : ∃ s2, s2 = cs l (i + 1) := ⟨_, rfl⟩
        have hadd : FloatKind.f64.format.add s q = some s2 := by
          have h1 : cs l (i + 1) = addF s q := by
            rw [cs, hs, hq, hx, ← HTL.out]
            congr 3
            simp [hkT]
          rw [hs2, h1]
          exact (add_nn (by rw [hs]; exact cs_nn HLW.out i) (by rw [hq]; exact pAt_nn HLW.out x)).1
        have hqa : ∀ w, (binOp .add 23 (.float .f64 s) (.float .f64 q)).run Try.prog w = .ok (.float .f64 s2) w := fun w => run_float_arith w .add 23 .f64 s q s2 hadd
        have hxNI : (x : Int) < N := by omega
        have HS2 := Lib.hid hs2
        have HS := Lib.hid hs
        rw [← hs]
        clear hgd hs hq hadd hs2 hxI hx hkT
        go_wp2_with (fail)
        go_roundg (L - (i + 1))
        case measure => omega
        case rel => exact ⟨i + 1, by omega, rfl, by go_num, by rw [HS2.out], by rw [Nat.add_sub_cancel, HS.out], rfl⟩
      · obtain rfl : i = L := by omega
        have hz : (ordF (cs l i) part == some Ordering.gt || ordF (cs l i) part == some Ordering.eq) = false := HGE.out
        go_wp2_with (fail)
        go_ret
        exact ⟨rfl, (FW.trans' F5).fromN.belowB⟩
  · have HGE := Lib.hid hge
    have HGA := Lib.hid hga
    clear hge hga
    have hL0 : decide ((L : Int) < -1) = false := decide_eq_false (by omega)
    have hLMI : decide ((M : Int) < L) = false := decide_eq_false (by omega)
    have hLMJ : decide (M < L) = false := decide_eq_false (by omega)
    have hL00 : decide ((L : Int) < 0) = false := decide_eq_false (by omega)
    go_wp2_with (first
      | (go_at_call 12; refine (HP.out _ FC).mono ?_; rintro _ w4 ⟨g, rfl, hg, hR, F4⟩; have FW := FC.trans' F4)
      | (go_at_call 15; refine (HT2.out _ FW).mono ?_; rintro _ w5 h5; obtain ⟨a5, c5, rfl, h51, h52, h53, F5⟩ := told_sl h5; rw [HTM.out]))
    have HR : Hid (Row w5 g (pRow l N) 23) := Lib.hid (hR.fr F5 (fun h => h))
    have H5 := Lib.hid h53
    clear hg hR h5 h53 F4 FC
    go_loopg [8, 9, 10] L (fun gg vs va vi wr => ∃ i, i ≤ L ∧ gg = L - i ∧ vi = .int .i64 (i : Nat) ∧ vs = .float .f64 (cs l i) ∧ va = .float .f64 (cs l (i - 1)) ∧ wr = w5)
    case atStart => exact ⟨0, Nat.zero_le _, rfl, rfl, rfl, rfl, rfl⟩
    case round =>
      obtain ⟨i, hi, rfl, rfl, rfl, rfl, rfl⟩ := hrel
      by_cases hlt : i < L
      · have hltI : (i : Int) < L := by omega
        have hltM : (i : Int) < M := by omega
        have hkT : i < T.length := by rw [HTM.out]; omega
        obtain ⟨x, hx⟩ : ∃ x, x = (T[i]).toNat := ⟨_, rfl⟩
        have hgd : GT l T[i] := topL_good (by rw [← HTL.out]; exact List.getElem_mem hkT)
        have hxN : x < N := by rw [hx]; have := hgd.2.1; rw [HLN.out] at this; exact this
        have hxI : (T[i] : Int) = (x : Nat) := by rw [hx]; have := hgd.1; omega
        obtain ⟨b2, o2, rfl, c0⟩ := Sl.oneCell H5.out (j := i) (v := .int .i64 (T[i])) (by simp [hkT])
        rw [hxI] at c0
        obtain ⟨s, hs⟩ : ∃ s, s = cs l i := ⟨_, rfl⟩
        obtain ⟨q, hq⟩ : ∃ q, q = pAt l x := ⟨_, rfl⟩
        have c1 : wr.cell? ⟨g, x, none⟩ = some (.float .f64 q) := HR.out.cell x (by
          unfold pRow
          rw [List.getElem?_map, List.getElem?_range hxN, hq]; rfl)
        obtain ⟨s2, hs2⟩ : ∃ s2, s2 = cs l (i + 1) := ⟨_, rfl⟩
        have hadd : FloatKind.f64.format.add s q = some s2 := by
          have h1 : cs l (i + 1) = addF s q := by
            rw [cs, hs, hq, hx, ← HTL.out]
            congr 3
            simp [hkT]
          rw [hs2, h1]
          exact (add_nn (by rw [hs]; exact cs_nn HLW.out i) (by rw [hq]; exact pAt_nn HLW.out x)).1
        have hqa : ∀ w, (binOp .add 23 (.float .f64 s) (.float .f64 q)).run Try.prog w = .ok (.float .f64 s2) w := fun w => run_float_arith w .add 23 .f64 s q s2 hadd
        have hxNI : (x : Int) < N := by omega
        have HS2 := Lib.hid hs2
        have HS := Lib.hid hs
        rw [← hs]
        clear hgd hs hq hadd hs2 hxI hx hkT
        go_wp2_with (fail)
        go_roundg (L - (i + 1))
        case measure => omega
        case rel => exact ⟨i + 1, by omega, rfl, by go_num, by rw [HS2.out], by rw [Nat.add_sub_cancel, HS.out], rfl⟩
      · obtain rfl : i = L := by omega
        have hz : (ordF (cs l i) part == some Ordering.gt || ordF (cs l i) part == some Ordering.eq) = true := HGE.out
        rcases HGA.out with h0 | h0
        · subst h0
          go_wp2_with (fail)
          all_goals (go_ret; exact ⟨rfl, (FW.trans' F5).fromN.belowB⟩)
        · by_cases hi0 : i = 0
          · subst hi0
            go_wp2_with (fail)
            all_goals (go_ret; exact ⟨rfl, (FW.trans' F5).fromN.belowB⟩)
          · have hi0b : ((i : Int) == 0) = false := by rw [beq_eq_false_iff_ne]; omega
            have hz2 : (ordF (cs l (i - 1)) part == some Ordering.gt || ordF (cs l (i - 1)) part == some Ordering.eq) = false := h0
            go_wp2_with (fail)
            all_goals (go_ret; exact ⟨rfl, (FW.trans' F5).fromN.belowB⟩)
end Go.Proofs.Ytdgaiacigmcibaa
