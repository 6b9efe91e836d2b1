/- ShareParts' walk; the reference's count of how many it takes. No condition. -/
import Derived.Test.YtdgaiacigmcibaaRefT
import Derived.Test.YtdgaiacigmcibaaShLives
namespace Go.Proofs.Ytdgaiacigmcibaa
open Go.RowKit Go.Sort

theorem cov_one {l : List Nat} {part : Nat} {z1 z2 : Int} (h1 : CovIs l part z1) (h2 : CovIs l part z2) : z1 = z2 := by
  rcases h1 with ⟨a1, a2⟩ | ⟨a1, k, a2, a3, a4, a5⟩ | ⟨a1, a2, a3⟩ <;> rcases h2 with ⟨b1, b2⟩ | ⟨b1, j, b2, b3, b4, b5⟩ | ⟨b1, b2, b3⟩
  · rw [a1, b1]
  · rw [a2] at b1; exact absurd b1.symm Bool.false_ne_true
  · rw [a2] at b2; exact absurd b2.symm Bool.false_ne_true
  · rw [b2] at a1; exact absurd a1.symm Bool.false_ne_true
  · by_cases h : k = j
    · rw [a3, b3, h]
    · by_cases h2 : k < j
      · have := b5 k h2; rw [a4] at this; exact absurd this.symm Bool.false_ne_true
      · have := a5 j (by omega); rw [b4] at this; exact absurd this.symm Bool.false_ne_true
  · have := b3 k a2; rw [a4] at this; exact absurd this.symm Bool.false_ne_true
  · rw [b2] at a2; exact absurd a2.symm Bool.false_ne_true
  · have := a3 j b2; rw [b4] at this; exact absurd this.symm Bool.false_ne_true
  · rw [a1, b1]
set_option maxHeartbeats 4000000 in
set_option maxRecDepth 100000 in
theorem rcover_f (a : Option Addr) (l : List Nat) (c part : Nat) (w : World) (hl : Fs w a l) (hw : ∀ z ∈ l, z < 18446744073709551616) (h60 : l.length ≤ 60) :
    Calls Try.prog 18 #[.slice a l.length c, .float .f64 part] w (CovTold l part w) := by
  obtain ⟨N, hN⟩ : ∃ N, N = l.length := ⟨_, rfl⟩
  obtain ⟨T, hT⟩ : ∃ T, T = topL l := ⟨_, rfl⟩
  obtain ⟨M, hM⟩ : ∃ M, M = T.length := ⟨_, rfl⟩
  have hMN : M ≤ N := by rw [hM, hT, hN]; exact topL_len l
  have htk : T.take (min (max (N : Int) 0) (T.length : Int)).toNat = T := List.take_of_length_le (by omega)
  have HP : Hid (Calls Try.prog 13 #[.slice a N c] w fun e w' => ∃ g, e = .returned (.slice (some ⟨g, 0, none⟩) N N) ∧ w.heap.size ≤ g ∧ Row w' g (pRow l N) 23 ∧ Fr Nothing w w') := Lib.hid (by rw [hN]; exact rparts_f a l c w hl hw (by omega))
  have HT : Hid (∀ W, Fr Nothing w W → Calls Try.prog 16 #[.slice a N c, .int .i64 (N : Int)] W fun e w' => ∃ (a' : Option Addr) (c' : Nat), e = .returned (.slice a' T.length c') ∧ Sl w' a' (T.map (Value.int .i64)) ∧ Fr Nothing W w') := Lib.hid fun W F => by
    have := rtop_f a l c (N : Int) W (Sl.fr hl F (fun _ _ h => h)) hw h60
    rw [← hT, htk, ← hN] at this
    exact this
  have HLN := Lib.hid hN.symm
  have HTL := Lib.hid hT
  have HTM := Lib.hid hM.symm
  have HW := Lib.hid hw
  have hN9 : (N : Int) ≤ 60 := by omega
  have hM9 : (M : Int) ≤ 60 := by omega
  have hMN2 : (M : Int) ≤ N := by omega
  clear hl hw h60 htk
  rw [← hN]
  clear hN hT hM
  go_enter Try.func18, Try.ntmps18
  go_wp2_with (first
    | (go_at_call 13; refine HP.out.mono ?_; rintro _ w1 ⟨g, rfl, hg, hR, F1⟩)
    | (go_at_call 16; refine (HT.out _ F1).mono ?_; rintro _ w2 ⟨at_, ct_, rfl, hTS, F2⟩; rw [HTM.out]))
  have F := F1.trans' F2
  have HR : Hid (Row w2 g (pRow l N) 23) := Lib.hid (hR.fr F2 (fun h => h))
  have HTS := Lib.hid hTS
  clear hg hR hTS F1 F2
  go_loopg [7, 8] (M + 1) (fun gg vs vi wr => ∃ k, k ≤ M + 1 ∧ gg = M + 1 - k ∧ vi = .int .i64 (k : Nat) ∧ vs = .float .f64 (cs l (if k ≤ M then k else M)) ∧ Hid (∀ j, j < k → geF (cs l j) part = false) ∧ wr = w2)
  case atStart => exact ⟨0, Nat.zero_le _, rfl, rfl, rfl, Lib.hid (fun _ h => by omega), rfl⟩
  case round =>
    obtain ⟨k, hk, rfl, rfl, rfl, HA, rfl⟩ := hrel
    by_cases hlt : k ≤ M
    · have hltI : (k : Int) ≤ M := by omega
      rw [if_pos hlt]
      obtain ⟨s, hs⟩ : ∃ s, s = cs l k := ⟨_, rfl⟩
      rw [← hs]
      by_cases hge : geF s part = true
      · have hz : (ordF s part == some Ordering.gt || ordF s part == some Ordering.eq) = true := hge
        have HCI : Hid (CovIs l part (k : Nat)) := Lib.hid (by
          rw [hs] at hge
          cases k with
          | zero => exact .inl ⟨rfl, hge⟩
          | succ k => exact .inr (.inl ⟨HA.out 0 (by omega), k, by rw [← HTL.out, HTM.out]; omega, rfl, hge, fun j hj => HA.out (j + 1) (by omega)⟩))
        clear hge hs
        go_wp2_with (fail)
        go_ret
        exact ⟨(k : Nat), rfl, HCI.out, F⟩
      · have hge2 : geF s part = false := by simpa using hge
        have hz : (ordF s part == some Ordering.gt || ordF s part == some Ordering.eq) = false := hge2
        have HA2 : Hid (∀ j, j < k + 1 → geF (cs l j) part = false) := Lib.hid (fun j hj => by
          by_cases hjk : j < k
          · exact HA.out j hjk
          · obtain rfl : j = k := by omega
            rw [← hs]; exact hge2)
        clear hge hge2
        by_cases hkM : k < M
        · have hkMI : (k : Int) < M := by omega
          have hkT : k < T.length := by rw [HTM.out]; exact hkM
          obtain ⟨x, hx⟩ : ∃ x, x = (T[k]).toNat := ⟨_, rfl⟩
          have hgd : GT l T[k] := topL_good (by rw [← HTL.out]; exact List.getElem_mem hkT)
          have hxN : x < N := by rw [hx]; have := hgd.2.1; rw [HLN.out] at this; exact this
          have hxI : (T[k] : Int) = (x : Nat) := by rw [hx]; have := hgd.1; omega
          obtain ⟨b2, o2, rfl, c0⟩ := Sl.oneCell HTS.out (j := k) (v := .int .i64 (T[k])) (by simp [hkT])
          rw [hxI] at c0
          obtain ⟨q, hq⟩ : ∃ q, q = pAt l x := ⟨_, rfl⟩
          have c1 : wr.cell? ⟨g, x, none⟩ = some (.float .f64 q) := HR.out.cell x (by
            unfold pRow
            rw [List.getElem?_map, List.getElem?_range hxN, hq]; rfl)
          obtain ⟨s2, hs2⟩ : ∃ s2, s2 = cs l (k + 1) := ⟨_, rfl⟩
          have hadd : FloatKind.f64.format.add s q = some s2 := by
            have h1 : cs l (k + 1) = addF s q := by
              rw [cs, hs, hq, hx, ← HTL.out]
              congr 3
              simp [hkT]
            rw [hs2, h1]
            exact (add_nn (by rw [hs]; exact cs_nn HW.out k) (by rw [hq]; exact pAt_nn HW.out x)).1
          have hqa : ∀ w, (binOp .add 23 (.float .f64 s) (.float .f64 q)).run Try.prog w = .ok (.float .f64 s2) w := fun w => run_float_arith w .add 23 .f64 s q s2 hadd
          have hxNI : (x : Int) < N := by omega
          have HS2 := Lib.hid hs2
          clear hgd hs hq hadd hs2 hxI hx hkT
          go_wp2_with (fail)
          go_roundg (M + 1 - (k + 1))
          case measure => omega
          case rel => exact ⟨k + 1, by omega, rfl, by go_num, by rw [if_pos (by omega), HS2.out], HA2, rfl⟩
        · have hkM2 : ¬ ((k : Int) < M) := by omega
          have HSS := Lib.hid hs
          clear hs
          go_wp2_with (fail)
          go_roundg (M + 1 - (k + 1))
          case measure => omega
          case rel => exact ⟨k + 1, by omega, rfl, by go_num, by rw [if_neg (by omega), HSS.out]; congr 2; omega, HA2, rfl⟩
    · have hltI : ¬ ((k : Int) ≤ M) := by omega
      rw [if_neg hlt]
      go_wp2_with (fail)
      go_ret
      exact ⟨-1, rfl, .inr (.inr ⟨rfl, HA.out 0 (by omega), fun j hj => HA.out (j + 1) (by rw [← HTL.out, HTM.out] at hj; omega)⟩), F⟩
def pWords (l : List Nat) : List Nat := (List.range l.length).map fun i => pAt l i
theorem pWords_len (l : List Nat) : (pWords l).length = l.length := by unfold pWords; simp
theorem pWords_row {l : List Nat} {w : World} {g : Nat} (h : Row w g (pRow l l.length) 23) : Fs w (some ⟨g, 0, none⟩) (pWords l) := by
  have e : pRow l l.length = (pWords l).map fun x => Value.float .f64 x := by unfold pRow pWords; rw [List.map_map]; rfl
  rw [e] at h
  exact Sl.ofRow h
set_option maxHeartbeats 8000000 in
set_option maxRecDepth 100000 in
theorem shareparts_walk (a : Option Addr) (l0 : List Nat) (c : Nat) (n : Int) (part : Nat) (w : World) (hl : Fs w a l0) (hw : ∀ z ∈ l0, z < 18446744073709551616) (hc : l0.length ≤ c) (hm : c ≤ maxLen) :
    Calls Try.prog 3 #[.slice a l0.length c, .int .i64 n, .float .f64 part] w fun e w' => e = .returned (.bool true) ∧ Below w.heap.size w w' := by
  obtain ⟨l, hll⟩ : ∃ l, l = l0.take 60 := ⟨_, rfl⟩
  obtain ⟨N, hN⟩ : ∃ N, N = l.length := ⟨_, rfl⟩
  obtain ⟨N0, hN0⟩ : ∃ N, N = l0.length := ⟨_, rfl⟩
  have hmin : min N0 60 = N := by rw [hN, hll, List.length_take, hN0, Nat.min_comm]
  have hc9 : (c : Int) ≤ 9223372036854775807 := by unfold maxLen at hm; omega
  have hls : Fs w a l := by
    have := Sl.take hl 60
    rw [← List.map_take] at this
    rw [hll]; exact this
  have hlw : ∀ z ∈ l, z < 18446744073709551616 := fun z hz => by rw [hll] at hz; exact hw z (List.mem_of_mem_take hz)
  have hN60 : N ≤ 60 := by omega
  obtain ⟨T, hT⟩ : ∃ T, T = (topL l).take (min (max n 0) (topL l).length).toNat := ⟨_, rfl⟩
  have hTl : T.length ≤ 60 := by
    rw [hT, List.length_take]
    have := topL_len l; omega
  obtain ⟨X, hX⟩ : ∃ X, X = pWords l := ⟨_, rfl⟩
  have hXN : X.length = N := by rw [hX, pWords_len, hN]
  have HE := Lib.hid (fun W => share_early a N0 c W (by rw [hN0]; exact hc) hc9)
  rw [hmin] at HE
  have HP : Hid (∀ W, Fr Nothing w W → Calls Try.prog 12 #[.slice a N c] W fun e w' => ∃ g, e = .returned (.slice (some ⟨g, 0, none⟩) N N) ∧ Fs w' (some ⟨g, 0, none⟩) X ∧ Fr Nothing W w') := Lib.hid fun W F => by
    rw [hN, hX]
    refine (parts_f a l c W (Sl.fr hls F (fun _ _ h => h)) hlw (by omega)).mono ?_
    rintro e w' ⟨g, rfl, _, hR, hF⟩
    exact ⟨g, rfl, pWords_row hR, hF⟩
  have HQ : Hid (∀ W, Fr Nothing w W → Calls Try.prog 13 #[.slice a N c] W fun e w' => ∃ g, e = .returned (.slice (some ⟨g, 0, none⟩) N N) ∧ Fs w' (some ⟨g, 0, none⟩) X ∧ Fr Nothing W w') := Lib.hid fun W F => by
    rw [hN, hX]
    refine (rparts_f a l c W (Sl.fr hls F (fun _ _ h => h)) hlw (by omega)).mono ?_
    rintro e w' ⟨g, rfl, _, hR, hF⟩
    exact ⟨g, rfl, pWords_row hR, hF⟩
  have HT1 : Hid (∀ W, Fr Nothing w W → Calls Try.prog 15 #[.slice a N c, .int .i64 n] W (TopTold T W)) := Lib.hid fun W F => by
    have := top_f a l c n W (Sl.fr hls F (fun _ _ h => h)) hlw (by omega) (by omega)
    rw [← hT, ← hN] at this
    exact this
  have HT2 : Hid (∀ W, Fr Nothing w W → Calls Try.prog 16 #[.slice a N c, .int .i64 n] W fun e w' => ∃ (a' : Option Addr) (c' : Nat), e = .returned (.slice a' T.length c') ∧ Sl w' a' (T.map (Value.int .i64)) ∧ Fr Nothing W w') := Lib.hid fun W F => by
    have := rtop_f a l c n W (Sl.fr hls F (fun _ _ h => h)) hlw (by omega)
    rw [← hT, ← hN] at this
    exact this
  have HC1 : Hid (∀ W, Fr Nothing w W → Calls Try.prog 17 #[.slice a N c, .float .f64 part] W (CovTold l part W)) := Lib.hid fun W F => by
    rw [hN]; exact cover_f a l c part W (Sl.fr hls F (fun _ _ h => h)) hlw (by omega) (by omega) (fun x hx => topL_good hx)
  have HC2 : Hid (∀ W, Fr Nothing w W → Calls Try.prog 18 #[.slice a N c, .float .f64 part] W (CovTold l part W)) := Lib.hid fun W F => by
    rw [hN]; exact rcover_f a l c part W (Sl.fr hls F (fun _ _ h => h)) hlw (by omega)
  have HXN := Lib.hid hXN
  have HTL := Lib.hid hTl
  have hN9 : (N : Int) ≤ 60 := by omega
  have HSF : Hid (∀ (a b : Option Addr) (W : World), Fs W a X → Fs W b X → Calls Try.prog 11 #[.slice a N N, .slice b N N] W fun e w' => e = .returned (.bool true) ∧ Fr Nothing W w') := Lib.hid fun a b W h1 h2 => by
    have := rsame_f a b X N N W h1 h2 (by rw [hXN]; omega)
    rw [hXN] at this
    refine this.mono ?_
    rintro e w' ⟨rfl, m, rfl⟩
    exact ⟨rfl, Fr.drewN _ _ _⟩
  have HSI : Hid (∀ (a b : Option Addr) (ca cb : Nat) (W : World), Sl W a (T.map (Value.int .i64)) → Sl W b (T.map (Value.int .i64)) → Calls Try.prog 14 #[.slice a T.length ca, .slice b T.length cb] W fun e w' => e = .returned (.bool true) ∧ Fr Nothing W w') := Lib.hid fun a b ca cb W h1 h2 => by
    refine (same_ints a b T ca cb W h1 h2 (by unfold maxLen; omega)).mono ?_
    rintro e w' ⟨rfl, m, rfl⟩
    exact ⟨rfl, Fr.drewN _ _ _⟩
  rw [← hN0]
  clear hl hw hc hm hll hN hN0 hmin hls hlw hT hX hXN hTl
  go_enter Try.func3, Try.ntmps3
  go_wp2_with (first
    | (go_at_call 9; refine (share_lives _).mono ?_; rintro _ w1 ⟨rfl, F1⟩)
    | (go_at_call 10; refine (HE.out _).mono ?_; rintro _ w2 ⟨rfl, rfl⟩)
    | (go_at_call 12; refine (HP.out _ F1).mono ?_; rintro _ w3 ⟨g3, rfl, h3, F3⟩; have G3 := F1.trans' F3)
    | (go_at_call 13; refine (HQ.out _ G3).mono ?_; rintro _ w4 ⟨g4, rfl, h4, F4⟩; have G4 := G3.trans' F4)
    | (go_at_call 11; refine (HSF.out _ _ _ (Sl.fr h3 F4 (fun _ _ h => h)) h4).mono ?_; rintro _ w5 ⟨rfl, F5⟩; have G5 := G4.trans' F5)
    | (go_at_call 15; refine (HT1.out _ G5).mono ?_; rintro _ w6 h6; obtain ⟨a6, c6, rfl, _, _, h6s, F6⟩ := told_sl h6; have G6 := G5.trans' F6)
    | (go_at_call 16; refine (HT2.out _ G6).mono ?_; rintro _ w7 ⟨a7, c7, rfl, h7, F7⟩; have G7 := G6.trans' F7)
    | (go_at_call 14; refine (HSI.out _ _ _ _ _ (Sl.fr h6s F7 (fun _ _ h => h)) h7).mono ?_; rintro _ w8 ⟨rfl, F8⟩; have G8 := G7.trans' F8)
    | (go_at_call 17; refine (HC1.out _ G8).mono ?_; rintro _ w9 ⟨z1, rfl, hz1, F9⟩; have G9 := G8.trans' F9)
    | (go_at_call 18; refine (HC2.out _ G9).mono ?_; rintro _ w10 ⟨z2, rfl, hz2, F10⟩; have G10 := G9.trans' F10; obtain rfl := cov_one hz1 hz2; have hzz : (z1 == z1) = true := by simp))
  all_goals (go_ret; exact ⟨rfl, G10.fromN.belowB⟩)
theorem shareparts_any (a0 : Option Addr) (L0 : List FL) (c0 : Nat) (n : Int) (part : Nat) (w : World) (n0 : L0.length ≤ c0) (m0 : c0 ≤ maxLen) (t0 : Recs FL.cells 1 w a0 L0) (z0 : ∀ r ∈ L0, r.Good) (_ : (Lit.int .i64 n).wf = true) :
    Calls Try.prog 3 #[.slice a0 L0.length c0, .int .i64 n, .float .f64 part] w fun e w' => e = .returned (.bool true) ∧ Below w.heap.size w w' := by
  have := shareparts_walk a0 (L0.map FL.n) c0 n part w (fl_fs t0) (fl_wf z0) (by simpa using n0) m0
  rw [List.length_map] at this
  exact this
end Go.Proofs.Ytdgaiacigmcibaa
