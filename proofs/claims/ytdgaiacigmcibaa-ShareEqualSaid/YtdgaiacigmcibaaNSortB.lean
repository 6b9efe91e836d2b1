/- The library's sort at int: a range turned round; the order of two, the median of three. Condition: the row lies in a block of its own. -/
import Derived.Test.YtdgaiacigmcibaaNSort
namespace Go.Proofs.Ytdgaiacigmcibaa.NS
open Go.RowKit Go.Sort

set_option maxHeartbeats 4000000 in
set_option maxRecDepth 100000 in
theorem u_reverse (g c : Nat) (rest : List Value) (d : Array Int) (a b : Nat) (w : World) (h : UA w g rest d) (hb : b ≤ d.size) (hb0 : 0 < b) (hd : (d.size : Int) ≤ 1000) (ha : a ≤ 1000) :
    Calls Try.prog 50 #[.slice (some ⟨g, 0, none⟩) d.size c, .int .i64 a, .int .i64 b] w fun e w' => e = .returned (.tuple #[]) ∧ UA w' g rest (Sort.reverseRange d a b) ∧ Fr (fun q => q = g) w w' := by
  obtain ⟨n, hn⟩ : ∃ n, n = d.size := ⟨_, rfl⟩
  obtain ⟨R, hR⟩ : ∃ R, R = Sort.reverseRange d a b := ⟨_, rfl⟩
  have HR0 : Hid (reverseLoop a (b - 1) d = R) := Lib.hid (by rw [hR]; rfl)
  have H0 := Lib.hid h
  have HN0 := Lib.hid hn.symm
  rw [← hn] at hd hb ⊢
  rw [← hR]
  clear hR h hn
  obtain ⟨b, rfl⟩ : ∃ b', b = b' + 1 := ⟨b - 1, by omega⟩
  clear hb0
  go_enter Try.func50, Try.ntmps50
  go_wp2_with (fail)
  go_loopg [6, 7] b (fun gg vi vj wr => ∃ (i j : Nat) (dk : Array Int), j = gg ∧ vi = .int .i64 i ∧ vj = .int .i64 j ∧ i ≤ 1000 ∧ j ≤ b ∧ Hid (dk.size = n) ∧ Hid (reverseLoop i j dk = R) ∧ Hid (UA wr g rest dk) ∧ Fr (fun q => q = g) w wr)
  case atStart => exact ⟨a, b, d, rfl, rfl, by go_num, ha, Nat.le_refl _, HN0, HR0, H0, Fr.refl _ _⟩
  case round =>
    clear HR0 H0 HN0
    obtain ⟨i, j, dk, rfl, rfl, rfl, hi, hj, HN, HR, H, F⟩ := hrel
    by_cases hlt : i < j
    · have HR2 : Hid (reverseLoop (i + 1) (j - 1) (Sort.swp dk i j) = R) := Lib.hid (by have := HR.out; rw [reverseLoop, if_pos hlt] at this; exact this)
      obtain ⟨j, rfl⟩ : ∃ k, j = k + 1 := ⟨j - 1, by omega⟩
      have HJ1 : Hid (j + 1 < dk.size) := Lib.hid (by rw [HN.out]; omega)
      have HJ0 : Hid (i < dk.size) := Lib.hid (by rw [HN.out]; omega)
      obtain ⟨x, hx⟩ : ∃ x, x = dk[i]! := ⟨_, rfl⟩
      obtain ⟨y, hy⟩ : ∃ y, y = dk[j + 1]! := ⟨_, rfl⟩
      have c1 := H.out.cell HJ1.out
      have c0 := H.out.cell HJ0.out
      rw [← hx] at c0
      rw [← hy] at c1
      have HX := Lib.hid hx.symm
      have HY := Lib.hid hy.symm
      clear hx hy
      have fz : ∀ k, wr.frozen? ⟨g, k, none⟩ = false := fun k => H.out.free k
      obtain ⟨v0, f0⟩ := H.out.after HJ0.out HJ1.out y
      have HW := Lib.hid (H.out.swapped F HJ0.out HJ1.out HX.out HY.out)
      have hlI : (i : Int) < j + 1 := by omega
      have hjn : (j : Int) + 1 < n := by omega
      have hjn0 : (i : Int) < n := by omega
      have H2 : Hid (UA _ g rest (Sort.swp dk i (j + 1))) := Lib.hid HW.out.1
      have F2 := HW.out.2
      clear F H
      go_wp2_with (fail)
      go_region
      go_wp2_with (fail)
      go_roundg j
      case measure => omega
      case rel => exact ⟨i + 1, j, _, rfl, by go_num, by go_num, by omega, by omega, Lib.hid (by rw [swp_size]; exact HN.out), HR2, H2, F2⟩
    · have hlI : ¬ ((i : Int) < j) := by omega
      have HS : Hid (dk = R) := Lib.hid (by have := HR.out; rw [reverseLoop, if_neg hlt] at this; exact this)
      go_wp2_with (fail)
      refine bodyPost_end (results_none rfl _ _ _) rfl ?_
      exact ⟨rfl, by rw [← HS.out]; exact H.out, F⟩
/-- A count in a block of its own. -/
abbrev Cnt (w : World) (q : Nat) (s : Nat) : Prop := Row w q [.int .i64 s] 3
set_option maxHeartbeats 4000000 in
set_option maxRecDepth 100000 in
theorem u_order2 (g c q : Nat) (rest : List Value) (d : Array Int) (a b s : Nat) (w : World) (h : UA w g rest d) (ha : a < d.size) (hb : b < d.size) (hq : Cnt w q s) (hne : q ≠ g) (_hd : (d.size : Int) ≤ 1000) (hs : s ≤ 1000) :
    Calls Try.prog 72 #[.slice (some ⟨g, 0, none⟩) d.size c, .int .i64 a, .int .i64 b, .pointer (some ⟨q, 0, none⟩)] w fun e w' => e = .returned (.tuple #[.int .i64 (Sort.order2 ltInt d a b s).1, .int .i64 (Sort.order2 ltInt d a b s).2.1]) ∧ UA w' g rest d ∧ Cnt w' q (Sort.order2 ltInt d a b s).2.2 ∧ Fr (fun k => k = q) w w' := by
  obtain ⟨n, hn⟩ : ∃ n, n = d.size := ⟨_, rfl⟩
  obtain ⟨x, hx⟩ : ∃ x, x = d[b]! := ⟨_, rfl⟩
  obtain ⟨y, hy⟩ : ∃ y, y = d[a]! := ⟨_, rfl⟩
  have c1 := h.cell hb
  have c0 := h.cell ha
  rw [← hx] at c1
  rw [← hy] at c0
  have HL := Lib.hid (less_u x y)
  rw [← hn] at ha hb ⊢
  have haI : (a : Int) < n := by omega
  have hbI : (b : Int) < n := by omega
  have H0 := Lib.hid h
  have HQ := Lib.hid hq
  have hNE := Lib.hid hne
  have q0 : w.cell? ⟨q, 0, none⟩ = some (.int .i64 s) := hq.cell 0 rfl
  have fq : w.frozen? ⟨q, 0, none⟩ = false := hq.free 0
  have hord : Sort.order2 ltInt d a b s = if ltInt x y then (b, a, s + 1) else (a, b, s) := by rw [hx, hy]; rfl
  rw [hord]
  have hs1 : (s : Int) ≤ 1000 := by omega
  clear hx hy hord h hq hne hn
  go_enter Try.func72, Try.ntmps72
  cases hl : ltInt x y with
  | true =>
    rw [hl] at HL
    clear hl
    go_wp2_with (fail)
    go_quiet ((go_at_call 52; exact Calls.quiet_of_same (HL.out _)))
    go_wp2_with (fail)
    go_ret2
    have F : Fr (fun k => k = q) w ((w.drewN nq).setCell ⟨q, 0, none⟩ (.int .i64 ((s : Int) + 1))) := (Fr.drewN _ _ _).trans' (Fr.setCell (S := fun k => k = q) (p := ⟨q, 0, none⟩) rfl _)
    refine ⟨rfl, UA.fr (S := fun k => k = q) H0.out F (fun e => hNE.out e.symm), ?_, F⟩
    have h1 := Row.set (Row.fr (S := Nothing) HQ.out (Fr.drewN _ w nq) (fun h => h)) 0 (.int .i64 ((s : Int) + 1))
    exact h1
  | false =>
    rw [hl] at HL
    clear hl
    go_wp2_with (fail)
    go_quiet ((go_at_call 52; exact Calls.quiet_of_same (HL.out _)))
    go_wp2_with (fail)
    go_ret2
    exact ⟨rfl, UA.fr (S := Nothing) H0.out (Fr.drewN _ _ _) (fun h => h), Row.fr (S := Nothing) HQ.out (Fr.drewN _ _ _) (fun h => h), Fr.drewN _ _ _⟩
theorem ord_in {d : Array Int} {a b s n : Nat} (ha : a < n) (hb : b < n) : (Sort.order2 ltInt d a b s).1 < n ∧ (Sort.order2 ltInt d a b s).2.1 < n ∧ (Sort.order2 ltInt d a b s).2.2 ≤ s + 1 := by
  unfold Sort.order2
  split
  · exact ⟨hb, ha, Nat.le_refl _⟩
  · exact ⟨ha, hb, Nat.le_succ _⟩
theorem med_in {d : Array Int} {a b c s n : Nat} (ha : a < n) (hb : b < n) (hc : c < n) : (Sort.median ltInt d a b c s).1 < n ∧ (Sort.median ltInt d a b c s).2 ≤ s + 3 := by
  have h1 := ord_in (d := d) (s := s) ha hb
  have h2 := ord_in (d := d) (s := (Sort.order2 ltInt d a b s).2.2) h1.2.1 hc
  have h3 := ord_in (d := d) (s := (Sort.order2 ltInt d (Sort.order2 ltInt d a b s).2.1 c (Sort.order2 ltInt d a b s).2.2).2.2) h1.1 h2.1
  exact ⟨h3.2.1, by have := h3.2.2; have := h2.2.2; have := h1.2.2; unfold Sort.median; simp only; omega⟩
set_option maxHeartbeats 4000000 in
set_option maxRecDepth 100000 in
theorem u_median (g c q : Nat) (rest : List Value) (d : Array Int) (a b e s : Nat) (w : World) (h : UA w g rest d) (ha : a < d.size) (hb : b < d.size) (he : e < d.size) (hq : Cnt w q s) (hne : q ≠ g) (hd : (d.size : Int) ≤ 1000) (hs : s ≤ 900) :
    Calls Try.prog 67 #[.slice (some ⟨g, 0, none⟩) d.size c, .int .i64 a, .int .i64 b, .int .i64 e, .pointer (some ⟨q, 0, none⟩)] w fun r w' => r = .returned (.int .i64 (Sort.median ltInt d a b e s).1) ∧ UA w' g rest d ∧ Cnt w' q (Sort.median ltInt d a b e s).2 ∧ Fr (fun k => k = q) w w' := by
  go_enter Try.func67, Try.ntmps67
  have i1 := ord_in (d := d) (s := s) ha hb
  obtain ⟨r1, hr1⟩ : ∃ r, r = Sort.order2 ltInt d a b s := ⟨_, rfl⟩
  rw [← hr1] at i1
  have i2 := ord_in (d := d) (s := r1.2.2) i1.2.1 he
  obtain ⟨r2, hr2⟩ : ∃ r, r = Sort.order2 ltInt d r1.2.1 e r1.2.2 := ⟨_, rfl⟩
  rw [← hr2] at i2
  have i3 := ord_in (d := d) (s := r2.2.2) i1.1 i2.1
  obtain ⟨r3, hr3⟩ : ∃ r, r = Sort.order2 ltInt d r1.1 r2.1 r2.2.2 := ⟨_, rfl⟩
  rw [← hr3] at i3
  have hm : Sort.median ltInt d a b e s = (r3.2.1, r3.2.2) := by unfold Sort.median; simp only [← hr1, ← hr2, ← hr3]
  rw [hm]
  have H1 := Lib.hid hr1.symm
  have H2 := Lib.hid hr2.symm
  have H3 := Lib.hid hr3.symm
  clear hm hr1 hr2 hr3
  go_wp2_with (fail)
  refine (u_order2 g c q rest d a b s w h ha hb hq hne hd (by omega)).mono ?_
  rw [H1.out]
  rintro _ w1 ⟨rfl, h1, q1, F1⟩
  go_wp2_with (fail)
  refine (u_order2 g c q rest d r1.2.1 e r1.2.2 w1 h1 i1.2.1 he q1 hne hd (by omega)).mono ?_
  rw [H2.out]
  rintro _ w2 ⟨rfl, h2, q2, F2⟩
  go_wp2_with (fail)
  refine (u_order2 g c q rest d r1.1 r2.1 r2.2.2 w2 h2 i1.1 i2.1 q2 hne hd (by omega)).mono ?_
  rw [H3.out]
  rintro _ w3 ⟨rfl, h3, q3, F3⟩
  go_wp2_with (fail)
  go_ret
  exact ⟨rfl, h3, q3, F1.trans' (F2.trans' F3)⟩
set_option maxHeartbeats 4000000 in
set_option maxRecDepth 100000 in
theorem u_medadj (g c q : Nat) (rest : List Value) (d : Array Int) (a s : Nat) (w : World) (h : UA w g rest d) (ha0 : 1 ≤ a) (ha : a + 1 < d.size) (hq : Cnt w q s) (hne : q ≠ g) (hd : (d.size : Int) ≤ 1000) (hs : s ≤ 900) :
    Calls Try.prog 66 #[.slice (some ⟨g, 0, none⟩) d.size c, .int .i64 a, .pointer (some ⟨q, 0, none⟩)] w fun r w' => r = .returned (.int .i64 (Sort.medianAdjacent ltInt d a s).1) ∧ UA w' g rest d ∧ Cnt w' q (Sort.medianAdjacent ltInt d a s).2 ∧ Fr (fun k => k = q) w w' := by
  obtain ⟨a, rfl⟩ : ∃ k, a = k + 1 := ⟨a - 1, by omega⟩
  have haI : (a : Int) + 1 < 1000 := by omega
  go_enter Try.func66, Try.ntmps66
  go_wp2_with (fail)
  refine (u_median g c q rest d a (a + 1) (a + 2) s w h (by omega) (by omega) (by omega) hq hne hd hs).mono ?_
  rintro _ w1 ⟨rfl, h1, q1, F1⟩
  go_wp2_with (fail)
  go_ret
  exact ⟨rfl, h1, q1, F1⟩
end Go.Proofs.Ytdgaiacigmcibaa.NS
