/- The library's sort at int: the choice of a pivot. Condition: the row lies in a block of its own. -/
import Derived.Test.YtdgaiacigmcibaaNSortB
namespace Go.Proofs.Ytdgaiacigmcibaa.NS
open Go.RowKit Go.Sort

def hintI : Hint → Int
  | .unknown => 0
  | .increasing => 1
  | .decreasing => 2
set_option maxHeartbeats 4000000 in
set_option maxRecDepth 100000 in
theorem u_pivot (g c : Nat) (rest : List Value) (d : Array Int) (a l : Nat) (w : World) (h : UA w g rest d) (hb : a + l ≤ d.size) (hl : 12 < l) (hd : (d.size : Int) ≤ 1000) :
    Calls Try.prog 49 #[.slice (some ⟨g, 0, none⟩) d.size c, .int .i64 a, .int .i64 ((a : Int) + l)] w fun r w' => r = .returned (.tuple #[.int .i64 (Sort.choosePivot ltInt d a (a + l)).1, .int .i64 (hintI (Sort.choosePivot ltInt d a (a + l)).2)]) ∧ UA w' g rest d ∧ Fr Nothing w w' := by
  obtain ⟨CP, hCP⟩ : ∃ r, r = Sort.choosePivot ltInt d a (a + l) := ⟨_, rfl⟩
  rw [← hCP]
  have HCP := Lib.hid hCP
  clear hCP
  obtain ⟨m, hm⟩ : ∃ m, m = l / 4 := ⟨_, rfl⟩
  have hm4 : 4 * m ≤ l ∧ l < 4 * m + 4 := by omega
  have e1 : (a : Int) + l - a = l := by omega
  have e2 : Int.tdiv (l : Int) 4 = m := by rw [hm]; exact (Int.ofNat_tdiv l 4).symm
  have Hm := Lib.hid hm
  have hlI : (12 : Int) < l := by omega
  have hm1 : (m : Int) ≤ 250 := by omega
  have h2 : 2 ≤ m := by omega
  have hge : (8 : Int) ≤ l := by omega
  have H := Lib.hid h
  have hg : g < w.heap.size := Row.lt h
  have HQ : Cnt (w.alloc (.cells #[.int .i64 0] 3)) w.heap.size 0 := Row.allocNew w [.int .i64 0] _
  have HU : UA (w.alloc (.cells #[.int .i64 0] 3)) g rest d := UA.fr (S := Nothing) h (Fr.alloc Nothing _ _) (fun h => h)
  have F0 : Fr Nothing w (w.alloc (.cells #[.int .i64 0] 3)) := Fr.alloc Nothing _ _
  clear hm h
  go_enter Try.func49, Try.ntmps49
  obtain ⟨q, hq⟩ : ∃ q, q = w.heap.size := ⟨_, rfl⟩
  obtain ⟨V, hV⟩ : ∃ V, V = w.alloc (.cells #[.int .i64 0] 3) := ⟨_, rfl⟩
  have hne : q ≠ g := by omega
  have hge' : l ≥ 8 := by omega
  obtain ⟨i, hi⟩ : ∃ i, i = a + m := ⟨_, rfl⟩
  obtain ⟨j, hj⟩ : ∃ j, j = a + m * 2 := ⟨_, rfl⟩
  obtain ⟨k, hk⟩ : ∃ k, k = a + m * 3 := ⟨_, rfl⟩
  have ei : (a : Int) + m = i := by omega
  have ej : (a : Int) + (m : Int) * 2 = j := by omega
  have ek : (a : Int) + (m : Int) * 3 = k := by omega
  have hi' : 1 ≤ i ∧ i + 1 < d.size ∧ 1 ≤ j ∧ j + 1 < d.size ∧ 1 ≤ k ∧ k + 1 < d.size := by omega
  have Hijk := Lib.hid (And.intro hi (And.intro hj hk))
  have hi1 : (i : Int) ≤ 1000 := by omega
  have hj1 : (j : Int) ≤ 1000 := by omega
  have hk1 : (k : Int) ≤ 1000 := by omega
  clear hi hj hk
  by_cases h50 : 50 ≤ l
  · have h50I : (50 : Int) ≤ l := by omega
    go_wp2_with (fail)
    rw [← hV, ← hq] at HQ
    rw [← hV] at HU F0
    rw [← hV, ← hq]
    have HQE := Lib.hid hq
    clear hV hq
    refine (u_medadj g c q rest d i 0 V HU (by omega) (by omega) HQ hne hd (by omega)).mono ?_
    obtain ⟨ri, hri⟩ : ∃ r, r = Sort.medianAdjacent ltInt d i 0 := ⟨_, rfl⟩
    have hi3 : ri.1 < d.size ∧ ri.2 ≤ 3 := by rw [hri]; exact med_in (by omega) (by omega) (by omega)
    rw [← hri]
    have HRI := Lib.hid hri
    clear hri
    rintro _ w1 ⟨rfl, h1, q1, F1⟩
    go_wp2_with (fail)
    refine (u_medadj g c q rest d j ri.2 w1 h1 (by omega) (by omega) q1 hne hd (by omega)).mono ?_
    obtain ⟨rj, hrj⟩ : ∃ r, r = Sort.medianAdjacent ltInt d j ri.2 := ⟨_, rfl⟩
    have hj3 : rj.1 < d.size ∧ rj.2 ≤ ri.2 + 3 := by rw [hrj]; exact med_in (by omega) (by omega) (by omega)
    rw [← hrj]
    have HRJ := Lib.hid hrj
    clear hrj
    rintro _ w2 ⟨rfl, h2, q2, F2⟩
    go_wp2_with (fail)
    refine (u_medadj g c q rest d k rj.2 w2 h2 (by omega) (by omega) q2 hne hd (by omega)).mono ?_
    obtain ⟨rk, hrk⟩ : ∃ r, r = Sort.medianAdjacent ltInt d k rj.2 := ⟨_, rfl⟩
    have hk3 : rk.1 < d.size ∧ rk.2 ≤ rj.2 + 3 := by rw [hrk]; exact med_in (by omega) (by omega) (by omega)
    rw [← hrk]
    have HRK := Lib.hid hrk
    clear hrk
    rintro _ w3 ⟨rfl, h3, q3, F3⟩
    go_wp2_with (fail)
    refine (u_median g c q rest d ri.1 rj.1 rk.1 rk.2 w3 h3 hi3.1 hj3.1 hk3.1 q3 hne hd (by omega)).mono ?_
    obtain ⟨r, hr⟩ : ∃ r, r = Sort.median ltInt d ri.1 rj.1 rk.1 rk.2 := ⟨_, rfl⟩
    rw [← hr]
    have HR := Lib.hid hr
    clear hr
    rintro _ w4 ⟨rfl, hn, qn, F4⟩
    have FN : Fr Nothing w w4 := F0.trans (((F1.trans' F2).trans' F3).trans' F4) (fun k hk e => by have := HQE.out; omega)
    obtain ⟨P, S⟩ := r
    have hcp : Sort.choosePivot ltInt d a (a + l) = (P, if S = 0 then .increasing else if S = 12 then .decreasing else .unknown) := by
      unfold Sort.choosePivot
      simp only [Nat.add_sub_cancel_left, ← Hm.out, Nat.mul_one, hge', if_true, h50, ← Hijk.out.1, ← Hijk.out.2.1, ← Hijk.out.2.2, ← HRI.out, ← HRJ.out, ← HRK.out, ← HR.out]
    have HCE := Lib.hid (HCP.out.trans hcp)
    have q0 := qn.cell 0 rfl
    clear hcp
    by_cases s0 : S = 0
    · subst s0
      go_wp2_with (fail)
      go_ret2
      exact ⟨by rw [HCE.out]; rfl, hn, FN⟩
    · by_cases s12 : S = 12
      · subst s12
        go_wp2_with (fail)
        go_ret2
        exact ⟨by rw [HCE.out]; rfl, hn, FN⟩
      · have e0 : ¬ ((S : Int) = 0) := by omega
        have e12 : ¬ ((S : Int) = 12) := by omega
        go_wp2_with (fail)
        go_ret2
        exact ⟨by rw [HCE.out, if_neg s0, if_neg s12]; rfl, hn, FN⟩
  · have h50I : ¬ ((50 : Int) ≤ l) := by omega
    go_wp2_with (fail)
    rw [← hV, ← hq] at HQ
    rw [← hV] at HU F0
    rw [← hV, ← hq]
    have HQE := Lib.hid hq
    clear hV hq
    refine (u_median g c q rest d i j k 0 V HU (by omega) (by omega) (by omega) HQ hne hd (by omega)).mono ?_
    obtain ⟨r, hr⟩ : ∃ r, r = Sort.median ltInt d i j k 0 := ⟨_, rfl⟩
    rw [← hr]
    have HR := Lib.hid hr
    clear hr
    rintro _ w4 ⟨rfl, hn, qn, F4⟩
    have FN : Fr Nothing w w4 := F0.trans F4 (fun k hk e => by have := HQE.out; omega)
    obtain ⟨P, S⟩ := r
    have hcp : Sort.choosePivot ltInt d a (a + l) = (P, if S = 0 then .increasing else if S = 12 then .decreasing else .unknown) := by
      unfold Sort.choosePivot
      simp only [Nat.add_sub_cancel_left, ← Hm.out, Nat.mul_one, hge', if_true, h50, if_false, ← Hijk.out.1, ← Hijk.out.2.1, ← Hijk.out.2.2, ← HR.out]
    have HCE := Lib.hid (HCP.out.trans hcp)
    have q0 := qn.cell 0 rfl
    clear hcp
    by_cases s0 : S = 0
    · subst s0
      go_wp2_with (fail)
      go_ret2
      exact ⟨by rw [HCE.out]; rfl, hn, FN⟩
    · by_cases s12 : S = 12
      · subst s12
        go_wp2_with (fail)
        go_ret2
        exact ⟨by rw [HCE.out]; rfl, hn, FN⟩
      · have e0 : ¬ ((S : Int) = 0) := by omega
        have e12 : ¬ ((S : Int) = 12) := by omega
        go_wp2_with (fail)
        go_ret2
        exact ⟨by rw [HCE.out, if_neg s0, if_neg s12]; rfl, hn, FN⟩
end Go.Proofs.Ytdgaiacigmcibaa.NS
