/- The library's stable sort by a comparison, at int: the swap of two ranges, the rotation. Condition: the row lies in a block of its own. -/
import Derived.Test.YtdgaiacigmcibaaISort
namespace Go.Proofs.Ytdgaiacigmcibaa
open Go.RowKit Go.Sort

/-- So many rounds are left, from i. -/
def swapRange (a b : Nat) : Nat → Nat → Array Int → Array Int
  | 0, _, d => d
  | k + 1, i, d => swapRange a b k (i + 1) (Sort.swp d (a + i) (b + i))
theorem swapRange_size (a b : Nat) (k i : Nat) (d : Array Int) : (swapRange a b k i d).size = d.size := by
  induction k generalizing i d with
  | zero => rfl
  | succ k ih => rw [swapRange, ih, swp_size]
set_option maxHeartbeats 4000000 in
set_option maxRecDepth 100000 in
theorem i_swapRange {G : Int → Prop} (g c : Nat) (rest : List Value) (d : Array Int) (a b n : Nat) (v : Value) (w : World) (h : IA G w g rest d) (ha : a + n ≤ d.size) (hb : b + n ≤ d.size) (hd : (d.size : Int) ≤ 1000) :
    Calls Try.prog 71 #[.slice (some ⟨g, 0, none⟩) d.size c, .int .i64 a, .int .i64 b, .int .i64 n, v] w fun e w' => e = .returned (.tuple #[]) ∧ IA G w' g rest (swapRange a b n 0 d) ∧ Fr (fun q => q = g) w w' := by
  obtain ⟨N, hN⟩ : ∃ n, n = d.size := ⟨_, rfl⟩
  obtain ⟨R, hR⟩ : ∃ R, R = swapRange a b n 0 d := ⟨_, rfl⟩
  have HR0 : Hid (swapRange a b (n - 0) 0 d = R) := Lib.hid hR.symm
  have H0 := Lib.hid h
  have HN0 := Lib.hid hN.symm
  rw [← hN] at hd ha hb ⊢
  rw [← hR]
  clear hR h hN
  go_enter Try.func71, Try.ntmps71
  go_wp2_with (fail)
  go_loopg [10] n (fun gg vi wr => ∃ (i : Nat) (dk : Array Int), gg = n - i ∧ vi = .int .i64 i ∧ i ≤ n ∧ Hid (dk.size = N) ∧ Hid (swapRange a b (n - i) i dk = R) ∧ Hid (IA G wr g rest dk) ∧ Fr (fun q => q = g) w wr)
  case atStart => exact ⟨0, d, rfl, rfl, Nat.zero_le _, HN0, HR0, H0, Fr.refl _ _⟩
  case round =>
    clear HR0 H0 HN0
    obtain ⟨i, dk, rfl, rfl, hin, HN, HR, H, F⟩ := hrel
    by_cases hlt : i < n
    · have hltI : (i : Int) < n := by omega
      obtain ⟨p, hp⟩ : ∃ p, p = a + i := ⟨_, rfl⟩
      obtain ⟨q, hq⟩ : ∃ q, q = b + i := ⟨_, rfl⟩
      have ep : (a : Int) + i = p := by omega
      have eq : (b : Int) + i = q := by omega
      have hpN : (p : Int) < N := by omega
      have hqN : (q : Int) < N := by omega
      have hpN' : p < N := by omega
      have hqN' : q < N := by omega
      have HR2 : Hid (swapRange a b (n - (i + 1)) (i + 1) (Sort.swp dk p q) = R) := Lib.hid (by
        rw [← HR.out, show n - i = (n - (i + 1)) + 1 by omega, hp, hq]; rfl)
      have bI : Hid (p < dk.size) := Lib.hid (by rw [HN.out]; exact hpN')
      have bJ : Hid (q < dk.size) := Lib.hid (by rw [HN.out]; exact hqN')
      clear hp hq HR
      obtain ⟨x, hx⟩ : ∃ x, x = dk[p]! := ⟨_, rfl⟩
      obtain ⟨y, hy⟩ : ∃ y, y = dk[q]! := ⟨_, rfl⟩
      have p0 := H.out.cell bI.out
      have p1 := H.out.cell bJ.out
      rw [← hx] at p0
      rw [← hy] at p1
      have HX := Lib.hid hx.symm
      have HY := Lib.hid hy.symm
      have fz : ∀ k, World.frozen? wr ⟨g, k, none⟩ = false := fun k => H.out.free k
      obtain ⟨v0, f0⟩ := H.out.after bI.out bJ.out y
      have HW := Lib.hid (H.out.swapped F bI.out bJ.out HX.out HY.out)
      clear hx hy
      go_wp2_with (fail)
      go_region
      go_wp2_with (fail)
      go_roundg (n - (i + 1))
      case measure => omega
      case rel => exact ⟨i + 1, _, rfl, by go_num, by omega, Lib.hid (by rw [swp_size]; exact HN.out), HR2, Lib.hid HW.out.1, HW.out.2⟩
    · obtain rfl : i = n := by omega
      have hRE : Hid (dk = R) := Lib.hid (by have := HR.out; rw [Nat.sub_self] at this; exact this)
      go_wp2_with (fail)
      refine bodyPost_end (results_none rfl _ _ _) rfl ?_
      exact ⟨rfl, by rw [← hRE.out]; exact H.out, F⟩
/-- The rotation: i to the left of m and j from m on are still to be changed. -/
def rotLoop (m i j : Nat) (d : Array Int) : Array Int :=
  if i = j then swapRange (m - i) m i 0 d
  else if _h : j < i ∧ 0 < j then rotLoop m (i - j) j (swapRange (m - i) m j 0 d)
  else if _h : i < j ∧ 0 < i then rotLoop m i (j - i) (swapRange (m - i) (m + j - i) i 0 d)
  else d
termination_by i + j
theorem rot_eq (m i : Nat) (d : Array Int) : rotLoop m i i d = swapRange (m - i) m i 0 d := by rw [rotLoop, if_pos rfl]
theorem rot_gt {m i j : Nat} (h : j < i) (hj : 0 < j) (d : Array Int) : rotLoop m i j d = rotLoop m (i - j) j (swapRange (m - i) m j 0 d) := by rw [rotLoop, if_neg (by omega), dif_pos ⟨h, hj⟩]
theorem rot_lt {m i j : Nat} (h : i < j) (hi : 0 < i) (d : Array Int) : rotLoop m i j d = rotLoop m i (j - i) (swapRange (m - i) (m + j - i) i 0 d) := by rw [rotLoop, if_neg (by omega), dif_neg (by omega), dif_pos ⟨h, hi⟩]
theorem rot_size (m i j : Nat) (d : Array Int) : (rotLoop m i j d).size = d.size := by
  obtain ⟨s, hs⟩ : ∃ s, s = i + j := ⟨_, rfl⟩
  induction s using Nat.strongRecOn generalizing i j d with
  | _ s ih =>
    rw [rotLoop]
    split
    · exact swapRange_size ..
    · split
      · rename_i h; rw [ih _ (by omega) _ _ _ rfl, swapRange_size]
      · split
        · rename_i h; rw [ih _ (by omega) _ _ _ rfl, swapRange_size]
        · rfl
def rotate (a m b : Nat) (d : Array Int) : Array Int := rotLoop m (m - a) (b - m) d
set_option maxHeartbeats 4000000 in
set_option maxRecDepth 100000 in
theorem i_rotate {G : Int → Prop} (g c n : Nat) (rest : List Value) (d : Array Int) (hn : d.size = n) (a m b : Nat) (v : Value) (w : World) (h : IA G w g rest d) (ha : a < m) (hm : m < b) (hb : b ≤ n) (hd : (n : Int) ≤ 1000) :
    Calls Try.prog 62 #[.slice (some ⟨g, 0, none⟩) n c, .int .i64 a, .int .i64 m, .int .i64 b, v] w fun e w' => e = .returned (.tuple #[]) ∧ IA G w' g rest (rotate a m b d) ∧ Fr (fun q => q = g) w w' := by
  obtain ⟨R, hR⟩ : ∃ R, R = rotate a m b d := ⟨_, rfl⟩
  obtain ⟨i0, hi0⟩ : ∃ i, i = m - a := ⟨_, rfl⟩
  obtain ⟨j0, hj0⟩ : ∃ j, j = b - m := ⟨_, rfl⟩
  have HR0 : Hid (rotLoop m i0 j0 d = R) := Lib.hid (by rw [hR, hi0, hj0]; rfl)
  have ei : (m : Int) - a = i0 := by omega
  have ej : (b : Int) - m = j0 := by omega
  have hi1 : 0 < i0 ∧ i0 ≤ m := by omega
  have hj1 : 0 < j0 ∧ m + j0 ≤ n := by omega
  have H0 := Lib.hid h
  have HN0 := Lib.hid hn
  rw [← hR]
  clear hR h hn hi0 hj0
  go_enter Try.func62, Try.ntmps62
  go_wp2_with (fail)
  go_loopg [10, 11] (i0 + j0) (fun gg vi vj wr => ∃ (i j : Nat) (dk : Array Int), i + j = gg ∧ vi = .int .i64 i ∧ vj = .int .i64 j ∧ 0 < i ∧ i ≤ m ∧ 0 < j ∧ m + j ≤ n ∧ Hid (dk.size = n) ∧ Hid (rotLoop m i j dk = R) ∧ Hid (IA G wr g rest dk) ∧ Fr (fun q => q = g) w wr)
  case atStart => exact ⟨i0, j0, d, rfl, rfl, rfl, hi1.1, hi1.2, hj1.1, hj1.2, HN0, HR0, H0, Fr.refl _ _⟩
  case round =>
    clear HR0 H0 HN0 hi1 hj1
    obtain ⟨i, j, dk, hg, rfl, rfl, hi1, hi2, hj1, hj2, HN, HR, H, F⟩ := hrel
    have HG := Lib.hid hg
    clear hg
    obtain ⟨p, hp⟩ : ∃ p, p = m - i := ⟨_, rfl⟩
    have ep : (m : Int) - i = p := by omega
    have hmI : (m : Int) ≤ 1000 := by omega
    have hjI : (j : Int) ≤ 1000 := by omega
    have hiI : (i : Int) ≤ 1000 := by omega
    by_cases heq : i = j
    · subst heq
      have HC := Lib.hid (i_swapRange g c rest dk p m i v wr H.out (by rw [HN.out]; omega) (by rw [HN.out]; omega) (by rw [HN.out]; exact hd))
      rw [HN.out, show swapRange p m i 0 dk = R by rw [← HR.out, rot_eq, hp]] at HC
      clear hp
      go_wp2_with (go_at_call 71; refine HC.out.mono ?_; rintro e w1 ⟨rfl, hU1, hF1⟩)
      refine bodyPost_end (results_none rfl _ _ _) rfl ?_
      exact ⟨rfl, hU1, F.trans' hF1⟩
    · have hne : ¬ ((i : Int) = j) := by omega
      by_cases hgt : j < i
      · have hgtI : (j : Int) < i := by omega
        obtain ⟨dq, hdq⟩ : ∃ q, q = swapRange p m j 0 dk := ⟨_, rfl⟩
        have HC := Lib.hid (i_swapRange g c rest dk p m j v wr H.out (by rw [HN.out]; omega) (by rw [HN.out]; omega) (by rw [HN.out]; exact hd))
        rw [HN.out, ← hdq] at HC
        have HR2 : Hid (rotLoop m (i - j) j dq = R) := Lib.hid (by rw [← HR.out, rot_gt hgt hj1, hdq, hp])
        have HNq : Hid (dq.size = n) := Lib.hid (by rw [hdq, swapRange_size]; exact HN.out)
        clear hp hdq
        go_wp2_with (go_at_call 71; refine HC.out.mono ?_; rintro e w1 ⟨rfl, hU1, hF1⟩)
        go_roundg (i - j + j)
        case measure => have := HG.out; omega
        case rel => exact ⟨i - j, j, dq, rfl, by rw [show ((i - j : Nat) : Int) = (i : Int) - j by omega], rfl, by omega, by omega, hj1, hj2, HNq, HR2, Lib.hid hU1, F.trans' hF1⟩
      · have hgtI : ¬ ((j : Int) < i) := by omega
        have hlt : i < j := by omega
        obtain ⟨q, hq⟩ : ∃ q, q = m + j - i := ⟨_, rfl⟩
        have eq : (m : Int) + j - i = q := by omega
        obtain ⟨dq, hdq⟩ : ∃ z, z = swapRange p q i 0 dk := ⟨_, rfl⟩
        have HC := Lib.hid (i_swapRange g c rest dk p q i v wr H.out (by rw [HN.out]; omega) (by rw [HN.out]; omega) (by rw [HN.out]; exact hd))
        rw [HN.out, ← hdq] at HC
        have HR2 : Hid (rotLoop m i (j - i) dq = R) := Lib.hid (by rw [← HR.out, rot_lt hlt hi1, hdq, hp, hq])
        have HNq : Hid (dq.size = n) := Lib.hid (by rw [hdq, swapRange_size]; exact HN.out)
        clear hp hdq hq
        go_wp2_with (go_at_call 71; refine HC.out.mono ?_; rintro e w1 ⟨rfl, hU1, hF1⟩)
        go_roundg (i + (j - i))
        case measure => have := HG.out; omega
        case rel => exact ⟨i, j - i, dq, rfl, rfl, by rw [show ((j - i : Nat) : Int) = (j : Int) - i by omega], hi1, hi2, by omega, by omega, HNq, HR2, Lib.hid hU1, F.trans' hF1⟩
end Go.Proofs.Ytdgaiacigmcibaa
