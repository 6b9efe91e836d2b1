/- The library's sort at int: the heap sort. Condition: the row lies in a block of its own. -/
import Derived.Test.YtdgaiacigmcibaaNSortD
namespace Go.Proofs.Ytdgaiacigmcibaa.NS
open Go.RowKit Go.Sort

theorem sift_size (hi first r : Nat) (d : Array Int) : (Sort.siftDown ltInt hi first r d).size = d.size := by
  fun_induction Sort.siftDown ltInt hi first r d <;> simp_all [swp_size]
theorem build_size (hi first : Nat) : ∀ (k : Nat) (d : Array Int), (Sort.heapBuild ltInt hi first k d).size = d.size
  | 0, _ => rfl
  | k + 1, d => by rw [Sort.heapBuild, build_size, sift_size]
set_option maxHeartbeats 8000000 in
set_option maxRecDepth 100000 in
theorem u_heap (g c : Nat) (rest : List Value) (d : Array Int) (a l : Nat) (w : World) (h : UA w g rest d) (hb : a + l ≤ d.size) (hl : 12 < l) (hd : (d.size : Int) ≤ 1000) :
    Calls Try.prog 47 #[.slice (some ⟨g, 0, none⟩) d.size c, .int .i64 a, .int .i64 ((a : Int) + l)] w fun e w' => e = .returned (.tuple #[]) ∧ UA w' g rest (Sort.heapSort ltInt d a (a + l)) ∧ Fr (fun q => q = g) w w' := by
  obtain ⟨n, hn⟩ : ∃ n, n = d.size := ⟨_, rfl⟩
  obtain ⟨R, hR⟩ : ∃ R, R = Sort.heapSort ltInt d a (a + l) := ⟨_, rfl⟩
  obtain ⟨m, hm⟩ : ∃ m, m = (l - 1) / 2 := ⟨_, rfl⟩
  have e1 : (a : Int) + l - a = l := by omega
  have e2 : Int.tdiv ((l : Int) - 1) 2 = m := by
    rw [hm, show (l : Int) - 1 = ((l - 1 : Nat) : Int) by omega]
    exact (Int.ofNat_tdiv (l - 1) 2).symm
  have hm2 : m < l ∧ m + 1 ≤ l := by omega
  have HR0 : Hid (Sort.heapPop ltInt a l (Sort.heapBuild ltInt l a (m + 1) d) = R) := Lib.hid (by rw [hR, hm]; unfold Sort.heapSort; rw [Nat.add_sub_cancel_left])
  have H0 := Lib.hid h
  have HN0 := Lib.hid hn.symm
  rw [← hn] at hd hb ⊢
  rw [← hR]
  clear hR h hn hm
  go_enter Try.func47, Try.ntmps47
  go_wp2_with (fail)
  obtain ⟨B, hB⟩ : ∃ B, B = Sort.heapBuild ltInt l a (m + 1) d := ⟨_, rfl⟩
  have HBn : Hid (B.size = n) := Lib.hid (by rw [hB, build_size]; exact HN0.out)
  rw [← hB] at HR0
  have HB0 := Lib.hid hB.symm
  clear hB
  go_loopg [9] (m + 1) (fun gg vi wr => ∃ (k : Nat) (z : Int) (dk : Array Int), k = gg ∧ vi = .int .i64 z ∧ z = (k : Int) - 1 ∧ k ≤ l ∧ Hid (dk.size = n) ∧ Hid (Sort.heapBuild ltInt l a k dk = B) ∧ Hid (UA wr g rest dk) ∧ Fr (fun q => q = g) w wr)
  case atStart => exact ⟨m + 1, m, d, rfl, rfl, by omega, by omega, HN0, HB0, H0, Fr.refl _ _⟩
  case round =>
    clear HB0 H0 HN0
    obtain ⟨k, z, dk, rfl, rfl, hz, hk, HN, HB, H, F⟩ := hrel
    cases k with
    | succ k =>
      obtain rfl : z = (k : Int) := by omega
      have HB2 : Hid (Sort.heapBuild ltInt l a k (Sort.siftDown ltInt l a k dk) = B) := Lib.hid (by rw [← HB.out, Sort.heapBuild])
      have HZ : Hid (dk.size = n) := HN
      clear hz HB
      go_wp2_with (fail)
      rw [← HZ.out]
      refine (u_sift g c rest dk k l a wr H.out (by rw [HZ.out]; omega) (by rw [HZ.out]; exact hd) (by omega)).mono ?_
      rintro e w1 ⟨rfl, h1, F1⟩
      rw [HZ.out]
      go_wp2_with (fail)
      go_roundg k
      case measure => omega
      case rel => exact ⟨k, _, _, rfl, rfl, rfl, by omega, Lib.hid (by rw [sift_size]; exact HN.out), HB2, Lib.hid h1, F.trans' F1⟩
    | zero =>
      obtain rfl : z = -1 := by omega
      have HS : Hid (dk = B) := Lib.hid HB.out
      clear hz HB
      go_wp2_with (fail)
      obtain rfl := HS.out
      clear HS hk
      go_loopg [10] l (fun gg vi wr => ∃ (k : Nat) (z : Int) (dj : Array Int), k = gg ∧ vi = .int .i64 z ∧ z = (k : Int) - 1 ∧ k ≤ l ∧ Hid (dj.size = n) ∧ Hid (Sort.heapPop ltInt a k dj = R) ∧ Hid (UA wr g rest dj) ∧ Fr (fun q => q = g) w wr)
      case atStart => exact ⟨l, (l : Int) - 1, dk, rfl, by go_num, by omega, Nat.le_refl _, HN, HR0, H, F⟩
      case round =>
        clear H HN F HR0
        obtain ⟨k, z, dj, rfl, rfl, hz, hk, HN, HB, H, F⟩ := hrel
        cases k with
        | zero =>
          obtain rfl : z = -1 := by omega
          have HS : Hid (dj = R) := Lib.hid HB.out
          clear hz HB
          go_wp2_with (fail)
          refine bodyPost_end (results_none rfl _ _ _) rfl ?_
          exact ⟨rfl, by rw [← HS.out]; exact H.out, F⟩
        | succ k =>
          obtain rfl : z = (k : Int) := by omega
          obtain ⟨c1, hc1⟩ : ∃ k', k' = a + k := ⟨_, rfl⟩
          have e4 : (a : Int) + k = c1 := by omega
          have HB2 : Hid (Sort.heapPop ltInt a k (Sort.siftDown ltInt k a 0 (Sort.swp dj a c1)) = R) := Lib.hid (by rw [← HB.out, Sort.heapPop, hc1])
          have b0 : Hid (a < dj.size) := Lib.hid (by rw [HN.out]; omega)
          have b1 : Hid (c1 < dj.size) := Lib.hid (by rw [HN.out]; omega)
          have i0 : (a : Int) < n := by omega
          have i1 : (c1 : Int) < n := by omega
          have HC := Lib.hid hc1
          obtain ⟨x, hx⟩ : ∃ x, x = dj[a]! := ⟨_, rfl⟩
          obtain ⟨y, hy⟩ : ∃ y, y = dj[c1]! := ⟨_, rfl⟩
          have p0 := H.out.cell b0.out
          have p1 := H.out.cell b1.out
          rw [← hx] at p0
          rw [← hy] at p1
          have HX := Lib.hid hx.symm
          have HY := Lib.hid hy.symm
          have fz : ∀ k, wr.frozen? ⟨g, k, none⟩ = false := fun k => H.out.free k
          obtain ⟨v0, f0⟩ := H.out.after b0.out b1.out y
          have HW := Lib.hid (H.out.swapped F b0.out b1.out HX.out HY.out)
          clear hz HB hx hy hc1
          go_wp2_with (fail)
          go_region
          go_wp2_with (fail)
          have HZ : Hid ((Sort.swp dj a c1).size = n) := Lib.hid (by rw [swp_size]; exact HN.out)
          rw [← HZ.out]
          refine (u_sift g c rest (Sort.swp dj a c1) 0 k a _ HW.out.1 (by rw [HZ.out]; have := HC.out; omega) (by rw [HZ.out]; exact hd) (by omega)).mono ?_
          rintro e w1 ⟨rfl, h1, F1⟩
          rw [HZ.out]
          go_wp2_with (fail)
          go_roundg k
          case measure => omega
          case rel => exact ⟨k, _, _, rfl, rfl, rfl, by omega, Lib.hid (by rw [sift_size]; exact HZ.out), HB2, Lib.hid h1, HW.out.2.trans' F1⟩
end Go.Proofs.Ytdgaiacigmcibaa.NS
