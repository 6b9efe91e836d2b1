/- The library's sort at int: a heap's sift. Condition: the row lies in a block of its own. -/
import Derived.Test.YtdgaiacigmcibaaNSortC
namespace Go.Proofs.Ytdgaiacigmcibaa.NS
open Go.RowKit Go.Sort

/-- One round of the sift, in letters. -/
theorem sift_round {d : Array Int} {hi first r : Nat} (h : 2 * r + 1 < hi) :
    siftDown ltInt hi first r d = if 2 * r + 2 < hi ∧ ltInt d[first + (2 * r + 1)]! d[first + (2 * r + 2)]! = true then (if ltInt d[first + r]! d[first + (2 * r + 2)]! = true then siftDown ltInt hi first (2 * r + 2) (Sort.swp d (first + r) (first + (2 * r + 2))) else d)
      else (if ltInt d[first + r]! d[first + (2 * r + 1)]! = true then siftDown ltInt hi first (2 * r + 1) (Sort.swp d (first + r) (first + (2 * r + 1))) else d) := by
  rw [siftDown, dif_neg (by omega)]
  by_cases h2 : 2 * r + 2 < hi
  · cases h3 : ltInt d[first + (2 * r + 1)]! d[first + (2 * r + 2)]! <;> cases h4 : ltInt d[first + r]! d[first + (2 * r + 2)]! <;> cases h5 : ltInt d[first + r]! d[first + (2 * r + 1)]! <;> simp_all [Nat.add_assoc]
  · have hn : ¬ 2 * r + 1 + 1 < hi := h2
    cases h5 : ltInt d[first + r]! d[first + (2 * r + 1)]! <;> simp [h2]
theorem sift_end {d : Array Int} {hi first r : Nat} (h : ¬ 2 * r + 1 < hi) : siftDown ltInt hi first r d = d := by rw [siftDown, dif_pos (by omega)]
set_option maxHeartbeats 8000000 in
set_option maxRecDepth 100000 in
theorem u_sift (g c : Nat) (rest : List Value) (d : Array Int) (root hi first : Nat) (w : World) (h : UA w g rest d) (hb : first + hi ≤ d.size) (hd : (d.size : Int) ≤ 1000) (hr : root ≤ 1000) :
    Calls Try.prog 63 #[.slice (some ⟨g, 0, none⟩) d.size c, .int .i64 root, .int .i64 hi, .int .i64 first] w fun e w' => e = .returned (.tuple #[]) ∧ UA w' g rest (Sort.siftDown ltInt hi first root d) ∧ Fr (fun q => q = g) w w' := by
  obtain ⟨n, hn⟩ : ∃ n, n = d.size := ⟨_, rfl⟩
  obtain ⟨R, hR⟩ : ∃ R, R = Sort.siftDown ltInt hi first root d := ⟨_, rfl⟩
  have HR0 := Lib.hid hR.symm
  have H0 := Lib.hid h
  have HN0 := Lib.hid hn.symm
  rw [← hn] at hd hb ⊢
  rw [← hR]
  clear hR h hn
  go_enter Try.func63, Try.ntmps63
  go_wp2_with (fail)
  go_loopg [8, 9] (hi - root) (fun gg vi _ wr => ∃ (r : Nat) (dk : Array Int), gg = hi - r ∧ vi = .int .i64 r ∧ r ≤ 1000 ∧ Hid (dk.size = n) ∧ Hid (Sort.siftDown ltInt hi first r dk = R) ∧ Hid (UA wr g rest dk) ∧ Fr (fun q => q = g) w wr)
  case atStart => exact ⟨root, d, rfl, rfl, hr, HN0, HR0, H0, Fr.refl _ _⟩
  case round =>
    clear HR0 H0 HN0
    obtain ⟨r, dk, rfl, rfl, hr2, HN, HR, H, F⟩ := hrel
    obtain ⟨k1, hk1⟩ : ∃ k, k = 2 * r + 1 := ⟨_, rfl⟩
    have e1 : 2 * (r : Int) + 1 = k1 := by omega
    by_cases hlt : 2 * r + 1 < hi
    · have hrd := sift_round (d := dk) (first := first) hlt
      rw [HR.out] at hrd
      obtain ⟨k2, hk2⟩ : ∃ k, k = 2 * r + 2 := ⟨_, rfl⟩
      rw [← hk1, ← hk2] at hrd
      obtain ⟨r0, hr0⟩ : ∃ k, k = first + r := ⟨_, rfl⟩
      obtain ⟨c1, hc1⟩ : ∃ k, k = first + k1 := ⟨_, rfl⟩
      obtain ⟨c2, hc2⟩ : ∃ k, k = first + k2 := ⟨_, rfl⟩
      rw [← hr0, ← hc1, ← hc2] at hrd
      have e2 : (k1 : Int) + 1 = k2 := by omega
      have e3 : (first : Int) + r = r0 := by omega
      have e4 : (first : Int) + k1 = c1 := by omega
      have e5 : (c1 : Int) + 1 = c2 := by omega
      have e6 : (first : Int) + k2 = c2 := by omega
      have HRD := Lib.hid hrd
      have HK : Hid (k1 = 2 * r + 1 ∧ k2 = 2 * r + 2 ∧ k2 ≤ 1000) := Lib.hid ⟨hk1, hk2, by omega⟩
      have b0 : Hid (r0 < dk.size) := Lib.hid (by rw [HN.out]; omega)
      have b1 : Hid (c1 < dk.size) := Lib.hid (by rw [HN.out]; omega)
      have i0 : (r0 : Int) < n := by omega
      have i1 : (c1 : Int) < n := by omega
      have i2 : (k1 : Int) < hi := by omega
      obtain ⟨x, hx⟩ : ∃ x, x = dk[r0]! := ⟨_, rfl⟩
      obtain ⟨y, hy⟩ : ∃ y, y = dk[c1]! := ⟨_, rfl⟩
      have p0 := H.out.cell b0.out
      have p1 := H.out.cell b1.out
      rw [← hx] at p0
      rw [← hy] at p1
      have HX := Lib.hid hx.symm
      have HY := Lib.hid hy.symm
      clear hx hy hrd hk1 HR hlt hr0 hc1
      by_cases hk : k2 < hi
      · have b2 : Hid (c2 < dk.size) := Lib.hid (by rw [HN.out]; omega)
        have i3 : (k2 : Int) < hi := by omega
        have i4 : (c2 : Int) < n := by omega
        obtain ⟨z, hz⟩ : ∃ z, z = dk[c2]! := ⟨_, rfl⟩
        have p2 := H.out.cell b2.out
        rw [← hz] at p2
        have HZ := Lib.hid hz.symm
        have HL := Lib.hid (less_u y z)
        clear hz hk2 hc2
        cases hl : ltInt y z with
        | true =>
          have HRE : Hid (R = if ltInt x z = true then Sort.siftDown ltInt hi first k2 (Sort.swp dk r0 c2) else dk) := Lib.hid (by rw [HRD.out, HX.out, HY.out, HZ.out, if_pos ⟨hk, hl⟩])
          rw [hl] at HL
          clear hl HRD hk
          go_wp2_with (fail)
          go_quiet ((go_at_call 52; exact Calls.quiet_of_same (HL.out _)))
          clear p1
          have HM := Lib.hid (less_u x z)
          obtain ⟨V, hV⟩ : ∃ V, V = wr.drewN nq := ⟨_, rfl⟩
          have FV : Fr Nothing wr V := by rw [hV]; exact Fr.drewN _ _ _
          have F2 : Fr (fun q => q = g) w V := by rw [hV]; exact F.trans' (Fr.drewN _ _ _)
          rw [← hV]
          have HV := Lib.hid (UA.fr (S := Nothing) H.out FV (fun h => h))
          clear H F FV hV p0 p2
          have p0 := HV.out.cell b0.out
          have p2 := HV.out.cell b2.out
          rw [HX.out] at p0
          rw [HZ.out] at p2
          cases hm : ltInt x z with
          | true =>
            rw [hm] at HM
            have HS : Hid (Sort.siftDown ltInt hi first k2 (Sort.swp dk r0 c2) = R) := Lib.hid (by rw [HRE.out, if_pos hm])
            clear hm HRE
            go_wp2_with (fail)
            go_quiet ((go_at_call 52; exact Calls.quiet_of_same (HM.out _)))
            obtain ⟨U, hU⟩ : ∃ U, U = V.drewN nq := ⟨_, rfl⟩
            have FU : Fr Nothing V U := by rw [hU]; exact Fr.drewN _ _ _
            have F3 : Fr (fun q => q = g) w U := by rw [hU]; exact F2.trans' (Fr.drewN _ _ _)
            rw [← hU]
            have HU := Lib.hid (UA.fr (S := Nothing) HV.out FU (fun h => h))
            clear HV F2 FU hU p0 p2
            have p0 := HU.out.cell b0.out
            have p2 := HU.out.cell b2.out
            rw [HX.out] at p0
            rw [HZ.out] at p2
            have fz : ∀ k, U.frozen? ⟨g, k, none⟩ = false := fun k => HU.out.free k
            obtain ⟨v0, f0⟩ := HU.out.after b0.out b2.out z
            have HW := Lib.hid (HU.out.swapped F3 b0.out b2.out HX.out HZ.out)
            go_wp2_with (fail)
            go_region
            go_wp2_with (fail)
            go_roundg (hi - k2)
            case measure => have := HK.out; omega
            case rel => exact ⟨k2, _, rfl, rfl, by have := HK.out; omega, Lib.hid (by rw [swp_size]; exact HN.out), HS, Lib.hid HW.out.1, HW.out.2⟩
          | false =>
            rw [hm] at HM
            have HS : Hid (dk = R) := Lib.hid (by rw [HRE.out, if_neg (by rw [hm]; simp)])
            clear hm HRE
            go_wp2_with (fail)
            go_quiet ((go_at_call 52; exact Calls.quiet_of_same (HM.out _)))
            go_wp2_with (fail)
            refine bodyPost_ret (results_none rfl _ _ _) rfl ?_
            exact ⟨rfl, by rw [← HS.out]; exact UA.fr (S := Nothing) HV.out (Fr.drewN _ _ _) (fun h => h), F2.trans' (Fr.drewN _ _ _)⟩

        | false =>
          have HRE : Hid (R = if ltInt x y = true then Sort.siftDown ltInt hi first k1 (Sort.swp dk r0 c1) else dk) := Lib.hid (by rw [HRD.out, HX.out, HY.out, HZ.out, if_neg (by rw [hl]; simp)])
          rw [hl] at HL
          clear hl HRD hk
          go_wp2_with (fail)
          go_quiet ((go_at_call 52; exact Calls.quiet_of_same (HL.out _)))
          clear p2
          have HM := Lib.hid (less_u x y)
          obtain ⟨V, hV⟩ : ∃ V, V = wr.drewN nq := ⟨_, rfl⟩
          have FV : Fr Nothing wr V := by rw [hV]; exact Fr.drewN _ _ _
          have F2 : Fr (fun q => q = g) w V := by rw [hV]; exact F.trans' (Fr.drewN _ _ _)
          rw [← hV]
          have HV := Lib.hid (UA.fr (S := Nothing) H.out FV (fun h => h))
          clear H F FV hV p0 p1
          have p0 := HV.out.cell b0.out
          have p1 := HV.out.cell b1.out
          rw [HX.out] at p0
          rw [HY.out] at p1
          cases hm : ltInt x y with
          | true =>
            rw [hm] at HM
            have HS : Hid (Sort.siftDown ltInt hi first k1 (Sort.swp dk r0 c1) = R) := Lib.hid (by rw [HRE.out, if_pos hm])
            clear hm HRE
            go_wp2_with (fail)
            go_quiet ((go_at_call 52; exact Calls.quiet_of_same (HM.out _)))
            obtain ⟨U, hU⟩ : ∃ U, U = V.drewN nq := ⟨_, rfl⟩
            have FU : Fr Nothing V U := by rw [hU]; exact Fr.drewN _ _ _
            have F3 : Fr (fun q => q = g) w U := by rw [hU]; exact F2.trans' (Fr.drewN _ _ _)
            rw [← hU]
            have HU := Lib.hid (UA.fr (S := Nothing) HV.out FU (fun h => h))
            clear HV F2 FU hU p0 p1
            have p0 := HU.out.cell b0.out
            have p1 := HU.out.cell b1.out
            rw [HX.out] at p0
            rw [HY.out] at p1
            have fz : ∀ k, U.frozen? ⟨g, k, none⟩ = false := fun k => HU.out.free k
            obtain ⟨v0, f0⟩ := HU.out.after b0.out b1.out y
            have HW := Lib.hid (HU.out.swapped F3 b0.out b1.out HX.out HY.out)
            go_wp2_with (fail)
            go_region
            go_wp2_with (fail)
            go_roundg (hi - k1)
            case measure => have := HK.out; omega
            case rel => exact ⟨k1, _, rfl, rfl, by have := HK.out; omega, Lib.hid (by rw [swp_size]; exact HN.out), HS, Lib.hid HW.out.1, HW.out.2⟩
          | false =>
            rw [hm] at HM
            have HS : Hid (dk = R) := Lib.hid (by rw [HRE.out, if_neg (by rw [hm]; simp)])
            clear hm HRE
            go_wp2_with (fail)
            go_quiet ((go_at_call 52; exact Calls.quiet_of_same (HM.out _)))
            go_wp2_with (fail)
            refine bodyPost_ret (results_none rfl _ _ _) rfl ?_
            exact ⟨rfl, by rw [← HS.out]; exact UA.fr (S := Nothing) HV.out (Fr.drewN _ _ _) (fun h => h), F2.trans' (Fr.drewN _ _ _)⟩

      · have i3 : ¬ ((k2 : Int) < hi) := by omega
        have i5 : (k1 : Int) ≤ 1000 := by omega
        have i6 : IntKind.i64.wrap (k2 : Int) = (k2 : Int) := IntWalk.i64_in _ (by omega)
        have HRE : Hid (R = if ltInt x y = true then Sort.siftDown ltInt hi first k1 (Sort.swp dk r0 c1) else dk) := Lib.hid (by rw [HRD.out, HX.out, HY.out, if_neg (fun h => hk h.1)])
        clear HRD hk2 hc2
        go_wp2_with (fail)
        go_quiet (fail)
        have HM := Lib.hid (less_u x y)
        obtain ⟨V, hV⟩ : ∃ V, V = wr.drewN nq := ⟨_, rfl⟩
        have FV : Fr Nothing wr V := by rw [hV]; exact Fr.drewN _ _ _
        have F2 : Fr (fun q => q = g) w V := by rw [hV]; exact F.trans' (Fr.drewN _ _ _)
        rw [← hV]
        have HV := Lib.hid (UA.fr (S := Nothing) H.out FV (fun h => h))
        clear H F FV hV p0 p1
        have p0 := HV.out.cell b0.out
        have p1 := HV.out.cell b1.out
        rw [HX.out] at p0
        rw [HY.out] at p1
        cases hm : ltInt x y with
        | true =>
          rw [hm] at HM
          have HS : Hid (Sort.siftDown ltInt hi first k1 (Sort.swp dk r0 c1) = R) := Lib.hid (by rw [HRE.out, if_pos hm])
          clear hm HRE
          go_wp2_with (fail)
          go_quiet ((go_at_call 52; exact Calls.quiet_of_same (HM.out _)))
          obtain ⟨U, hU⟩ : ∃ U, U = V.drewN nq := ⟨_, rfl⟩
          have FU : Fr Nothing V U := by rw [hU]; exact Fr.drewN _ _ _
          have F3 : Fr (fun q => q = g) w U := by rw [hU]; exact F2.trans' (Fr.drewN _ _ _)
          rw [← hU]
          have HU := Lib.hid (UA.fr (S := Nothing) HV.out FU (fun h => h))
          clear HV F2 FU hU p0 p1
          have p0 := HU.out.cell b0.out
          have p1 := HU.out.cell b1.out
          rw [HX.out] at p0
          rw [HY.out] at p1
          have fz : ∀ k, U.frozen? ⟨g, k, none⟩ = false := fun k => HU.out.free k
          obtain ⟨v0, f0⟩ := HU.out.after b0.out b1.out y
          have HW := Lib.hid (HU.out.swapped F3 b0.out b1.out HX.out HY.out)
          go_wp2_with (fail)
          go_region
          go_wp2_with (fail)
          go_roundg (hi - k1)
          case measure => have := HK.out; omega
          case rel => exact ⟨k1, _, rfl, rfl, by have := HK.out; omega, Lib.hid (by rw [swp_size]; exact HN.out), HS, Lib.hid HW.out.1, HW.out.2⟩
        | false =>
          rw [hm] at HM
          have HS : Hid (dk = R) := Lib.hid (by rw [HRE.out, if_neg (by rw [hm]; simp)])
          clear hm HRE
          go_wp2_with (fail)
          go_quiet ((go_at_call 52; exact Calls.quiet_of_same (HM.out _)))
          go_wp2_with (fail)
          refine bodyPost_ret (results_none rfl _ _ _) rfl ?_
          exact ⟨rfl, by rw [← HS.out]; exact UA.fr (S := Nothing) HV.out (Fr.drewN _ _ _) (fun h => h), F2.trans' (Fr.drewN _ _ _)⟩

    · have hI : ¬ ((k1 : Int) < hi) := by omega
      have HS : Hid (dk = R) := Lib.hid (by rw [← HR.out, sift_end hlt])
      clear hk1
      go_wp2_with (fail)
      refine bodyPost_end (results_none rfl _ _ _) rfl ?_
      exact ⟨rfl, by rw [← HS.out]; exact H.out, F⟩
end Go.Proofs.Ytdgaiacigmcibaa.NS
