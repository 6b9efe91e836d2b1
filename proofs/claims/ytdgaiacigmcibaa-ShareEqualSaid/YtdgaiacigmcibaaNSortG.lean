/- The library's sort at int: the partition. Condition: the row lies in a block of its own. -/
import Derived.Test.YtdgaiacigmcibaaNSortF
namespace Go.Proofs.Ytdgaiacigmcibaa.NS
open Go.RowKit Go.Sort

/-- The partition, behind the swap that sets the pivot ahead. -/
def partFrom (d : Array Int) (a b : Nat) : Nat × Bool × Array Int :=
  let i := scanUp (fun x => ltInt x d[a]!) d b (a + 1)
  let j := scanDown (fun x => !ltInt x d[a]!) d i b
  if j < i then (j, true, Sort.swp d j a) else
    let r := partLoop ltInt a (i + 1) (j - 1) (Sort.swp d i j)
    (r.1, false, Sort.swp r.2 r.1 a)
theorem part_eq (d : Array Int) (a b : Nat) : partFrom d a b = if scanDown (fun x => !ltInt x d[a]!) d (scanUp (fun x => ltInt x d[a]!) d b (a + 1)) b < scanUp (fun x => ltInt x d[a]!) d b (a + 1) then (scanDown (fun x => !ltInt x d[a]!) d (scanUp (fun x => ltInt x d[a]!) d b (a + 1)) b, true, Sort.swp d (scanDown (fun x => !ltInt x d[a]!) d (scanUp (fun x => ltInt x d[a]!) d b (a + 1)) b) a) else
    ((partLoop ltInt a (scanUp (fun x => ltInt x d[a]!) d b (a + 1) + 1) (scanDown (fun x => !ltInt x d[a]!) d (scanUp (fun x => ltInt x d[a]!) d b (a + 1)) b - 1) (Sort.swp d (scanUp (fun x => ltInt x d[a]!) d b (a + 1)) (scanDown (fun x => !ltInt x d[a]!) d (scanUp (fun x => ltInt x d[a]!) d b (a + 1)) b))).1, false, Sort.swp (partLoop ltInt a (scanUp (fun x => ltInt x d[a]!) d b (a + 1) + 1) (scanDown (fun x => !ltInt x d[a]!) d (scanUp (fun x => ltInt x d[a]!) d b (a + 1)) b - 1) (Sort.swp d (scanUp (fun x => ltInt x d[a]!) d b (a + 1)) (scanDown (fun x => !ltInt x d[a]!) d (scanUp (fun x => ltInt x d[a]!) d b (a + 1)) b))).2 (partLoop ltInt a (scanUp (fun x => ltInt x d[a]!) d b (a + 1) + 1) (scanDown (fun x => !ltInt x d[a]!) d (scanUp (fun x => ltInt x d[a]!) d b (a + 1)) b - 1) (Sort.swp d (scanUp (fun x => ltInt x d[a]!) d b (a + 1)) (scanDown (fun x => !ltInt x d[a]!) d (scanUp (fun x => ltInt x d[a]!) d b (a + 1)) b))).1 a) := rfl
set_option maxHeartbeats 16000000 in
set_option maxRecDepth 100000 in
theorem u_part (g c : Nat) (rest : List Value) (d : Array Int) (a b pv : Nat) (w : World) (h : UA w g rest d) (hb : b ≤ d.size) (ha : a ≤ pv) (hp : pv < b) (hd : (d.size : Int) ≤ 1000) :
    Calls Try.prog 54 #[.slice (some ⟨g, 0, none⟩) d.size c, .int .i64 a, .int .i64 b, .int .i64 pv] w fun e w' => e = .returned (.tuple #[.int .i64 (Sort.partition ltInt d a b pv).1, .bool (Sort.partition ltInt d a b pv).2.1]) ∧ UA w' g rest (Sort.partition ltInt d a b pv).2.2 ∧ Fr (fun q => q = g) w w' := by
  obtain ⟨n, hn⟩ : ∃ n, n = d.size := ⟨_, rfl⟩
  obtain ⟨R, hR⟩ : ∃ R, R = Sort.partition ltInt d a b pv := ⟨_, rfl⟩
  obtain ⟨b, rfl⟩ : ∃ b', b = b' + 1 := ⟨b - 1, by omega⟩
  have HR0 : Hid (partFrom (Sort.swp d a pv) a b = R) := Lib.hid (by rw [hR]; rfl)
  have HN0 := Lib.hid hn.symm
  have H := Lib.hid h
  have F := Fr.refl (fun q => q = g) w
  rw [← hn] at hd hb ⊢
  rw [← hR]
  have bI : Hid (a < d.size) := Lib.hid (by rw [← hn]; omega)
  have bJ : Hid (pv < d.size) := Lib.hid (by rw [← hn]; omega)
  have aI : (a : Int) < n := by omega
  have pI : (pv : Int) < n := by omega
  have haI : (a : Int) ≤ 1000 := by omega
  have hab : a ≤ b := by omega
  clear hR h hn
  obtain ⟨x, hx⟩ : ∃ x, x = d[a]! := ⟨_, rfl⟩
  obtain ⟨y, hy⟩ : ∃ y, y = d[pv]! := ⟨_, rfl⟩
  have p0 := H.out.cell bI.out
  have p1 := H.out.cell bJ.out
  rw [← hx] at p0
  rw [← hy] at p1
  have HX := Lib.hid hx.symm
  have HY := Lib.hid hy.symm
  have fz : ∀ k, World.frozen? w ⟨g, k, none⟩ = false := fun k => H.out.free k
  obtain ⟨v0, f0⟩ := H.out.after bI.out bJ.out y
  have HW := Lib.hid (H.out.swapped F bI.out bJ.out HX.out HY.out)
  clear hx hy
  go_enter Try.func54, Try.ntmps54
  go_wp2_with (fail)
  go_region
  have H2 := Lib.hid HW.out.1
  have F2 := HW.out.2
  have HN2 : Hid ((Sort.swp d a pv).size = n) := Lib.hid (by rw [swp_size]; exact HN0.out)
  clear HW p0 p1 fz f0 H F HN0
  obtain ⟨dk, hdk⟩ : ∃ dk, dk = Sort.swp d a pv := ⟨_, rfl⟩
  rw [← hdk] at H2 HN2 HR0
  clear hdk HX HY bI bJ
  obtain ⟨w2, hw2⟩ : ∃ w2, w2 = ((w.setCell ⟨g, a, none⟩ (.int .i64 y)).setCell ⟨g, pv, none⟩ (.int .i64 x)).drew := ⟨_, rfl⟩
  rw [← hw2] at H2 F2 ⊢
  clear hw2
  have H := H2
  have F := F2
  have HN := HN2
  have HR := HR0
  clear H2 F2 HN2 HR0
  obtain ⟨P, hP⟩ : ∃ P : Int → Bool, P = fun z => ltInt z dk[a]! := ⟨_, rfl⟩
  obtain ⟨Q, hQ⟩ : ∃ Q : Int → Bool, Q = fun z => !ltInt z dk[a]! := ⟨_, rfl⟩
  obtain ⟨I2, hI2⟩ : ∃ I, I = Sort.scanUp P dk (b) ((a + 1)) := ⟨_, rfl⟩
  obtain ⟨J2, hJ2⟩ : ∃ J, J = Sort.scanDown Q dk I2 (b) := ⟨_, rfl⟩
  have hne : I2 ≠ J2 := by rw [hJ2, hI2, hP, hQ]; exact scans_ne (by simp) dk (by omega)
  have hE := part_eq dk a b
  rw [← hP, ← hQ, ← hI2, ← hJ2, HR.out] at hE
  have HE := Lib.hid hE
  have hI3 : (a + 1) ≤ I2 ∧ I2 ≤ b + 1 := by rw [hI2]; exact ⟨Sort.scanUp_ge _ _ _ _, (Sort.scanUp_spec P dk _ _ _ rfl).2.1 (by omega)⟩
  have hJ3 : J2 ≤ b ∧ I2 ≤ J2 + 1 := by rw [hJ2]; exact ⟨Sort.scanDown_le _ _ _ _, (Sort.scanDown_spec Q dk I2 _).2.1 (by omega)⟩
  have HI0 := Lib.hid hI2.symm
  have HJ0 := Lib.hid hJ2.symm
  have HP := Lib.hid hP
  have HQ := Lib.hid hQ
  clear hE hI2 hJ2 hP hQ HR
  go_wp2_with (fail)
  go_loopg [10] (b + 1 - ((a + 1))) (fun gg vi wr => ∃ (i' : Nat), gg = b + 1 - i' ∧ vi = .int .i64 i' ∧ (a + 1) ≤ i' ∧ i' ≤ b + 1 ∧ Hid (Sort.scanUp P dk (b) i' = I2) ∧ Hid (UA wr g rest dk) ∧ Fr (fun q => q = g) w wr)
  case atStart => exact ⟨(a + 1), rfl, by go_num, Nat.le_refl _, by omega, HI0, H, F⟩
  case round =>
    clear H F
    obtain ⟨i', rfl, rfl, h1, h2, HI, H, F⟩ := hrel
    by_cases hle : i' ≤ b
    · have hiI : (i' : Int) ≤ (b : Nat) := by omega
      have hin : (i' : Int) < n := by omega
      obtain ⟨u, hu⟩ : ∃ u, u = dk[a]! := ⟨_, rfl⟩
      obtain ⟨v, hv⟩ : ∃ v, v = dk[i']! := ⟨_, rfl⟩
      have pu := H.out.cell (i := a) (by rw [HN.out]; omega)
      have pv' := H.out.cell (i := i') (by rw [HN.out]; omega)
      rw [← hu] at pu
      rw [← hv] at pv'
      have HL := Lib.hid (less_u v u)
      cases hl : ltInt v u with
      | true =>
        rw [hl] at HL
        have HI' : Hid (Sort.scanUp P dk (b) (i' + 1) = I2) := Lib.hid (by rw [← HI.out, ← scanU_go hle (by rw [HP.out, ← hu, ← hv]; simp [hl])])
        clear hl hu hv HI
        go_wp2_with (fail)
        go_quiet ((go_at_call 52; exact Calls.quiet_of_same (HL.out _)))
        go_wp2_with (fail)
        go_roundg (b + 1 - (i' + 1))
        case measure => omega
        case rel => exact ⟨i' + 1, rfl, by go_num, by omega, by omega, HI', Lib.hid (UA.fr (S := Nothing) H.out (Fr.drewN _ _ _) (fun h => h)), F.trans' (Fr.drewN _ _ _)⟩
      | false =>
        rw [hl] at HL
        obtain rfl : I2 = i' := by rw [← HI.out, scanU_no (by rw [HP.out, ← hu, ← hv]; simp [hl])]
        clear hl hu hv HI
        go_wp2_with (fail)
        go_quiet ((go_at_call 52; exact Calls.quiet_of_same (HL.out _)))
        go_wp2_with (fail)
        go_loopg [11] (b) (fun gg vj wr => ∃ (j' : Nat), j' = gg ∧ vj = .int .i64 j' ∧ I2 ≤ j' + 1 ∧ j' ≤ b ∧ Hid (Sort.scanDown Q dk I2 j' = J2) ∧ Hid (UA wr g rest dk) ∧ Fr (fun q => q = g) w wr)
        case atStart => exact ⟨b, rfl, by go_num, by omega, Nat.le_refl _, HJ0, Lib.hid (UA.fr (S := Nothing) H.out (Fr.drewN _ _ _) (fun h => h)), F.trans' (Fr.drewN _ _ _)⟩
        case round =>
          clear H F
          obtain ⟨j', rfl, rfl, h3, h4, HJ, H, F⟩ := hrel
          by_cases hle2 : I2 ≤ j'
          · have hjI : (I2 : Int) ≤ j' := by omega
            have hjn : (j' : Int) < n := by omega
            have hj1 : (1 : Int) ≤ j' := by omega
            obtain ⟨u, hu⟩ : ∃ u, u = dk[a]! := ⟨_, rfl⟩
            obtain ⟨v, hv⟩ : ∃ v, v = dk[j']! := ⟨_, rfl⟩
            have pu := H.out.cell (i := a) (by rw [HN.out]; omega)
            have pv' := H.out.cell (i := j') (by rw [HN.out]; omega)
            rw [← hu] at pu
            rw [← hv] at pv'
            have HL := Lib.hid (less_u v u)
            cases hl : ltInt v u with
            | false =>
              rw [hl] at HL
              have HJ' : Hid (Sort.scanDown Q dk I2 (j' - 1) = J2) := Lib.hid (by rw [← HJ.out, scanD_go' (by omega) hle2 (by rw [HQ.out, ← hu, ← hv]; simp [hl])])
              clear hl hu hv HJ
              go_wp2_with (fail)
              go_quiet ((go_at_call 52; exact Calls.quiet_of_same (HL.out _)))
              go_wp2_with (fail)
              go_roundg (j' - 1)
              case measure => omega
              case rel => exact ⟨j' - 1, rfl, by rw [show ((j' - 1 : Nat) : Int) = (j' : Int) - 1 by omega], by omega, by omega, HJ', Lib.hid (UA.fr (S := Nothing) H.out (Fr.drewN _ _ _) (fun h => h)), F.trans' (Fr.drewN _ _ _)⟩
            | true =>
              rw [hl] at HL
              obtain rfl : J2 = j' := by rw [← HJ.out, scanD_no (by rw [HQ.out, ← hu, ← hv]; simp [hl])]
              clear hl hu hv HJ
              go_wp2_with (fail)
              go_quiet ((go_at_call 52; exact Calls.quiet_of_same (HL.out _)))
              obtain ⟨U, hU⟩ : ∃ U, U = wr.drewN nq := ⟨_, rfl⟩
              have F3 : Fr (fun q => q = g) w U := by rw [hU]; exact F.trans' (Fr.drewN _ _ _)
              have HU : Hid (UA U g rest dk) := Lib.hid (by rw [hU]; exact UA.fr (S := Nothing) H.out (Fr.drewN _ _ _) (fun h => h))
              rw [← hU]
              clear hU H F
              by_cases hgt : J2 < I2
              · have hRE : Hid (R = (J2, true, Sort.swp dk J2 a)) := Lib.hid (by rw [HE.out, if_pos hgt])
                have bI : Hid (J2 < dk.size) := Lib.hid (by rw [HN.out]; omega)
                have bJ : Hid (a < dk.size) := Lib.hid (by rw [HN.out]; omega)
                have kI : (J2 : Int) < n := by omega
                have kA : (a : Int) < n := by omega
                have hgI : (J2 : Int) < I2 := by omega
                obtain ⟨x, hx⟩ : ∃ x, x = dk[J2]! := ⟨_, rfl⟩
                obtain ⟨y, hy⟩ : ∃ y, y = dk[a]! := ⟨_, rfl⟩
                have p0 := HU.out.cell bI.out
                have p1 := HU.out.cell bJ.out
                rw [← hx] at p0
                rw [← hy] at p1
                have HX := Lib.hid hx.symm
                have HY := Lib.hid hy.symm
                have fz : ∀ k, World.frozen? U ⟨g, k, none⟩ = false := fun k => HU.out.free k
                obtain ⟨v0, f0⟩ := HU.out.after bI.out bJ.out y
                have HW := Lib.hid (HU.out.swapped F3 bI.out bJ.out HX.out HY.out)
                clear hx hy
                go_wp2_with (fail)
                go_region
                go_wp2_with (fail)
                all_goals (go_ret2; exact ⟨by rw [hRE.out]; rfl, by rw [hRE.out]; exact HW.out.1, HW.out.2⟩)
              · obtain ⟨R2, hR2⟩ : ∃ r, r = Sort.partLoop ltInt a (I2 + 1) (J2 - 1) (Sort.swp dk I2 J2) := ⟨_, rfl⟩
                have HR2 : Hid (R = (R2.1, false, Sort.swp R2.2 R2.1 a)) := Lib.hid (by rw [HE.out, if_neg hgt, hR2])
                have HR20 := Lib.hid hR2.symm
                clear hR2
                obtain ⟨J, rfl⟩ : ∃ J, J2 = J + 1 := ⟨J2 - 1, by omega⟩
                have hgI : ¬ ((J : Int) + 1 < I2) := by omega
                have bI : Hid (I2 < dk.size) := Lib.hid (by rw [HN.out]; omega)
                have bJ : Hid (J + 1 < dk.size) := Lib.hid (by rw [HN.out]; omega)
                have kI : (I2 : Int) < n := by omega
                have kJ : (J : Int) + 1 < n := by omega
                obtain ⟨x, hx⟩ : ∃ x, x = dk[I2]! := ⟨_, rfl⟩
                obtain ⟨y, hy⟩ : ∃ y, y = dk[(J + 1)]! := ⟨_, rfl⟩
                have p0 := HU.out.cell bI.out
                have p1 := HU.out.cell bJ.out
                rw [← hx] at p0
                rw [← hy] at p1
                have HX := Lib.hid hx.symm
                have HY := Lib.hid hy.symm
                have fz : ∀ k, World.frozen? U ⟨g, k, none⟩ = false := fun k => HU.out.free k
                obtain ⟨v0, f0⟩ := HU.out.after bI.out bJ.out y
                have HW := Lib.hid (HU.out.swapped F3 bI.out bJ.out HX.out HY.out)
                clear hx hy
                go_wp2_with (fail)
                go_region
                go_wp2_with (fail)
                have H2 := Lib.hid HW.out.1
                have F2 := HW.out.2
                have HN2 : Hid ((Sort.swp dk I2 (J + 1)).size = n) := Lib.hid (by rw [swp_size]; exact HN.out)
                clear HW p0 p1 fz f0 HU F3 HN HP HQ HI0 HJ0 HE
                go_loopg [10, 11] (J + 1 - (I2 + 1)) (fun gg vi vj wr => ∃ (i j : Nat) (dk : Array Int), gg = j + 1 - i ∧ vi = .int .i64 i ∧ vj = .int .i64 j ∧ a < i ∧ i ≤ j + 1 ∧ j ≤ b ∧ Hid (dk.size = n) ∧ Hid (Sort.partLoop ltInt a i j dk = R2) ∧ Hid (UA wr g rest dk) ∧ Fr (fun q => q = g) w wr)
                case atStart => exact ⟨I2 + 1, J, _, rfl, by go_num, by go_num, by omega, by omega, by omega, HN2, HR20, H2, F2⟩
                case round =>
                  clear H2 F2 HN2 HR20
                  obtain ⟨i, j, dk, rfl, rfl, rfl, hai, hij, hjb, HN, HR, H, F⟩ := hrel
                  obtain ⟨P, hP⟩ : ∃ P : Int → Bool, P = fun z => ltInt z dk[a]! := ⟨_, rfl⟩
                  obtain ⟨Q, hQ⟩ : ∃ Q : Int → Bool, Q = fun z => !ltInt z dk[a]! := ⟨_, rfl⟩
                  obtain ⟨I2, hI2⟩ : ∃ I, I = Sort.scanUp P dk (j) (i) := ⟨_, rfl⟩
                  obtain ⟨J2, hJ2⟩ : ∃ J, J = Sort.scanDown Q dk I2 (j) := ⟨_, rfl⟩
                  have hne : I2 ≠ J2 := by rw [hJ2, hI2, hP, hQ]; exact scans_ne (by simp) dk (by omega)
                  have hE := Sort.partLoop_eq ltInt a i j dk
                  rw [← hP, ← hQ, ← hI2, ← hJ2, HR.out] at hE
                  have HE := Lib.hid hE
                  have hI3 : i ≤ I2 ∧ I2 ≤ j + 1 := by rw [hI2]; exact ⟨Sort.scanUp_ge _ _ _ _, (Sort.scanUp_spec P dk _ _ _ rfl).2.1 (by omega)⟩
                  have hJ3 : J2 ≤ j ∧ I2 ≤ J2 + 1 := by rw [hJ2]; exact ⟨Sort.scanDown_le _ _ _ _, (Sort.scanDown_spec Q dk I2 _).2.1 (by omega)⟩
                  have HI0 := Lib.hid hI2.symm
                  have HJ0 := Lib.hid hJ2.symm
                  have HP := Lib.hid hP
                  have HQ := Lib.hid hQ
                  clear hE hI2 hJ2 hP hQ HR
                  go_wp2_with (fail)
                  go_loopg [10] (j + 1 - (i)) (fun gg vi wr => ∃ (i' : Nat), gg = j + 1 - i' ∧ vi = .int .i64 i' ∧ i ≤ i' ∧ i' ≤ j + 1 ∧ Hid (Sort.scanUp P dk (j) i' = I2) ∧ Hid (UA wr g rest dk) ∧ Fr (fun q => q = g) w wr)
                  case atStart => exact ⟨i, rfl, by go_num, Nat.le_refl _, by omega, HI0, H, F⟩
                  case round =>
                    clear H F
                    obtain ⟨i', rfl, rfl, h1, h2, HI, H, F⟩ := hrel
                    by_cases hle : i' ≤ j
                    · have hiI : (i' : Int) ≤ (j : Nat) := by omega
                      have hin : (i' : Int) < n := by omega
                      obtain ⟨u, hu⟩ : ∃ u, u = dk[a]! := ⟨_, rfl⟩
                      obtain ⟨v, hv⟩ : ∃ v, v = dk[i']! := ⟨_, rfl⟩
                      have pu := H.out.cell (i := a) (by rw [HN.out]; omega)
                      have pv' := H.out.cell (i := i') (by rw [HN.out]; omega)
                      rw [← hu] at pu
                      rw [← hv] at pv'
                      have HL := Lib.hid (less_u v u)
                      cases hl : ltInt v u with
                      | true =>
                        rw [hl] at HL
                        have HI' : Hid (Sort.scanUp P dk (j) (i' + 1) = I2) := Lib.hid (by rw [← HI.out, ← scanU_go hle (by rw [HP.out, ← hu, ← hv]; simp [hl])])
                        clear hl hu hv HI
                        go_wp2_with (fail)
                        go_quiet ((go_at_call 52; exact Calls.quiet_of_same (HL.out _)))
                        go_wp2_with (fail)
                        go_roundg (j + 1 - (i' + 1))
                        case measure => omega
                        case rel => exact ⟨i' + 1, rfl, by go_num, by omega, by omega, HI', Lib.hid (UA.fr (S := Nothing) H.out (Fr.drewN _ _ _) (fun h => h)), F.trans' (Fr.drewN _ _ _)⟩
                      | false =>
                        rw [hl] at HL
                        obtain rfl : I2 = i' := by rw [← HI.out, scanU_no (by rw [HP.out, ← hu, ← hv]; simp [hl])]
                        clear hl hu hv HI
                        go_wp2_with (fail)
                        go_quiet ((go_at_call 52; exact Calls.quiet_of_same (HL.out _)))
                        go_wp2_with (fail)
                        go_loopg [11] (j) (fun gg vj wr => ∃ (j' : Nat), j' = gg ∧ vj = .int .i64 j' ∧ I2 ≤ j' + 1 ∧ j' ≤ j ∧ Hid (Sort.scanDown Q dk I2 j' = J2) ∧ Hid (UA wr g rest dk) ∧ Fr (fun q => q = g) w wr)
                        case atStart => exact ⟨j, rfl, by go_num, by omega, Nat.le_refl _, HJ0, Lib.hid (UA.fr (S := Nothing) H.out (Fr.drewN _ _ _) (fun h => h)), F.trans' (Fr.drewN _ _ _)⟩
                        case round =>
                          clear H F
                          obtain ⟨j', rfl, rfl, h3, h4, HJ, H, F⟩ := hrel
                          by_cases hle2 : I2 ≤ j'
                          · have hjI : (I2 : Int) ≤ j' := by omega
                            have hjn : (j' : Int) < n := by omega
                            have hj1 : (1 : Int) ≤ j' := by omega
                            obtain ⟨u, hu⟩ : ∃ u, u = dk[a]! := ⟨_, rfl⟩
                            obtain ⟨v, hv⟩ : ∃ v, v = dk[j']! := ⟨_, rfl⟩
                            have pu := H.out.cell (i := a) (by rw [HN.out]; omega)
                            have pv' := H.out.cell (i := j') (by rw [HN.out]; omega)
                            rw [← hu] at pu
                            rw [← hv] at pv'
                            have HL := Lib.hid (less_u v u)
                            cases hl : ltInt v u with
                            | false =>
                              rw [hl] at HL
                              have HJ' : Hid (Sort.scanDown Q dk I2 (j' - 1) = J2) := Lib.hid (by rw [← HJ.out, scanD_go' (by omega) hle2 (by rw [HQ.out, ← hu, ← hv]; simp [hl])])
                              clear hl hu hv HJ
                              go_wp2_with (fail)
                              go_quiet ((go_at_call 52; exact Calls.quiet_of_same (HL.out _)))
                              go_wp2_with (fail)
                              go_roundg (j' - 1)
                              case measure => omega
                              case rel => exact ⟨j' - 1, rfl, by rw [show ((j' - 1 : Nat) : Int) = (j' : Int) - 1 by omega], by omega, by omega, HJ', Lib.hid (UA.fr (S := Nothing) H.out (Fr.drewN _ _ _) (fun h => h)), F.trans' (Fr.drewN _ _ _)⟩
                            | true =>
                              rw [hl] at HL
                              obtain rfl : J2 = j' := by rw [← HJ.out, scanD_no (by rw [HQ.out, ← hu, ← hv]; simp [hl])]
                              clear hl hu hv HJ
                              go_wp2_with (fail)
                              go_quiet ((go_at_call 52; exact Calls.quiet_of_same (HL.out _)))
                              obtain ⟨U, hU⟩ : ∃ U, U = wr.drewN nq := ⟨_, rfl⟩
                              have F3 : Fr (fun q => q = g) w U := by rw [hU]; exact F.trans' (Fr.drewN _ _ _)
                              have HU : Hid (UA U g rest dk) := Lib.hid (by rw [hU]; exact UA.fr (S := Nothing) H.out (Fr.drewN _ _ _) (fun h => h))
                              rw [← hU]
                              clear hU H F
                              by_cases hgt : J2 < I2
                              · have hRE : Hid (R = (J2, false, Sort.swp dk J2 a)) := Lib.hid (by rw [HR2.out, show R2 = (J2, dk) by rw [HE.out, if_pos hgt]])
                                have bI : Hid (J2 < dk.size) := Lib.hid (by rw [HN.out]; omega)
                                have bJ : Hid (a < dk.size) := Lib.hid (by rw [HN.out]; omega)
                                have kI : (J2 : Int) < n := by omega
                                have kA : (a : Int) < n := by omega
                                have hgI : (J2 : Int) < I2 := by omega
                                obtain ⟨x, hx⟩ : ∃ x, x = dk[J2]! := ⟨_, rfl⟩
                                obtain ⟨y, hy⟩ : ∃ y, y = dk[a]! := ⟨_, rfl⟩
                                have p0 := HU.out.cell bI.out
                                have p1 := HU.out.cell bJ.out
                                rw [← hx] at p0
                                rw [← hy] at p1
                                have HX := Lib.hid hx.symm
                                have HY := Lib.hid hy.symm
                                have fz : ∀ k, World.frozen? U ⟨g, k, none⟩ = false := fun k => HU.out.free k
                                obtain ⟨v0, f0⟩ := HU.out.after bI.out bJ.out y
                                have HW := Lib.hid (HU.out.swapped F3 bI.out bJ.out HX.out HY.out)
                                clear hx hy
                                go_wp2_with (fail)
                                go_region
                                go_wp2_with (fail)
                                all_goals (go_ret2; exact ⟨by rw [hRE.out]; rfl, by rw [hRE.out]; exact HW.out.1, HW.out.2⟩)
                              · have hRE : Hid (Sort.partLoop ltInt a (I2 + 1) (J2 - 1) (Sort.swp dk I2 J2) = R2) := Lib.hid (by rw [HE.out, if_neg hgt])
                                obtain ⟨J, rfl⟩ : ∃ J, J2 = J + 1 := ⟨J2 - 1, by omega⟩
                                have hgI : ¬ ((J : Int) + 1 < I2) := by omega
                                have bI : Hid (I2 < dk.size) := Lib.hid (by rw [HN.out]; omega)
                                have bJ : Hid (J + 1 < dk.size) := Lib.hid (by rw [HN.out]; omega)
                                have kI : (I2 : Int) < n := by omega
                                have kJ : (J : Int) + 1 < n := by omega
                                obtain ⟨x, hx⟩ : ∃ x, x = dk[I2]! := ⟨_, rfl⟩
                                obtain ⟨y, hy⟩ : ∃ y, y = dk[(J + 1)]! := ⟨_, rfl⟩
                                have p0 := HU.out.cell bI.out
                                have p1 := HU.out.cell bJ.out
                                rw [← hx] at p0
                                rw [← hy] at p1
                                have HX := Lib.hid hx.symm
                                have HY := Lib.hid hy.symm
                                have fz : ∀ k, World.frozen? U ⟨g, k, none⟩ = false := fun k => HU.out.free k
                                obtain ⟨v0, f0⟩ := HU.out.after bI.out bJ.out y
                                have HW := Lib.hid (HU.out.swapped F3 bI.out bJ.out HX.out HY.out)
                                clear hx hy
                                go_wp2_with (fail)
                                go_region
                                go_wp2_with (fail)
                                go_roundg (J + 1 - (I2 + 1))
                                case measure => omega
                                case rel => exact ⟨I2 + 1, J, _, rfl, by go_num, by go_num, by omega, by omega, by omega, Lib.hid (by rw [swp_size]; exact HN.out), hRE, Lib.hid HW.out.1, HW.out.2⟩
                          · have hjI : ¬ ((I2 : Int) ≤ j') := by omega
                            obtain rfl : J2 = j' := by rw [← HJ.out, scanD_out hle2]
                            clear HJ
                            go_wp2_with (fail)
                            go_quiet (fail)
                            obtain ⟨U, hU⟩ : ∃ U, U = wr.drewN nq := ⟨_, rfl⟩
                            have F3 : Fr (fun q => q = g) w U := by rw [hU]; exact F.trans' (Fr.drewN _ _ _)
                            have HU : Hid (UA U g rest dk) := Lib.hid (by rw [hU]; exact UA.fr (S := Nothing) H.out (Fr.drewN _ _ _) (fun h => h))
                            rw [← hU]
                            clear hU H F
                            have hgt : J2 < I2 := by omega
                            have hRE : Hid (R = (J2, false, Sort.swp dk J2 a)) := Lib.hid (by rw [HR2.out, show R2 = (J2, dk) by rw [HE.out, if_pos hgt]])
                            have bI : Hid (J2 < dk.size) := Lib.hid (by rw [HN.out]; omega)
                            have bJ : Hid (a < dk.size) := Lib.hid (by rw [HN.out]; omega)
                            have kI : (J2 : Int) < n := by omega
                            have kA : (a : Int) < n := by omega
                            have hgI : (J2 : Int) < I2 := by omega
                            obtain ⟨x, hx⟩ : ∃ x, x = dk[J2]! := ⟨_, rfl⟩
                            obtain ⟨y, hy⟩ : ∃ y, y = dk[a]! := ⟨_, rfl⟩
                            have p0 := HU.out.cell bI.out
                            have p1 := HU.out.cell bJ.out
                            rw [← hx] at p0
                            rw [← hy] at p1
                            have HX := Lib.hid hx.symm
                            have HY := Lib.hid hy.symm
                            have fz : ∀ k, World.frozen? U ⟨g, k, none⟩ = false := fun k => HU.out.free k
                            obtain ⟨v0, f0⟩ := HU.out.after bI.out bJ.out y
                            have HW := Lib.hid (HU.out.swapped F3 bI.out bJ.out HX.out HY.out)
                            clear hx hy
                            go_wp2_with (fail)
                            go_region
                            go_wp2_with (fail)
                            all_goals (go_ret2; exact ⟨by rw [hRE.out]; rfl, by rw [hRE.out]; exact HW.out.1, HW.out.2⟩)
                    · have hiI : ¬ ((i' : Int) ≤ (j : Nat)) := by omega
                      obtain rfl : I2 = i' := by rw [← HI.out, scanU_out hle]
                      clear HI
                      go_wp2_with (fail)
                      go_quiet (fail)
                      obtain ⟨U, hU⟩ : ∃ U, U = wr.drewN nq := ⟨_, rfl⟩
                      have F4 : Fr (fun q => q = g) w U := by rw [hU]; exact F.trans' (Fr.drewN _ _ _)
                      have H4 : Hid (UA U g rest dk) := Lib.hid (by rw [hU]; exact UA.fr (S := Nothing) H.out (Fr.drewN _ _ _) (fun h => h))
                      rw [← hU]
                      clear hU H F
                      obtain ⟨hJe, hIj⟩ : J2 = j ∧ ¬ (I2 : Int) ≤ (J2 : Nat) := ⟨by rw [← HJ0.out, scanD_out hle], by omega⟩
                      clear HJ0
                      go_wp2_with (fail)
                      go_loopg [11] 0 (fun gg vj wr => vj = .int .i64 J2 ∧ wr = U)
                      case atStart => exact ⟨by rw [hJe], rfl⟩
                      case round =>
                        clear hJe
                        obtain ⟨rfl, rfl⟩ := hrel
                        have hjI : ¬ ((I2 : Int) ≤ J2) := by omega
                        have hle2 : ¬ I2 ≤ J2 := by omega
                        clear hIj
                        go_wp2_with (fail)
                        go_quiet (fail)
                        obtain ⟨V, hV⟩ : ∃ V, V = wr.drewN nq := ⟨_, rfl⟩
                        have F3 : Fr (fun q => q = g) w V := by rw [hV]; exact F4.trans' (Fr.drewN _ _ _)
                        have HU : Hid (UA V g rest dk) := Lib.hid (by rw [hV]; exact UA.fr (S := Nothing) H4.out (Fr.drewN _ _ _) (fun h => h))
                        rw [← hV]
                        clear hV H4 F4
                        have hgt : J2 < I2 := by omega
                        have hRE : Hid (R = (J2, false, Sort.swp dk J2 a)) := Lib.hid (by rw [HR2.out, show R2 = (J2, dk) by rw [HE.out, if_pos hgt]])
                        have bI : Hid (J2 < dk.size) := Lib.hid (by rw [HN.out]; omega)
                        have bJ : Hid (a < dk.size) := Lib.hid (by rw [HN.out]; omega)
                        have kI : (J2 : Int) < n := by omega
                        have kA : (a : Int) < n := by omega
                        have hgI : (J2 : Int) < I2 := by omega
                        obtain ⟨x, hx⟩ : ∃ x, x = dk[J2]! := ⟨_, rfl⟩
                        obtain ⟨y, hy⟩ : ∃ y, y = dk[a]! := ⟨_, rfl⟩
                        have p0 := HU.out.cell bI.out
                        have p1 := HU.out.cell bJ.out
                        rw [← hx] at p0
                        rw [← hy] at p1
                        have HX := Lib.hid hx.symm
                        have HY := Lib.hid hy.symm
                        have fz : ∀ k, World.frozen? V ⟨g, k, none⟩ = false := fun k => HU.out.free k
                        obtain ⟨v0, f0⟩ := HU.out.after bI.out bJ.out y
                        have HW := Lib.hid (HU.out.swapped F3 bI.out bJ.out HX.out HY.out)
                        clear hx hy
                        go_wp2_with (fail)
                        go_region
                        go_wp2_with (fail)
                        all_goals (go_ret2; exact ⟨by rw [hRE.out]; rfl, by rw [hRE.out]; exact HW.out.1, HW.out.2⟩)
          · have hjI : ¬ ((I2 : Int) ≤ j') := by omega
            obtain rfl : J2 = j' := by rw [← HJ.out, scanD_out hle2]
            clear HJ
            go_wp2_with (fail)
            go_quiet (fail)
            obtain ⟨U, hU⟩ : ∃ U, U = wr.drewN nq := ⟨_, rfl⟩
            have F3 : Fr (fun q => q = g) w U := by rw [hU]; exact F.trans' (Fr.drewN _ _ _)
            have HU : Hid (UA U g rest dk) := Lib.hid (by rw [hU]; exact UA.fr (S := Nothing) H.out (Fr.drewN _ _ _) (fun h => h))
            rw [← hU]
            clear hU H F
            have hgt : J2 < I2 := by omega
            have hRE : Hid (R = (J2, true, Sort.swp dk J2 a)) := Lib.hid (by rw [HE.out, if_pos hgt])
            have bI : Hid (J2 < dk.size) := Lib.hid (by rw [HN.out]; omega)
            have bJ : Hid (a < dk.size) := Lib.hid (by rw [HN.out]; omega)
            have kI : (J2 : Int) < n := by omega
            have kA : (a : Int) < n := by omega
            have hgI : (J2 : Int) < I2 := by omega
            obtain ⟨x, hx⟩ : ∃ x, x = dk[J2]! := ⟨_, rfl⟩
            obtain ⟨y, hy⟩ : ∃ y, y = dk[a]! := ⟨_, rfl⟩
            have p0 := HU.out.cell bI.out
            have p1 := HU.out.cell bJ.out
            rw [← hx] at p0
            rw [← hy] at p1
            have HX := Lib.hid hx.symm
            have HY := Lib.hid hy.symm
            have fz : ∀ k, World.frozen? U ⟨g, k, none⟩ = false := fun k => HU.out.free k
            obtain ⟨v0, f0⟩ := HU.out.after bI.out bJ.out y
            have HW := Lib.hid (HU.out.swapped F3 bI.out bJ.out HX.out HY.out)
            clear hx hy
            go_wp2_with (fail)
            go_region
            go_wp2_with (fail)
            all_goals (go_ret2; exact ⟨by rw [hRE.out]; rfl, by rw [hRE.out]; exact HW.out.1, HW.out.2⟩)
    · have hiI : ¬ ((i' : Int) ≤ (b : Nat)) := by omega
      obtain rfl : I2 = i' := by rw [← HI.out, scanU_out hle]
      clear HI
      go_wp2_with (fail)
      go_quiet (fail)
      obtain ⟨U, hU⟩ : ∃ U, U = wr.drewN nq := ⟨_, rfl⟩
      have F4 : Fr (fun q => q = g) w U := by rw [hU]; exact F.trans' (Fr.drewN _ _ _)
      have H4 : Hid (UA U g rest dk) := Lib.hid (by rw [hU]; exact UA.fr (S := Nothing) H.out (Fr.drewN _ _ _) (fun h => h))
      rw [← hU]
      clear hU H F
      obtain ⟨hJe, hIj⟩ : J2 = b ∧ ¬ (I2 : Int) ≤ (J2 : Nat) := ⟨by rw [← HJ0.out, scanD_out hle], by omega⟩
      clear HJ0
      go_wp2_with (fail)
      go_loopg [11] 0 (fun gg vj wr => vj = .int .i64 J2 ∧ wr = U)
      case atStart => exact ⟨by rw [hJe], rfl⟩
      case round =>
        clear hJe
        obtain ⟨rfl, rfl⟩ := hrel
        have hjI : ¬ ((I2 : Int) ≤ J2) := by omega
        have hle2 : ¬ I2 ≤ J2 := by omega
        clear hIj
        go_wp2_with (fail)
        go_quiet (fail)
        obtain ⟨V, hV⟩ : ∃ V, V = wr.drewN nq := ⟨_, rfl⟩
        have F3 : Fr (fun q => q = g) w V := by rw [hV]; exact F4.trans' (Fr.drewN _ _ _)
        have HU : Hid (UA V g rest dk) := Lib.hid (by rw [hV]; exact UA.fr (S := Nothing) H4.out (Fr.drewN _ _ _) (fun h => h))
        rw [← hV]
        clear hV H4 F4
        have hgt : J2 < I2 := by omega
        have hRE : Hid (R = (J2, true, Sort.swp dk J2 a)) := Lib.hid (by rw [HE.out, if_pos hgt])
        have bI : Hid (J2 < dk.size) := Lib.hid (by rw [HN.out]; omega)
        have bJ : Hid (a < dk.size) := Lib.hid (by rw [HN.out]; omega)
        have kI : (J2 : Int) < n := by omega
        have kA : (a : Int) < n := by omega
        have hgI : (J2 : Int) < I2 := by omega
        obtain ⟨x, hx⟩ : ∃ x, x = dk[J2]! := ⟨_, rfl⟩
        obtain ⟨y, hy⟩ : ∃ y, y = dk[a]! := ⟨_, rfl⟩
        have p0 := HU.out.cell bI.out
        have p1 := HU.out.cell bJ.out
        rw [← hx] at p0
        rw [← hy] at p1
        have HX := Lib.hid hx.symm
        have HY := Lib.hid hy.symm
        have fz : ∀ k, World.frozen? V ⟨g, k, none⟩ = false := fun k => HU.out.free k
        obtain ⟨v0, f0⟩ := HU.out.after bI.out bJ.out y
        have HW := Lib.hid (HU.out.swapped F3 bI.out bJ.out HX.out HY.out)
        clear hx hy
        go_wp2_with (fail)
        go_region
        go_wp2_with (fail)
        all_goals (go_ret2; exact ⟨by rw [hRE.out]; rfl, by rw [hRE.out]; exact HW.out.1, HW.out.2⟩)
end Go.Proofs.Ytdgaiacigmcibaa.NS
