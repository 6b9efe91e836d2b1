/- The library's sort at int: the insertion sort that gives up. Condition: the row lies in a block of its own. -/
import Derived.Test.YtdgaiacigmcibaaNSortG
namespace Go.Proofs.Ytdgaiacigmcibaa.NS
open Go.RowKit Go.Sort

section
variable {d : Array Int} {b i j : Nat}
theorem scS_go (h : i < b) (hl : ltInt d[i]! d[i - 1]! = false) : scanSorted ltInt d b i = scanSorted ltInt d b (i + 1) := by rw [scanSorted, if_pos (by simp [h, hl])]
theorem scS_no (hl : ltInt d[i]! d[i - 1]! = true) : scanSorted ltInt d b i = i := by rw [scanSorted, if_neg (by simp [hl])]
theorem scS_out (h : ¬ i < b) : scanSorted ltInt d b i = i := by rw [scanSorted, if_neg (by simp [h])]
theorem shD_no (hl : ltInt d[j + 1]! d[j]! = false) : shiftDown ltInt (j + 1) d = d := by rw [shiftDown, if_pos (by simp [hl])]
theorem shD_go (hl : ltInt d[j + 1]! d[j]! = true) : shiftDown ltInt (j + 1) d = shiftDown ltInt j (Sort.swp d (j + 1) j) := by rw [shiftDown, if_neg (by simp [hl])]
theorem shU_no (h : j < b) (hl : ltInt d[j]! d[j - 1]! = false) : shiftUp ltInt b j d = d := by rw [shiftUp, if_pos h, if_pos (by simp [hl])]
theorem shU_go (h : j < b) (hl : ltInt d[j]! d[j - 1]! = true) : shiftUp ltInt b j d = shiftUp ltInt b (j + 1) (Sort.swp d j (j - 1)) := by rw [shiftUp, if_pos h, if_neg (by simp [hl])]
theorem shU_out (h : ¬ j < b) : shiftUp ltInt b j d = d := by rw [shiftUp, if_neg h]
end
theorem pins_step (a b s i : Nat) (dk : Array Int) : (if scanSorted ltInt dk b i = b then (dk, true) else if b - a < 50 then (dk, false) else
    partialIns ltInt a b s (scanSorted ltInt dk b i) (if b - scanSorted ltInt dk b i ≥ 2 then shiftUp ltInt b (scanSorted ltInt dk b i + 1) (if scanSorted ltInt dk b i - a ≥ 2 then shiftDown ltInt (scanSorted ltInt dk b i - 1) (Sort.swp dk (scanSorted ltInt dk b i) (scanSorted ltInt dk b i - 1)) else Sort.swp dk (scanSorted ltInt dk b i) (scanSorted ltInt dk b i - 1)) else (if scanSorted ltInt dk b i - a ≥ 2 then shiftDown ltInt (scanSorted ltInt dk b i - 1) (Sort.swp dk (scanSorted ltInt dk b i) (scanSorted ltInt dk b i - 1)) else Sort.swp dk (scanSorted ltInt dk b i) (scanSorted ltInt dk b i - 1)))) = partialIns ltInt a b (s + 1) i dk := rfl
set_option maxHeartbeats 16000000 in
set_option maxRecDepth 100000 in
theorem u_partial (g c : Nat) (rest : List Value) (d : Array Int) (a b : Nat) (w : World) (h : UA w g rest d) (hb : b ≤ d.size) (ha : a < b) (hd : (d.size : Int) ≤ 1000) :
    Calls Try.prog 51 #[.slice (some ⟨g, 0, none⟩) d.size c, .int .i64 a, .int .i64 b] w fun e w' => e = .returned (.bool (Sort.partialInsertionSort ltInt d a b).2) ∧ UA w' g rest (Sort.partialInsertionSort ltInt d a b).1 ∧ Fr (fun q => q = g) w w' := by
  obtain ⟨n, hn⟩ : ∃ n, n = d.size := ⟨_, rfl⟩
  obtain ⟨R, hR⟩ : ∃ R, R = Sort.partialInsertionSort ltInt d a b := ⟨_, rfl⟩
  have HR0 : Hid (partialIns ltInt a b (5 - 0) (a + 1) d = R) := Lib.hid (by rw [hR]; rfl)
  have HN0 := Lib.hid hn.symm
  have H0 := Lib.hid h
  rw [← hn] at hd hb ⊢
  rw [← hR]
  have hbI : (b : Int) ≤ 1000 := by omega
  have haI : (a : Int) ≤ 1000 := by omega
  clear hR h hn
  go_enter Try.func51, Try.ntmps51
  go_wp2_with (fail)
  go_loopg [7, 8] 5 (fun gg vi vs wr => ∃ (st i : Nat) (dk : Array Int), gg = 5 - st ∧ vi = .int .i64 i ∧ vs = .int .i64 st ∧ st ≤ 5 ∧ a + 1 ≤ i ∧ i ≤ b ∧ Hid (dk.size = n) ∧ Hid (partialIns ltInt a b (5 - st) i dk = R) ∧ Hid (UA wr g rest dk) ∧ Fr (fun q => q = g) w wr)
  case atStart => exact ⟨0, a + 1, d, rfl, by go_num, rfl, by omega, Nat.le_refl _, by omega, HN0, HR0, H0, Fr.refl _ _⟩
  case round =>
    clear HN0 HR0 H0
    obtain ⟨st, i, dk, rfl, rfl, rfl, hst, hai, hib, HN, HR, H, F⟩ := hrel
    by_cases hs5 : st < 5
    · have hs5I : (st : Int) < 5 := by omega
      obtain ⟨I2, hI2⟩ : ∃ I, I = scanSorted ltInt dk b i := ⟨_, rfl⟩
      have hS := pins_step a b (5 - (st + 1)) i dk
      rw [← hI2, show 5 - (st + 1) + 1 = 5 - st by omega, HR.out] at hS
      have HS := Lib.hid hS
      have HI0 := Lib.hid hI2.symm
      clear hS hI2 HR
      go_wp2_with (fail)
      go_loopg [7] (b - i) (fun gg vi wr => ∃ (i' : Nat), gg = b - i' ∧ vi = .int .i64 i' ∧ a + 1 ≤ i' ∧ i' ≤ b ∧ Hid (scanSorted ltInt dk b i' = I2) ∧ Hid (UA wr g rest dk) ∧ Fr (fun q => q = g) w wr)
      case atStart => exact ⟨i, rfl, rfl, hai, hib, HI0, H, F⟩
      case round =>
        clear H F HI0
        obtain ⟨i', rfl, rfl, h1, h2, HI, H, F⟩ := hrel
        by_cases hlt : i' < b
        · obtain ⟨m, rfl⟩ : ∃ m, i' = m + 1 := ⟨i' - 1, by omega⟩
          have hltI : (m : Int) + 1 < b := by omega
          have kI : (m : Int) + 1 < n := by omega
          have bI : Hid (m + 1 < dk.size) := Lib.hid (by rw [HN.out]; omega)
          have bJ : Hid (m < dk.size) := Lib.hid (by rw [HN.out]; omega)
          obtain ⟨u, hu⟩ : ∃ u, u = dk[m + 1]! := ⟨_, rfl⟩
          obtain ⟨v, hv⟩ : ∃ v, v = dk[m]! := ⟨_, rfl⟩
          have pu := H.out.cell bI.out
          have pv := H.out.cell bJ.out
          rw [← hu] at pu
          rw [← hv] at pv
          have HL := Lib.hid (less_u u v)
          cases hl : ltInt u v with
          | false =>
            rw [hl] at HL
            have HI' : Hid (scanSorted ltInt dk b (m + 1 + 1) = I2) := Lib.hid (by rw [← HI.out, ← scS_go hlt (by simp only [Nat.add_sub_cancel]; rw [← hu, ← hv]; exact hl)])
            clear hl hu hv HI
            go_wp2_with (fail)
            go_quiet ((go_at_call 52; exact Calls.quiet_of_same (HL.out _)))
            go_wp2_with (fail)
            go_roundg (b - (m + 1 + 1))
            case measure => omega
            case rel => exact ⟨m + 1 + 1, rfl, by go_num, by omega, by omega, HI', Lib.hid (UA.fr (S := Nothing) H.out (Fr.drewN _ _ _) (fun h => h)), F.trans' (Fr.drewN _ _ _)⟩
          | true =>
            rw [hl] at HL
            obtain rfl : I2 = m + 1 := by rw [← HI.out, scS_no (by simp only [Nat.add_sub_cancel]; rw [← hu, ← hv]; exact hl)]
            clear hl hu hv HI
            go_wp2_with (fail)
            go_quiet ((go_at_call 52; exact Calls.quiet_of_same (HL.out _)))
            obtain ⟨U, hU⟩ : ∃ U, U = wr.drewN nq := ⟨_, rfl⟩
            have FU : Fr (fun q => q = g) w U := by rw [hU]; exact F.trans' (Fr.drewN _ _ _)
            have HU : Hid (UA U g rest dk) := Lib.hid (by rw [hU]; exact UA.fr (S := Nothing) H.out (Fr.drewN _ _ _) (fun h => h))
            rw [← hU]
            clear hU H F
            clear pu pv bI bJ
            by_cases hIb : m + 1 = b
            · have hRE : Hid (R = (dk, true)) := Lib.hid (by rw [← HS.out, if_pos hIb])
              have hIbI : ((m : Int) + 1) = b := by omega
              go_wp2_with (fail)
              go_ret
              exact ⟨by rw [hRE.out]; rfl, by rw [hRE.out]; exact HU.out, FU⟩
            · have hIbI : ¬ (((m : Int) + 1) = b) := by omega
              by_cases h50 : b - a < 50
              · have hRE : Hid (R = (dk, false)) := Lib.hid (by rw [← HS.out, if_neg hIb, if_pos h50])
                have h50I : (b : Int) - a < 50 := by omega
                go_wp2_with (fail)
                go_ret
                exact ⟨by rw [hRE.out]; rfl, by rw [hRE.out]; exact HU.out, FU⟩
              · have h50I : ¬ ((b : Int) - a < 50) := by omega
                obtain ⟨dq, hdq⟩ : ∃ q, q = Sort.swp dk (m + 1) m := ⟨_, rfl⟩
                have HE : Hid (Sort.partialIns ltInt a b (5 - (st + 1)) (m + 1) (if b - (m + 1) ≥ 2 then Sort.shiftUp ltInt b (m + 1 + 1) (if m + 1 - a ≥ 2 then Sort.shiftDown ltInt m dq else dq) else (if m + 1 - a ≥ 2 then Sort.shiftDown ltInt m dq else dq)) = R) := Lib.hid (by rw [← HS.out, if_neg hIb, if_neg h50, hdq]; rfl)
                have HN1 : Hid (dq.size = n) := Lib.hid (by rw [hdq, swp_size]; exact HN.out)
                have bI : Hid (m + 1 < dk.size) := Lib.hid (by rw [HN.out]; omega)
                have bJ : Hid (m < dk.size) := Lib.hid (by rw [HN.out]; omega)
                have kI : (m : Int) + 1 < n := by omega
                obtain ⟨x, hx⟩ : ∃ x, x = dk[(m + 1)]! := ⟨_, rfl⟩
                obtain ⟨y, hy⟩ : ∃ y, y = dk[m]! := ⟨_, rfl⟩
                have p0 := HU.out.cell bI.out
                have p1 := HU.out.cell bJ.out
                rw [← hx] at p0
                rw [← hy] at p1
                have HX := Lib.hid hx.symm
                have HY := Lib.hid hy.symm
                have fz : ∀ k, World.frozen? U ⟨g, k, none⟩ = false := fun k => HU.out.free k
                obtain ⟨v0, f0⟩ := HU.out.after bI.out bJ.out y
                have HW := Lib.hid (HU.out.swapped FU bI.out bJ.out HX.out HY.out)
                clear hx hy
                go_wp2_with (fail)
                go_region
                have H1 := Lib.hid HW.out.1
                have F1 := HW.out.2
                rw [← hdq] at H1
                obtain ⟨U1, hU1⟩ : ∃ U1, U1 = ((U.setCell ⟨g, m + 1, none⟩ (.int .i64 y)).setCell ⟨g, m, none⟩ (.int .i64 x)).drew := ⟨_, rfl⟩
                rw [← hU1] at H1 F1 ⊢
                clear hU1 HW p0 p1 fz f0 HU FU HN HX HY hdq bI bJ HS
                obtain ⟨R3, hR3⟩ : ∃ r, r = if m + 1 - a ≥ 2 then Sort.shiftDown ltInt m dq else dq := ⟨_, rfl⟩
                rw [← hR3] at HE
                by_cases h3 : m + 1 - a ≥ 2
                · have h3I : (2 : Int) ≤ (m : Int) + 1 - a := by omega
                  rw [if_pos h3] at hR3
                  have HR30 : Hid (Sort.shiftDown ltInt m dq = R3) := Lib.hid hR3.symm
                  clear hR3
                  go_wp2_with (fail)
                  go_loopg [9] m (fun gg vj wr => ∃ (j : Nat) (dj : Array Int), j = gg ∧ vj = .int .i64 j ∧ j ≤ m ∧ Hid (dj.size = n) ∧ Hid (Sort.shiftDown ltInt j dj = R3) ∧ Hid (UA wr g rest dj) ∧ Fr (fun q => q = g) w wr)
                  case atStart => exact ⟨m, dq, rfl, by go_num, Nat.le_refl _, HN1, HR30, H1, F1⟩
                  case round =>
                    clear HN1 HR30 H1 F1
                    obtain ⟨j, dj, rfl, rfl, hjk, HN3, HR3, H3, F3⟩ := hrel
                    by_cases hj0 : 1 ≤ j
                    · obtain ⟨e, rfl⟩ : ∃ e, j = e + 1 := ⟨j - 1, by omega⟩
                      have bI : Hid (e + 1 < dj.size) := Lib.hid (by rw [HN3.out]; omega)
                      have bJ : Hid (e < dj.size) := Lib.hid (by rw [HN3.out]; omega)
                      have kI : (e : Int) + 1 < n := by omega
                      have hj1I : (1 : Int) ≤ (e : Int) + 1 := by omega
                      obtain ⟨u, hu⟩ : ∃ u, u = dj[e + 1]! := ⟨_, rfl⟩
                      obtain ⟨v, hv⟩ : ∃ v, v = dj[e]! := ⟨_, rfl⟩
                      have pu := H3.out.cell bI.out
                      have pv := H3.out.cell bJ.out
                      rw [← hu] at pu
                      rw [← hv] at pv
                      have HL := Lib.hid (less_u u v)
                      cases hl : ltInt u v with
                      | false =>
                        rw [hl] at HL
                        obtain rfl : R3 = dj := by rw [← HR3.out, shD_no (by rw [← hu, ← hv]; exact hl)]
                        clear hl hu hv HR3
                        go_wp2_with (fail)
                        go_quiet ((go_at_call 52; exact Calls.quiet_of_same (HL.out _)))
                        obtain ⟨U, hU⟩ : ∃ U, U = wr.drewN nq := ⟨_, rfl⟩
                        have FU : Fr (fun q => q = g) w U := by rw [hU]; exact F3.trans' (Fr.drewN _ _ _)
                        have HU : Hid (UA U g rest R3) := Lib.hid (by rw [hU]; exact UA.fr (S := Nothing) H3.out (Fr.drewN _ _ _) (fun h => h))
                        rw [← hU]
                        clear hU H3 F3
                        have H3 := HU
                        have F3 := FU
                        clear HU FU
                        obtain ⟨R4, hR4⟩ : ∃ r, r = if b - (m + 1) ≥ 2 then Sort.shiftUp ltInt b ((m + 1) + 1) R3 else R3 := ⟨_, rfl⟩
                        rw [← hR4] at HE
                        by_cases h2 : b - (m + 1) ≥ 2
                        · have h2I : (2 : Int) ≤ (b : Int) - (m + 1) := by omega
                          rw [if_pos h2] at hR4
                          have HR40 : Hid (Sort.shiftUp ltInt b ((m + 1) + 1) R3 = R4) := Lib.hid hR4.symm
                          clear hR4
                          go_wp2_with (fail)
                          go_loopg [10] (b - ((m + 1) + 1)) (fun gg vj wr => ∃ (j : Nat) (dj : Array Int), gg = b - j ∧ vj = .int .i64 j ∧ (m + 1) + 1 ≤ j ∧ j ≤ b ∧ Hid (dj.size = n) ∧ Hid (Sort.shiftUp ltInt b j dj = R4) ∧ Hid (UA wr g rest dj) ∧ Fr (fun q => q = g) w wr)
                          case atStart => exact ⟨(m + 1) + 1, R3, rfl, by go_num, Nat.le_refl _, by omega, HN3, HR40, H3, F3⟩
                          case round =>
                            clear HN3 HR40 H3 F3
                            obtain ⟨j, dj, rfl, rfl, hj1, hjb, HN4, HR4, H4, F4⟩ := hrel
                            by_cases hlt : j < b
                            · obtain ⟨e, rfl⟩ : ∃ e, j = e + 1 := ⟨j - 1, by omega⟩
                              have bI : Hid (e + 1 < dj.size) := Lib.hid (by rw [HN4.out]; omega)
                              have bJ : Hid (e < dj.size) := Lib.hid (by rw [HN4.out]; omega)
                              have kI : (e : Int) + 1 < n := by omega
                              have hltI : (e : Int) + 1 < b := by omega
                              obtain ⟨u, hu⟩ : ∃ u, u = dj[e + 1]! := ⟨_, rfl⟩
                              obtain ⟨v, hv⟩ : ∃ v, v = dj[e]! := ⟨_, rfl⟩
                              have pu := H4.out.cell bI.out
                              have pv := H4.out.cell bJ.out
                              rw [← hu] at pu
                              rw [← hv] at pv
                              have HL := Lib.hid (less_u u v)
                              cases hl : ltInt u v with
                              | false =>
                                rw [hl] at HL
                                obtain rfl : R4 = dj := by rw [← HR4.out, shU_no hlt (by simp only [Nat.add_sub_cancel]; rw [← hu, ← hv]; exact hl)]
                                clear hl hu hv HR4
                                go_wp2_with (fail)
                                go_quiet ((go_at_call 52; exact Calls.quiet_of_same (HL.out _)))
                                obtain ⟨U, hU⟩ : ∃ U, U = wr.drewN nq := ⟨_, rfl⟩
                                have FU : Fr (fun q => q = g) w U := by rw [hU]; exact F4.trans' (Fr.drewN _ _ _)
                                have HU : Hid (UA U g rest R4) := Lib.hid (by rw [hU]; exact UA.fr (S := Nothing) H4.out (Fr.drewN _ _ _) (fun h => h))
                                rw [← hU]
                                clear hU H4 F4
                                go_wp2_with (fail)
                                go_roundg (5 - (st + 1))
                                case measure => omega
                                case rel => exact ⟨st + 1, (m + 1), R4, rfl, rfl, by go_num, by omega, by omega, by omega, HN4, HE, HU, FU⟩
                              | true =>
                                rw [hl] at HL
                                have HR5 : Hid (Sort.shiftUp ltInt b (e + 1 + 1) (Sort.swp dj (e + 1) e) = R4) := Lib.hid (by rw [← HR4.out, shU_go hlt (by simp only [Nat.add_sub_cancel]; rw [← hu, ← hv]; exact hl)]; rfl)
                                clear hl hu hv HR4
                                go_wp2_with (fail)
                                go_quiet ((go_at_call 52; exact Calls.quiet_of_same (HL.out _)))
                                obtain ⟨U, hU⟩ : ∃ U, U = wr.drewN nq := ⟨_, rfl⟩
                                have FU : Fr (fun q => q = g) w U := by rw [hU]; exact F4.trans' (Fr.drewN _ _ _)
                                have HU : Hid (UA U g rest dj) := Lib.hid (by rw [hU]; exact UA.fr (S := Nothing) H4.out (Fr.drewN _ _ _) (fun h => h))
                                rw [← hU]
                                clear hU H4 F4
                                obtain ⟨x, hx⟩ : ∃ x, x = dj[(e + 1)]! := ⟨_, rfl⟩
                                obtain ⟨y, hy⟩ : ∃ y, y = dj[e]! := ⟨_, rfl⟩
                                have p0 := HU.out.cell bI.out
                                have p1 := HU.out.cell bJ.out
                                rw [← hx] at p0
                                rw [← hy] at p1
                                have HX := Lib.hid hx.symm
                                have HY := Lib.hid hy.symm
                                have fz : ∀ k, World.frozen? U ⟨g, k, none⟩ = false := fun k => HU.out.free k
                                obtain ⟨v0, f0⟩ := HU.out.after bI.out bJ.out y
                                have HW := Lib.hid (HU.out.swapped FU bI.out bJ.out HX.out HY.out)
                                clear hx hy
                                go_wp2_with (fail)
                                go_region
                                go_wp2_with (fail)
                                go_roundg (b - (e + 1 + 1))
                                case measure => omega
                                case rel => exact ⟨e + 1 + 1, _, rfl, by go_num, by omega, by omega, Lib.hid (by rw [swp_size]; exact HN4.out), HR5, Lib.hid HW.out.1, HW.out.2⟩
                            · obtain rfl : R4 = dj := by rw [← HR4.out, shU_out hlt]
                              have hltI : ¬ ((j : Int) < b) := by omega
                              clear HR4
                              go_wp2_with (fail)
                              go_roundg (5 - (st + 1))
                              case measure => omega
                              case rel => exact ⟨st + 1, (m + 1), R4, rfl, rfl, by go_num, by omega, by omega, by omega, HN4, HE, H4, F4⟩
                        · have h2I : ¬ ((2 : Int) ≤ (b : Int) - (m + 1)) := by omega
                          rw [if_neg h2] at hR4
                          subst hR4
                          go_wp2_with (fail)
                          go_roundg (5 - (st + 1))
                          case measure => omega
                          case rel => exact ⟨st + 1, (m + 1), R4, rfl, rfl, by go_num, by omega, by omega, by omega, HN3, HE, H3, F3⟩
                      | true =>
                        rw [hl] at HL
                        have HR5 : Hid (Sort.shiftDown ltInt e (Sort.swp dj (e + 1) e) = R3) := Lib.hid (by rw [← HR3.out, shD_go (by rw [← hu, ← hv]; exact hl)])
                        clear hl hu hv HR3
                        go_wp2_with (fail)
                        go_quiet ((go_at_call 52; exact Calls.quiet_of_same (HL.out _)))
                        obtain ⟨U, hU⟩ : ∃ U, U = wr.drewN nq := ⟨_, rfl⟩
                        have FU : Fr (fun q => q = g) w U := by rw [hU]; exact F3.trans' (Fr.drewN _ _ _)
                        have HU : Hid (UA U g rest dj) := Lib.hid (by rw [hU]; exact UA.fr (S := Nothing) H3.out (Fr.drewN _ _ _) (fun h => h))
                        rw [← hU]
                        clear hU H3 F3
                        obtain ⟨x, hx⟩ : ∃ x, x = dj[(e + 1)]! := ⟨_, rfl⟩
                        obtain ⟨y, hy⟩ : ∃ y, y = dj[e]! := ⟨_, rfl⟩
                        have p0 := HU.out.cell bI.out
                        have p1 := HU.out.cell bJ.out
                        rw [← hx] at p0
                        rw [← hy] at p1
                        have HX := Lib.hid hx.symm
                        have HY := Lib.hid hy.symm
                        have fz : ∀ k, World.frozen? U ⟨g, k, none⟩ = false := fun k => HU.out.free k
                        obtain ⟨v0, f0⟩ := HU.out.after bI.out bJ.out y
                        have HW := Lib.hid (HU.out.swapped FU bI.out bJ.out HX.out HY.out)
                        clear hx hy
                        go_wp2_with (fail)
                        go_region
                        go_wp2_with (fail)
                        go_roundg e
                        case measure => omega
                        case rel => exact ⟨e, _, rfl, by go_num, by omega, Lib.hid (by rw [swp_size]; exact HN3.out), HR5, Lib.hid HW.out.1, HW.out.2⟩
                    · obtain rfl : j = 0 := by omega
                      obtain rfl : R3 = dj := HR3.out.symm
                      clear HR3
                      obtain ⟨R4, hR4⟩ : ∃ r, r = if b - (m + 1) ≥ 2 then Sort.shiftUp ltInt b ((m + 1) + 1) R3 else R3 := ⟨_, rfl⟩
                      rw [← hR4] at HE
                      by_cases h2 : b - (m + 1) ≥ 2
                      · have h2I : (2 : Int) ≤ (b : Int) - (m + 1) := by omega
                        rw [if_pos h2] at hR4
                        have HR40 : Hid (Sort.shiftUp ltInt b ((m + 1) + 1) R3 = R4) := Lib.hid hR4.symm
                        clear hR4
                        go_wp2_with (fail)
                        go_loopg [10] (b - ((m + 1) + 1)) (fun gg vj wr => ∃ (j : Nat) (dj : Array Int), gg = b - j ∧ vj = .int .i64 j ∧ (m + 1) + 1 ≤ j ∧ j ≤ b ∧ Hid (dj.size = n) ∧ Hid (Sort.shiftUp ltInt b j dj = R4) ∧ Hid (UA wr g rest dj) ∧ Fr (fun q => q = g) w wr)
                        case atStart => exact ⟨(m + 1) + 1, R3, rfl, by go_num, Nat.le_refl _, by omega, HN3, HR40, H3, F3⟩
                        case round =>
                          clear HN3 HR40 H3 F3
                          obtain ⟨j, dj, rfl, rfl, hj1, hjb, HN4, HR4, H4, F4⟩ := hrel
                          by_cases hlt : j < b
                          · obtain ⟨e, rfl⟩ : ∃ e, j = e + 1 := ⟨j - 1, by omega⟩
                            have bI : Hid (e + 1 < dj.size) := Lib.hid (by rw [HN4.out]; omega)
                            have bJ : Hid (e < dj.size) := Lib.hid (by rw [HN4.out]; omega)
                            have kI : (e : Int) + 1 < n := by omega
                            have hltI : (e : Int) + 1 < b := by omega
                            obtain ⟨u, hu⟩ : ∃ u, u = dj[e + 1]! := ⟨_, rfl⟩
                            obtain ⟨v, hv⟩ : ∃ v, v = dj[e]! := ⟨_, rfl⟩
                            have pu := H4.out.cell bI.out
                            have pv := H4.out.cell bJ.out
                            rw [← hu] at pu
                            rw [← hv] at pv
                            have HL := Lib.hid (less_u u v)
                            cases hl : ltInt u v with
                            | false =>
                              rw [hl] at HL
                              obtain rfl : R4 = dj := by rw [← HR4.out, shU_no hlt (by simp only [Nat.add_sub_cancel]; rw [← hu, ← hv]; exact hl)]
                              clear hl hu hv HR4
                              go_wp2_with (fail)
                              go_quiet ((go_at_call 52; exact Calls.quiet_of_same (HL.out _)))
                              obtain ⟨U, hU⟩ : ∃ U, U = wr.drewN nq := ⟨_, rfl⟩
                              have FU : Fr (fun q => q = g) w U := by rw [hU]; exact F4.trans' (Fr.drewN _ _ _)
                              have HU : Hid (UA U g rest R4) := Lib.hid (by rw [hU]; exact UA.fr (S := Nothing) H4.out (Fr.drewN _ _ _) (fun h => h))
                              rw [← hU]
                              clear hU H4 F4
                              go_wp2_with (fail)
                              go_roundg (5 - (st + 1))
                              case measure => omega
                              case rel => exact ⟨st + 1, (m + 1), R4, rfl, rfl, by go_num, by omega, by omega, by omega, HN4, HE, HU, FU⟩
                            | true =>
                              rw [hl] at HL
                              have HR5 : Hid (Sort.shiftUp ltInt b (e + 1 + 1) (Sort.swp dj (e + 1) e) = R4) := Lib.hid (by rw [← HR4.out, shU_go hlt (by simp only [Nat.add_sub_cancel]; rw [← hu, ← hv]; exact hl)]; rfl)
                              clear hl hu hv HR4
                              go_wp2_with (fail)
                              go_quiet ((go_at_call 52; exact Calls.quiet_of_same (HL.out _)))
                              obtain ⟨U, hU⟩ : ∃ U, U = wr.drewN nq := ⟨_, rfl⟩
                              have FU : Fr (fun q => q = g) w U := by rw [hU]; exact F4.trans' (Fr.drewN _ _ _)
                              have HU : Hid (UA U g rest dj) := Lib.hid (by rw [hU]; exact UA.fr (S := Nothing) H4.out (Fr.drewN _ _ _) (fun h => h))
                              rw [← hU]
                              clear hU H4 F4
                              obtain ⟨x, hx⟩ : ∃ x, x = dj[(e + 1)]! := ⟨_, rfl⟩
                              obtain ⟨y, hy⟩ : ∃ y, y = dj[e]! := ⟨_, rfl⟩
                              have p0 := HU.out.cell bI.out
                              have p1 := HU.out.cell bJ.out
                              rw [← hx] at p0
                              rw [← hy] at p1
                              have HX := Lib.hid hx.symm
                              have HY := Lib.hid hy.symm
                              have fz : ∀ k, World.frozen? U ⟨g, k, none⟩ = false := fun k => HU.out.free k
                              obtain ⟨v0, f0⟩ := HU.out.after bI.out bJ.out y
                              have HW := Lib.hid (HU.out.swapped FU bI.out bJ.out HX.out HY.out)
                              clear hx hy
                              go_wp2_with (fail)
                              go_region
                              go_wp2_with (fail)
                              go_roundg (b - (e + 1 + 1))
                              case measure => omega
                              case rel => exact ⟨e + 1 + 1, _, rfl, by go_num, by omega, by omega, Lib.hid (by rw [swp_size]; exact HN4.out), HR5, Lib.hid HW.out.1, HW.out.2⟩
                          · obtain rfl : R4 = dj := by rw [← HR4.out, shU_out hlt]
                            have hltI : ¬ ((j : Int) < b) := by omega
                            clear HR4
                            go_wp2_with (fail)
                            go_roundg (5 - (st + 1))
                            case measure => omega
                            case rel => exact ⟨st + 1, (m + 1), R4, rfl, rfl, by go_num, by omega, by omega, by omega, HN4, HE, H4, F4⟩
                      · have h2I : ¬ ((2 : Int) ≤ (b : Int) - (m + 1)) := by omega
                        rw [if_neg h2] at hR4
                        subst hR4
                        go_wp2_with (fail)
                        go_roundg (5 - (st + 1))
                        case measure => omega
                        case rel => exact ⟨st + 1, (m + 1), R4, rfl, rfl, by go_num, by omega, by omega, by omega, HN3, HE, H3, F3⟩
                · have h3I : ¬ ((2 : Int) ≤ (m : Int) + 1 - a) := by omega
                  rw [if_neg h3] at hR3
                  subst hR3
                  have H3 := H1
                  have F3 := F1
                  have HN3 := HN1
                  clear H1 F1 HN1
                  obtain ⟨R4, hR4⟩ : ∃ r, r = if b - (m + 1) ≥ 2 then Sort.shiftUp ltInt b ((m + 1) + 1) R3 else R3 := ⟨_, rfl⟩
                  rw [← hR4] at HE
                  by_cases h2 : b - (m + 1) ≥ 2
                  · have h2I : (2 : Int) ≤ (b : Int) - (m + 1) := by omega
                    rw [if_pos h2] at hR4
                    have HR40 : Hid (Sort.shiftUp ltInt b ((m + 1) + 1) R3 = R4) := Lib.hid hR4.symm
                    clear hR4
                    go_wp2_with (fail)
                    go_loopg [10] (b - ((m + 1) + 1)) (fun gg vj wr => ∃ (j : Nat) (dj : Array Int), gg = b - j ∧ vj = .int .i64 j ∧ (m + 1) + 1 ≤ j ∧ j ≤ b ∧ Hid (dj.size = n) ∧ Hid (Sort.shiftUp ltInt b j dj = R4) ∧ Hid (UA wr g rest dj) ∧ Fr (fun q => q = g) w wr)
                    case atStart => exact ⟨(m + 1) + 1, R3, rfl, by go_num, Nat.le_refl _, by omega, HN3, HR40, H3, F3⟩
                    case round =>
                      clear HN3 HR40 H3 F3
                      obtain ⟨j, dj, rfl, rfl, hj1, hjb, HN4, HR4, H4, F4⟩ := hrel
                      by_cases hlt : j < b
                      · obtain ⟨e, rfl⟩ : ∃ e, j = e + 1 := ⟨j - 1, by omega⟩
                        have bI : Hid (e + 1 < dj.size) := Lib.hid (by rw [HN4.out]; omega)
                        have bJ : Hid (e < dj.size) := Lib.hid (by rw [HN4.out]; omega)
                        have kI : (e : Int) + 1 < n := by omega
                        have hltI : (e : Int) + 1 < b := by omega
                        obtain ⟨u, hu⟩ : ∃ u, u = dj[e + 1]! := ⟨_, rfl⟩
                        obtain ⟨v, hv⟩ : ∃ v, v = dj[e]! := ⟨_, rfl⟩
                        have pu := H4.out.cell bI.out
                        have pv := H4.out.cell bJ.out
                        rw [← hu] at pu
                        rw [← hv] at pv
                        have HL := Lib.hid (less_u u v)
                        cases hl : ltInt u v with
                        | false =>
                          rw [hl] at HL
                          obtain rfl : R4 = dj := by rw [← HR4.out, shU_no hlt (by simp only [Nat.add_sub_cancel]; rw [← hu, ← hv]; exact hl)]
                          clear hl hu hv HR4
                          go_wp2_with (fail)
                          go_quiet ((go_at_call 52; exact Calls.quiet_of_same (HL.out _)))
                          obtain ⟨U, hU⟩ : ∃ U, U = wr.drewN nq := ⟨_, rfl⟩
                          have FU : Fr (fun q => q = g) w U := by rw [hU]; exact F4.trans' (Fr.drewN _ _ _)
                          have HU : Hid (UA U g rest R4) := Lib.hid (by rw [hU]; exact UA.fr (S := Nothing) H4.out (Fr.drewN _ _ _) (fun h => h))
                          rw [← hU]
                          clear hU H4 F4
                          go_wp2_with (fail)
                          go_roundg (5 - (st + 1))
                          case measure => omega
                          case rel => exact ⟨st + 1, (m + 1), R4, rfl, rfl, by go_num, by omega, by omega, by omega, HN4, HE, HU, FU⟩
                        | true =>
                          rw [hl] at HL
                          have HR5 : Hid (Sort.shiftUp ltInt b (e + 1 + 1) (Sort.swp dj (e + 1) e) = R4) := Lib.hid (by rw [← HR4.out, shU_go hlt (by simp only [Nat.add_sub_cancel]; rw [← hu, ← hv]; exact hl)]; rfl)
                          clear hl hu hv HR4
                          go_wp2_with (fail)
                          go_quiet ((go_at_call 52; exact Calls.quiet_of_same (HL.out _)))
                          obtain ⟨U, hU⟩ : ∃ U, U = wr.drewN nq := ⟨_, rfl⟩
                          have FU : Fr (fun q => q = g) w U := by rw [hU]; exact F4.trans' (Fr.drewN _ _ _)
                          have HU : Hid (UA U g rest dj) := Lib.hid (by rw [hU]; exact UA.fr (S := Nothing) H4.out (Fr.drewN _ _ _) (fun h => h))
                          rw [← hU]
                          clear hU H4 F4
                          obtain ⟨x, hx⟩ : ∃ x, x = dj[(e + 1)]! := ⟨_, rfl⟩
                          obtain ⟨y, hy⟩ : ∃ y, y = dj[e]! := ⟨_, rfl⟩
                          have p0 := HU.out.cell bI.out
                          have p1 := HU.out.cell bJ.out
                          rw [← hx] at p0
                          rw [← hy] at p1
                          have HX := Lib.hid hx.symm
                          have HY := Lib.hid hy.symm
                          have fz : ∀ k, World.frozen? U ⟨g, k, none⟩ = false := fun k => HU.out.free k
                          obtain ⟨v0, f0⟩ := HU.out.after bI.out bJ.out y
                          have HW := Lib.hid (HU.out.swapped FU bI.out bJ.out HX.out HY.out)
                          clear hx hy
                          go_wp2_with (fail)
                          go_region
                          go_wp2_with (fail)
                          go_roundg (b - (e + 1 + 1))
                          case measure => omega
                          case rel => exact ⟨e + 1 + 1, _, rfl, by go_num, by omega, by omega, Lib.hid (by rw [swp_size]; exact HN4.out), HR5, Lib.hid HW.out.1, HW.out.2⟩
                      · obtain rfl : R4 = dj := by rw [← HR4.out, shU_out hlt]
                        have hltI : ¬ ((j : Int) < b) := by omega
                        clear HR4
                        go_wp2_with (fail)
                        go_roundg (5 - (st + 1))
                        case measure => omega
                        case rel => exact ⟨st + 1, (m + 1), R4, rfl, rfl, by go_num, by omega, by omega, by omega, HN4, HE, H4, F4⟩
                  · have h2I : ¬ ((2 : Int) ≤ (b : Int) - (m + 1)) := by omega
                    rw [if_neg h2] at hR4
                    subst hR4
                    go_wp2_with (fail)
                    go_roundg (5 - (st + 1))
                    case measure => omega
                    case rel => exact ⟨st + 1, (m + 1), R4, rfl, rfl, by go_num, by omega, by omega, by omega, HN3, HE, H3, F3⟩
        · have hltI : ¬ ((i' : Int) < b) := by omega
          obtain rfl : I2 = i' := by rw [← HI.out, scS_out hlt]
          clear HI
          go_wp2_with (fail)
          go_quiet (fail)
          obtain ⟨U, hU⟩ : ∃ U, U = wr.drewN nq := ⟨_, rfl⟩
          have FU : Fr (fun q => q = g) w U := by rw [hU]; exact F.trans' (Fr.drewN _ _ _)
          have HU : Hid (UA U g rest dk) := Lib.hid (by rw [hU]; exact UA.fr (S := Nothing) H.out (Fr.drewN _ _ _) (fun h => h))
          rw [← hU]
          clear hU H F
          obtain rfl : I2 = b := by omega
          have hRE : Hid (R = (dk, true)) := Lib.hid (by rw [← HS.out, if_pos rfl])
          go_wp2_with (fail)
          go_ret
          exact ⟨by rw [hRE.out]; rfl, by rw [hRE.out]; exact HU.out, FU⟩
    · obtain rfl : st = 5 := by omega
      have hRE : Hid (R = (dk, false)) := Lib.hid HR.out.symm
      go_wp2_with (fail)
      go_ret
      exact ⟨by rw [hRE.out]; rfl, by rw [hRE.out]; exact H.out, F⟩
end Go.Proofs.Ytdgaiacigmcibaa.NS
