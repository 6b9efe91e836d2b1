/- The library's stable sort by a comparison, at int: the merge in place. Condition: the row lies in a block of its own; the comparison reads. -/
import Derived.Test.YtdgaiacigmcibaaISortB
namespace Go.Proofs.Ytdgaiacigmcibaa
open Go.RowKit Go.Sort

def bs (p : Nat → Bool) (i j : Nat) : Nat := if i < j then (if p ((i + j) / 2) then bs p ((i + j) / 2 + 1) j else bs p i ((i + j) / 2)) else i
termination_by j - i
theorem bs_go {p : Nat → Bool} {i j : Nat} (h : i < j) : bs p i j = if p ((i + j) / 2) then bs p ((i + j) / 2 + 1) j else bs p i ((i + j) / 2) := by rw [bs, if_pos h]
theorem bs_out {p : Nat → Bool} {i : Nat} : bs p i i = i := by rw [bs, if_neg (by omega)]
def slideUp (e k : Nat) (d : Array Int) : Array Int := if k < e then slideUp e (k + 1) (Sort.swp d k (k + 1)) else d
termination_by e - k
theorem slideUp_go {e k : Nat} {d : Array Int} (h : k < e) : slideUp e k d = slideUp e (k + 1) (Sort.swp d k (k + 1)) := by rw [slideUp, if_pos h]
theorem slideUp_out {e : Nat} {d : Array Int} : slideUp e e d = d := by rw [slideUp, if_neg (by omega)]
def slideDn (i : Nat) : Nat → Array Int → Array Int
  | 0, d => d
  | k + 1, d => if i < k + 1 then slideDn i k (Sort.swp d (k + 1) k) else d
theorem slideDn_go {i k : Nat} {d : Array Int} (h : i < k + 1) : slideDn i (k + 1) d = slideDn i k (Sort.swp d (k + 1) k) := by rw [slideDn, if_pos h]
theorem slideDn_out {i : Nat} {d : Array Int} : slideDn i i d = d := by
  cases i with
  | zero => rfl
  | succ i => rw [slideDn, if_neg (by omega)]
set_option maxHeartbeats 8000000 in
set_option maxRecDepth 100000 in
theorem i_sym1 {f : Nat} {cb : Array Value} {cf : Int → Int → Int} {G : Int → Prop} (g c n : Nat) (rest : List Value) (d : Array Int) (hn : d.size = n) (a m b : Nat) (w : World) (hcm : Cmp f cb cf G g w) (h : IA G w g rest d) (_ha : a < m) (hm : m < b) (hb : b ≤ n) (hd : (n : Int) ≤ 1000) (h1 : m = a + 1) :
    Calls Try.prog 45 #[.slice (some ⟨g, 0, none⟩) n c, .int .i64 a, .int .i64 m, .int .i64 b, .func (.func f) #[] cb] w fun e w' => e = .returned (.tuple #[]) ∧ IA G w' g rest (slideUp (bs (fun h => ltC cf d[h]! d[a]!) m b - 1) a d) ∧ Fr (fun q => q = g) w w' := by
  obtain ⟨P, hP⟩ : ∃ P : Nat → Bool, P = fun h => ltC cf d[h]! d[a]! := ⟨_, rfl⟩
  obtain ⟨S, hS⟩ : ∃ S, S = bs P m b := ⟨_, rfl⟩
  rw [← hP, ← hS]
  obtain ⟨R, hR⟩ : ∃ R, R = slideUp (S - 1) a d := ⟨_, rfl⟩
  rw [← hR]
  have HS0 := Lib.hid hS.symm
  have HP := Lib.hid hP
  have HR := Lib.hid hR.symm
  have H0 := Lib.hid h
  have HN := Lib.hid hn
  have HCM := Lib.hid hcm
  have eg := hcm.1
  have F0 := Fr.refl (fun q => q = g) w
  have hlohi : m ≤ b := by omega
  have e1 : (m : Int) - a = 1 := by omega
  have hm1 : a + 1 ≤ m := by omega
  have ham : (a : Int) < n := by omega
  clear hP hS hR h hn hcm h1
  go_enter Try.func45, Try.ntmps45
  go_wp2_with (fail)
  go_loopg [10, 11] (b - m) (fun gg vi vj wr => ∃ (i j : Nat), gg = j - i ∧ vi = .int .i64 i ∧ vj = .int .i64 j ∧ m ≤ i ∧ i ≤ j ∧ j ≤ b ∧ Hid (bs P i j = S) ∧ Hid (IA G wr g rest d) ∧ Fr (fun q => q = g) w wr)
  case atStart => exact ⟨m, b, rfl, rfl, rfl, Nat.le_refl _, hlohi, Nat.le_refl _, HS0, H0, F0⟩
  case round =>
    clear HS0 H0 F0
    obtain ⟨i, j, rfl, rfl, rfl, hli, hij, hjh, HS, H, F⟩ := hrel
    by_cases hlt : i < j
    · have hltI : (i : Int) < j := by omega
      obtain ⟨h, hh⟩ : ∃ h, h = (i + j) / 2 := ⟨_, rfl⟩
      have eh : ((i : Int) + j) / 2 = h := by omega
      have hi1000 : (i : Int) ≤ 1000 := by omega
      have hj1000 : (j : Int) ≤ 1000 := by omega
      have hh1 : i ≤ h ∧ h < j := by omega
      have hhn : (h : Int) < n := by omega
      have hh1000 : (h : Int) ≤ 1000 := by omega
      have HS1 : Hid (bs P i j = if P h then bs P (h + 1) j else bs P i h) := Lib.hid (by rw [bs_go hlt, hh])
      clear hh
      have bU : Hid (h < d.size) := Lib.hid (by rw [HN.out]; omega)
      have bV : Hid (a < d.size) := Lib.hid (by rw [HN.out]; omega)
      obtain ⟨u, hu⟩ : ∃ u, u = d[h]! := ⟨_, rfl⟩
      obtain ⟨v, hv⟩ : ∃ v, v = d[a]! := ⟨_, rfl⟩
      have pu := H.out.cell bU.out
      have pv := H.out.cell bV.out
      have hgu := H.out.good bU.out
      have hgv := H.out.good bV.out
      rw [← hu] at pu hgu
      rw [← hv] at pv hgv
      obtain ⟨z, hz⟩ : ∃ z, z = cf u v := ⟨_, rfl⟩
      have HL := Lib.hid (HCM.out.quiet F hgu hgv)
      rw [← hz] at HL
      have hPh : P h = decide (z < 0) := by rw [HP.out, hz, hu, hv]; rfl
      have HPH := Lib.hid hPh
      clear hgu hgv hz hu hv hPh
      by_cases hz0 : z < 0
      · have HS2 : Hid (bs P (h + 1) j = S) := Lib.hid (by rw [← HS.out, HS1.out, HPH.out]; simp [hz0])
        have hzd : decide (z < 0) = true := decide_eq_true hz0
        clear HS HS1 HPH
        go_wp2_with (fail)
        go_quiet ((go_at_fn f; exact Calls.quiet_of (HL.out _)))
        go_wp2_with (fail)
        go_roundg (j - (h + 1))
        case measure => omega
        case rel => exact ⟨h + 1, j, rfl, by go_num, rfl, by omega, by omega, by omega, HS2, Lib.hid (H.out.fr (S := Nothing) (Fr.drewN _ _ _) (fun h => h)), F.trans' (Fr.drewN _ _ _)⟩
      · have HS2 : Hid (bs P i h = S) := Lib.hid (by rw [← HS.out, HS1.out, HPH.out]; simp [hz0])
        have hzd : decide (z < 0) = false := decide_eq_false hz0
        clear HS HS1 HPH
        go_wp2_with (fail)
        go_quiet ((go_at_fn f; exact Calls.quiet_of (HL.out _)))
        go_wp2_with (fail)
        go_roundg (h - i)
        case measure => omega
        case rel => exact ⟨i, h, rfl, rfl, by go_num, by omega, by omega, by omega, HS2, Lib.hid (H.out.fr (S := Nothing) (Fr.drewN _ _ _) (fun h => h)), F.trans' (Fr.drewN _ _ _)⟩
    · obtain rfl : i = j := by omega
      obtain rfl : S = i := by rw [← HS.out, bs_out]
      clear HS
      have hltI : ¬ ((S : Int) < S) := by omega
      obtain ⟨E, hE⟩ : ∃ E, E = S - 1 := ⟨_, rfl⟩
      have eE : (S : Int) - 1 = E := by omega
      have haE : a ≤ E := by omega
      have hEn : E + 1 ≤ b := by omega
      rw [← hE] at HR
      clear hE
      go_wp2_with (fail)
      go_loopg [13] (E - a) (fun gg vk wr => ∃ (k : Nat) (dk : Array Int), gg = E - k ∧ vk = .int .i64 k ∧ a ≤ k ∧ k ≤ E ∧ Hid (dk.size = n) ∧ Hid (slideUp E k dk = R) ∧ Hid (IA G wr g rest dk) ∧ Fr (fun q => q = g) w wr)
      case atStart => exact ⟨a, d, rfl, rfl, Nat.le_refl _, haE, HN, HR, H, F⟩
      case round =>
        clear HR H F HN
        obtain ⟨k, dk, rfl, rfl, hak, hkE, HN, HR, H, F⟩ := hrel
        by_cases hlt : k < E
        · have hltI : (k : Int) < E := by omega
          have bI : Hid (k < dk.size) := Lib.hid (by rw [HN.out]; omega)
          have bJ : Hid (k + 1 < dk.size) := Lib.hid (by rw [HN.out]; omega)
          have kI : (k : Int) < n := by omega
          have kJ : (k : Int) + 1 < n := by omega
          have HR2 : Hid (slideUp E (k + 1) (Sort.swp dk k (k + 1)) = R) := Lib.hid (by rw [← HR.out, slideUp_go hlt])
          obtain ⟨x, hx⟩ : ∃ x, x = dk[k]! := ⟨_, rfl⟩
          obtain ⟨y, hy⟩ : ∃ y, y = dk[(k + 1)]! := ⟨_, rfl⟩
          have p0 := H.out.cell bI.out
          have p1 := H.out.cell bJ.out
          rw [← hx] at p0
          rw [← hy] at p1
          have HX := Lib.hid hx.symm
          have HY := Lib.hid hy.symm
          have fz : ∀ k, World.frozen? wr ⟨g, k, none⟩ = false := fun k => H.out.free k
          obtain ⟨v0, f0⟩ := H.out.after bI.out bJ.out y
          have HW := Lib.hid (H.out.swapped F bI.out bJ.out HX.out HY.out)
          clear hx hy
          go_wp2_with (fail)
          go_region
          go_wp2_with (fail)
          go_roundg (E - (k + 1))
          case measure => omega
          case rel => exact ⟨k + 1, _, rfl, by go_num, by omega, by omega, Lib.hid (by rw [swp_size]; exact HN.out), HR2, Lib.hid HW.out.1, HW.out.2⟩
        · obtain rfl : k = E := by omega
          have hRE : Hid (dk = R) := Lib.hid (by rw [← HR.out, slideUp_out])
          have hltI : ¬ ((k : Int) < k) := by omega
          go_wp2_with (fail)
          (try simp only [Exit.inBlock, Exit.then]); refine bodyPost_ret (results_none rfl _ _ _) rfl ?_
          exact ⟨rfl, by rw [← hRE.out]; exact H.out, F⟩
set_option maxHeartbeats 8000000 in
set_option maxRecDepth 100000 in
theorem i_sym2 {f : Nat} {cb : Array Value} {cf : Int → Int → Int} {G : Int → Prop} (g c n : Nat) (rest : List Value) (d : Array Int) (hn : d.size = n) (a m b : Nat) (w : World) (hcm : Cmp f cb cf G g w) (h : IA G w g rest d) (_ha : a < m) (_hm : m < b) (hb : b ≤ n) (hd : (n : Int) ≤ 1000) (h1 : ¬ m - a = 1) (h2 : b = m + 1) :
    Calls Try.prog 45 #[.slice (some ⟨g, 0, none⟩) n c, .int .i64 a, .int .i64 m, .int .i64 b, .func (.func f) #[] cb] w fun e w' => e = .returned (.tuple #[]) ∧ IA G w' g rest (slideDn (bs (fun h => !ltC cf d[m]! d[h]!) a m) m d) ∧ Fr (fun q => q = g) w w' := by
  obtain ⟨P, hP⟩ : ∃ P : Nat → Bool, P = fun h => !ltC cf d[m]! d[h]! := ⟨_, rfl⟩
  obtain ⟨S, hS⟩ : ∃ S, S = bs P a m := ⟨_, rfl⟩
  rw [← hP, ← hS]
  obtain ⟨R, hR⟩ : ∃ R, R = slideDn S m d := ⟨_, rfl⟩
  rw [← hR]
  have HS0 := Lib.hid hS.symm
  have HP := Lib.hid hP
  have HR := Lib.hid hR.symm
  have H0 := Lib.hid h
  have HN := Lib.hid hn
  have HCM := Lib.hid hcm
  have eg := hcm.1
  have F0 := Fr.refl (fun q => q = g) w
  have hlohi : a ≤ m := by omega
  have e1 : ((m : Int) - a == 1) = false := by rw [beq_eq_false_iff_ne]; omega
  have e2 : (b : Int) - m = 1 := by omega
  have ham : (m : Int) < n := by omega
  clear hP hS hR h hn hcm h1 h2
  go_enter Try.func45, Try.ntmps45
  go_wp2_with (fail)
  go_loopg [14, 15] (m - a) (fun gg vi vj wr => ∃ (i j : Nat), gg = j - i ∧ vi = .int .i64 i ∧ vj = .int .i64 j ∧ a ≤ i ∧ i ≤ j ∧ j ≤ m ∧ Hid (bs P i j = S) ∧ Hid (IA G wr g rest d) ∧ Fr (fun q => q = g) w wr)
  case atStart => exact ⟨a, m, rfl, rfl, rfl, Nat.le_refl _, hlohi, Nat.le_refl _, HS0, H0, F0⟩
  case round =>
    clear HS0 H0 F0
    obtain ⟨i, j, rfl, rfl, rfl, hli, hij, hjh, HS, H, F⟩ := hrel
    by_cases hlt : i < j
    · have hltI : (i : Int) < j := by omega
      obtain ⟨h, hh⟩ : ∃ h, h = (i + j) / 2 := ⟨_, rfl⟩
      have eh : ((i : Int) + j) / 2 = h := by omega
      have hi1000 : (i : Int) ≤ 1000 := by omega
      have hj1000 : (j : Int) ≤ 1000 := by omega
      have hh1 : i ≤ h ∧ h < j := by omega
      have hhn : (h : Int) < n := by omega
      have hh1000 : (h : Int) ≤ 1000 := by omega
      have HS1 : Hid (bs P i j = if P h then bs P (h + 1) j else bs P i h) := Lib.hid (by rw [bs_go hlt, hh])
      clear hh
      have bU : Hid (m < d.size) := Lib.hid (by rw [HN.out]; omega)
      have bV : Hid (h < d.size) := Lib.hid (by rw [HN.out]; omega)
      obtain ⟨u, hu⟩ : ∃ u, u = d[m]! := ⟨_, rfl⟩
      obtain ⟨v, hv⟩ : ∃ v, v = d[h]! := ⟨_, rfl⟩
      have pu := H.out.cell bU.out
      have pv := H.out.cell bV.out
      have hgu := H.out.good bU.out
      have hgv := H.out.good bV.out
      rw [← hu] at pu hgu
      rw [← hv] at pv hgv
      obtain ⟨z, hz⟩ : ∃ z, z = cf u v := ⟨_, rfl⟩
      have HL := Lib.hid (HCM.out.quiet F hgu hgv)
      rw [← hz] at HL
      have hPh : P h = !decide (z < 0) := by rw [HP.out, hz, hu, hv]; rfl
      have HPH := Lib.hid hPh
      clear hgu hgv hz hu hv hPh
      by_cases hz0 : z < 0
      · have HS2 : Hid (bs P i h = S) := Lib.hid (by rw [← HS.out, HS1.out, HPH.out]; simp [hz0])
        have hzd : decide (z < 0) = true := decide_eq_true hz0
        clear HS HS1 HPH
        go_wp2_with (fail)
        go_quiet ((go_at_fn f; exact Calls.quiet_of (HL.out _)))
        go_wp2_with (fail)
        go_roundg (h - i)
        case measure => omega
        case rel => exact ⟨i, h, rfl, rfl, by go_num, by omega, by omega, by omega, HS2, Lib.hid (H.out.fr (S := Nothing) (Fr.drewN _ _ _) (fun h => h)), F.trans' (Fr.drewN _ _ _)⟩
      · have HS2 : Hid (bs P (h + 1) j = S) := Lib.hid (by rw [← HS.out, HS1.out, HPH.out]; simp [hz0])
        have hzd : decide (z < 0) = false := decide_eq_false hz0
        clear HS HS1 HPH
        go_wp2_with (fail)
        go_quiet ((go_at_fn f; exact Calls.quiet_of (HL.out _)))
        go_wp2_with (fail)
        go_roundg (j - (h + 1))
        case measure => omega
        case rel => exact ⟨h + 1, j, rfl, by go_num, rfl, by omega, by omega, by omega, HS2, Lib.hid (H.out.fr (S := Nothing) (Fr.drewN _ _ _) (fun h => h)), F.trans' (Fr.drewN _ _ _)⟩
    · obtain rfl : i = j := by omega
      obtain rfl : S = i := by rw [← HS.out, bs_out]
      clear HS
      have hltI : ¬ ((S : Int) < S) := by omega
      go_wp2_with (fail)
      go_loopg [17] (m - S) (fun gg vk wr => ∃ (k : Nat) (dk : Array Int), gg = k - S ∧ vk = .int .i64 k ∧ S ≤ k ∧ k ≤ m ∧ Hid (dk.size = n) ∧ Hid (slideDn S k dk = R) ∧ Hid (IA G wr g rest dk) ∧ Fr (fun q => q = g) w wr)
      case atStart => exact ⟨m, d, rfl, rfl, hjh, Nat.le_refl _, HN, HR, H, F⟩
      case round =>
        clear HR H F HN
        obtain ⟨k, dk, rfl, rfl, hak, hkE, HN, HR, H, F⟩ := hrel
        by_cases hlt : S < k
        · obtain ⟨k, rfl⟩ : ∃ q, k = q + 1 := ⟨k - 1, by omega⟩
          have hltI : (S : Int) < (k : Int) + 1 := by omega
          have bI : Hid (k + 1 < dk.size) := Lib.hid (by rw [HN.out]; omega)
          have bJ : Hid (k < dk.size) := Lib.hid (by rw [HN.out]; omega)
          have kI : (k : Int) < n := by omega
          have kJ : (k : Int) + 1 < n := by omega
          have HR2 : Hid (slideDn S k (Sort.swp dk (k + 1) k) = R) := Lib.hid (by rw [← HR.out, slideDn_go hlt])
          obtain ⟨x, hx⟩ : ∃ x, x = dk[(k + 1)]! := ⟨_, rfl⟩
          obtain ⟨y, hy⟩ : ∃ y, y = dk[k]! := ⟨_, rfl⟩
          have p0 := H.out.cell bI.out
          have p1 := H.out.cell bJ.out
          rw [← hx] at p0
          rw [← hy] at p1
          have HX := Lib.hid hx.symm
          have HY := Lib.hid hy.symm
          have fz : ∀ k, World.frozen? wr ⟨g, k, none⟩ = false := fun k => H.out.free k
          obtain ⟨v0, f0⟩ := H.out.after bI.out bJ.out y
          have HW := Lib.hid (H.out.swapped F bI.out bJ.out HX.out HY.out)
          clear hx hy
          go_wp2_with (fail)
          go_region
          go_wp2_with (fail)
          go_roundg (k - S)
          case measure => omega
          case rel => exact ⟨k, _, rfl, by go_num, by omega, by omega, Lib.hid (by rw [swp_size]; exact HN.out), HR2, Lib.hid HW.out.1, HW.out.2⟩
        · obtain rfl : k = S := by omega
          have hRE : Hid (dk = R) := Lib.hid (by rw [← HR.out, slideDn_out])
          have hltI : ¬ ((k : Int) < k) := by omega
          go_wp2_with (fail)
          (try simp only [Exit.inBlock, Exit.then]); refine bodyPost_ret (results_none rfl _ _ _) rfl ?_
          exact ⟨rfl, by rw [← hRE.out]; exact H.out, F⟩
end Go.Proofs.Ytdgaiacigmcibaa
