/- The library's stable sort by a comparison, at int: blocks of 20, and their merges. Condition: the row lies in a block of its own; the comparison reads. -/
import Derived.Test.YtdgaiacigmcibaaISortD
namespace Go.Proofs.Ytdgaiacigmcibaa
open Go.RowKit Go.Sort

/-- The blocks that are sorted, so many whole ones being left, from a. -/
def blocks (lt : Int → Int → Bool) (n : Nat) : Nat → Nat → Array Int → Array Int
  | 0, a, d => Sort.insertionSort lt d a n
  | k + 1, a, d => blocks lt n k (a + 20) (Sort.insertionSort lt d a (a + 20))
/-- The merges of blocks of length s, so many pairs being left, from a. -/
def pairs (lt : Int → Int → Bool) (s n : Nat) : Nat → Nat → Array Int → Array Int
  | 0, a, d => if a + s < n then symN lt (n - a) d a (a + s) n else d
  | k + 1, a, d => pairs lt s n k (a + 2 * s) (symN lt (2 * s) d a (a + s) (a + 2 * s))
/-- The merges of ever longer blocks. -/
def merges (lt : Int → Int → Bool) (n : Nat) : Nat → Nat → Array Int → Array Int
  | 0, _, d => d
  | k + 1, s, d => if s < n then merges lt n k (2 * s) (pairs lt s n (n / (2 * s)) 0 d) else d
def stableF (lt : Int → Int → Bool) (n : Nat) (d : Array Int) : Array Int := merges lt n 6 20 (blocks lt n (n / 20) 0 d)
theorem insInner_size (lt : Int → Int → Bool) (a j : Nat) (d : Array Int) : (Sort.insInner lt a j d).size = d.size := by
  induction j generalizing d with
  | zero => rfl
  | succ j ih =>
    rw [Sort.insInner]
    split
    · rw [ih, swp_size]
    · rfl
theorem ins_size (lt : Int → Int → Bool) (d : Array Int) (a b : Nat) : (Sort.insertionSort lt d a b).size = d.size := by
  unfold Sort.insertionSort
  obtain ⟨i, hi⟩ : ∃ i, i = a + 1 := ⟨_, rfl⟩
  rw [← hi]
  clear hi
  obtain ⟨s, hs⟩ : ∃ s, s = b - i := ⟨_, rfl⟩
  induction s using Nat.strongRecOn generalizing i d with
  | _ s ih =>
    rw [Sort.insOuter]
    split
    · rw [ih _ (by omega) _ _ rfl, insInner_size]
    · rfl
theorem pairs_size (lt : Int → Int → Bool) (s n k a : Nat) (d : Array Int) : (pairs lt s n k a d).size = d.size := by
  induction k generalizing a d with
  | zero =>
    rw [pairs]
    split
    · exact symN_size ..
    · rfl
  | succ k ih => rw [pairs, ih, symN_size]
theorem blocks_size (lt : Int → Int → Bool) (n k a : Nat) (d : Array Int) : (blocks lt n k a d).size = d.size := by
  induction k generalizing a d with
  | zero => exact ins_size ..
  | succ k ih => rw [blocks, ih, ins_size]
set_option maxHeartbeats 8000000 in
set_option maxRecDepth 1000000 in
theorem i_stable {f : Nat} {cb : Array Value} {cf : Int → Int → Int} {G : Int → Prop} (g c n : Nat) (rest : List Value) (d : Array Int) (w : World) (hcm : Cmp f cb cf G g w) (h : IA G w g rest d) (hn : d.size = n) (hd : (n : Int) ≤ 1000) :
    Calls Try.prog 33 #[.slice (some ⟨g, 0, none⟩) n c, .int .i64 n, .func (.func f) #[] cb] w fun e w' => e = .returned (.tuple #[]) ∧ IA G w' g rest (stableF (ltC cf) n d) ∧ Fr (fun q => q = g) w w' := by
  obtain ⟨D1, hD1⟩ : ∃ q, q = blocks (ltC cf) n (n / 20) 0 d := ⟨_, rfl⟩
  obtain ⟨R, hR⟩ : ∃ q, q = stableF (ltC cf) n d := ⟨_, rfl⟩
  rw [← hR]
  have HR : Hid (merges (ltC cf) n 6 20 D1 = R) := Lib.hid (by rw [hR, hD1]; rfl)
  have HB0 : Hid (blocks (ltC cf) n (n / 20) 0 d = D1) := Lib.hid hD1.symm
  have HND : Hid (D1.size = n) := Lib.hid (by rw [hD1, blocks_size, hn])
  have HCM := Lib.hid hcm
  have H0 := Lib.hid h
  have HN0 := Lib.hid hn
  have eg := hcm.1
  have hn1000 : n ≤ 1000 := by omega
  clear hD1 hR hcm h hn
  go_enter Try.func33, Try.ntmps33
  go_wp2_with (fail)
  go_loopg [7, 8] (n / 20) (fun gg va vb wr => ∃ (k a : Nat) (dk : Array Int), k = gg ∧ va = .int .i64 a ∧ vb = .int .i64 ((a : Int) + 20) ∧ a + 20 * k ≤ n ∧ n < a + 20 * k + 20 ∧ Hid (dk.size = n) ∧ Hid (blocks (ltC cf) n k a dk = D1) ∧ Hid (IA G wr g rest dk) ∧ Fr (fun q => q = g) w wr)
  case atStart => exact ⟨n / 20, 0, d, rfl, rfl, rfl, by omega, by omega, HN0, HB0, H0, Fr.refl _ _⟩
  case round =>
    clear HB0 H0 HN0
    obtain ⟨k, a, dk, rfl, rfl, rfl, h1, h2, HN, HB, H, F⟩ := hrel
    have ha1000 : (a : Int) ≤ 1000 := by omega
    by_cases hk : 0 < k
    · obtain ⟨k, rfl⟩ : ∃ q, k = q + 1 := ⟨k - 1, by omega⟩
      have hle : (a : Int) + 20 ≤ n := by omega
      obtain ⟨b, hb⟩ : ∃ b, b = a + 20 := ⟨_, rfl⟩
      have eb : (a : Int) + 20 = b := by omega
      have hbn : b ≤ n := by omega
      have hb1000 : (b : Int) ≤ 1000 := by omega
      have HC := Lib.hid (i_insertion g c rest dk a b wr (HCM.out.at_ F) H.out (by rw [HN.out]; exact hbn) (by rw [HN.out]; exact hd) (by omega))
      rw [HN.out] at HC
      obtain ⟨dq, hdq⟩ : ∃ q, q = Sort.insertionSort (ltC cf) dk a b := ⟨_, rfl⟩
      rw [← hdq] at HC
      have HNq : Hid (dq.size = n) := Lib.hid (by rw [hdq, ins_size]; exact HN.out)
      have HBq : Hid (blocks (ltC cf) n k b dq = D1) := Lib.hid (by rw [← HB.out, blocks, hdq, hb])
      have hm1 : b + 20 * k ≤ n := by omega
      have hm2 : n < b + 20 * k + 20 := by omega
      clear hdq hb h1 h2
      go_wp2_with (go_at_call 44; refine HC.out.mono ?_; rintro e w1 ⟨rfl, hU1, hF1⟩)
      go_roundg k
      case measure => omega
      case rel => exact ⟨k, b, dq, rfl, rfl, rfl, hm1, hm2, HNq, HBq, Lib.hid hU1, F.trans' hF1⟩
    · obtain rfl : k = 0 := by omega
      have hle : ¬ ((a : Int) + 20 ≤ n) := by omega
      have HC := Lib.hid (i_insertion g c rest dk a n wr (HCM.out.at_ F) H.out (by rw [HN.out]; exact Nat.le_refl _) (by rw [HN.out]; exact hd) (by omega))
      rw [HN.out, show Sort.insertionSort (ltC cf) dk a n = D1 from HB.out] at HC
      clear HN HB H
      go_wp2_with (go_at_call 44; refine HC.out.mono ?_; rintro e w1 ⟨rfl, hU1, hF1⟩)
      have F1 := F.trans' hF1
      clear F hF1 HC
      go_loopg [6, 7, 8, 9] 6 (fun gg vs va vb vm wr => ∃ (k s : Nat) (dk : Array Int), k = gg ∧ vs = .int .i64 s ∧ 20 ≤ s ∧ s ≤ 2000 ∧ n ≤ s * 2 ^ k ∧ Hid (dk.size = n) ∧ Hid (merges (ltC cf) n k s dk = R) ∧ Hid (IA G wr g rest dk) ∧ Fr (fun q => q = g) w wr)
      case atStart => exact ⟨6, 20, D1, rfl, rfl, by omega, by omega, by omega, HND, HR, Lib.hid hU1, F1⟩
      case round =>
        clear HR HND hU1 F1 hle
        obtain ⟨k, s, dk, rfl, rfl, hs1, hs2, hs3, HN, HR, H, F⟩ := hrel
        have hs1280 : (s : Int) ≤ 2000 := by omega
        by_cases hsn : s < n
        · have hsnI : (s : Int) < n := by omega
          obtain ⟨k, rfl⟩ : ∃ q, k = q + 1 := ⟨k - 1, by
            cases k with
            | zero => rw [Nat.pow_zero, Nat.mul_one] at hs3; omega
            | succ k => rfl⟩
          have hs4 : n ≤ 2 * s * 2 ^ k := by rw [Nat.pow_succ] at hs3; rw [Nat.mul_assoc, Nat.mul_comm s (2 ^ k), ← Nat.mul_assoc, Nat.mul_comm (2 * 2 ^ k) s, Nat.mul_comm 2 (2 ^ k)]; exact hs3
          obtain ⟨t, ht⟩ : ∃ t, t = 2 * s := ⟨_, rfl⟩
          have et : (2 : Int) * s = t := by omega
          have et2 : (s : Int) * 2 = t := by omega
          have ht1000 : (t : Int) ≤ 2000 := by omega
          obtain ⟨D2, hD2⟩ : ∃ q, q = pairs (ltC cf) s n (n / t) 0 dk := ⟨_, rfl⟩
          have HR2 : Hid (merges (ltC cf) n k t D2 = R) := Lib.hid (by rw [← HR.out, merges, if_pos hsn, hD2, ht])
          have HP0 := Lib.hid hD2.symm
          have HND2 : Hid (D2.size = n) := Lib.hid (by rw [hD2, pairs_size]; exact HN.out)
          have HT := Lib.hid ht
          rw [← ht] at hs4
          have hq1 : 0 + n / t * t ≤ n := by rw [Nat.zero_add]; exact Nat.div_mul_le_self n t
          have hq2 : n < 0 + n / t * t + t := by
            have := Nat.div_add_mod n t
            have h3 := Nat.mod_lt n (show 0 < t by omega)
            rw [Nat.mul_comm] at this; omega
          clear hD2 HR ht
          go_wp2_with (fail)
          go_loopg [7, 8] (n / t) (fun gg va vb wr => ∃ (k a kt : Nat) (dk : Array Int), k = gg ∧ Hid (kt = k * t) ∧ va = .int .i64 a ∧ vb = .int .i64 ((a : Int) + t) ∧ a + kt ≤ n ∧ n < a + kt + t ∧ Hid (dk.size = n) ∧ Hid (pairs (ltC cf) s n k a dk = D2) ∧ Hid (IA G wr g rest dk) ∧ Fr (fun q => q = g) w wr)
          case atStart => exact ⟨n / t, 0, n / t * t, dk, rfl, Lib.hid rfl, rfl, by go_num, hq1, hq2, HN, HP0, H, F⟩
          case round =>
            clear HP0 H HN F hq1 hq2
            obtain ⟨q, a, kt, dk, rfl, HKT, rfl, rfl, h1, h2, HN, HP, H, F⟩ := hrel
            have ha1000 : (a : Int) ≤ 1000 := by omega
            obtain ⟨m, hm⟩ : ∃ m, m = a + s := ⟨_, rfl⟩
            have em : (a : Int) + s = m := by omega
            have hm2000 : (m : Int) ≤ 3000 := by omega
            by_cases hq : 0 < q
            · obtain ⟨q, rfl⟩ : ∃ z, q = z + 1 := ⟨q - 1, by omega⟩
              obtain ⟨kt2, hkt2⟩ : ∃ z, z = q * t := ⟨_, rfl⟩
              have hkt : kt = kt2 + t := by rw [HKT.out, hkt2, Nat.succ_mul]
              have hle : (a : Int) + t ≤ n := by omega
              obtain ⟨b, hb⟩ : ∃ b, b = a + t := ⟨_, rfl⟩
              have eb : (a : Int) + t = b := by omega
              have hbn : b ≤ n := by omega
              have hb1000 : (b : Int) ≤ 1000 := by omega
              have HC := Lib.hid (i_sym (2 * s) g c n rest dk a m b wr (by omega) (HCM.out.at_ F) H.out HN.out (by omega) (by omega) hbn hd)
              obtain ⟨dq, hdq⟩ : ∃ z, z = symN (ltC cf) (2 * s) dk a m b := ⟨_, rfl⟩
              rw [← hdq] at HC
              have HNq : Hid (dq.size = n) := Lib.hid (by rw [hdq, symN_size]; exact HN.out)
              have HPq : Hid (pairs (ltC cf) s n q b dq = D2) := Lib.hid (by rw [← HP.out, pairs, hdq, hb, hm, HT.out])
              have HK2 : Hid (kt2 = q * t) := Lib.hid hkt2
              have hm1 : b + kt2 ≤ n := by omega
              have hm2 : n < b + kt2 + t := by omega
              clear hdq hb h1 h2 hm hkt2 hkt
              go_wp2_with (go_at_call 45; refine HC.out.mono ?_; rintro e w2 ⟨rfl, hU2, hF2⟩)
              go_roundg q
              case measure => omega
              case rel => exact ⟨q, b, kt2, dq, rfl, HK2, rfl, rfl, hm1, hm2, HNq, HPq, Lib.hid hU2, F.trans' hF2⟩
            · obtain rfl : q = 0 := by omega
              have hkt : kt = 0 := by rw [HKT.out, Nat.zero_mul]
              have hle : ¬ ((a : Int) + t ≤ n) := by omega
              by_cases hmn : m < n
              · have hmnI : (m : Int) < n := by omega
                have HC := Lib.hid (i_sym (n - a) g c n rest dk a m n wr (by omega) (HCM.out.at_ F) H.out HN.out (by omega) (by omega) (Nat.le_refl _) hd)
                have hx : symN (ltC cf) (n - a) dk a m n = D2 := by rw [← HP.out, pairs, ← hm, if_pos hmn]
                rw [hx] at HC
                clear hx hm hkt h1 h2
                go_wp2_with (go_at_call 45; refine HC.out.mono ?_; rintro e w2 ⟨rfl, hU2, hF2⟩)
                go_roundg k
                case measure => omega
                case rel => exact ⟨k, t, D2, rfl, rfl, by omega, by omega, hs4, HND2, HR2, Lib.hid hU2, F.trans' hF2⟩
              · have hmnI : ¬ ((m : Int) < n) := by omega
                have hx : Hid (dk = D2) := Lib.hid (by rw [← HP.out, pairs, ← hm, if_neg hmn])
                clear hm hkt h1 h2
                go_wp2_with (fail)
                go_roundg k
                case measure => omega
                case rel => exact ⟨k, t, D2, rfl, rfl, by omega, by omega, hs4, HND2, HR2, by rw [← hx.out]; exact H, F⟩
        · have hsnI : ¬ ((s : Int) < n) := by omega
          have hx : Hid (dk = R) := Lib.hid (by
            rw [← HR.out]
            cases k with
            | zero => rfl
            | succ k => rw [merges, if_neg hsn])
          go_wp2_with (fail)
          refine bodyPost_end (results_none rfl _ _ _) rfl ?_
          exact ⟨rfl, by rw [← hx.out]; exact H.out, F⟩
theorem i_sortStable {f : Nat} {cb : Array Value} {cf : Int → Int → Int} {G : Int → Prop} (g c n : Nat) (rest : List Value) (d : Array Int) (w : World) (hcm : Cmp f cb cf G g w) (h : IA G w g rest d) (hn : d.size = n) (hd : (n : Int) ≤ 1000) :
    Calls Try.prog 26 #[.slice (some ⟨g, 0, none⟩) n c, .func (.func f) #[] cb] w fun e w' => e = .returned (.tuple #[]) ∧ IA G w' g rest (stableF (ltC cf) n d) ∧ Fr (fun q => q = g) w w' := by
  have HC := Lib.hid (i_stable g c n rest d w hcm h hn hd)
  go_enter Try.func26, Try.ntmps26
  go_wp2_with (go_at_call 33; refine HC.out.mono ?_; rintro e w2 ⟨rfl, hU2, hF2⟩)
  go_end0
  exact ⟨rfl, hU2, hF2⟩
end Go.Proofs.Ytdgaiacigmcibaa
