/- signs.Name. No condition. -/
import Derived.Test.YtbpbghmhenilcaaDoorColl
import Derived.Test.YtbpbghmhenilcaaDoorBytes
namespace Go.Proofs.YtbpbghmhenilcaaDoor
open Go.RowKit

def letterN (c : Nat) : Bool := decide (97 ≤ c ∧ c ≤ 122)
def otherN (c : Nat) : Bool := decide ((48 ≤ c ∧ c ≤ 57) ∨ c = 45 ∨ c = 58)
def okAt (i c : Nat) : Bool := letterN c || (decide (i ≠ 0) && otherN c)
def okFrom (l : List Nat) : Nat → Bool
  | 0 => true
  | k + 1 => okFrom l k && okAt k (l.getD k 0)
def nameS (s : ByteArray) : Bool := okFrom (strB s) s.size && decide (1 ≤ s.size ∧ s.size ≤ 16)
theorem ok_false (l : List Nat) (k n : Nat) (h : okFrom l k = false) (hn : k ≤ n) : okFrom l n = false := by
  induction n with
  | zero =>
    obtain rfl : k = 0 := by omega
    exact h
  | succ n ih =>
    by_cases he : k = n + 1
    · rw [← he]; exact h
    · rw [okFrom, ih (by omega), Bool.false_and]
set_option maxHeartbeats 4000000 in
set_option maxRecDepth 100000 in
theorem name_f (s : ByteArray) (w : World) (hs : s.size < 9223372036854775807) :
    Calls Tryd.prog 15 #[.string s] w fun e w' => e = .returned (.bool (nameS s)) ∧ Fr Nothing w w' := by
  obtain ⟨N, hN⟩ : ∃ N, N = s.size := ⟨_, rfl⟩
  have hN9 : (N : Int) < 9223372036854775807 := by omega
  have HN : Hid (s.size = N) := Lib.hid hN.symm
  obtain ⟨R, hR⟩ : ∃ R, R = nameS s := ⟨_, rfl⟩
  have HR := Lib.hid hR
  rw [← hR]
  clear hR
  go_enter Tryd.func15, Tryd.ntmps15
  go_wp2_with (with_reducible refine wpList_bytes_of rfl 9 37 (.tmp 7) rfl 5 Tryd.underlying9 Tryd.underlying37 Tryd.underlying5 s rfl ?_)
  intro cp w1 hsl F
  obtain ⟨g, hg⟩ : ∃ g, g = w.heap.size := ⟨_, rfl⟩
  rw [← hg] at hsl ⊢
  rw [← hN]
  have HSL := Lib.hid hsl
  have HF := Lib.hid F
  clear hsl F hg hN
  go_wp2_with (fail)
  go_loopg [10] N (fun gg vi wr => ∃ k, k ≤ N ∧ gg = N - k ∧ vi = .int .i64 (k : Nat) ∧ Hid (okFrom (strB s) k = true) ∧ wr = w1)
  case atStart => exact ⟨0, Nat.zero_le _, rfl, rfl, Lib.hid rfl, rfl⟩
  case round =>
    obtain ⟨k, hk, rfl, rfl, HO, rfl⟩ := hrel
    by_cases hlt : k < N
    · have hltI : (k : Int) < N := by omega
      have hkl : k < (byteCells (strB s)).length := by rw [byte_len, strB_len]; have := HN.out; omega
      obtain ⟨c, hc⟩ : ∃ c, c = (strB s).getD k 0 := ⟨_, rfl⟩
      have hkb : k < (strB s).length := by rw [strB_len]; have := HN.out; omega
      have cc : wr.cell? ⟨g, k, none⟩ = some (.int .u8 (c : Nat)) := by
        obtain ⟨b, o, hbo, h⟩ := Sl.oneCell HSL.out (j := k) (v := .int .u8 (c : Nat)) (by
          unfold byteCells
          rw [List.getElem?_map, List.getElem?_eq_getElem hkb, hc]
          simp [hkb])
        simp only [Option.some.injEq, Addr.mk.injEq] at hbo
        obtain ⟨rfl, rfl, _⟩ := hbo
        rw [Nat.zero_add] at h; exact h
      have hstep : okFrom (strB s) (k + 1) = okAt k c := by rw [okFrom, HO.out, Bool.true_and, hc]
      have hfin : okAt k c = false → R = false := fun h => by
        rw [HR.out]; unfold nameS
        rw [ok_false _ (k + 1) _ (by rw [hstep]; exact h) (by have := HN.out; omega), Bool.false_and]
      have HST := Lib.hid hstep
      have HFIN := Lib.hid hfin
      clear hstep hfin hc hkl hkb
      have cases7 : (97 ≤ c ∧ c ≤ 122) ∨ (c < 97 ∧ 48 ≤ c ∧ c ≤ 57) ∨ c = 45 ∨ c = 58 ∨ (c < 48 ∧ c ≠ 45) ∨ (57 < c ∧ c < 97 ∧ c ≠ 58) ∨ 122 < c := by omega
      rcases cases7 with ⟨a1, a2⟩ | ⟨a1, a2, a3⟩ | rfl | rfl | ⟨a1, a2⟩ | ⟨a1, a2, a3⟩ | a1
      · have b97 : (97 : Int) ≤ c := by omega
        have b122 : (c : Int) ≤ 122 := by omega
        have b48 : (48 : Int) ≤ c := by omega
        have b57 : ¬ ((c : Int) ≤ 57) := by omega
        have d57 : decide ((c : Int) ≤ 57) = false := decide_eq_false b57
        have e45 : ((c : Int) == 45) = false := by rw [beq_eq_false_iff_ne]; omega
        have e58 : ((c : Int) == 58) = false := by rw [beq_eq_false_iff_ne]; omega
        have HOK : Hid (okAt k c = true) := Lib.hid (by unfold okAt letterN; rw [decide_eq_true ⟨a1, a2⟩, Bool.true_or])
        clear a1 a2
        go_wp2_with (fail)
        go_roundg (N - (k + 1))
        case measure => omega
        case rel => exact ⟨k + 1, by omega, rfl, by go_num, Lib.hid (by rw [HST.out]; exact HOK.out), rfl⟩
      · have b97 : ¬ ((97 : Int) ≤ c) := by omega
        have d97 : decide ((97 : Int) ≤ c) = false := decide_eq_false b97
        have b48 : (48 : Int) ≤ c := by omega
        have b57 : (c : Int) ≤ 57 := by omega
        have HL : letterN c = false := by unfold letterN; exact decide_eq_false (by omega)
        have HT : otherN c = true := by unfold otherN; exact decide_eq_true (by omega)
        by_cases hk0 : k = 0
        · subst hk0
          have HRF : Hid (R = false) := Lib.hid (HFIN.out (by unfold okAt; rw [HL]; rfl))
          clear a1 a2 a3
          clear HL HT
          go_wp2_with (fail)
          go_ret
          exact ⟨by rw [HRF.out]; rfl, HF.out⟩
        · have ek : ((k : Int) == 0) = false := by rw [beq_eq_false_iff_ne]; omega
          have HOK : Hid (okAt k c = true) := Lib.hid (by unfold okAt; rw [HL, HT, decide_eq_true hk0]; rfl)
          clear a1 a2 a3
          clear HL HT hk0
          go_wp2_with (fail)
          go_roundg (N - (k + 1))
          case measure => omega
          case rel => exact ⟨k + 1, by omega, rfl, by go_num, Lib.hid (by rw [HST.out]; exact HOK.out), rfl⟩
      · have HL : letterN 45 = false := by unfold letterN; exact decide_eq_false (by omega)
        have HT : otherN 45 = true := by unfold otherN; exact decide_eq_true (by omega)
        by_cases hk0 : k = 0
        · subst hk0
          have HRF : Hid (R = false) := Lib.hid (HFIN.out (by unfold okAt; rw [HL]; rfl))
          clear HL HT
          go_wp2_with (fail)
          go_ret
          exact ⟨by rw [HRF.out]; rfl, HF.out⟩
        · have ek : ((k : Int) == 0) = false := by rw [beq_eq_false_iff_ne]; omega
          have HOK : Hid (okAt k 45 = true) := Lib.hid (by unfold okAt; rw [HL, HT, decide_eq_true hk0]; rfl)
          clear HL HT hk0
          go_wp2_with (fail)
          go_roundg (N - (k + 1))
          case measure => omega
          case rel => exact ⟨k + 1, by omega, rfl, by go_num, Lib.hid (by rw [HST.out]; exact HOK.out), rfl⟩
      · have HL : letterN 58 = false := by unfold letterN; exact decide_eq_false (by omega)
        have HT : otherN 58 = true := by unfold otherN; exact decide_eq_true (by omega)
        by_cases hk0 : k = 0
        · subst hk0
          have HRF : Hid (R = false) := Lib.hid (HFIN.out (by unfold okAt; rw [HL]; rfl))
          clear HL HT
          go_wp2_with (fail)
          go_ret
          exact ⟨by rw [HRF.out]; rfl, HF.out⟩
        · have ek : ((k : Int) == 0) = false := by rw [beq_eq_false_iff_ne]; omega
          have HOK : Hid (okAt k 58 = true) := Lib.hid (by unfold okAt; rw [HL, HT, decide_eq_true hk0]; rfl)
          clear HL HT hk0
          go_wp2_with (fail)
          go_roundg (N - (k + 1))
          case measure => omega
          case rel => exact ⟨k + 1, by omega, rfl, by go_num, Lib.hid (by rw [HST.out]; exact HOK.out), rfl⟩
      · have b97 : ¬ ((97 : Int) ≤ c) := by omega
        have d97 : decide ((97 : Int) ≤ c) = false := decide_eq_false b97
        have b48 : ¬ ((48 : Int) ≤ c) := by omega
        have d48 : decide ((48 : Int) ≤ c) = false := decide_eq_false b48
        have e45 : ((c : Int) == 45) = false := by rw [beq_eq_false_iff_ne]; omega
        have e58 : ((c : Int) == 58) = false := by rw [beq_eq_false_iff_ne]; omega
        have HL : letterN c = false := by unfold letterN; exact decide_eq_false (by omega)
        have HT : otherN c = false := by unfold otherN; exact decide_eq_false (by omega)
        by_cases hk0 : k = 0
        · subst hk0
          have HRF : Hid (R = false) := Lib.hid (HFIN.out (by unfold okAt; rw [HL]; rfl))
          clear a1 a2
          clear HL HT
          go_wp2_with (fail)
          go_ret
          exact ⟨by rw [HRF.out]; rfl, HF.out⟩
        · have ek : ((k : Int) == 0) = false := by rw [beq_eq_false_iff_ne]; omega
          have HRF : Hid (R = false) := Lib.hid (HFIN.out (by unfold okAt; rw [HL, HT, Bool.and_false]; rfl))
          clear a1 a2
          clear HL HT hk0
          go_wp2_with (fail)
          go_ret
          exact ⟨by rw [HRF.out]; rfl, HF.out⟩
      · have b97 : ¬ ((97 : Int) ≤ c) := by omega
        have d97 : decide ((97 : Int) ≤ c) = false := decide_eq_false b97
        have b48 : (48 : Int) ≤ c := by omega
        have b57 : ¬ ((c : Int) ≤ 57) := by omega
        have d57 : decide ((c : Int) ≤ 57) = false := decide_eq_false b57
        have e45 : ((c : Int) == 45) = false := by rw [beq_eq_false_iff_ne]; omega
        have e58 : ((c : Int) == 58) = false := by rw [beq_eq_false_iff_ne]; omega
        have HL : letterN c = false := by unfold letterN; exact decide_eq_false (by omega)
        have HT : otherN c = false := by unfold otherN; exact decide_eq_false (by omega)
        by_cases hk0 : k = 0
        · subst hk0
          have HRF : Hid (R = false) := Lib.hid (HFIN.out (by unfold okAt; rw [HL]; rfl))
          clear a1 a2 a3
          clear HL HT
          go_wp2_with (fail)
          go_ret
          exact ⟨by rw [HRF.out]; rfl, HF.out⟩
        · have ek : ((k : Int) == 0) = false := by rw [beq_eq_false_iff_ne]; omega
          have HRF : Hid (R = false) := Lib.hid (HFIN.out (by unfold okAt; rw [HL, HT, Bool.and_false]; rfl))
          clear a1 a2 a3
          clear HL HT hk0
          go_wp2_with (fail)
          go_ret
          exact ⟨by rw [HRF.out]; rfl, HF.out⟩
      · have b97 : (97 : Int) ≤ c := by omega
        have b122 : ¬ ((c : Int) ≤ 122) := by omega
        have d122 : decide ((c : Int) ≤ 122) = false := decide_eq_false b122
        have b48 : (48 : Int) ≤ c := by omega
        have b57 : ¬ ((c : Int) ≤ 57) := by omega
        have d57 : decide ((c : Int) ≤ 57) = false := decide_eq_false b57
        have e45 : ((c : Int) == 45) = false := by rw [beq_eq_false_iff_ne]; omega
        have e58 : ((c : Int) == 58) = false := by rw [beq_eq_false_iff_ne]; omega
        have HL : letterN c = false := by unfold letterN; exact decide_eq_false (by omega)
        have HT : otherN c = false := by unfold otherN; exact decide_eq_false (by omega)
        by_cases hk0 : k = 0
        · subst hk0
          have HRF : Hid (R = false) := Lib.hid (HFIN.out (by unfold okAt; rw [HL]; rfl))
          clear a1
          clear HL HT
          go_wp2_with (fail)
          go_ret
          exact ⟨by rw [HRF.out]; rfl, HF.out⟩
        · have ek : ((k : Int) == 0) = false := by rw [beq_eq_false_iff_ne]; omega
          have HRF : Hid (R = false) := Lib.hid (HFIN.out (by unfold okAt; rw [HL, HT, Bool.and_false]; rfl))
          clear a1
          clear HL HT hk0
          go_wp2_with (fail)
          go_ret
          exact ⟨by rw [HRF.out]; rfl, HF.out⟩
    · obtain rfl : N = k := by omega
      have hR : R = decide (1 ≤ N ∧ N ≤ 16) := by
        rw [HR.out]; unfold nameS
        rw [HN.out, HO.out, Bool.true_and]
      have HRR := Lib.hid hR
      by_cases h0 : N = 0
      · subst h0
        have hse : s = ByteArray.empty := by
          have := HN.out
          exact ByteArray.ext (Array.eq_empty_of_size_eq_zero this)
        subst hse
        clear hR
        go_wp2_with (fail)
        go_ret
        exact ⟨by rw [HRR.out]; rfl, HF.out⟩
      · have hne : s.toList.isEmpty = false := by
          cases h : s.toList with
          | nil =>
            rw [ByteArray.toList_eq] at h
            have h3 : s.data.size = N := HN.out
            have h4 := congrArg List.length h
            rw [Array.length_toList] at h4
            have h5 : s.data.size = 0 := h4
            omega
          | cons x xs => rfl
        have hsz := HN.out
        by_cases h16 : N ≤ 16
        · have b16 : (s.size : Int) ≤ 16 := by omega
          have HRT : Hid (R = true) := Lib.hid (by rw [hR]; exact decide_eq_true (by omega))
          clear hR h0 hsz h16
          go_wp2_with (fail)
          go_ret
          exact ⟨by rw [HRT.out]; rfl, HF.out⟩
        · have b16 : ¬ ((s.size : Int) ≤ 16) := by omega
          have d16 : decide ((s.size : Int) ≤ 16) = false := decide_eq_false b16
          have HRT : Hid (R = false) := Lib.hid (by rw [hR]; exact decide_eq_false (by omega))
          clear hR h0 hsz h16
          go_wp2_with (fail)
          go_ret
          exact ⟨by rw [HRT.out]; rfl, HF.out⟩
end Go.Proofs.YtbpbghmhenilcaaDoor
