/- A number's token, as the program and the document's answer write it. No condition. -/
import Derived.Test.YtajpicbaoicpfaaRows
import Derived.Test.YtajpicbaoicpfaaBase
import Derived.ProofKit
import Derived.Test.YtajpicbaoicpfaaTok
import Derived.Laws.IdiomStrings
namespace Go.Proofs.Ytajpicbaoicpfaa
open Go.RowKit

def tokB (n : Nat) : ByteArray := ⟨(tok n).toArray⟩
def signsB : ByteArray := { data := #[48, 49, 50, 51, 52, 53, 54, 55, 56, 57, 97, 98, 99, 100, 101, 102, 103, 104, 105, 106, 107, 108, 109, 110, 111, 112, 113, 114, 115, 116, 117, 118] }
theorem signs_at (d : Nat) (h : d < 32) : signsB.data.toList[d]? = some (sg d) := by
  have : ∀ d : Fin 32, signsB.data.toList[d.1]? = some (sg d.1) := by decide
  exact this ⟨d, h⟩
theorem signs_ix (d : Nat) (h : d < 32) : signsB[d]'h = sg d := by
  have : ∀ d : Fin 32, signsB[d.1]'d.2 = sg d.1 := by decide
  exact this ⟨d, h⟩
theorem tokk_get (n k j : Nat) (h : j < k) : (tokk n k)[j]? = some (sg (n / 32 ^ (k - 1 - j) % 32)) := by
  induction k generalizing n with
  | zero => omega
  | succ k ih =>
    unfold tokk
    by_cases hj : j < k
    · rw [List.getElem?_append_left (by rw [tokk_len]; exact hj), ih _ hj, Nat.div_div_eq_div_mul, ← Nat.pow_succ']
      congr 5
      omega
    · obtain rfl : j = k := by omega
      rw [List.getElem?_append_right (by rw [tokk_len]; omega), tokk_len]
      simp
theorem tokk_front (n k : Nat) : tokk n (k + 1) = sg (n / 32 ^ k % 32) :: tokk n k := by
  apply List.ext_getElem?
  intro j
  by_cases hj : j < k + 1
  · rw [tokk_get n (k + 1) j hj]
    cases j with
    | zero => rfl
    | succ j =>
      rw [List.getElem?_cons_succ, tokk_get n k j (by omega)]
      rw [show k + 1 - 1 - (j + 1) = k - 1 - j by omega]
  · rw [List.getElem?_eq_none (by rw [tokk_len]; omega), List.getElem?_eq_none (by rw [List.length_cons, tokk_len]; omega)]
theorem sign_front (S : ByteArray) (n k N : Nat) (hN : N = n / 32 ^ k) (hS : S.data.toList = tokk n k) : (signsB.extract (N % 32) (N % 32 + 1) ++ S).data.toList = tokk n (k + 1) := by
  have h32 : N % 32 < 32 := Nat.mod_lt _ (by omega)
  rw [tokk_front, ← hS, ← hN]
  generalize N % 32 = d at h32
  have : ∀ d : Fin 32, (signsB.extract d.1 (d.1 + 1)).data.toList = [sg d.1] := by decide
  have h1 := this ⟨d, h32⟩
  rw [ByteArray.data_append, Array.toList_append, h1]
  rfl
/-- The digit that the program cuts out. -/
theorem cut_digit (n k : Nat) (hn : n < 2 ^ 64) : bits .and .u64 ((n : Int) / 2 ^ (5 * k)) 31 = ((n / 32 ^ k % 32 : Nat) : Int) := by
  have h0 : (n : Int) / 2 ^ (5 * k) = ((n / 32 ^ k : Nat) : Int) := by
    have e : (2 : Int) ^ (5 * k) = ((32 ^ k : Nat) : Int) := by
      have h5 : (32 : Nat) ^ k = 2 ^ (5 * k) := by rw [show (32 : Nat) = 2 ^ 5 from rfl, ← Nat.pow_mul]
      rw [h5]; simp
    rw [e, Int.natCast_ediv]
  rw [h0]
  have hm : n / 32 ^ k < 2 ^ 64 := Nat.lt_of_le_of_lt (Nat.div_le_self _ _) hn
  generalize n / 32 ^ k = m at hm
  have h1 : (BitVec.ofInt 64 (m : Int)).toNat = m := by
    rw [BitVec.ofInt_natCast, BitVec.toNat_ofNat]; exact Nat.mod_eq_of_lt hm
  have h2 : (BitVec.ofInt 64 (31 : Int)).toNat = 31 := by decide
  show IntKind.u64.wrap ((BitVec.ofInt 64 (m : Int) &&& BitVec.ofInt 64 (31 : Int)).toNat : Int) = _
  rw [BitVec.toNat_and, h1, h2, show (31 : Nat) = 2 ^ 5 - 1 from rfl, Nat.and_two_pow_sub_one_eq_mod]
  have hw : ∀ z : Int, IntKind.u64.wrap z = z % 18446744073709551616 := fun z => by simp [IntKind.wrap, IntKind.bits, IntKind.signed]
  rw [hw]
  have := Nat.mod_lt m (show 0 < 2 ^ 5 by decide)
  omega

set_option maxHeartbeats 4000000 in
set_option maxRecDepth 100000 in
theorem tok_of (n : Nat) (hn : n < 2 ^ 64) (w : World) :
    Calls Try.prog 11 #[.int .u64 n] w fun e w' => e = .returned (.string (tokB n)) ∧ Fr Nothing w w' := by
  go_enter Try.func11, Try.ntmps11
  go_wp2_with (fail)
  go_loopg [5] 13 (fun g i wr => ∃ (k : Nat) (L : List Value), k ≤ 13 ∧ g = 13 - k ∧ i = .int .i64 k ∧ Row wr w.heap.size L 42 ∧ L.length = 13 ∧ Hid (∀ j, 13 - k ≤ j → j < 13 → L[j]? = some (.int .u8 (sg (n / 32 ^ (12 - j) % 32)).toNat)) ∧ (∀ j, j < 13 → ∃ x, L[j]? = some (.int .u8 x)) ∧ Fr Nothing w wr)
  case atStart => exact ⟨0, List.replicate 13 (.int .u8 0), by omega, rfl, rfl, Row.allocNew w (List.replicate 13 (.int .u8 0)) _, rfl, Lib.hid (fun j h1 h2 => by omega), fun j hj => ⟨0, by rw [List.getElem?_replicate, if_pos hj]⟩, Fr.alloc _ _ _⟩
  case round =>
    obtain ⟨k, L, hk, rfl, rfl, hr, hL, HD, hu, F⟩ := hrel
    by_cases hlt : k < 13
    · obtain ⟨x, hx⟩ := hu (12 - k) (by omega)
      have c0 := hr.cell (12 - k) hx
      have f0 := hr.free (12 - k)
      obtain ⟨d, hd⟩ : ∃ d, d = n / 32 ^ k % 32 := ⟨_, rfl⟩
      have hd32 : d < 32 := by omega
      have hb : bits .and .u64 ((n : Int) / 2 ^ (5 * k)) 31 = (d : Int) := by rw [hd]; exact cut_digit n k hn
      have HDd := Lib.hid hd
      clear hd
      go_wp2_with (fail)
      go_roundg (13 - (k + 1))
      case measure => omega
      case rel =>
        refine ⟨k + 1, _, by omega, rfl, by go_num, hr.set (12 - k) _, by rw [List.length_set]; exact hL, Lib.hid (fun j h1 h2 => ?_), fun j hj => ?_, F.trans (Fr.setCell (S := OnlyB w.heap.size) (p := ⟨w.heap.size, 12 - k, none⟩) rfl _) (fun b hb h => by have : b = w.heap.size := h; omega)⟩
        · rw [List.getElem?_set]
          by_cases he : 12 - k = j
          · rw [if_pos he, if_pos (by omega)]
            have e := signs_ix d hd32
            rw [show 12 - j = k by omega, ← HDd.out, ← e]
            rfl
          · rw [if_neg he]
            exact HD.out j (by omega) h2
        · rw [List.getElem?_set]
          by_cases he : 12 - k = j
          · rw [if_pos he, if_pos (by omega)]; exact ⟨_, rfl⟩
          · rw [if_neg he]; exact hu j hj
    · obtain rfl : k = 13 := by omega
      have hs : ∀ j (hj : j < (tok n).length), wr.cell? (Addr.add ⟨w.heap.size, 0, none⟩ j) = some (.int .u8 ((tok n)[j].toNat : Int)) := by
        intro j hj
        have hj' : j < 13 := by rw [tok_len] at hj; exact hj
        have h1 := hr.cell j (HD.out j (by omega) hj')
        have h2 := tokk_get n 13 j hj'
        have h3 : (tok n)[j] = sg (n / 32 ^ (12 - j) % 32) := by
          have := List.getElem?_eq_getElem hj
          rw [show (tok n)[j]? = (tokk n 13)[j]? from rfl, h2] at this
          exact (Option.some.inj this).symm
        rw [← h3] at h1
        have e : (Addr.add ⟨w.heap.size, 0, none⟩ j) = ⟨w.heap.size, j, none⟩ := by
          cases j <;> simp [Addr.add]
        rw [e]; exact h1
      have hcv := run_convert_bytes_back (P := Try.prog) wr 40 9 5 ⟨w.heap.size, 0, none⟩ 13 (tok n) Try.underlying40 Try.underlying5 Try.underlying9 hs
      rw [tok_len] at hcv
      have hcv' : Sem.run Try.prog (convert 40 9 (.slice (some ⟨w.heap.size, 0, none⟩) 13 13)) wr = .ok (.string (tokB n)) wr := hcv
      clear hs hcv hu HD
      go_wp2_with (fail)
      go_ret
      exact ⟨rfl, F⟩
set_option maxHeartbeats 4000000 in
set_option maxRecDepth 100000 in
theorem ref_of (n : Nat) (_hn : n < 2 ^ 64) (w : World) :
    Calls Try.prog 12 #[.int .u64 n] w fun e w' => e = .returned (.string (tokB n)) ∧ w = w' := by
  go_enter Try.func12, Try.ntmps12
  go_wp2_with (fail)
  go_loopg [0, 3, 4] 13 (fun g m s i wr => ∃ (k N : Nat) (S : ByteArray), k ≤ 13 ∧ g = 13 - k ∧ i = .int .i64 k ∧ m = .int .u64 N ∧ s = .string S ∧ Hid (N = n / 32 ^ k ∧ S.data.toList = tokk n k) ∧ N ≤ n ∧ w = wr)
  case atStart => exact ⟨0, n, { data := #[] }, by omega, rfl, rfl, rfl, rfl, Lib.hid ⟨by simp, rfl⟩, Nat.le_refl _, rfl⟩
  case round =>
    obtain ⟨k, N, S, hk, rfl, rfl, rfl, rfl, HD, hNn, rfl⟩ := hrel
    by_cases hlt : k < 13
    · have hz : S.size ≤ 13 := by
        have := congrArg List.length HD.out.2
        rw [tokk_len] at this
        have h2 : S.size = S.data.toList.length := rfl
        omega
      have hext : (signsB.extract (N % 32) (N % 32 + 1)).size ≤ 1 := by rw [ByteArray.size_extract]; omega
      unfold signsB at hext
      go_wp2_with (fail)
      go_roundg (13 - (k + 1))
      case measure => omega
      case rel => exact ⟨k + 1, N / 32, _, by omega, rfl, by go_num, by go_num, rfl, Lib.hid ⟨by rw [HD.out.1, Nat.div_div_eq_div_mul, Nat.pow_succ], sign_front S n k N HD.out.1 HD.out.2⟩, Nat.le_trans (Nat.div_le_self _ _) hNn, rfl⟩
    · obtain rfl : k = 13 := by omega
      obtain rfl : S = tokB n := ByteArray.ext (by rw [← Array.toList_inj]; exact HD.out.2)
      go_wp2_with (fail)
      go_ret
      exact ⟨rfl, rfl⟩
end Go.Proofs.Ytajpicbaoicpfaa
