/- The number of a text, as the program and the document's answer read it. No condition. -/
import Derived.Test.YtajpicbaoicpfaaTokOf
import Derived.Test.YtajpicbaoicpfaaShelf
import Derived.Test.YtajpicbaoicpfaaBytes
import Derived.Test.YtajpicbaoicpfaaColl
namespace Go.Proofs.Ytajpicbaoicpfaa
open Go.RowKit

def rdV (s : ByteArray) : Value := .tuple #[.int .u64 ((rd s.data.toList).getD 0 : Nat), .bool (rd s.data.toList).isSome]
theorem index_sign (c : UInt8) : Lib.indexByte signsB.data.toList c = dgI c := by
  have : ∀ n : Fin 256, Lib.indexByte signsB.data.toList (UInt8.ofNat n.1) = dgI (UInt8.ofNat n.1) := by decide +kernel
  have h := this ⟨c.toNat, c.toNat_lt⟩
  simpa using h
theorem rdV_none {s : ByteArray} (h : rd s.data.toList = none) : rdV s = .tuple #[.int .u64 0, .bool false] := by unfold rdV; rw [h]; rfl
theorem rdV_some {s : ByteArray} {n : Nat} (h : rd s.data.toList = some n) : rdV s = .tuple #[.int .u64 n, .bool true] := by unfold rdV; rw [h]; rfl
theorem wrapU (z : Int) : IntKind.u64.wrap z = z % 18446744073709551616 := by simp only [IntKind.wrap, IntKind.bits, IntKind.signed]; rfl
/-- One digit more, in 64 bits. -/
theorem or_digit (N d : Nat) (hd : d < 32) : bits .or .u64 (IntKind.u64.wrap ((N : Int) * 32)) (d : Int) = (((32 * N + d) % 18446744073709551616 : Nat) : Int) := by
  have e : IntKind.u64.wrap ((N : Int) * 32) = ((32 * (N % 576460752303423488) : Nat) : Int) := by rw [wrapU]; omega
  rw [e]
  have hm : 32 * (N % 576460752303423488) < 2 ^ 64 := by have := Nat.mod_lt N (show 0 < 576460752303423488 by decide); omega
  have h1 : (BitVec.ofInt 64 ((32 * (N % 576460752303423488) : Nat) : Int)).toNat = 32 * (N % 576460752303423488) := by
    rw [BitVec.ofInt_natCast, BitVec.toNat_ofNat]; exact Nat.mod_eq_of_lt hm
  have h2 : (BitVec.ofInt 64 (d : Int)).toNat = d := by
    rw [BitVec.ofInt_natCast, BitVec.toNat_ofNat]; exact Nat.mod_eq_of_lt (by omega)
  show IntKind.u64.wrap ((BitVec.ofInt 64 ((32 * (N % 576460752303423488) : Nat) : Int) ||| BitVec.ofInt 64 (d : Int)).toNat : Int) = _
  rw [BitVec.toNat_or, h1, h2, show (32 : Nat) = 2 ^ 5 from rfl, ← Nat.two_pow_add_eq_or_of_lt (by omega), wrapU]
  omega
theorem sign_call (x : UInt8) (w : World) : Calls Try.prog 20 #[.string { data := #[48, 49, 50, 51, 52, 53, 54, 55, 56, 57, 97, 98, 99, 100, 101, 102, 103, 104, 105, 106, 107, 108, 109, 110, 111, 112, 113, 114, 115, 116, 117, 118] }, .int .u8 (x.toNat : Int)] w fun e w' => e = .returned (.int .i64 (dgI x)) ∧ w' = w := by
  have h := Try.strings_IndexByte signsB (x.toNat : Int) w
  have e : ((x.toNat : Int).toNat.toUInt8) = x := by rw [Int.toNat_natCast]; exact UInt8.ofNat_toNat
  rw [e, index_sign] at h
  exact h
theorem byte_at (s : ByteArray) (k : Nat) (h : k < s.size) : (byteCells (strB s))[k]? = some (.int .u8 ((s.data.toList[k]'(by simpa using h)).toNat : Int)) := by
  have h' : k < s.data.toList.length := by simpa using h
  simp [byteCells, strB, List.getElem?_eq_getElem h']
/-- A text's first digits, in 64 bits. -/
structure RdTo (s : ByteArray) (k N : Nat) : Prop where
  digs : digs (s.data.toList.take k)
  num : N = vl (s.data.toList.take k) % 18446744073709551616
theorem RdTo.zero (s : ByteArray) : RdTo s 0 0 := ⟨fun c hc => by simp at hc, rfl⟩
theorem RdTo.next {s : ByteArray} {k N d : Nat} (h : RdTo s k N) (hk : k < s.data.toList.length) (hd : dg s.data.toList[k] = some d) : RdTo s (k + 1) ((32 * N + d) % 18446744073709551616) := by
  refine ⟨digs_take hk h.digs hd, ?_⟩
  rw [vl_take hk hd, h.num]
  omega
set_option maxHeartbeats 4000000 in
set_option maxRecDepth 100000 in
theorem tok_read (s : ByteArray) (w : World) :
    Calls Try.prog 9 #[.string s] w fun e w' => e = .returned (rdV s) ∧ Fr Nothing w w' := by
  go_enter Try.func9, Try.ntmps9
  by_cases hl : s.size = 13
  · have hl' : s.data.toList.length = 13 := hl
    have h1 : ((s.size : Int) != 13) = false := by simp [hl]
    go_wp2_with (with_reducible refine wpList_bytes_of rfl 9 40 (.tmp 11) rfl 5 Try.underlying9 Try.underlying40 Try.underlying5 s rfl ?_)
    intro c w1 hs F
    have hs' : ∀ k (h : k < 13), w1.cell? ⟨w.heap.size, k, none⟩ = some (.int .u8 ((s.data.toList[k]'(by omega)).toNat : Int)) := by
      intro k hk
      rcases hs with h | ⟨b, o, hbo, hc⟩
      · have := congrArg List.length h
        rw [byte_len, strB_len, hl] at this; cases this
      · obtain ⟨rfl, rfl⟩ : w.heap.size = b ∧ 0 = o := by simpa using hbo
        have := hc k (by rw [byte_len, strB_len, hl]; exact hk)
        rw [Nat.zero_add, byte_at s k (by omega)] at this
        exact this
    have HS := Lib.hid hs'
    clear hs hs' h1
    go_wp2_with (fail)
    go_loopg [4, 14] 13 (fun g n i wr => ∃ (k N : Nat), k ≤ 13 ∧ g = 13 - k ∧ i = .int .i64 k ∧ n = .int .u64 N ∧ Hid (RdTo s k N) ∧ N < 18446744073709551616 ∧ w1 = wr)
    case atStart => exact ⟨0, 0, by omega, rfl, rfl, rfl, Lib.hid (RdTo.zero s), by omega, rfl⟩
    case round =>
      obtain ⟨k, N, hk, rfl, rfl, rfl, HR, hN, rfl⟩ := hrel
      by_cases hlt : k < 13
      · have c0 := HS.out k hlt
        obtain ⟨x, hx⟩ : ∃ x, x = s.data.toList[k]'(by omega) := ⟨_, rfl⟩
        rw [← hx] at c0
        have Hx := Lib.hid hx
        clear hx
        cases hd : dg x with
        | none =>
          have e1 := dgI_none hd
          have hn := rdV_none (rd_bad (s := s.data.toList) (i := k) (by omega) (by rw [← Hx.out]; exact hd))
          go_wp2_with (go_at_call 20; refine (sign_call x _).mono ?_; rintro e w2 ⟨rfl, rfl⟩; rw [e1])
          go_ret2
          exact ⟨congrArg Ending.returned hn.symm, F⟩
        | some d =>
          have e1 := dgI_some hd
          have d32 := dg_lt hd
          have Hd := Lib.hid hd
          have or1 := or_digit N d d32
          clear hd
          go_wp2_with (go_at_call 20; refine (sign_call x _).mono ?_; rintro e w2 ⟨rfl, rfl⟩; rw [e1])
          go_roundg (13 - (k + 1))
          case measure => omega
          case rel => exact ⟨k + 1, (32 * N + d) % 18446744073709551616, by omega, rfl, by go_num, (by congr 1), Lib.hid (HR.out.next (by omega) (by rw [← Hx.out]; exact Hd.out)), by omega, rfl⟩
      · obtain rfl : k = 13 := by omega
        have hdg : digs s.data.toList := by have := HR.out.digs; rwa [List.take_of_length_le (by omega)] at this
        have hNv : N = vl s.data.toList % 2 ^ 64 := by have := HR.out.num; rwa [List.take_of_length_le (by omega)] at this
        have hw := rd_way hl' hdg
        rw [← hNv] at hw
        have hN64 : N < 2 ^ 64 := by omega
        clear hNv hdg HR
        by_cases he : tokB N = s
        · have he1 : tok N = s.data.toList := by rw [← he]; simp [tokB]
          rw [if_pos he1] at hw
          have hn := Lib.hid (rdV_some hw)
          clear hw he1
          have hd2 : ((tokB N).toList == s.toList) = true := by rw [he]; simp
          go_wp2_with (go_at_call 11; refine (tok_of N hN64 _).mono ?_; rintro e w2 ⟨rfl, F2⟩)
          go_ret2
          exact ⟨congrArg Ending.returned hn.out.symm, F.trans' F2⟩
        · have he1 : ¬ tok N = s.data.toList := by
            intro e
            refine he (ByteArray.ext ?_)
            rw [← Array.toList_inj, ← e]; simp [tokB]
          rw [if_neg he1] at hw
          have hn := Lib.hid (rdV_none hw)
          clear hw he1
          have hd2 : ((tokB N).toList == s.toList) = false := by rw [same_text, decide_eq_false he]
          go_wp2_with (go_at_call 11; refine (tok_of N hN64 _).mono ?_; rintro e w2 ⟨rfl, F2⟩)
          go_ret2
          exact ⟨congrArg Ending.returned hn.out.symm, F.trans' F2⟩
  · have hn := rdV_none (rd_len hl)
    have h1 : ((s.size : Int) != 13) = true := by simp; omega
    go_wp2_with (fail)
    go_ret2
    exact ⟨congrArg Ending.returned hn.symm, Fr.refl _ _⟩
end Go.Proofs.Ytajpicbaoicpfaa
