/- TokenBack answers true for every input and changes no memory that was there. No condition. -/
import Derived.Test.YtajpicbaoicpfaaTokenTexts
namespace Go.Proofs.Ytajpicbaoicpfaa
open Go.RowKit
theorem tokB_list (n : Nat) : (tokB n).data.toList = tok n := by simp [tokB]
theorem tokB_size (n : Nat) : (tokB n).size = 13 := by rw [show (tokB n).size = (tokB n).data.toList.length from rfl, tokB_list, tok_len]
theorem rdV_tok {n : Nat} (h : n < 2 ^ 64) : rdV (tokB n) = .tuple #[.int .u64 n, .bool true] := rdV_some (by rw [tokB_list]; exact rd_tok h)
theorem tokB_inj {a b : Nat} (ha : a < 2 ^ 64) (hb : b < 2 ^ 64) : tokB a = tokB b ↔ a = b := by
  constructor
  · intro h
    have := congrArg (fun x : ByteArray => x.data.toList) h
    simp only [tokB_list] at this
    exact tok_inj ha hb this
  · rintro rfl; rfl
theorem rdV_cases (s : ByteArray) : (∃ m, m < 2 ^ 64 ∧ rdV s = .tuple #[.int .u64 (m : Nat), .bool true] ∧ tokB m = s) ∨ rdV s = .tuple #[.int .u64 0, .bool false] := by
  cases h : rd s.data.toList with
  | none => exact .inr (rdV_none h)
  | some m =>
    obtain ⟨h1, h2⟩ := rd_some h
    refine .inl ⟨m, h2, rdV_some h, ?_⟩
    apply ByteArray.ext
    rw [← Array.toList_inj, tokB_list, h1]
set_option maxHeartbeats 4000000 in
set_option maxRecDepth 100000 in
theorem tokenback_any (y z : Int) (s : ByteArray) (w : World) (_w0 : (Lit.int .u64 y).wf = true) (_w1 : (Lit.int .u64 z).wf = true) (_w2 : s.size ≤ maxLen) :
    Calls Try.prog 5 #[.int .u64 y, .int .u64 z, .string s] w fun e w' => e = .returned (.bool true) ∧ Below w.heap.size w w' := by
  obtain ⟨a, rfl, ha⟩ := U64.of_wf _w0
  obtain ⟨b, rfl, hb⟩ := U64.of_wf _w1
  have HA := Lib.hid ha
  have HB := Lib.hid hb
  have heq : ((tokB a).toList == (tokB b).toList) = ((a : Int) == (b : Int)) := by
    rw [same_text, Bool.eq_iff_iff, decide_eq_true_iff, beq_iff_eq, tokB_inj ha hb]
    omega
  have hBB : ∀ B : Bool, (B == B) = true := by simp
  have hra := Lib.hid (rdV_tok ha)
  have h13 : ((tokB a).size : Int) = 13 := by rw [tokB_size]; rfl
  have haa : ((a : Int) == a) = true := by simp
  clear ha hb _w0 _w1
  go_enter Try.func5, Try.ntmps5
  rcases rdV_cases s with ⟨m, hm, hv, hms⟩ | hv
  · have HM := Lib.hid hm
    have Hms := Lib.hid hms
    have hss : (s.toList == s.toList) = true := by simp
    clear hm hms
    go_wp2_with (first
      | (go_at_call 8; refine (tok_lives _).mono ?_; rintro e w1 ⟨rfl, F1⟩)
      | (go_at_call 11; with_reducible refine (tok_of a HA.out _).mono ?_; rintro e w2 ⟨rfl, F2⟩))
    refine (tok_read _ _).mono ?_
    rintro e w3 ⟨rfl, F3⟩
    rw [hra.out]
    have f13 := F1.trans' (F2.trans' F3)
    go_wp2_with (first
      | (go_at_call 9; refine (tok_read _ _).mono ?_; rintro e w4 ⟨rfl, F4⟩; rw [hv]; have f14 := f13.trans' F4)
      | (go_at_call 11; with_reducible refine (tok_of a HA.out w4).mono ?_; rintro e w5 ⟨rfl, F5⟩; have f15 := f14.trans' F5)
      | (go_at_call 11; with_reducible refine (tok_of b HB.out w5).mono ?_; rintro e w6 ⟨rfl, F6⟩; have f16 := f15.trans' F6)
      | (go_at_call 11; with_reducible refine (tok_of m HM.out w6).mono ?_; rintro e w7 ⟨rfl, F7⟩; rw [Hms.out]; have f17 := f16.trans' F7)
      | (go_at_call 11; with_reducible refine (tok_of a HA.out w7).mono ?_; rintro e w8 ⟨rfl, F8⟩; have f18 := f17.trans' F8))
    go_ret
    exact ⟨rfl, f18.fromN.belowB⟩
  · go_wp2_with (first
      | (go_at_call 8; refine (tok_lives _).mono ?_; rintro e w1 ⟨rfl, F1⟩)
      | (go_at_call 11; with_reducible refine (tok_of a HA.out _).mono ?_; rintro e w2 ⟨rfl, F2⟩))
    refine (tok_read _ _).mono ?_
    rintro e w3 ⟨rfl, F3⟩
    rw [hra.out]
    have f13 := F1.trans' (F2.trans' F3)
    go_wp2_with (first
      | (go_at_call 9; refine (tok_read _ _).mono ?_; rintro e w4 ⟨rfl, F4⟩; rw [hv]; have f14 := f13.trans' F4)
      | (go_at_call 11; with_reducible refine (tok_of a HA.out w4).mono ?_; rintro e w5 ⟨rfl, F5⟩; have f15 := f14.trans' F5)
      | (go_at_call 11; with_reducible refine (tok_of b HB.out w5).mono ?_; rintro e w6 ⟨rfl, F6⟩; have f16 := f15.trans' F6)
      | (go_at_call 11; with_reducible refine (tok_of a HA.out w6).mono ?_; rintro e w8 ⟨rfl, F8⟩; have f18 := f16.trans' F8))
    go_ret
    exact ⟨rfl, f18.fromN.belowB⟩
end Go.Proofs.Ytajpicbaoicpfaa
