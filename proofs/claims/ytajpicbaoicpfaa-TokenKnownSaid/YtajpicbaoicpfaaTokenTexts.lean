/- TokenTexts answers true for every input and changes no memory that was there. No condition. -/
import Derived.Test.YtajpicbaoicpfaaTokLives
namespace Go.Proofs.Ytajpicbaoicpfaa
open Go.RowKit
theorem U64.of_wf {n : Int} (h : (Lit.int .u64 n).wf = true) : ∃ m : Nat, n = m ∧ m < 2 ^ 64 := by
  simp [Lit.wf, IntKind.min, IntKind.max, IntKind.bits, IntKind.signed] at h
  exact ⟨n.toNat, by omega, by omega⟩
set_option maxHeartbeats 4000000 in
set_option maxRecDepth 100000 in
theorem tokentexts_any (z : Int) (s : ByteArray) (w : World) (_w0 : (Lit.int .u64 z).wf = true) (_w1 : s.size ≤ maxLen) :
    Calls Try.prog 3 #[.int .u64 z, .string s] w fun e w' => e = .returned (.bool true) ∧ Below w.heap.size w w' := by
  obtain ⟨n, rfl, hn⟩ := U64.of_wf _w0
  unfold maxLen at _w1
  have HN := Lib.hid hn
  clear hn _w0
  go_enter Try.func3, Try.ntmps3
  go_wp2_with (go_at_call 8; refine (tok_lives _).mono ?_; rintro e w1 ⟨rfl, F1⟩)
  obtain ⟨S, hS⟩ : ∃ S, S = s.extract 0 (min (s.size : Int) 40).toNat := ⟨_, rfl⟩
  have hS40 : S.size ≤ 40 := by rw [hS, ByteArray.size_extract]; omega
  rw [← hS]
  clear hS
  obtain ⟨N, B, hv⟩ : ∃ (N : Nat) (B : Bool), rdV S = .tuple #[.int .u64 N, .bool B] := ⟨_, _, rfl⟩
  have hsm : ((tokB n).toList == (tokB n).toList) = true := by simp
  have hBB : (B == B) = true := by simp
  have hNN : ((N : Int) == N) = true := by simp
  refine (tok_read S _).mono ?_
  rintro e w2 ⟨rfl, F2⟩
  rw [hv]
  go_wp2_with (first
    | (go_at_call 10; refine (ref_read S hS40 _).mono ?_; rintro e w3 ⟨rfl, F3⟩; rw [hv])
    | (go_at_call 11; refine (tok_of n HN.out _).mono ?_; rintro e w4 ⟨rfl, F4⟩)
    | (go_at_call 12; refine (ref_of n HN.out _).mono ?_; rintro e w5 ⟨rfl, rfl⟩))
  go_ret
  exact ⟨rfl, (F1.trans' (F2.trans' (F3.trans' F4))).fromN.belowB⟩
end Go.Proofs.Ytajpicbaoicpfaa
