/- SignsEscape answers true for every input and changes no memory that was there. Conditions: the two tables of package utf8 lie as their text lays them, and internal/bytealg.MaxLen holds a number. -/
import Derived.Test.YtbpbghmhenilcaaDoorRUne
namespace Go.Proofs.YtbpbghmhenilcaaDoor
open Go.RowKit

set_option maxHeartbeats 8000000 in
set_option maxRecDepth 100000 in
theorem signsescape_any (s t : ByteArray) (w : World) (hs : s.size ≤ maxLen) (ht : t.size ≤ maxLen) (hE : SEnv w) :
    Calls Tryd.prog 4 #[.string s, .string t] w fun e w' => e = .returned (.bool true) ∧ Below w.heap.size w w' := by
  have HLv := Lib.hid (sg_lives w hE)
  have HEs := Lib.hid (fun w' => sg_early s w' hs)
  have HEt := Lib.hid (fun w' => sg_early t w' ht)
  obtain ⟨S, hS⟩ : ∃ S, S = earlyS s := ⟨_, rfl⟩
  obtain ⟨T, hT⟩ : ∃ T, T = earlyS t := ⟨_, rfl⟩
  have hSz := early_size s
  have hTz := early_size t
  rw [← hS] at HEs hSz
  rw [← hT] at HEt hTz
  have HEc := Lib.hid (fun w' (h : SEnv w') => escape_f S w' (by omega) h.1)
  have HUn := Lib.hid (fun w' (h : SEnv w') => unescape_f T w' (by omega) h.1 h.2)
  have HrE := Lib.hid (fun w' => ref_escape S w' (by omega))
  have HrU := Lib.hid (fun w' => ref_unescape T w' (by omega))
  obtain ⟨A, a, hA⟩ : ∃ (A : ByteArray) (a : Int), escV S = .tuple #[.string A, .int .i64 a] := by
    unfold escV
    split
    · exact ⟨_, _, rfl⟩
    · exact ⟨_, _, rfl⟩
  obtain ⟨C, c, hC⟩ : ∃ (C : ByteArray) (c : Int), unescV T = .tuple #[.string C, .int .i64 c] := by
    rw [unescV_eq]
    split
    · cases unL T.data.toList with
      | none => exact ⟨_, _, rfl⟩
      | some x => exact ⟨_, _, rfl⟩
    · exact ⟨_, _, rfl⟩
  rw [hA] at HEc HrE
  rw [hC] at HUn HrU
  have h1 : (A.toList == A.toList) = true := by simp
  have h2 : (C.toList == C.toList) = true := by simp
  have H1 := Lib.hid h1
  have H2 := Lib.hid h2
  have HE := Lib.hid hE
  clear hS hT hE hs ht hA hC h1 h2
  go_enter Tryd.func4, Tryd.ntmps4
  go_wp2_with (first
    | (go_at_call 9; refine HLv.out.mono ?_; rintro e w1 ⟨rfl, F1⟩)
    | (go_at_call 10; with_reducible refine (HEs.out _).mono ?_; rintro e w1' ⟨rfl, rfl⟩)
    | (go_at_call 10; with_reducible refine (HEt.out _).mono ?_; rintro e w1' ⟨rfl, rfl⟩))
  have HF1 := Lib.hid F1
  clear F1
  go_wp2_with (go_at_call 17; refine (HEc.out _ (senv_fr HE.out HF1.out)).mono ?_)
  rintro e w2 ⟨rfl, F2⟩
  have HF2 : Hid (Fr Nothing w w2) := Lib.hid (HF1.out.trans' F2)
  clear F2
  go_wp2_with (go_at_call 18; refine (HrE.out _).mono ?_)
  rintro e w3 ⟨rfl, F3⟩
  have HF3 : Hid (Fr Nothing w w3) := Lib.hid (HF2.out.trans' F3)
  clear F3
  go_wp2_with (go_at_call 19; refine (HUn.out _ (senv_fr HE.out HF3.out)).mono ?_)
  rintro e w4 ⟨rfl, F4⟩
  have HF4 : Hid (Fr Nothing w w4) := Lib.hid (HF3.out.trans' F4)
  clear F4
  go_wp2_with (go_at_call 20; refine (HrU.out _).mono ?_)
  rintro e w5 ⟨rfl, F5⟩
  have HF5 : Hid (Fr Nothing w w5) := Lib.hid (HF4.out.trans' F5)
  clear F5
  have h1 := H1.out
  have h2 := H2.out
  go_wp2_with (fail)
  go_ret
  exact ⟨rfl, HF5.out.fromN.belowB⟩
end Go.Proofs.YtbpbghmhenilcaaDoor
