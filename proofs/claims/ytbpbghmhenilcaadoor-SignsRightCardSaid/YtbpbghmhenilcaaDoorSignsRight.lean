/- SignsRight answers true for every input and changes no memory that was there. Conditions: the two tables of package utf8 lie as their text lays them, and internal/bytealg.MaxLen holds a number. -/
import Derived.Test.YtbpbghmhenilcaaDoorRRight
import Derived.Test.YtbpbghmhenilcaaDoorSignsWhole
namespace Go.Proofs.YtbpbghmhenilcaaDoor
open Go.RowKit

set_option maxHeartbeats 8000000 in
set_option maxRecDepth 100000 in
theorem signsright_any (s : ByteArray) (w : World) (hs : s.size ≤ maxLen) (hE : SEnv w) :
    Calls Tryd.prog 3 #[.string s] w fun e w' => e = .returned (.bool true) ∧ Below w.heap.size w w' := by
  have HLv := Lib.hid (sg_lives w hE)
  have HEa := Lib.hid (fun w' => sg_early s w' hs)
  obtain ⟨S, hS⟩ : ∃ S, S = earlyS s := ⟨_, rfl⟩
  have hSz := early_size s
  rw [← hS] at HEa hSz
  have HWh := Lib.hid (fun w' (h : SEnv w') => whole_f S w' (by omega) h.1)
  have HRt := Lib.hid (fun w' (h : SEnv w') => right_f S w' (by omega) h.1)
  have HNm := Lib.hid (fun w' => name_f S w' (by omega))
  have HrW := Lib.hid (fun w' => ref_whole S w' (by omega))
  have HrR := Lib.hid (fun w' => ref_right S w' (by omega))
  have HrN := Lib.hid (fun w' => ref_name S w' (by omega))
  rw [whole_eq] at HWh
  obtain ⟨n, z, hx⟩ : ∃ n z : Int, wV (wholeL S.data.toList) = .tuple #[.int .i64 n, .int .i64 z] := by
    cases wholeL S.data.toList with
    | none => exact ⟨_, _, rfl⟩
    | some p => exact ⟨_, _, rfl⟩
  rw [hx] at HWh HrW
  obtain ⟨E, hEE⟩ : ∃ E : Int, E = if rightL S.data.toList = true then 0 else 2 := ⟨_, rfl⟩
  rw [rightV_mk rfl, ← hEE] at HRt
  rw [← hEE] at HrR
  obtain ⟨D, hD⟩ : ∃ D, D = nameS S := ⟨_, rfl⟩
  rw [← hD] at HNm HrN
  have HE := Lib.hid hE
  clear hS hE hs hx hEE hD
  go_enter Tryd.func3, Tryd.ntmps3
  go_wp2_with (first
    | (go_at_call 9; refine HLv.out.mono ?_; rintro e w1 ⟨rfl, F1⟩)
    | (go_at_call 10; refine (HEa.out _).mono ?_; rintro e w1' ⟨rfl, rfl⟩))
  have HF1 := Lib.hid F1
  clear F1
  go_wp2_with (go_at_call 11; refine (HWh.out _ (senv_fr HE.out HF1.out)).mono ?_)
  rintro e w2 ⟨rfl, F2⟩
  have HF2 : Hid (Fr Nothing w w2) := Lib.hid (HF1.out.trans' F2)
  clear F2
  go_wp2_with (go_at_call 12; refine (HrW.out _).mono ?_; rintro e w3 ⟨rfl, rfl⟩)
  refine (HRt.out _ (senv_fr HE.out HF2.out)).mono ?_
  rintro e w4 ⟨rfl, F4⟩
  have HF4 : Hid (Fr Nothing w w4) := Lib.hid (HF2.out.trans' F4)
  clear F4
  go_wp2_with (go_at_call 14; refine (HrR.out _).mono ?_; rintro e w5 ⟨rfl, rfl⟩)
  refine (HNm.out _).mono ?_
  rintro e w6 ⟨rfl, F6⟩
  have HF6 : Hid (Fr Nothing w w6) := Lib.hid (HF4.out.trans' F6)
  clear F6
  go_wp2_with (go_at_call 16; refine (HrN.out _).mono ?_; rintro e w7 ⟨rfl, rfl⟩)
  go_ret
  exact ⟨rfl, HF6.out.fromN.belowB⟩
end Go.Proofs.YtbpbghmhenilcaaDoor
