/- What each statement of layer 1 begins with. Conditions: the two tables of package utf8 lie as their text lays them, and internal/bytealg.MaxLen holds a number. -/
import Derived.Test.YtbpbghmhenilcaaDoorUne
import Derived.Test.YtbpbghmhenilcaaDoorEsc
import Derived.Test.YtbpbghmhenilcaaDoorName
import Derived.Test.YtbpbghmhenilcaaDoorSgW
namespace Go.Proofs.YtbpbghmhenilcaaDoor
open Go.RowKit

def SEnv (w : World) : Prop := Tabs w ∧ ∃ m, w.cell? ⟨2, 0, none⟩ = some (.int .i64 m)
theorem senv_fr {w w' : World} (h : SEnv w) (F : Fr Nothing w w') : SEnv w' :=
  ⟨tabs_fr h.1 F, by obtain ⟨m, hm⟩ := h.2; exact ⟨m, cell_fr hm F (fun h => h)⟩⟩
theorem lives_esc : escV ⟨#[97, 60, 98]⟩ = .tuple #[.string ⟨#[97, 38, 108, 116, 59, 98]⟩, .int .i64 0] := by
  unfold escV
  rw [show rightS ⟨#[97, 60, 98]⟩ = true by decide +kernel, show escS ⟨#[97, 60, 98]⟩ = ⟨#[97, 38, 108, 116, 59, 98]⟩ by decide +kernel]; rfl
theorem lives_une : unescV ⟨#[97, 38, 108, 116, 59, 98]⟩ = .tuple #[.string ⟨#[97, 60, 98]⟩, .int .i64 0] := by
  unfold unescV
  rw [show rightS ⟨#[97, 38, 108, 116, 59, 98]⟩ = true by decide +kernel, show unescL (⟨#[97, 38, 108, 116, 59, 98]⟩ : ByteArray).data.toList = some [97, 60, 98] by decide +kernel]; rfl
theorem lives_whole : wholeV ⟨#[97, 195]⟩ = .tuple #[.int .i64 1, .int .i64 0] := by
  rw [whole_eq, show wholeL (⟨#[97, 195]⟩ : ByteArray).data.toList = some 1 by decide +kernel]; rfl
theorem lives_name : nameS ⟨#[97, 45, 49]⟩ = true := by decide +kernel
theorem lives_right : rightV ⟨#[0]⟩ = .int .i64 2 := by
  unfold rightV
  rw [show rightS ⟨#[0]⟩ = false by decide +kernel]; rfl
set_option maxHeartbeats 4000000 in
set_option maxRecDepth 100000 in
theorem sg_lives (w : World) (hE : SEnv w) :
    Calls Tryd.prog 9 #[] w fun e w' => e = .returned (.bool true) ∧ Fr Nothing w w' := by
  have H1 := Lib.hid (fun w' (h : SEnv w') => escape_f ⟨#[97, 60, 98]⟩ w' (by decide) h.1)
  have H2 := Lib.hid (fun w' (h : SEnv w') => unescape_f ⟨#[97, 38, 108, 116, 59, 98]⟩ w' (by decide) h.1 h.2)
  have H3 := Lib.hid (fun w' (h : SEnv w') => whole_f ⟨#[97, 195]⟩ w' (by decide) h.1)
  have H4 := Lib.hid (fun w' => name_f ⟨#[97, 45, 49]⟩ w' (by decide))
  have H5 := Lib.hid (fun w' (h : SEnv w') => right_f ⟨#[0]⟩ w' (by decide) h.1)
  rw [lives_esc] at H1
  rw [lives_une] at H2
  rw [lives_whole] at H3
  rw [lives_name] at H4
  rw [lives_right] at H5
  have HE := Lib.hid hE
  clear hE
  go_enter Tryd.func9, Tryd.ntmps9
  go_wp2_with (go_at_call 17; refine (H1.out _ HE.out).mono ?_)
  rintro e w1 ⟨rfl, F1⟩
  have HF1 := Lib.hid F1
  clear F1
  go_wp2_with (go_at_call 19; refine (H2.out _ (senv_fr HE.out HF1.out)).mono ?_)
  rintro e w2 ⟨rfl, F2⟩
  have HF2 : Hid (Fr Nothing w w2) := Lib.hid (HF1.out.trans' F2)
  clear F2
  go_wp2_with (go_at_call 11; refine (H3.out _ (senv_fr HE.out HF2.out)).mono ?_)
  rintro e w3 ⟨rfl, F3⟩
  have HF3 : Hid (Fr Nothing w w3) := Lib.hid (HF2.out.trans' F3)
  clear F3
  go_wp2_with (go_at_call 15; refine (H4.out _).mono ?_)
  rintro e w4 ⟨rfl, F4⟩
  have HF4 : Hid (Fr Nothing w w4) := Lib.hid (HF3.out.trans' F4)
  clear F4
  go_wp2_with (go_at_call 13; refine (H5.out _ (senv_fr HE.out HF4.out)).mono ?_)
  rintro e w5 ⟨rfl, F5⟩
  have HF5 : Hid (Fr Nothing w w5) := Lib.hid (HF4.out.trans' F5)
  clear F5
  go_wp2_with (fail)
  go_ret
  exact ⟨rfl, HF5.out⟩
/-- The first 300 bytes. -/
def earlyS (s : ByteArray) : ByteArray := s.extract 0 (min s.size 300)
theorem early_size (s : ByteArray) : (earlyS s).size ≤ 300 := by unfold earlyS; rw [ByteArray.size_extract]; omega
theorem sg_early (s : ByteArray) (w : World) (hs : s.size ≤ maxLen) :
    Calls Tryd.prog 10 #[.string s] w fun e w' => e = .returned (.string (earlyS s)) ∧ w' = w := by
  unfold maxLen at hs
  have e : (min (s.size : Int) 300).toNat = min s.size 300 := by omega
  go_enter Tryd.func10, Tryd.ntmps10
  go_wp2_with (fail)
  go_ret
  exact ⟨by rw [earlyS, ← e]; rfl, rfl⟩
end Go.Proofs.YtbpbghmhenilcaaDoor
