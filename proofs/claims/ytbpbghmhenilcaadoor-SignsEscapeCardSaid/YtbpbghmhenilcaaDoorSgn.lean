/- Which signs may be. No condition. -/
import Derived.Test.YtbpbghmhenilcaaDoorColl
namespace Go.Proofs.YtbpbghmhenilcaaDoor
open Go.RowKit

/-- May a sign be? -/
def mayS (c : Int) : Bool := decide (c = 9 ∨ c = 10 ∨ c = 13 ∨ (32 ≤ c ∧ c ≠ 65534 ∧ c ≠ 65535))
theorem may_f (c : Int) (w : World) :
    Calls Tryd.prog 26 #[.int .i32 c] w fun e w' => e = .returned (.bool (mayS c)) ∧ w' = w := by
  by_cases h9 : c = 9
  · subst h9
    go_enter Tryd.func26, Tryd.ntmps26
    go_wp2_with (fail)
    go_ret
    exact ⟨rfl, rfl⟩
  by_cases h10 : c = 10
  · subst h10
    go_enter Tryd.func26, Tryd.ntmps26
    go_wp2_with (fail)
    go_ret
    exact ⟨rfl, rfl⟩
  by_cases h13 : c = 13
  · subst h13
    go_enter Tryd.func26, Tryd.ntmps26
    go_wp2_with (fail)
    go_ret
    exact ⟨rfl, rfl⟩
  have b9 : (c == 9) = false := by simpa using h9
  have b10 : (c == 10) = false := by simpa using h10
  have b13 : (c == 13) = false := by simpa using h13
  by_cases hE : c = 65534
  · subst hE
    go_enter Tryd.func26, Tryd.ntmps26
    go_wp2_with (fail)
    go_ret
    exact ⟨rfl, rfl⟩
  by_cases hF : c = 65535
  · subst hF
    go_enter Tryd.func26, Tryd.ntmps26
    go_wp2_with (fail)
    go_ret
    exact ⟨rfl, rfl⟩
  have bE : (c == 65534) = false := by simpa using hE
  have bF : (c == 65535) = false := by simpa using hF
  have hm : Hid (mayS c = decide (32 ≤ c)) := Lib.hid (by unfold mayS; rw [decide_eq_decide]; omega)
  clear h9 h10 h13 hE hF
  go_enter Tryd.func26, Tryd.ntmps26
  go_wp2_with (fail)
  all_goals
    go_ret
    rw [hm.out]
    exact ⟨rfl, rfl⟩
theorem text_ne {s t : ByteArray} {l : List UInt8} (h : s ≠ t) (ht : t.toList = l) : (s.toList == l) = false := by
  rw [← ht, same_text]; exact decide_eq_false h
/-- A sign's name. -/
def namedS (s : ByteArray) : Option ByteArray :=
  if s = ⟨#[97, 109, 112]⟩ then some ⟨#[38]⟩ else if s = ⟨#[108, 116]⟩ then some ⟨#[60]⟩ else if s = ⟨#[103, 116]⟩ then some ⟨#[62]⟩ else if s = ⟨#[113, 117, 111, 116]⟩ then some ⟨#[34]⟩ else if s = ⟨#[97, 112, 111, 115]⟩ then some ⟨#[39]⟩ else none
/-- What named answers. -/
def namedV (s : ByteArray) : Value := match namedS s with | some t => .tuple #[.string t, .bool true] | none => .tuple #[.string ByteArray.empty, .bool false]
theorem named_f (s : ByteArray) (w : World) :
    Calls Tryd.prog 34 #[.string s] w fun e w' => e = .returned (namedV s) ∧ w' = w := by
  by_cases h0 : s = ⟨#[97, 109, 112]⟩
  · subst h0
    go_enter Tryd.func34, Tryd.ntmps34
    go_wp2_with (fail)
    go_ret2
    exact ⟨by kernel_rfl, rfl⟩
  by_cases h1 : s = ⟨#[108, 116]⟩
  · subst h1
    go_enter Tryd.func34, Tryd.ntmps34
    go_wp2_with (fail)
    go_ret2
    exact ⟨by kernel_rfl, rfl⟩
  by_cases h2 : s = ⟨#[103, 116]⟩
  · subst h2
    go_enter Tryd.func34, Tryd.ntmps34
    go_wp2_with (fail)
    go_ret2
    exact ⟨by kernel_rfl, rfl⟩
  by_cases h3 : s = ⟨#[113, 117, 111, 116]⟩
  · subst h3
    go_enter Tryd.func34, Tryd.ntmps34
    go_wp2_with (fail)
    go_ret2
    exact ⟨by kernel_rfl, rfl⟩
  by_cases h4 : s = ⟨#[97, 112, 111, 115]⟩
  · subst h4
    go_enter Tryd.func34, Tryd.ntmps34
    go_wp2_with (fail)
    go_ret2
    exact ⟨by kernel_rfl, rfl⟩
  have b0 : (s.toList == [97, 109, 112]) = false := text_ne h0 (by rw [ByteArray.toList_eq])
  have b1 : (s.toList == [108, 116]) = false := text_ne h1 (by rw [ByteArray.toList_eq])
  have b2 : (s.toList == [103, 116]) = false := text_ne h2 (by rw [ByteArray.toList_eq])
  have b3 : (s.toList == [113, 117, 111, 116]) = false := text_ne h3 (by rw [ByteArray.toList_eq])
  have b4 : (s.toList == [97, 112, 111, 115]) = false := text_ne h4 (by rw [ByteArray.toList_eq])
  have hn : Hid (namedV s = .tuple #[.string ByteArray.empty, .bool false]) := Lib.hid (by unfold namedV namedS; rw [if_neg h0, if_neg h1, if_neg h2, if_neg h3, if_neg h4])
  clear h0 h1 h2 h3 h4
  go_enter Tryd.func34, Tryd.ntmps34
  go_wp2_with (fail)
  go_ret2
  rw [hn.out]
  exact ⟨rfl, rfl⟩
end Go.Proofs.YtbpbghmhenilcaaDoor
