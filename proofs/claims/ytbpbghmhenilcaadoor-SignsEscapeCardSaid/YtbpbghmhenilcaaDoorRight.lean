/- signs.Right. Conditions: the two tables of package utf8 lie as their text lays them. -/
import Derived.Test.YtbpbghmhenilcaaDoorSgn
import Derived.Test.YtbpbghmhenilcaaDoorShelfU
import Derived.Laws.RangeString
import Derived.Laws.RangeAny
import Derived.Lib.RuneCount
namespace Go.Proofs.YtbpbghmhenilcaaDoor
open Go.RowKit

theorem fr_of_below {w w' : World} (h : Below w.heap.size w w') : Fr Nothing w w' :=
  (Fr.refl Nothing w).trans (Fr.of_below h) (fun _ hq e => absurd hq (Nat.not_lt.2 e))
abbrev Tabs (w : World) : Prop := Lib.Utf8Tabs 0 1 w
/-- Every sign from a place on may be. -/
def mayFrom (s : ByteArray) : Nat → Nat → Bool
  | 0, _ => true
  | b + 1, pos => if pos < s.size then mayS ((Utf8.decode s pos).1 : Nat) && mayFrom s b (pos + (Utf8.decode s pos).2) else true
def rightS (s : ByteArray) : Bool := Lib.validD s.data.toList && mayFrom s s.size 0
def rightV (s : ByteArray) : Value := .int .i64 (if rightS s = true then 0 else 2)
theorem mayFrom_end (s : ByteArray) (b pos : Nat) (h : ¬ pos < s.size) : mayFrom s b pos = true := by
  cases b with
  | zero => rfl
  | succ b => rw [mayFrom, if_neg h]
theorem mayFrom_fuel (s : ByteArray) (a b pos : Nat) (ha : s.size - pos ≤ a) (hb : s.size - pos ≤ b) : mayFrom s a pos = mayFrom s b pos := by
  induction a generalizing b pos with
  | zero =>
    have hp : ¬ pos < s.size := by omega
    rw [mayFrom_end s _ _ hp, mayFrom_end s _ _ hp]
  | succ a ih =>
    by_cases hp : pos < s.size
    · obtain ⟨b, rfl⟩ : ∃ q, b = q + 1 := ⟨b - 1, by omega⟩
      have hwd := Lib.decode_width_pos s pos hp
      rw [mayFrom, mayFrom, if_pos hp, if_pos hp, ih b _ (by omega) (by omega)]
    · rw [mayFrom_end s _ _ hp, mayFrom_end s _ _ hp]
set_option maxHeartbeats 2000000 in
set_option maxRecDepth 100000 in
theorem right_f (s : ByteArray) (w : World) (hs : s.size < 9223372036854775807) (hT : Tabs w) :
    Calls Tryd.prog 13 #[.string s] w fun e w' => e = .returned (rightV s) ∧ Fr Nothing w w' := by
  have HV := Lib.hid (Tryd.utf8_ValidString s w (by omega) hT)
  obtain ⟨V, hV⟩ : ∃ V, V = Lib.validD s.data.toList := ⟨_, rfl⟩
  obtain ⟨R, hR⟩ : ∃ R, R = rightV s := ⟨_, rfl⟩
  rw [← hV] at HV
  rw [← hR]
  have hR2 : R = .int .i64 (if (V && mayFrom s s.size 0) = true then 0 else 2) := by rw [hR, hV]; rfl
  have HM := Lib.hid may_f
  clear hV hR hT
  cases V with
  | false =>
    have HR : Hid (R = .int .i64 2) := Lib.hid (by rw [hR2]; rfl)
    clear hR2
    go_enter Tryd.func13, Tryd.ntmps13
    go_wp2_with (go_at_call 25; refine HV.out.mono ?_; rintro e w1 ⟨rfl, hB⟩)
    go_ret
    exact ⟨by rw [HR.out]; rfl, fr_of_below hB⟩
  | true =>
    have HR : Hid (R = .int .i64 (if mayFrom s s.size 0 = true then 0 else 2)) := Lib.hid (by rw [hR2, Bool.true_and])
    clear hR2
    go_enter Tryd.func13, Tryd.ntmps13
    go_wp2_with (go_at_call 25; refine HV.out.mono ?_; rintro e w1 ⟨rfl, hB⟩)
    have HF := Lib.hid (fr_of_below hB)
    clear hB
    go_loopg [] s.size (fun gg wr => ∃ (pos : Nat), gg = s.size - pos ∧ wr = w1.iter s pos ∧ Hid (mayFrom s (s.size - pos) pos = mayFrom s s.size 0))
    case atStart => exact ⟨0, by omega, rfl, Lib.hid (by rw [Nat.sub_zero])⟩
    case round =>
      obtain ⟨pos, rfl, rfl, HC⟩ := hrel
      by_cases hp : pos < s.size
      · have hnx : ∀ ty, (Instr.next (.pointer (some ⟨w1.heap.size, 0, none⟩)) true ty).run Tryd.prog (w1.iter s pos) = _ := fun ty => run_next_any w1 s pos ty hp
        have hwd := Lib.decode_width_pos s pos hp
        have hstep : mayFrom s (s.size - pos) pos = (mayS ((Utf8.decode s pos).1 : Nat) && mayFrom s (s.size - (pos + (Utf8.decode s pos).2)) (pos + (Utf8.decode s pos).2)) := by
          obtain ⟨b, hb⟩ : ∃ b, s.size - pos = b + 1 := ⟨s.size - pos - 1, by omega⟩
          rw [hb, mayFrom, if_pos hp, mayFrom_fuel s b (s.size - (pos + (Utf8.decode s pos).2)) _ (by omega) (by omega)]
        have hC := HC.out
        rw [hstep] at hC
        obtain ⟨c, hc⟩ : ∃ c, c = (Utf8.decode s pos).1 := ⟨_, rfl⟩
        obtain ⟨d, hd⟩ : ∃ d, d = (Utf8.decode s pos).2 := ⟨_, rfl⟩
        rw [← hc, ← hd] at hC hnx
        rw [← hd] at hwd
        have HMC := Lib.hid (fun W => HM.out (c : Nat) W)
        cases hm : mayS (c : Nat) with
        | true =>
          rw [hm] at HMC hC
          rw [Bool.true_and] at hC
          have HC2 := Lib.hid hC
          clear hC hstep hm hc hd
          go_wp2_with (go_at_call 26; refine (HMC.out _).mono ?_; rintro e w2 ⟨rfl, rfl⟩)
          go_roundg (s.size - (pos + d))
          case measure => omega
          case rel => exact ⟨pos + d, rfl, rfl, HC2⟩
        | false =>
          rw [hm] at HMC hC
          rw [Bool.false_and] at hC
          have HC2 := Lib.hid hC
          clear hC hstep hm hc hd
          go_wp2_with (go_at_call 26; refine (HMC.out _).mono ?_; rintro e w2 ⟨rfl, rfl⟩)
          go_ret
          exact ⟨by rw [HR.out, ← HC2.out]; rfl, HF.out.trans' (Fr.alloc Nothing _ _)⟩
      · have hnx : ∀ ty, (Instr.next (.pointer (some ⟨w1.heap.size, 0, none⟩)) true ty).run Tryd.prog (w1.iter s pos) = _ := fun ty => run_next_end w1 s pos ty hp
        go_wp2_with (fail)
        go_ret
        have hm := HC.out
        rw [mayFrom_end s _ pos hp] at hm
        exact ⟨by rw [HR.out, ← hm]; rfl, HF.out.trans' (Fr.alloc Nothing _ _)⟩
end Go.Proofs.YtbpbghmhenilcaaDoor
