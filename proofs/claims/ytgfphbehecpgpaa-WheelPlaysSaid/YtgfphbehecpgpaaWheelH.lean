/- Go of a wheel at any time. Condition: IsWheel. -/
import Derived.Test.YtgfphbehecpgpaaWheelG
namespace Go.Proofs.Ytgfphbehecpgpaa
open Go.RowKit
/-- Whether Go refuses. -/
abbrev goBad (now t : Int) : Prop := t < now ∨ 1099511627776 < t
def goCame (L : List Due) (now t : Int) : List Due := if goBad now t then [] else L.filter (fun d => decide (d.2 ≤ t))
def goLeft (L : List Due) (now t : Int) : List Due := if goBad now t then L else L.filter (fun d => decide (t < d.2))
def goNow (now t : Int) : Int := if goBad now t then now else t
def goErr (now t : Int) : Int := if goBad now t then 10 else 0
theorem isw_go_any {S : Nat → Prop} {w : World} {p m : Nat} {now t : Int} {L : List Due} (h : IsWheel S w p now L m) (hm : m < 4000) :
    Calls Try.prog 13 #[.pointer (some ⟨p, 0, none⟩), .int .i64 t] w fun e w' => ∃ lv S', e = .returned (.tuple #[lv, .int .i64 (goErr now t)]) ∧ IsWheel S' w' p (goNow now t) (goLeft L now t) m ∧ Grown w S S' ∧
      Owns w' 3 1 lv (goCame L now t).length (ints (goCame L now t)) ∧ (∀ k, InBlock lv k → w.heap.size ≤ k ∧ ¬ S' k) ∧ Fr S w w' := by
  unfold goErr goNow goLeft goCame
  by_cases hb : goBad now t
  · simp only [if_pos hb]
    refine (isw_go_range h hb).mono ?_
    rintro e w' ⟨rfl, rfl⟩
    exact ⟨_, S, rfl, h, fun k hk => .inl hk, Owns.nil _ _ _, fun k hk => by simp [InBlock, Value.ownBlock] at hk, Fr.refl _ _⟩
  · simp only [if_neg hb]
    unfold goBad at hb
    exact isw_go h (by omega) (by omega) hm
end Go.Proofs.Ytgfphbehecpgpaa
