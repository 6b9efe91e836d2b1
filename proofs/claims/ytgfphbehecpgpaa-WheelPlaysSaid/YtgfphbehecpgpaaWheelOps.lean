/- The steps of the wheel's scripts as they lie in memory, and the laws' small functions. No condition. -/
import Derived.Test.YtgfphbehecpgpaaWheelF
import Derived.Deep.CutBlock
namespace Go.Proofs.Ytgfphbehecpgpaa
open Go.RowKit

structure WheelOp where
  kind : Int
  id : Int
  at_ : Int
  on : Bool
def WheelOp.cells (o : WheelOp) : List Value := [.int .i64 o.kind, .int .i64 o.id, .int .i64 o.at_, .bool o.on]
def WheelOp.Good (o : WheelOp) : Prop := (Lit.int .i64 o.kind).wf = true ∧ (Lit.int .i64 o.id).wf = true ∧ (Lit.int .i64 o.at_).wf = true
theorem WheelOp.len (o : WheelOp) : o.cells.length = 4 := rfl
theorem wheelop_dec {H : Type} {enc : TypeId × Value → H} {w : World} (n : Nat) (cs : List Value) (y : DataW H × List MemPlace)
    (h : DataW.trod enc Try.prog w 0 (fun _ => true) true n 29 cs = some y) : ∃ r : WheelOp, cs = r.cells ∧ r.Good := by
  obtain ⟨xs, m, _, _, hl, hlen, hf⟩ := DataW.trod_struct Try.underlying29 h
  have hl' : cs.length = 4 := hl.trans (by kernel_rfl)
  have hx : xs.length = 4 := hlen
  match cs, hl', xs, hx with
  | [c0, c1, c2, c3], _, [y0, y1, y2, y3], _ =>
    obtain ⟨a, e0, _, wa⟩ := DataW.trod_int Try.underlying3 (hf 0 _ rfl)
    obtain ⟨b, e1, _, wb⟩ := DataW.trod_int Try.underlying3 (hf 1 _ rfl)
    obtain ⟨c, e2, _, wc⟩ := DataW.trod_int Try.underlying3 (hf 2 _ rfl)
    obtain ⟨d, e3, _⟩ := DataW.trod_bool Try.underlying4 (hf 3 _ rfl)
    have k0 : Try.prog.cellsOf 3 = 1 := by kernel_rfl
    have k3 : Try.prog.cellsOf 4 = 1 := by kernel_rfl
    simp [k0, k3] at e0 e1 e2 e3
    subst e0 e1 e2 e3
    exact ⟨⟨a, b, c, d⟩, rfl, wa, wb, wc⟩

set_option maxHeartbeats 400000 in
theorem wheelop_early (a : Option Addr) (n c : Nat) (w : World) (hn : n ≤ c) (_hc : (c : Int) ≤ 9223372036854775807) :
    Calls Try.prog 9 #[.slice a n c] w fun e w' => e = .returned (.slice a (min n 400) c) ∧ w = w' := by
  have h1 : (n : Int) ≤ c := by omega
  rcases Nat.le_total n 400 with h | h
  · rw [Nat.min_eq_left h]
    have e : (min (n : Int) 400) = n := by omega
    go_enter Try.func9, Try.ntmps9
    go_wp2_with (fail)
    all_goals (go_ret; exact ⟨ret_val (by first | rfl | (simp; omega)), rfl⟩)
  · rw [Nat.min_eq_right h]
    have e : (min (n : Int) 400) = 400 := by omega
    go_enter Try.func9, Try.ntmps9
    go_wp2_with (fail)
    all_goals (go_ret; exact ⟨ret_val (by first | rfl | (simp; omega)), rfl⟩)

/-- The kind of a step. -/
def WheelOp.knd (o : WheelOp) : Int := wrap64 ((IntKind.u64.wrap o.kind).tmod 3)
theorem knd_le (o : WheelOp) : 0 ≤ o.knd ∧ o.knd < 3 := by
  obtain ⟨q, hq, e⟩ := umod o.kind 3 (by omega) (by omega)
  have e' : o.knd = (q : Int) := e
  omega
set_option maxHeartbeats 400000 in
theorem wheelop_kind (o : WheelOp) (w : World) :
    Calls Try.prog 11 #[.agg #[.int .i64 o.kind, .int .i64 o.id, .int .i64 o.at_, .bool o.on]] w fun e w' => e = .returned (.int .i64 o.knd) ∧ Fr Nothing w w' := by
  go_enter Try.func11, Try.ntmps11
  go_wp2
  go_ret
  exact ⟨rfl, Fr.alloc _ _ _⟩
end Go.Proofs.Ytgfphbehecpgpaa
