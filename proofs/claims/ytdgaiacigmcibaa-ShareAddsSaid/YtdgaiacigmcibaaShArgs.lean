/- A slice of floats as it comes in: its words. No condition. -/
import Derived.Test.YtdgaiacigmcibaaOpen
import Derived.Test.YtdgaiacigmcibaaTop
namespace Go.Proofs.Ytdgaiacigmcibaa
open Go.RowKit

structure FL where
  n : Nat
def FL.cells (x : FL) : List Value := [.float .f64 x.n]
def FL.Good (x : FL) : Prop := x.n < 18446744073709551616
theorem FL.len (x : FL) : x.cells.length = 1 := rfl
theorem trod_float {H : Type} {enc : TypeId × Value → H} {P : Program} {w : World} {base : Nat} {spare : Nat → Bool} {held : Bool} {fuel : Nat} {t : TypeId} {cs : List Value} {x : DataW H × List MemPlace} {k : FloatKind}
    (ht : P.underlying t = some (.float k)) (h : DataW.trod enc P w base spare held fuel t cs = some x) : ∃ n, cs = [.float k n] ∧ (Lit.float k n).wf = true := by
  cases fuel with
  | zero => simp [DataW.trod] at h
  | succ n =>
    unfold DataW.trod at h
    rw [ht] at h
    split at h <;> simp_all
theorem fl_dec {H : Type} {enc : TypeId × Value → H} {w : World} (n : Nat) (cs : List Value) (y : DataW H × List MemPlace)
    (h : DataW.trod enc Try.prog w 0 (fun _ => true) true n 23 cs = some y) : ∃ r : FL, cs = r.cells ∧ r.Good := by
  obtain ⟨a, e0, wa⟩ := trod_float Try.underlying23 h
  refine ⟨⟨a⟩, e0, ?_⟩
  have : a < 2 ^ 64 := by simpa [Lit.wf] using wa
  exact this
theorem fl_flat (L : List FL) : L.flatMap FL.cells = (L.map FL.n).map fun n : Nat => Value.float .f64 n := by
  induction L with
  | nil => rfl
  | cons x L ih => rw [List.flatMap_cons, ih]; rfl
theorem fl_fs {w : World} {a : Option Addr} {L : List FL} (h : Recs FL.cells 1 w a L) : Fs w a (L.map FL.n) := by
  have := h.2.2
  rw [fl_flat] at this
  exact this
theorem fl_wf {L : List FL} (h : ∀ r ∈ L, r.Good) : ∀ z ∈ L.map FL.n, z < 18446744073709551616 := by
  intro z hz
  obtain ⟨r, hr, rfl⟩ := List.mem_map.1 hz
  exact h r hr
end Go.Proofs.Ytdgaiacigmcibaa
