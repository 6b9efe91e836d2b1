/- A slice of floats as it comes in: its words. No condition. -/
import Derived.Test.YtdgaiacigmcibaaOpen
import Derived.Test.YtdgaiacigmcibaaTop
namespace Go.Proofs.Ytdgaiacigmcibaa
open Go.RowKit Go.Sort

structure FL where
  n : Nat
def FL.cells (x : FL) : List Value := [.float .f64 x.n]
def FL.Good (x : FL) : Prop := x.n < 18446744073709551616
theorem FL.len (x : FL) : x.cells.length = 1 := rfl
theorem trod_float {H : Type} {enc : TypeId × Value → H} {P : Program} {w : World} {base : Nat} {spare : Nat → Bool} {held : Bool} {fuel : Nat} {t : TypeId} {cs : List Value} {x : DataW H × List MemPlace} {k : FloatKind}
    (ht : P.underlying t = some (.float k)) (h : DataW.trod enc P w base spare held fuel t cs = some x) : ∃ n, cs = [.float k n] ∧ (Lit.float k n).wf = true := by
  cases fuel with
  | zero => simp [DataW.trod] at h
  | succ n =>
    unfold DataW.trod at h
    rw [ht] at h
    split at h <;> simp_all
theorem fl_dec {H : Type} {enc : TypeId × Value → H} {w : World} (n : Nat) (cs : List Value) (y : DataW H × List MemPlace)
    (h : DataW.trod enc Try.prog w 0 (fun _ => true) true n 23 cs = some y) : ∃ r : FL, cs = r.cells ∧ r.Good := by
  obtain ⟨a, e0, wa⟩ := trod_float Try.underlying23 h
  refine ⟨⟨a⟩, e0, ?_⟩
  have : a < 2 ^ 64 := by simpa [Lit.wf] using wa
  exact this
theorem fl_flat (L : List FL) : L.flatMap FL.cells = (L.map FL.n).map fun n : Nat => Value.float .f64 n := by
  induction L with
  | nil => rfl
  | cons x L ih => rw [List.flatMap_cons, ih]; rfl
theorem fl_fs {w : World} {a : Option Addr} {L : List FL} (h : Recs FL.cells 1 w a L) : Fs w a (L.map FL.n) := by
  have := h.2.2
  rw [fl_flat] at this
  exact this
theorem fl_wf {L : List FL} (h : ∀ r ∈ L, r.Good) : ∀ z ∈ L.map FL.n, z < 18446744073709551616 := by
  intro z hz
  obtain ⟨r, hr, rfl⟩ := List.mem_map.1 hz
  exact h r hr
theorem told_sl {L : List Int} {w w' : World} {e : Ending} (h : TopTold L w e w') : ∃ (a : Option Addr) (c : Nat), e = .returned (.slice a L.length c) ∧ L.length ≤ c ∧ c ≤ maxLen ∧ Sl w' a (L.map (Value.int .i64)) ∧ Fr Nothing w w' := by
  obtain ⟨a, c, he, h1, h2, hor, F⟩ := h
  refine ⟨a, c, he, h1, h2, ?_, F⟩
  rcases hor with ⟨_, h2, _⟩ | ⟨g2, rest, rfl, _, h3⟩
  · rw [h2]; exact Sl.nil _ _
  · refine .inr ⟨g2, 0, rfl, fun i hi => ?_⟩
    have hi' : i < L.length := by simpa using hi
    have := h3.cell (i := i) (by simpa using hi')
    rw [Nat.zero_add, this, List.getElem?_map, List.getElem?_eq_getElem hi', getElem!_pos L.toArray i (by simpa using hi')]
    simp
theorem share_early (a : Option Addr) (n c : Nat) (w : World) (hn : n ≤ c) (hc : (c : Int) ≤ 9223372036854775807) :
    Calls Try.prog 10 #[.slice a n c] w fun e w' => e = .returned (.slice a (min n 60) c) ∧ w = w' := by
  have h1 : (n : Int) ≤ c := by omega
  by_cases h2 : (60 : Int) < n
  · have h3 : (60 : Int) ≤ c := by omega
    have hm : min n 60 = 60 := by omega
    rw [hm]
    clear hm
    go_enter Try.func10, Try.ntmps10
    go_wp2
    go_ret
    exact ⟨rfl, rfl⟩
  · have hm : min n 60 = n := by omega
    rw [hm]
    clear hm
    go_enter Try.func10, Try.ntmps10
    go_wp2
    go_ret
    exact ⟨rfl, rfl⟩
end Go.Proofs.Ytdgaiacigmcibaa
