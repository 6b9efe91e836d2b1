/- A list of texts that a call gathers, one append a round. No condition. -/
import Derived.Test.YtbpbghmhenilcaaDoorTxt
import Derived.Test.YtbpbghmhenilcaaDoorAppend
namespace Go.Proofs.YtbpbghmhenilcaaDoor
open Go.RowKit

theorem Tryd.infoText : (Tryd.prog.info? 9).map (fun i => (i.zero, i.size, i.bytes)) = some (some (.string ByteArray.empty), 1, 16) := by kernel_rfl
theorem same_text (x y : ByteArray) : (x.toList == y.toList) = decide (x = y) := by
  by_cases h : x = y
  · subst h; simp
  · rw [decide_eq_false h, beq_eq_false_iff_ne]
    intro e
    rw [ByteArray.toList_eq, ByteArray.toList_eq] at e
    refine h ?_
    cases x; cases y
    exact congrArg ByteArray.mk (Array.toList_inj.1 e)

/-- A list told in new memory. -/
def Told (L : List ByteArray) (w : World) (e : Ending) (w' : World) : Prop :=
  ∃ (a : Option Addr) (c : Nat), e = .returned (.slice a L.length c) ∧ Txt w' a L ∧ (∀ k, InBlock (.slice a L.length c) k → w.heap.size ≤ k) ∧ Owns w' 9 1 (.slice a L.length c) L.length (L.map Value.string) ∧ Fr Nothing w w'

/-- What has been gathered since the call began in w: the slice v reads as O, in blocks of the call's own. -/
structure CollE (w : World) (t : TypeId) (size : Nat) (v : Value) (n : Nat) (xs : List Value) (wr : World) : Prop where
  own : Owns wr t size v n xs
  new : ∀ k, InBlock v k → w.heap.size ≤ k
  fr : Fr Nothing w wr
abbrev Coll (w : World) (v : Value) (O : List ByteArray) (wr : World) : Prop := CollE w 9 1 v O.length (O.map Value.string) wr

section
variable {w w' wr w0 w7 : World} {v v7 : Value} {O : List ByteArray} {t : TypeId} {size n : Nat} {xs ys : List Value}
theorem CollE.start (w : World) (t : TypeId) (size : Nat) : CollE w t size (.slice none 0 0) 0 [] w := ⟨Owns.nil _ _ _, fun k hk => by simp [InBlock, Value.ownBlock] at hk, Fr.refl _ _⟩
theorem CollE.quiet (h : CollE w t size v n xs wr) (F : Fr Nothing wr w') : CollE w t size v n xs w' := ⟨h.own.fr F (fun _ _ h => h), h.new, h.fr.trans' F⟩
theorem CollE.drewN (h : CollE w t size v n xs wr) (m : Nat) : CollE w t size v n xs (wr.drewN m) := h.quiet (Fr.drewN _ _ _)
theorem CollE.drew (h : CollE w t size v n xs wr) : CollE w t size v n xs wr.drew := h.quiet (Fr.drew _ _)
theorem CollE.over {w2 : World} (h : CollE w2 t size v n xs wr) (F : Fr Nothing w w2) : CollE w t size v n xs wr :=
  ⟨h.own, fun k hk => Nat.le_trans F.size (h.new k hk), F.trans' h.fr⟩
theorem CollE.more {m : Nat} (h : CollE w t size v n xs wr) (F : Fr Nothing wr w0) (o : Owns w7 t size v7 (n + m) (xs ++ ys)) (f : Fr (InBlock v) w0 w7) (nn : NewOr w0 v v7) : CollE w t size v7 (n + m) (xs ++ ys) w7 := by
  have h0 := h.quiet F
  refine ⟨o, fun k hk => ?_, h0.fr.trans f (fun k hk hb => by have := h0.new k hb; omega)⟩
  rcases nn k hk with h1 | h1
  · exact h0.new k h1
  · exact Nat.le_trans h0.fr.size h1
theorem Coll.one {s : ByteArray} (h : Coll w v O wr) (F : Fr Nothing wr w0) (o : Owns w7 9 1 v7 (O.length + 1) (O.map Value.string ++ [Value.string s])) (f : Fr (InBlock v) w0 w7) (nn : NewOr w0 v v7) : Coll w v7 (O ++ [s]) w7 := by
  have := CollE.more h F o f nn
  simpa [Coll] using this
theorem Coll.told {L : List ByteArray} (h : Coll w v L wr) : Told L w (.returned v) wr := by
  obtain ⟨a, c, rfl, _, _⟩ := h.own.shape
  exact ⟨a, c, rfl, h.own.sl.2, h.new, h.own, h.fr⟩
theorem Told.coll {L : List ByteArray} {e : Ending} (h : Told L w e w') : ∃ a c, e = .returned (.slice a L.length c) ∧ Coll w (.slice a L.length c) L w' := by
  obtain ⟨a, c, rfl, h1, h2, h3, h4⟩ := h
  exact ⟨a, c, rfl, h3, h2, h4⟩
end

end Go.Proofs.YtbpbghmhenilcaaDoor
