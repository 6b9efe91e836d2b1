/- Two fronts, two lists that grow, and a step's own row, in blocks of the call's own, each apart from the others. No condition. -/
import Derived.Test.YtklpjnjhaodpkaaFrontJ
import Derived.Test.YtklpjnjhaodpkaaFrontIdle
namespace Go.Proofs.Ytklpjnjhaodpkaa
open Go.RowKit

structure QI (w : World) (Sf Sr : Nat → Prop) (p q : Nat) (sF : FS) (rR : RS) (v u : Value) (A O : List ByteArray) (ro : Option (Nat × List Value)) (tag : Nat → Nat) (wr : World) : Prop where
  f : IsFront Sf wr p sF
  r : IsRF Sr wr q rR
  ov : Owns wr 9 1 v A.length (A.map Value.string)
  ou : Owns wr 9 1 u O.length (O.map Value.string)
  row : ∀ x, ro = some x → Row wr x.1 x.2 27 ∧ tag x.1 = 5 ∧ w.heap.size ≤ x.1
  tf : ∀ k, Sf k → tag k = 1 ∧ w.heap.size ≤ k
  tr : ∀ k, Sr k → tag k = 2 ∧ w.heap.size ≤ k
  tv : ∀ k, InBlock v k → tag k = 3 ∧ w.heap.size ≤ k
  tu : ∀ k, InBlock u k → tag k = 4 ∧ w.heap.size ≤ k
  fr : Fr (FromB w.heap.size) w wr

section
variable {w wr w' : World} {Sf Sr S' : Nat → Prop} {p q : Nat} {sF s' : FS} {rR r' : RS} {v u v' : Value} {A O A' : List ByteArray} {ro : Option (Nat × List Value)} {tag : Nat → Nat}
/-- Tags of elder blocks stay; new blocks have the tag t. -/
def retag (wr : World) (tag : Nat → Nat) (t : Nat) : Nat → Nat := fun k => if k < wr.heap.size then tag k else t
theorem retag_old {t k : Nat} (h : k < wr.heap.size) : retag wr tag t k = tag k := if_pos h
theorem retag_new {t k : Nat} (h : wr.heap.size ≤ k) : retag wr tag t k = t := if_neg (by omega)

theorem QI.quiet (h : QI w Sf Sr p q sF rR v u A O ro tag wr) (F : Fr Nothing wr w') : QI w Sf Sr p q sF rR v u A O ro tag w' :=
  ⟨h.f.quiet F, h.r.quiet F, h.ov.fr F (fun _ _ h => h), h.ou.fr F (fun _ _ h => h), fun x hx => ⟨(h.row x hx).1.fr F (fun h => h), (h.row x hx).2⟩, h.tf, h.tr, h.tv, h.tu, h.fr.trans' F.fromN⟩
theorem QI.drewN (h : QI w Sf Sr p q sF rR v u A O ro tag wr) (n : Nat) : QI w Sf Sr p q sF rR v u A O ro tag (wr.drewN n) := h.quiet (Fr.drewN _ _ _)
/-- The front was turned. -/
theorem QI.onF (h : QI w Sf Sr p q sF rR v u A O ro tag wr) (h1 : IsFront S' w' p s') (h2 : ∀ k, S' k → Sf k ∨ wr.heap.size ≤ k) (F : Fr Sf wr w') :
    QI w S' Sr p q s' rR v u A O ro (retag wr tag 1) w' := by
  have nf : ∀ k t, tag k = t → t ≠ 1 → ¬ Sf k := fun k t ht hn hs => hn (by rw [← ht, (h.tf k hs).1])
  refine ⟨h1, h.r.fr F (fun k hk => nf k 2 (h.tr k hk).1 (by decide)), h.ov.fr F (fun k hk => nf k 3 (h.tv k hk).1 (by decide)), h.ou.fr F (fun k hk => nf k 4 (h.tu k hk).1 (by decide)), fun x hx => ?_, fun k hk => ?_, fun k hk => ?_, fun k hk => ?_, fun k hk => ?_, h.fr.trans' (F.from_ fun k hk => (h.tf k hk).2)⟩
  · obtain ⟨h3, h4, h5⟩ := h.row x hx
    exact ⟨h3.fr F (nf _ 5 h4 (by decide)), by rw [retag_old h3.lt]; exact h4, h5⟩
  · rcases h2 k hk with h3 | h3
    · exact ⟨by rw [retag_old (h.f.lt h3)]; exact (h.tf k h3).1, (h.tf k h3).2⟩
    · exact ⟨retag_new h3, Nat.le_trans h.fr.size h3⟩
  · exact ⟨by rw [retag_old (h.r.lt hk)]; exact (h.tr k hk).1, (h.tr k hk).2⟩
  · exact ⟨by rw [retag_old (h.ov.lt hk)]; exact (h.tv k hk).1, (h.tv k hk).2⟩
  · exact ⟨by rw [retag_old (h.ou.lt hk)]; exact (h.tu k hk).1, (h.tu k hk).2⟩
/-- The reference's front was turned. -/
theorem QI.onR (h : QI w Sf Sr p q sF rR v u A O ro tag wr) (g : RFGone Sr wr q r' w') : ∃ S', QI w Sf S' p q sF r' v u A O ro (retag wr tag 2) w' := by
  obtain ⟨S', h1, h2, F⟩ := g
  have nr : ∀ k t, tag k = t → t ≠ 2 → ¬ Sr k := fun k t ht hn hs => hn (by rw [← ht, (h.tr k hs).1])
  refine ⟨S', h.f.fr F (fun k hk => nr k 1 (h.tf k hk).1 (by decide)), h1, h.ov.fr F (fun k hk => nr k 3 (h.tv k hk).1 (by decide)), h.ou.fr F (fun k hk => nr k 4 (h.tu k hk).1 (by decide)), fun x hx => ?_, fun k hk => ?_, fun k hk => ?_, fun k hk => ?_, fun k hk => ?_, h.fr.trans' (F.from_ fun k hk => (h.tr k hk).2)⟩
  · obtain ⟨h3, h4, h5⟩ := h.row x hx
    exact ⟨h3.fr F (nr _ 5 h4 (by decide)), by rw [retag_old h3.lt]; exact h4, h5⟩
  · exact ⟨by rw [retag_old (h.f.lt hk)]; exact (h.tf k hk).1, (h.tf k hk).2⟩
  · rcases h2 k hk with h3 | h3
    · exact ⟨by rw [retag_old (h.r.lt h3)]; exact (h.tr k h3).1, (h.tr k h3).2⟩
    · exact ⟨retag_new h3, Nat.le_trans h.fr.size h3⟩
  · exact ⟨by rw [retag_old (h.ov.lt hk)]; exact (h.tv k hk).1, (h.tv k hk).2⟩
  · exact ⟨by rw [retag_old (h.ou.lt hk)]; exact (h.tu k hk).1, (h.tu k hk).2⟩
/-- The front told a list, the first of the step. -/
theorem QI.told {out : List ByteArray} {er : Int} {e : Ending} (h : QI w Sf Sr p q sF rR v (.slice none 0 0) A [] ro tag wr) (g : FTold Sf p wr out er s' e w') :
    ∃ a c S' tag', e = .returned (.tuple #[.slice a out.length c, .int .i64 er]) ∧ QI w S' Sr p q s' rR v (.slice a out.length c) A out ro tag' w' := by
  classical
  obtain ⟨a, c, S', he, own, hn, hf, hS', hd, F⟩ := g
  have nf : ∀ k t, tag k = t → t ≠ 1 → ¬ Sf k := fun k t ht hn hs => hn (by rw [← ht, (h.tf k hs).1])
  refine ⟨a, c, S', fun k => if k < wr.heap.size then tag k else if S' k then 1 else 4, he, hf, h.r.fr F (fun k hk => nf k 2 (h.tr k hk).1 (by decide)), h.ov.fr F (fun k hk => nf k 3 (h.tv k hk).1 (by decide)), own, fun x hx => ?_, fun k hk => ?_, fun k hk => ?_, fun k hk => ?_, fun k hk => ?_, h.fr.trans' (F.from_ fun k hk => (h.tf k hk).2)⟩
  · obtain ⟨h3, h4, h5⟩ := h.row x hx
    exact ⟨h3.fr F (nf _ 5 h4 (by decide)), by rw [if_pos h3.lt]; exact h4, h5⟩
  · rcases hS' k hk with h3 | h3
    · exact ⟨by rw [if_pos (h.f.lt h3)]; exact (h.tf k h3).1, (h.tf k h3).2⟩
    · exact ⟨by rw [if_neg (by omega), if_pos hk], Nat.le_trans h.fr.size h3⟩
  · exact ⟨by rw [if_pos (h.r.lt hk)]; exact (h.tr k hk).1, (h.tr k hk).2⟩
  · exact ⟨by rw [if_pos (h.ov.lt hk)]; exact (h.tv k hk).1, (h.tv k hk).2⟩
  · have h3 := hn k hk
    exact ⟨by rw [if_neg (by omega), if_neg (fun hs => hd k hs hk)], Nat.le_trans h.fr.size h3⟩
/-- The list that was told grew. -/
theorem QI.onU {O' : List ByteArray} {u' : Value} (h : QI w Sf Sr p q sF rR v u A O ro tag wr) (o : Owns w' 9 1 u' O'.length (O'.map Value.string)) (F : Fr (InBlock u) wr w') (n : NewOr wr u u') :
    QI w Sf Sr p q sF rR v u' A O' ro (retag wr tag 4) w' := by
  have nu : ∀ k t, tag k = t → t ≠ 4 → ¬ InBlock u k := fun k t ht hn hs => hn (by rw [← ht, (h.tu k hs).1])
  refine ⟨h.f.fr F (fun k hk => nu k 1 (h.tf k hk).1 (by decide)), h.r.fr F (fun k hk => nu k 2 (h.tr k hk).1 (by decide)), h.ov.fr F (fun k hk => nu k 3 (h.tv k hk).1 (by decide)), o, fun x hx => ?_, fun k hk => ?_, fun k hk => ?_, fun k hk => ?_, fun k hk => ?_, h.fr.trans' (F.from_ fun k hk => (h.tu k hk).2)⟩
  · obtain ⟨h3, h4, h5⟩ := h.row x hx
    exact ⟨h3.fr F (nu _ 5 h4 (by decide)), by rw [retag_old h3.lt]; exact h4, h5⟩
  · exact ⟨by rw [retag_old (h.f.lt hk)]; exact (h.tf k hk).1, (h.tf k hk).2⟩
  · exact ⟨by rw [retag_old (h.r.lt hk)]; exact (h.tr k hk).1, (h.tr k hk).2⟩
  · exact ⟨by rw [retag_old (h.ov.lt hk)]; exact (h.tv k hk).1, (h.tv k hk).2⟩
  · rcases n k hk with h3 | h3
    · exact ⟨by rw [retag_old (h.ou.lt h3)]; exact (h.tu k h3).1, (h.tu k h3).2⟩
    · exact ⟨retag_new h3, Nat.le_trans h.fr.size h3⟩
/-- The list of what has come grew. -/
theorem QI.onV (h : QI w Sf Sr p q sF rR v u A O ro tag wr) (o : Owns w' 9 1 v' A'.length (A'.map Value.string)) (F : Fr (InBlock v) wr w') (n : NewOr wr v v') :
    QI w Sf Sr p q sF rR v' u A' O ro (retag wr tag 3) w' := by
  have nu : ∀ k t, tag k = t → t ≠ 3 → ¬ InBlock v k := fun k t ht hn hs => hn (by rw [← ht, (h.tv k hs).1])
  refine ⟨h.f.fr F (fun k hk => nu k 1 (h.tf k hk).1 (by decide)), h.r.fr F (fun k hk => nu k 2 (h.tr k hk).1 (by decide)), o, h.ou.fr F (fun k hk => nu k 4 (h.tu k hk).1 (by decide)), fun x hx => ?_, fun k hk => ?_, fun k hk => ?_, fun k hk => ?_, fun k hk => ?_, h.fr.trans' (F.from_ fun k hk => (h.tv k hk).2)⟩
  · obtain ⟨h3, h4, h5⟩ := h.row x hx
    exact ⟨h3.fr F (nu _ 5 h4 (by decide)), by rw [retag_old h3.lt]; exact h4, h5⟩
  · exact ⟨by rw [retag_old (h.f.lt hk)]; exact (h.tf k hk).1, (h.tf k hk).2⟩
  · exact ⟨by rw [retag_old (h.r.lt hk)]; exact (h.tr k hk).1, (h.tr k hk).2⟩
  · rcases n k hk with h3 | h3
    · exact ⟨by rw [retag_old (h.ov.lt h3)]; exact (h.tv k h3).1, (h.tv k h3).2⟩
    · exact ⟨retag_new h3, Nat.le_trans h.fr.size h3⟩
  · exact ⟨by rw [retag_old (h.ou.lt hk)]; exact (h.tu k hk).1, (h.tu k hk).2⟩
/-- A step's own row. -/
theorem QI.withRow (h : QI w Sf Sr p q sF rR v u A O none tag wr) (cs : List Value) : QI w Sf Sr p q sF rR v u A O (some (wr.heap.size, cs)) (retag wr tag 5) (wr.alloc (.cells cs.toArray 27)) := by
  have F := Fr.alloc Nothing wr (.cells cs.toArray 27)
  have h0 := h.quiet F
  refine ⟨h0.f, h0.r, h0.ov, h0.ou, fun x hx => ?_, fun k hk => ?_, fun k hk => ?_, fun k hk => ?_, fun k hk => ?_, h0.fr⟩
  · obtain rfl := Option.some.inj hx
    exact ⟨Row.allocNew wr cs _, retag_new (Nat.le_refl _), h.fr.size⟩
  · exact ⟨by rw [retag_old (h.f.lt hk)]; exact (h.tf k hk).1, (h.tf k hk).2⟩
  · exact ⟨by rw [retag_old (h.r.lt hk)]; exact (h.tr k hk).1, (h.tr k hk).2⟩
  · exact ⟨by rw [retag_old (h.ov.lt hk)]; exact (h.tv k hk).1, (h.tv k hk).2⟩
  · exact ⟨by rw [retag_old (h.ou.lt hk)]; exact (h.tu k hk).1, (h.tu k hk).2⟩
/-- The step is over. -/
theorem QI.drop (h : QI w Sf Sr p q sF rR v u A O ro tag wr) : QI w Sf Sr p q sF rR v (.slice none 0 0) A [] none tag wr :=
  ⟨h.f, h.r, h.ov, Owns.nil _ _ _, fun x hx => by simp at hx, h.tf, h.tr, h.tv, fun k hk => by simp [InBlock, Value.ownBlock] at hk, h.fr⟩
/-- What the reference says that all is. -/
theorem QI.allOf (h : QI w Sf Sr p q sF rR v u A O ro tag wr) : ∃ a c, wr.cell? ⟨q, 6, none⟩ = some (.slice a rR.A.length c) ∧ Txt wr a rR.A := by
  obtain ⟨lq, cq, vA, SL, SC, ha, hS⟩ := h.r
  obtain ⟨a, c, rfl, _, _⟩ := ha.own.shape
  exact ⟨a, c, ha.head.cell 6 rfl, ha.own.sl.2⟩
end
end Go.Proofs.Ytklpjnjhaodpkaa
