/- The reference's Hint: a device is put where it belongs. -/
import Derived.Test.YtipkkhigcnhjdaaWakeRefC
namespace Go.Proofs.Ytipkkhigcnhjdaa
open Go.RowKit
/-- The order of names. -/
def nlt (a b : ByteArray) : Prop := a.data.toList < b.data.toList
instance (a b : ByteArray) : Decidable (nlt a b) := by unfold nlt; infer_instance
theorem aheadB_nlt (a b : ByteArray) : aheadB a b = decide (nlt a b) := rfl
theorem nlt_trans {a b c : ByteArray} (h : nlt a b) (h' : nlt b c) : nlt a c := by
  unfold nlt at *
  exact List.lt_trans h h'
theorem nlt_irrefl (a : ByteArray) : ¬ nlt a a := by
  unfold nlt
  exact List.lt_irrefl _
theorem nlt_tri {a b : ByteArray} (h : ¬ nlt a b) (hn : a ≠ b) : nlt b a := by
  unfold nlt at *
  rcases Decidable.em (b.data.toList < a.data.toList) with h1 | h1
  · exact h1
  · exfalso
    have h2 : a.data.toList = b.data.toList := List.le_antisymm (List.not_lt.1 h1) (List.not_lt.1 h)
    exact hn (by cases a; cases b; exact congrArg ByteArray.mk (Array.toList_inj.1 h2))
/-- Devices in order. -/
def Sorted (L : List RDev) : Prop := L.Pairwise (fun a b => nlt a.name b.name)
def newR (k : ByteArray) : RDev := ⟨k, 0, false, 0⟩
/-- Where a new device is put, and what waits for it. -/
def insW (L : List RDev) (k : ByteArray) : List RDev := L.filter (fun x => decide (nlt x.name k)) ++ ⟨k, 1, false, 0⟩ :: L.filter (fun x => decide (nlt k x.name))
theorem insW_at {L : List RDev} {k : ByteArray} {j : Nat} (hL : Sorted L) (hd : ∀ x ∈ L, x.name ≠ k) (hj : j ≤ L.length) (h1 : ∀ x ∈ L.drop j, nlt k x.name) (h2 : j = 0 ∨ ∃ h : j - 1 < L.length, ¬ nlt k L[j - 1].name) : L.take j ++ [(⟨k, 1, false, 0⟩ : RDev)] ++ L.drop j = insW L k := by
  have e : L = L.take j ++ L.drop j := (List.take_append_drop j L).symm
  have asym : ∀ {a b : ByteArray}, nlt a b → ¬ nlt b a := fun h h' => nlt_irrefl _ (nlt_trans h h')
  have hlow : ∀ x ∈ L.take j, nlt x.name k := by
    intro x hx
    obtain ⟨i, hi, rfl⟩ := List.getElem_of_mem hx
    rw [List.length_take] at hi
    have hij : i < j := by omega
    rw [List.getElem_take]
    rcases h2 with h | ⟨hjl, hne⟩
    · omega
    · have hlast : nlt L[j - 1].name k := nlt_tri hne (fun e => hd _ (List.getElem_mem hjl) e.symm)
      rcases Nat.lt_or_ge i (j - 1) with h | h
      · exact nlt_trans (List.pairwise_iff_getElem.1 hL i (j - 1) (by omega) hjl h) hlast
      · have : i = j - 1 := by omega
        subst this; exact hlast
  unfold insW
  have f1 : L.filter (fun x => decide (nlt x.name k)) = L.take j := by
    have : L.filter (fun x => decide (nlt x.name k)) = (L.take j).filter (fun x => decide (nlt x.name k)) ++ (L.drop j).filter (fun x => decide (nlt x.name k)) := by rw [← List.filter_append, ← e]
    rw [this, List.filter_eq_self.2 (fun x hx => by simpa using hlow x hx), List.filter_eq_nil_iff.2 (fun x hx => by simpa using asym (h1 x hx)), List.append_nil]
  have f2 : L.filter (fun x => decide (nlt k x.name)) = L.drop j := by
    have : L.filter (fun x => decide (nlt k x.name)) = (L.take j).filter (fun x => decide (nlt k x.name)) ++ (L.drop j).filter (fun x => decide (nlt k x.name)) := by rw [← List.filter_append, ← e]
    rw [this, List.filter_eq_nil_iff.2 (fun x hx => by simpa using asym (hlow x hx)), List.filter_eq_self.2 (fun x hx => by simpa using h1 x hx), List.nil_append]
  rw [f1, f2, List.append_assoc]; rfl
theorem Owns.set {w : World} {e : TypeId} {size n c g : Nat} {xs : List Value} (h : Owns w e size (.slice (some ⟨g, 0, none⟩) n c) n xs) {i : Nat} (v : Value) : Owns (w.setCell ⟨g, i, none⟩ v) e size (.slice (some ⟨g, 0, none⟩) n c) n (xs.set i v) ∧ w.frozen? ⟨g, i, none⟩ = false := by
  rcases h.2 with ⟨h1, _⟩ | ⟨g', cap, cur, h1, hb, hg, hn, hm, hs, ht⟩
  · simp at h1
  · simp only [Value.slice.injEq, Option.some.injEq, Addr.mk.injEq, and_true, true_and] at h1
    obtain ⟨rfl, rfl⟩ := h1
    have r : Row w g cur.toList e := by unfold Row; simpa using hg
    refine ⟨⟨by rw [List.length_set]; exact h.1, .inr ⟨g, c, (cur.toList.set i v).toArray, rfl, hb, r.set i v, hn, hm, by simpa using hs, ?_⟩⟩, r.free i⟩
    rw [List.toList_toArray, List.take_set, ht]
theorem flat_set {A : Type} (f : A → List Value) (k : Nat) (hf : ∀ r, (f r).length = k) : ∀ (rs : List A) (j i : Nat) (hj : j < rs.length) (v : Value) (r' : A), i < k → f r' = (f rs[j]).set i v → (rs.flatMap f).set (j * k + i) v = (rs.set j r').flatMap f
  | x :: rs, 0, i, _, v, r', hi, hr => by
    simp only [List.getElem_cons_zero] at hr
    rw [List.flatMap_cons, Nat.zero_mul, Nat.zero_add, List.set_append_left _ _ (by rw [hf]; exact hi), List.set_cons_zero, List.flatMap_cons, hr]
  | x :: rs, j + 1, i, hj, v, r', hi, hr => by
    have hj' : j < rs.length := by simpa using hj
    have := flat_set f k hf rs j i hj' v r' hi (by simpa using hr)
    rw [List.flatMap_cons, List.set_append_right _ _ (by rw [hf, Nat.add_mul]; omega), hf, List.set_cons_succ, List.flatMap_cons, ← this]
    congr 2
    rw [Nat.add_mul]; omega
section
variable {S : Nat → Prop} {w : World} {q g n c : Nat} {qt : Int} {vr : Value} {L : List RDev} {R : List ByteArray}
/-- One field of a device is stored. -/
theorem RefAt.dev (h : RefAt w q qt (.slice (some ⟨g, 0, none⟩) n c) vr L R) (hn : n = L.length) {j : Nat} (hj : j < L.length) {i : Nat} (hi : i < 4) {v : Value} {d : RDev} (hd : d.cells = L[j].cells.set i v) :
    RefAt (w.setCell ⟨g, j * 4 + i, none⟩ v) q qt (.slice (some ⟨g, 0, none⟩) n c) vr (L.set j d) R ∧ w.frozen? ⟨g, j * 4 + i, none⟩ = false ∧ Fr (fun k => k = g) w (w.setCell ⟨g, j * 4 + i, none⟩ v) := by
  subst hn
  have hset : Fr (fun k => k = g) w (w.setCell ⟨g, j * 4 + i, none⟩ v) := Fr.setCell (S := fun k => k = g) (p := ⟨g, j * 4 + i, none⟩) rfl _
  have ho := h.own.set (i := j * 4 + i) v
  rw [flat_set RDev.cells 4 RDev.len L j i hj v d hi hd] at ho
  refine ⟨⟨h.head.fr hset (fun e => h.nl g rfl e.symm), ?_, h.row.fr hset (fun k hk e => h.nlr g rfl (e ▸ hk)), h.nl, h.nr, h.nlr, by simpa using h.ll, h.lr⟩, ho.2, hset⟩
  have e : (L.set j d).length = L.length := List.length_set ..
  rw [e]; exact ho.1
end
end Go.Proofs.Ytipkkhigcnhjdaa
