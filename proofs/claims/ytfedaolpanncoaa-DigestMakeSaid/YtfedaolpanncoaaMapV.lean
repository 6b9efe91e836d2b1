/- A map from strings to values of a struct type that the call has made: what it holds, as a function, and how many. -/
import Derived.Test.YtfedaolpanncoaaRows
import Derived.Test.YtfedaolpanncoaaBase
import Derived.ProofKit
import Derived.Maps.OwnSet
import Derived.Maps.StringElems
namespace Go.Proofs.Ytfedaolpanncoaa
open Go.RowKit Go.Maps

/-- A string as a key's datum. -/
def skey (k : ByteArray) : Lit := .string k.data.toList
theorem skey_inj {a b : ByteArray} (h : skey a = skey b) : a = b := by
  unfold skey at h
  injection h with h
  have := Array.ext' h
  cases a; cases b; simp_all
theorem keyed : Keyed Try.prog 9 := string_keyed Try.underlying9
theorem keyOfS {k : ByteArray} (hk : k.size ≤ maxLen) : keyOf Try.prog 9 (.string k) = some (skey k) := by
  rw [keyOf_string Try.underlying9]
  simp [mapKey, Try.underlying9, hk, skey]

/-- How values of a type are written and read. -/
structure Elem (α : Type) where
  enc : α → Value
  R : Value → Option (DataW α × List MemPlace)
  to_ : ∀ x, R (enc x) = some (.held x, [])
  inv : ∀ v z, R v = some z → ∃ x, v = enc x ∧ z = (.held x, [])
  zero : α
theorem Elem.inj {α : Type} (E : Elem α) {x y : α} (h : E.enc x = E.enc y) : x = y := by
  have h1 := E.to_ x
  rw [h, E.to_ y] at h1
  simp at h1
  exact h1.symm
/-- Block b is a map that holds what f says, n in all. -/
def IsMapV {α : Type} (E : Elem α) (w : World) (b : Nat) (f : ByteArray → Option α) (n : Nat) : Prop :=
  ∃ D : DataW α, w.ownsMap Try.prog 9 E.R b n D ∧ (∀ k, has D (skey k) = (f k).isSome) ∧ (∀ k v, f k = some v → ∀ z, D.atKey (skey k) z = .held v) ∧ size D = n

section
variable {α : Type} {E : Elem α} {w w' : World} {b n : Nat} {f : ByteArray → Option α}
theorem IsMapV.fr {S : Nat → Prop} (h : IsMapV E w b f n) (F : Fr S w w') (hb : ¬ S b) : IsMapV E w' b f n := by
  obtain ⟨D, ⟨es, clock, hg, r⟩, h1, h2, h3⟩ := h
  exact ⟨D, ⟨es, clock, F.same hg hb, r⟩, h1, h2, h3⟩
theorem IsMapV.drewN (h : IsMapV E w b f n) (m : Nat) : IsMapV E (w.drewN m) b f n := h.fr (Fr.drewN Nothing _ _) (fun h => h)
theorem IsMapV.lt (h : IsMapV E w b f n) : b < w.heap.size := by obtain ⟨D, h, _⟩ := h; exact h.lt
theorem IsMapV.made (w : World) : IsMapV E (w.alloc (.map #[] 0)) w.heap.size (fun _ => none) 0 :=
  ⟨.map [], World.ownsMap_made _ _ _ _, fun k => rfl, fun k v h => by simp at h, rfl⟩
theorem ownsV_tight {D : DataW α} {m : Nat} (ho : w.ownsMap Try.prog 9 E.R b m D) (hn : size D = n) : w.ownsMap Try.prog 9 E.R b n D := by
  obtain ⟨es, clock, g1, g2, g3, g4⟩ := ho
  refine ⟨es, clock, g1, g2, ?_, g4⟩
  rw [← hn, g4]
  simp [size, length_sorted]
/-- 'm[k] = v'. -/
theorem IsMapV.store {t e : TypeId} (ht : Try.prog.underlying t = some (.map 9 e)) (h : IsMapV E w b f n) (hl : n < maxLen) {k : ByteArray} (v : α) (hk : k.size ≤ maxLen) :
    ∃ w', (Instr.mapUpdate t (.map (some b)) (.string k) (E.enc v)).run Try.prog w = .ok () w' ∧ IsMapV E w' b (fun j => if j = k then some v else f j) (if (f k).isSome then n else n + 1) ∧ Fr (fun x => x = b) w w' := by
  obtain ⟨D, ho, h1, h2, h3⟩ := h
  have hi := ho.isMap
  have hsz := size_put (k := skey k) (ho.tidy keyed) (.held v)
  rw [h1, h3] at hsz
  obtain ⟨w', hr, ho', hm⟩ := ho.store keyed ht hl (keyOfS hk) (E.to_ v)
  have hkl : WideAt.IsKeyLit (skey k) := keyed.key (keyOfS hk)
  have hsz' : size (D.put (skey k) (.held v)) = if (f k).isSome then n else n + 1 := by rw [hsz]; try (split <;> omega)
  refine ⟨w', hr, ⟨_, ownsV_tight ho' hsz', fun j => ?_, fun j u (hu : (if j = k then some v else f j) = some u) z => ?_, hsz'⟩, Fr.grown hm.grown (fun x e _ => by simpa using e.symm)⟩
  · show has _ _ = (if j = k then some v else f j).isSome
    by_cases e : j = k
    · subst e; rw [has_put_same hi hkl]; simp
    · rw [if_neg e, has_put_other (fun h => e (skey_inj h)), h1]
  · by_cases e : j = k
    · subst e
      simp at hu
      subst hu
      rw [atKey_put_same hi hkl]
    · rw [if_neg e] at hu
      rw [atKey_put_other (fun h => e (skey_inj h))]
      exact h2 j u hu z
/-- 'delete(m, k)'. -/
theorem IsMapV.drop {t e : TypeId} (ht : Try.prog.underlying t = some (.map 9 e)) (h : IsMapV E w b f n) {k : ByteArray} (hk : k.size ≤ maxLen) (ty : TypeId) :
    ∃ w', (Builtin.delete_ #[t, 9] ty #[.map (some b), .string k]).run Try.prog w = .ok (.tuple #[]) w' ∧ IsMapV E w' b (fun j => if j = k then none else f j) (if (f k).isSome then n - 1 else n) ∧ Fr (fun x => x = b) w w' := by
  obtain ⟨D, ho, h1, h2, h3⟩ := h
  have hs := size_del (k := skey k) (ho.tidy keyed)
  rw [h1, h3] at hs
  obtain ⟨w', hr, ho', hm⟩ := ho.drop keyed ht (keyOfS hk) ty
  have hsz : size (D.del (skey k)) = if (f k).isSome then n - 1 else n := by cases hf : (f k).isSome <;> simp [hf] at hs ⊢ <;> omega
  refine ⟨w', hr, ⟨_, ownsV_tight ho' hsz, fun j => ?_, fun j u (hu : (if j = k then none else f j) = some u) z => ?_, hsz⟩, Fr.grown hm.grown (fun x e _ => by simpa using e.symm)⟩
  · show has _ _ = (if j = k then none else f j).isSome
    by_cases e : j = k
    · subst e; rw [has_del_same]; simp
    · rw [if_neg e, has_del_other (fun h => e (skey_inj h)), h1]
  · by_cases e : j = k
    · subst e; simp at hu
    · rw [if_neg e] at hu
      rw [atKey_del_other (fun h => e (skey_inj h))]
      exact h2 j u hu z
/-- The names that it holds. -/
theorem IsMapV.names (h : IsMapV E w b f n) : ∃ D : DataW α, w.ownsMap Try.prog 9 E.R b n D ∧ size D = n ∧ (∀ k, has D (skey k) = (f k).isSome) ∧ ∀ k v, f k = some v → ∀ z, D.atKey (skey k) z = .held v := by
  obtain ⟨D, ho, h1, h2, h3⟩ := h
  exact ⟨D, ho, h3, h1, h2⟩
variable {ops : Array Oper} {rest : List Oper} {o : Oper} {a : Act} {Q : Exit → Act → World → Prop}
theorem wpList_mapV_store (hg : o.guard = none) (m x y : Operand) {t e : TypeId} (hop : o.op = Op.mapUpdate t m x y)
    (ht : Try.prog.underlying t = some (.map 9 e)) (h : IsMapV E w b f n) (hl : n < maxLen) (hm : a.eval m = .map (some b)) {k : ByteArray} {v : α} (hx : a.eval x = .string k) (hy : a.eval y = E.enc v) (hk : k.size ≤ maxLen)
    (hK : ∀ w', IsMapV E w' b (fun j => if j = k then some v else f j) (if (f k).isSome then n else n + 1) → Fr (fun x => x = b) w w' → wpList Try.prog ops Q rest (a.put o.dst undef) w') : wpList Try.prog ops Q (o :: rest) a w := by
  refine wpList_plain hg fun K' hK' => ?_
  obtain ⟨w', hrun, r1, r2⟩ := h.store (v := v) ht hl hk
  unfold Oper.wp
  simp [execOp, hop, hm, hx, hy, hrun, Result.andThen]
  exact hK' _ _ (hK w' r1 r2)
end
end Go.Proofs.Ytfedaolpanncoaa
