/- A map from strings to strings that the call has made, as a list of pairs. -/
import Derived.Test.YtklpjnjhaodpkaaRows
import Derived.Test.YtklpjnjhaodpkaaBase
import Derived.ProofKit
import Derived.Maps.OwnSet
import Derived.Maps.StringElems
namespace Go.Proofs.Ytklpjnjhaodpkaa
open Go.RowKit Go.Maps

/-- A string as a key's datum. -/
def skey (k : ByteArray) : Lit := .string k.data.toList
theorem skey_inj {a b : ByteArray} (h : skey a = skey b) : a = b := by
  unfold skey at h
  injection h with h
  have := Array.ext' h
  cases a; cases b; simp_all
theorem keyed : Keyed Try.prog 9 := string_keyed Try.underlying9
theorem zeroS (w : World) : (zeroValue 9).run Try.prog w = .ok (.string ByteArray.empty) w := by kernel_rfl
theorem keyOfS {k : ByteArray} (hk : k.size ≤ maxLen) : keyOf Try.prog 9 (.string k) = some (skey k) := by
  rw [keyOf_string Try.underlying9]
  simp [mapKey, Try.underlying9, hk, skey]

/-- The text of a name in a list of pairs. -/
def findT (L : List (ByteArray × ByteArray)) (k : ByteArray) : Option ByteArray := (L.find? (fun p => decide (p.1 = k))).map (·.2)

/-- Block b is a map that reads as the list L. -/
def IsMapT (w : World) (b : Nat) (L : List (ByteArray × ByteArray)) : Prop :=
  ∃ D : DataW Unit, w.ownsMap Try.prog 9 (plainElem Try.prog 9) b L.length D ∧ (∀ k, has D (skey k) = (findT L k).isSome) ∧ ∀ k v, findT L k = some v → ∀ z, D.atKey (skey k) z = .lit (.string v.data.toList)

theorem findT_snoc (L : List (ByteArray × ByteArray)) (k v j : ByteArray) (h : findT L k = none) : findT (L ++ [(k, v)]) j = if j = k then some v else findT L j := by
  unfold findT at *
  rw [List.find?_append]
  by_cases e : j = k
  · subst e
    simp only [Option.map_eq_none_iff] at h
    simp [h]
  · have e' : ¬ k = j := fun h => e h.symm
    simp [e, e']
theorem findT_strike (L : List (ByteArray × ByteArray)) (k j : ByteArray) : findT (L.filter (fun p => decide (p.1 ≠ k))) j = if j = k then none else findT L j := by
  unfold findT
  induction L with
  | nil => simp
  | cons p L ih =>
    by_cases hp : p.1 = k
    · rw [List.filter_cons_of_neg (by simp [hp]), ih]
      by_cases e : j = k
      · simp [e]
      · have : ¬ p.1 = j := fun h => e (h.symm.trans hp)
        simp [e, this]
    · rw [List.filter_cons_of_pos (by simp [hp])]
      by_cases h : p.1 = j
      · have : ¬ j = k := fun e => hp (h.trans e)
        simp [h, this]
      · rw [List.find?_cons_of_neg (by simp [h]), List.find?_cons_of_neg (by simp [h]), ih]

section
variable {w w' : World} {b : Nat} {L : List (ByteArray × ByteArray)}
theorem IsMapT.fr {S : Nat → Prop} (h : IsMapT w b L) (F : Fr S w w') (hb : ¬ S b) : IsMapT w' b L := by
  obtain ⟨D, ⟨es, clock, hg, r⟩, h1, h2⟩ := h
  exact ⟨D, ⟨es, clock, F.same hg hb, r⟩, h1, h2⟩
theorem IsMapT.lt (h : IsMapT w b L) : b < w.heap.size := by obtain ⟨D, h, _⟩ := h; exact h.lt
theorem IsMapT.made (w : World) : IsMapT (w.alloc (.map #[] 0)) w.heap.size [] :=
  ⟨.map [], World.ownsMap_made _ _ _ _, fun k => rfl, fun k v h => by simp [findT] at h⟩

/-- 'v, ok := m[k]'. -/
theorem IsMapT.look_ok {t : TypeId} (ht : Try.prog.underlying t = some (.map 9 9)) (h : IsMapT w b L) {k : ByteArray} (hk : k.size ≤ maxLen) :
    (Instr.lookup t (.map (some b)) (.string k) true).run Try.prog w = .ok (.tuple #[.string ((findT L k).getD ByteArray.empty), .bool (findT L k).isSome]) w := by
  obtain ⟨D, ho, h1, h2⟩ := h
  obtain ⟨v, ps, hr, hv⟩ := ho.look_ok keyed ht (zeroS w) (plainElem_string (H := Unit) Try.underlying9 (by simp [maxLen])) (keyOfS hk)
  obtain ⟨s, rfl, hs, _⟩ := plainElem_string_inv Try.underlying9 hv
  rw [hr, h1]
  simp only [Prod.mk.injEq] at hs
  have e : s = (findT L k).getD ByteArray.empty := by
    apply skey_inj
    cases hf : findT L k with
    | none =>
      have := hs.1
      rw [atKey_of_not_has (by rw [h1, hf]; rfl)] at this
      injection this with this
      exact this.symm
    | some v =>
      have := hs.1
      rw [h2 k v hf] at this
      injection this with this
      exact this.symm
  rw [e]
/-- 'm[k]'. -/
theorem IsMapT.look {t : TypeId} (ht : Try.prog.underlying t = some (.map 9 9)) (h : IsMapT w b L) {k : ByteArray} (hk : k.size ≤ maxLen) :
    (Instr.lookup t (.map (some b)) (.string k) false).run Try.prog w = .ok (.string ((findT L k).getD ByteArray.empty)) w := by
  obtain ⟨D, ho, h1, h2⟩ := h
  obtain ⟨v, ps, hr, hv⟩ := ho.lookup keyed ht (zeroS w) (plainElem_string (H := Unit) Try.underlying9 (by simp [maxLen])) (keyOfS hk)
  obtain ⟨s, rfl, hs, _⟩ := plainElem_string_inv Try.underlying9 hv
  rw [hr]
  simp only [Prod.mk.injEq] at hs
  have e : s = (findT L k).getD ByteArray.empty := by
    apply skey_inj
    cases hf : findT L k with
    | none =>
      have := hs.1
      rw [atKey_of_not_has (by rw [h1, hf]; rfl)] at this
      injection this with this
      exact this.symm
    | some v =>
      have := hs.1
      rw [h2 k v hf] at this
      injection this with this
      exact this.symm
  rw [e]
/-- 'm[k] = v', of a name that is not there. -/
theorem IsMapT.store {t : TypeId} (ht : Try.prog.underlying t = some (.map 9 9)) (h : IsMapT w b L) (hl : L.length < maxLen) {k v : ByteArray} (hk : k.size ≤ maxLen) (hv : v.size ≤ maxLen) (hn : findT L k = none) :
    ∃ w', (Instr.mapUpdate t (.map (some b)) (.string k) (.string v)).run Try.prog w = .ok () w' ∧ IsMapT w' b (L ++ [(k, v)]) ∧ Fr (fun x => x = b) w w' := by
  obtain ⟨D, ho, h1, h2⟩ := h
  have hi := ho.isMap
  obtain ⟨w', hr, ho', hm⟩ := ho.store keyed ht hl (keyOfS hk) (plainElem_string (H := Unit) Try.underlying9 hv)
  have hkl : WideAt.IsKeyLit (skey k) := keyed.key (keyOfS hk)
  refine ⟨w', hr, ⟨_, by simpa using ho', fun j => ?_, fun j u hu z => ?_⟩, Fr.grown hm.grown (fun x e _ => by simpa using e.symm)⟩
  · rw [findT_snoc _ _ _ _ hn]
    by_cases e : j = k
    · subst e; rw [has_put_same hi hkl]; simp
    · rw [if_neg e, has_put_other (fun h => e (skey_inj h)), h1]
  · rw [findT_snoc _ _ _ _ hn] at hu
    by_cases e : j = k
    · subst e
      simp at hu
      subst hu
      rw [atKey_put_same hi hkl]
    · rw [if_neg e] at hu
      rw [atKey_put_other (fun h => e (skey_inj h))]
      exact h2 j u hu z
/-- 'delete(m, k)', of a name that is there once. -/
theorem IsMapT.drop {t : TypeId} (ht : Try.prog.underlying t = some (.map 9 9)) (h : IsMapT w b L) {k : ByteArray} (hk : k.size ≤ maxLen) (hl : L.length ≤ (L.filter (fun p => decide (p.1 ≠ k))).length + 1) (hf : (findT L k).isSome) (ty : TypeId) :
    ∃ w', (Builtin.delete_ #[t, 9] ty #[.map (some b), .string k]).run Try.prog w = .ok (.tuple #[]) w' ∧ IsMapT w' b (L.filter (fun p => decide (p.1 ≠ k))) ∧ Fr (fun x => x = b) w w' := by
  obtain ⟨D, ho, h1, h2⟩ := h
  have hs := size_del (k := skey k) (ho.tidy keyed)
  rw [h1, hf] at hs
  have hle := ho.size_le
  obtain ⟨w', hr, ho', hm⟩ := ho.drop keyed ht (keyOfS hk) ty
  have hsz : size (D.del (skey k)) ≤ (L.filter (fun p => decide (p.1 ≠ k))).length := by simp at hs; omega
  have ho2 : w'.ownsMap Try.prog 9 (plainElem Try.prog 9) b (L.filter (fun p => decide (p.1 ≠ k))).length (D.del (skey k)) := by
    obtain ⟨es, clock, g1, g2, g3, g4⟩ := ho'
    refine ⟨es, clock, g1, g2, ?_, g4⟩
    rw [g4] at hsz
    simpa [size, length_sorted] using hsz
  refine ⟨w', hr, ⟨_, ho2, fun j => ?_, fun j u hu z => ?_⟩, Fr.grown hm.grown (fun x e _ => by simpa using e.symm)⟩
  · rw [findT_strike]
    by_cases e : j = k
    · subst e; rw [has_del_same]; simp
    · rw [if_neg e, has_del_other (fun h => e (skey_inj h)), h1]
  · rw [findT_strike] at hu
    by_cases e : j = k
    · subst e; simp at hu
    · rw [if_neg e] at hu
      rw [atKey_del_other (fun h => e (skey_inj h))]
      exact h2 j u hu z
/-- 'clear(m)'. -/
theorem IsMapT.clear {t : TypeId} (ht : Try.prog.underlying t = some (.map 9 9)) (h : IsMapT w b L) (ty : TypeId) :
    ∃ w', (Builtin.clear_ #[t] ty #[.map (some b)]).run Try.prog w = .ok (.tuple #[]) w' ∧ IsMapT w' b [] ∧ Fr (fun x => x = b) w w' := by
  obtain ⟨D, ⟨es, clock, hb, F, hs, hD⟩, h1, h2⟩ := h
  refine ⟨Go.ChangeMaps.setBlock w b (.map #[] clock), ?_, ⟨.map [], ⟨#[], clock, Go.ChangeMaps.heap_setBlock_same hb _, ⟨by simp, MapKept.stamped_empty clock, by simp⟩, Nat.le_refl _, rfl⟩, fun k => rfl, fun k v h => by simp [findT] at h⟩, ?_⟩
  · simp [Builtin.clear_, run_underlying ht, MapKept.run_getObj_map hb, MapKept.run_setObj_map _ hb, Result.andThen, Go.ChangeMaps.setBlock]
  · have hm : w.mapTurned (Go.ChangeMaps.setBlock w b (.map #[] clock)) b := ⟨es, clock, #[], clock, hb, rfl⟩
    exact Fr.grown hm.grown (fun x e _ => by simpa using e.symm)

variable {ops : Array Oper} {rest : List Oper} {o : Oper} {a : Act} {Q : Exit → Act → World → Prop}
theorem wpList_mapT_delete (hg : o.guard = none) (m x : Operand) {t : TypeId} (hop : o.op = Op.call { callee := Callee.builtin Builtin.delete, args := #[m, x], argTypes := #[t, 9] })
    (ht : Try.prog.underlying t = some (.map 9 9)) (h : IsMapT w b L) (hm : a.eval m = .map (some b)) {k : ByteArray} (hx : a.eval x = .string k) (hk : k.size ≤ maxLen) (hl : L.length ≤ (L.filter (fun p => decide (p.1 ≠ k))).length + 1) (hf : (findT L k).isSome)
    (hK : ∀ w', IsMapT w' b (L.filter (fun p => decide (p.1 ≠ k))) → Fr (fun x => x = b) w w' → wpList Try.prog ops Q rest (a.put o.dst (.tuple #[])) w') : wpList Try.prog ops Q (o :: rest) a w := by
  refine wpList_plain hg fun K' hK' => ?_
  obtain ⟨w', hrun, r1, r2⟩ := h.drop ht hk hl hf o.type
  unfold Oper.wp
  simp [execOp, hop, resolve, invoke, builtin, hm, hx, hrun, Result.andThen]
  exact hK' _ _ (hK w' r1 r2)
theorem wpList_mapT_clear (hg : o.guard = none) (m : Operand) {t : TypeId} (hop : o.op = Op.call { callee := Callee.builtin Builtin.clear, args := #[m], argTypes := #[t] })
    (ht : Try.prog.underlying t = some (.map 9 9)) (h : IsMapT w b L) (hm : a.eval m = .map (some b))
    (hK : ∀ w', IsMapT w' b [] → Fr (fun x => x = b) w w' → wpList Try.prog ops Q rest (a.put o.dst (.tuple #[])) w') : wpList Try.prog ops Q (o :: rest) a w := by
  refine wpList_plain hg fun K' hK' => ?_
  obtain ⟨w', hrun, r1, r2⟩ := h.clear ht o.type
  unfold Oper.wp
  simp [execOp, hop, resolve, invoke, builtin, hm, hrun, Result.andThen]
  exact hK' _ _ (hK w' r1 r2)
theorem wpList_mapT_store (hg : o.guard = none) (m x y : Operand) {t : TypeId} (hop : o.op = Op.mapUpdate t m x y)
    (ht : Try.prog.underlying t = some (.map 9 9)) (h : IsMapT w b L) (hl : L.length < maxLen) (hm : a.eval m = .map (some b)) {k v : ByteArray} (hx : a.eval x = .string k) (hy : a.eval y = .string v) (hk : k.size ≤ maxLen) (hv : v.size ≤ maxLen) (hn : findT L k = none)
    (hK : ∀ w', IsMapT w' b (L ++ [(k, v)]) → Fr (fun x => x = b) w w' → wpList Try.prog ops Q rest (a.put o.dst undef) w') : wpList Try.prog ops Q (o :: rest) a w := by
  refine wpList_plain hg fun K' hK' => ?_
  obtain ⟨w', hrun, r1, r2⟩ := h.store ht hl hk hv hn
  unfold Oper.wp
  simp [execOp, hop, hm, hx, hy, hrun, Result.andThen]
  exact hK' _ _ (hK w' r1 r2)
end

end Go.Proofs.Ytklpjnjhaodpkaa
