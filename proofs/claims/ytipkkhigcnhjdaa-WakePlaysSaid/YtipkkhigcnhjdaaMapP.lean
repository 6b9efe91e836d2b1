/- A map from strings to pointers that the call has made, as a list of names and blocks. -/
import Derived.Test.YtipkkhigcnhjdaaRows
import Derived.Test.YtipkkhigcnhjdaaBase
import Derived.ProofKit
import Derived.Maps.OwnSet
import Derived.Maps.StringElems
namespace Go.Proofs.Ytipkkhigcnhjdaa
open Go.RowKit Go.Maps

/-- A string as a key's datum. -/
def skey (k : ByteArray) : Lit := .string k.data.toList
theorem skey_inj {a b : ByteArray} (h : skey a = skey b) : a = b := by
  unfold skey at h
  injection h with h
  have := Array.ext' h
  cases a; cases b; simp_all
theorem keyed : Keyed Try.prog 9 := string_keyed Try.underlying9
theorem keyOfS {k : ByteArray} (hk : k.size ≤ maxLen) : keyOf Try.prog 9 (.string k) = some (skey k) := by
  rw [keyOf_string Try.underlying9]
  simp [mapKey, Try.underlying9, hk, skey]

/-- How a pointer reads here: its block. -/
def ptrElem : Value → Option (DataW Unit × List MemPlace)
  | .pointer none => some (.lit (.int .i64 (-1)), [])
  | .pointer (some ⟨k, 0, none⟩) => some (.lit (.int .i64 k), [])
  | _ => none
theorem ptrElem_inv {v : Value} {d : DataW Unit} {ps : List MemPlace} (h : ptrElem v = some (d, ps)) : (v = .pointer none ∧ d = .lit (.int .i64 (-1))) ∨ ∃ k : Nat, v = .pointer (some ⟨k, 0, none⟩) ∧ d = .lit (.int .i64 k) := by
  unfold ptrElem at h
  split at h
  · simp at h; exact .inl ⟨rfl, h.1.symm⟩
  · rename_i k
    simp at h; exact .inr ⟨k, rfl, h.1.symm⟩
  · simp at h
theorem zeroP (w : World) : (zeroValue 58).run Try.prog w = .ok (.pointer none) w := by kernel_rfl
/-- A pointer to a block, or none. -/
def ptrOf : Option Nat → Value
  | none => .pointer none
  | some k => .pointer (some ⟨k, 0, none⟩)

/-- The block of a name in a list of pairs. -/
def findP (L : List (ByteArray × Nat)) (k : ByteArray) : Option Nat := (L.find? (fun p => decide (p.1 = k))).map (·.2)

/-- Block b is a map that reads as the list L. -/
def IsMapP (w : World) (b : Nat) (L : List (ByteArray × Nat)) : Prop :=
  ∃ D : DataW Unit, w.ownsMap Try.prog 9 ptrElem b L.length D ∧ (∀ k, has D (skey k) = (findP L k).isSome) ∧ (∀ k v, findP L k = some v → ∀ z, D.atKey (skey k) z = .lit (.int .i64 v)) ∧ size D = L.length

theorem findP_snoc (L : List (ByteArray × Nat)) (k : ByteArray) (v : Nat) (j : ByteArray) (h : findP L k = none) : findP (L ++ [(k, v)]) j = if j = k then some v else findP L j := by
  unfold findP at *
  rw [List.find?_append]
  by_cases e : j = k
  · subst e
    simp only [Option.map_eq_none_iff] at h
    simp [h]
  · have e' : ¬ k = j := fun h => e h.symm
    simp [e, e']
theorem findP_strike (L : List (ByteArray × Nat)) (k j : ByteArray) : findP (L.filter (fun p => decide (p.1 ≠ k))) j = if j = k then none else findP L j := by
  unfold findP
  induction L with
  | nil => simp
  | cons p L ih =>
    by_cases hp : p.1 = k
    · rw [List.filter_cons_of_neg (by simp [hp]), ih]
      by_cases e : j = k
      · simp [e]
      · have : ¬ p.1 = j := fun h => e (h.symm.trans hp)
        simp [e, this]
    · rw [List.filter_cons_of_pos (by simp [hp])]
      by_cases h : p.1 = j
      · have : ¬ j = k := fun e => hp (h.trans e)
        simp [h, this]
      · rw [List.find?_cons_of_neg (by simp [h]), List.find?_cons_of_neg (by simp [h]), ih]
theorem findP_none {L : List (ByteArray × Nat)} {k : ByteArray} : findP L k = none ↔ k ∉ L.map Prod.fst := by
  unfold findP
  rw [Option.map_eq_none_iff, List.find?_eq_none]
  constructor
  · intro h hm
    obtain ⟨q, hq, rfl⟩ := List.mem_map.1 hm
    exact h q hq (by simp)
  · intro h q hq e
    exact h (List.mem_map.2 ⟨q, hq, by simpa using e⟩)
theorem findP_at {L : List (ByteArray × Nat)} (hn : (L.map Prod.fst).Nodup) {k : Nat} (hk : k < L.length) : findP L L[k].1 = some L[k].2 := by
  induction L generalizing k with
  | nil => simp at hk
  | cons q L ih =>
    simp only [List.map_cons, List.nodup_cons] at hn
    cases k with
    | zero => simp [findP]
    | succ k =>
      have hk' : k < L.length := by simpa using hk
      have hne : ¬ q.1 = L[k].1 := fun e => hn.1 (e ▸ List.mem_map_of_mem (List.getElem_mem hk'))
      have := ih hn.2 hk'
      simp only [findP, List.getElem_cons_succ] at *
      rw [List.find?_cons_of_neg (by simp [hne])]
      exact this

section
variable {w w' : World} {b : Nat} {L : List (ByteArray × Nat)}
theorem IsMapP.fr {S : Nat → Prop} (h : IsMapP w b L) (F : Fr S w w') (hb : ¬ S b) : IsMapP w' b L := by
  obtain ⟨D, ⟨es, clock, hg, r⟩, h1, h2, h3⟩ := h
  exact ⟨D, ⟨es, clock, F.same hg hb, r⟩, h1, h2, h3⟩
theorem IsMapP.lt (h : IsMapP w b L) : b < w.heap.size := by obtain ⟨D, h, _⟩ := h; exact h.lt
theorem IsMapP.made (w : World) : IsMapP (w.alloc (.map #[] 0)) w.heap.size [] :=
  ⟨.map [], World.ownsMap_made _ _ _ _, fun k => rfl, fun k v h => by simp [findP] at h, rfl⟩

/-- 'm[k]'. -/
theorem IsMapP.look {t : TypeId} (ht : Try.prog.underlying t = some (.map 9 58)) (h : IsMapP w b L) {k : ByteArray} (hk : k.size ≤ maxLen) :
    (Instr.lookup t (.map (some b)) (.string k) false).run Try.prog w = .ok (ptrOf (findP L k)) w := by
  obtain ⟨D, ho, h1, h2, h3⟩ := h
  obtain ⟨v, ps, hr, hv⟩ := ho.lookup keyed ht (zeroP w) (show ptrElem (.pointer none) = some _ from rfl) (keyOfS hk)
  rw [hr]
  cases hf : findP L k with
  | none =>
    rw [atKey_of_not_has (by rw [h1, hf]; rfl)] at hv
    rcases ptrElem_inv hv with ⟨rfl, _⟩ | ⟨x, rfl, hx⟩
    · rfl
    · simp at hx
  | some v0 =>
    rw [h2 k v0 hf] at hv
    rcases ptrElem_inv hv with ⟨rfl, hx⟩ | ⟨x, rfl, hx⟩
    · simp at hx
    · simp at hx
      have : v0 = x := by omega
      rw [this]; rfl
/-- 'len(m)'. -/
theorem IsMapP.len {t : TypeId} (ht : Try.prog.underlying t = some (.map 9 58)) (h : IsMapP w b L) (ty : TypeId) :
    (Builtin.len_ #[t] ty #[.map (some b)]).run Try.prog w = .ok (.int .i64 L.length) w := by
  obtain ⟨D, ho, h1, h2, h3⟩ := h
  rw [ho.len ht ty, h3]
/-- 'm[k] = p', of a name that is not there. -/
theorem IsMapP.store {t : TypeId} (ht : Try.prog.underlying t = some (.map 9 58)) (h : IsMapP w b L) (hl : L.length < maxLen) {k : ByteArray} {v : Nat} (hk : k.size ≤ maxLen) (hn : findP L k = none) :
    ∃ w', (Instr.mapUpdate t (.map (some b)) (.string k) (.pointer (some ⟨v, 0, none⟩))).run Try.prog w = .ok () w' ∧ IsMapP w' b (L ++ [(k, v)]) ∧ Fr (fun x => x = b) w w' := by
  obtain ⟨D, ho, h1, h2, h3⟩ := h
  have hi := ho.isMap
  have hsz := size_put (k := skey k) (ho.tidy keyed) (.lit (.int .i64 v))
  rw [h1, hn, h3] at hsz
  obtain ⟨w', hr, ho', hm⟩ := ho.store keyed ht hl (keyOfS hk) (show ptrElem (.pointer (some ⟨v, 0, none⟩)) = some (.lit (.int .i64 v), []) from rfl)
  have hkl : WideAt.IsKeyLit (skey k) := keyed.key (keyOfS hk)
  refine ⟨w', hr, ⟨_, by simpa using ho', fun j => ?_, fun j u hu z => ?_, by simpa using hsz⟩, Fr.grown hm.grown (fun x e _ => by simpa using e.symm)⟩
  · rw [findP_snoc _ _ _ _ hn]
    by_cases e : j = k
    · subst e; rw [has_put_same hi hkl]; simp
    · rw [if_neg e, has_put_other (fun h => e (skey_inj h)), h1]
  · rw [findP_snoc _ _ _ _ hn] at hu
    by_cases e : j = k
    · subst e
      simp at hu
      subst hu
      rw [atKey_put_same hi hkl]
    · rw [if_neg e] at hu
      rw [atKey_put_other (fun h => e (skey_inj h))]
      exact h2 j u hu z
/-- 'delete(m, k)', of a name that is there once. -/
theorem IsMapP.drop {t : TypeId} (ht : Try.prog.underlying t = some (.map 9 58)) (h : IsMapP w b L) {k : ByteArray} (hk : k.size ≤ maxLen) (hl : (L.filter (fun p => decide (p.1 ≠ k))).length + (if (findP L k).isSome then 1 else 0) = L.length) (ty : TypeId) :
    ∃ w', (Builtin.delete_ #[t, 9] ty #[.map (some b), .string k]).run Try.prog w = .ok (.tuple #[]) w' ∧ IsMapP w' b (L.filter (fun p => decide (p.1 ≠ k))) ∧ Fr (fun x => x = b) w w' := by
  obtain ⟨D, ho, h1, h2, h3⟩ := h
  have hs := size_del (k := skey k) (ho.tidy keyed)
  rw [h1, h3] at hs
  obtain ⟨w', hr, ho', hm⟩ := ho.drop keyed ht (keyOfS hk) ty
  have hsz : size (D.del (skey k)) = (L.filter (fun p => decide (p.1 ≠ k))).length := by omega
  have ho2 : w'.ownsMap Try.prog 9 ptrElem b (L.filter (fun p => decide (p.1 ≠ k))).length (D.del (skey k)) := by
    obtain ⟨es, clock, g1, g2, g3, g4⟩ := ho'
    refine ⟨es, clock, g1, g2, ?_, g4⟩
    rw [← hsz, g4]
    simp [size, length_sorted]
  refine ⟨w', hr, ⟨_, ho2, fun j => ?_, fun j u hu z => ?_, hsz⟩, Fr.grown hm.grown (fun x e _ => by simpa using e.symm)⟩
  · rw [findP_strike]
    by_cases e : j = k
    · subst e; rw [has_del_same]; simp
    · rw [if_neg e, has_del_other (fun h => e (skey_inj h)), h1]
  · rw [findP_strike] at hu
    by_cases e : j = k
    · subst e; simp at hu
    · rw [if_neg e] at hu
      rw [atKey_del_other (fun h => e (skey_inj h))]
      exact h2 j u hu z

variable {ops : Array Oper} {rest : List Oper} {o : Oper} {a : Act} {Q : Exit → Act → World → Prop}
theorem wpList_mapP_delete (hg : o.guard = none) (m x : Operand) {t : TypeId} (hop : o.op = Op.call { callee := Callee.builtin Builtin.delete, args := #[m, x], argTypes := #[t, 9] })
    (ht : Try.prog.underlying t = some (.map 9 58)) (h : IsMapP w b L) (hm : a.eval m = .map (some b)) {k : ByteArray} (hx : a.eval x = .string k) (hk : k.size ≤ maxLen) (hl : (L.filter (fun p => decide (p.1 ≠ k))).length + (if (findP L k).isSome then 1 else 0) = L.length)
    (hK : ∀ w', IsMapP w' b (L.filter (fun p => decide (p.1 ≠ k))) → Fr (fun x => x = b) w w' → wpList Try.prog ops Q rest (a.put o.dst (.tuple #[])) w') : wpList Try.prog ops Q (o :: rest) a w := by
  refine wpList_plain hg fun K' hK' => ?_
  obtain ⟨w', hrun, r1, r2⟩ := h.drop ht hk hl o.type
  unfold Oper.wp
  simp [execOp, hop, resolve, invoke, builtin, hm, hx, hrun, Result.andThen]
  exact hK' _ _ (hK w' r1 r2)
theorem wpList_mapP_store (hg : o.guard = none) (m x y : Operand) {t : TypeId} (hop : o.op = Op.mapUpdate t m x y)
    (ht : Try.prog.underlying t = some (.map 9 58)) (h : IsMapP w b L) (hl : L.length < maxLen) (hm : a.eval m = .map (some b)) {k : ByteArray} {v : Nat} (hx : a.eval x = .string k) (hy : a.eval y = .pointer (some ⟨v, 0, none⟩)) (hk : k.size ≤ maxLen) (hn : findP L k = none)
    (hK : ∀ w', IsMapP w' b (L ++ [(k, v)]) → Fr (fun x => x = b) w w' → wpList Try.prog ops Q rest (a.put o.dst undef) w') : wpList Try.prog ops Q (o :: rest) a w := by
  refine wpList_plain hg fun K' hK' => ?_
  obtain ⟨w', hrun, r1, r2⟩ := h.store (v := v) ht hl hk hn
  unfold Oper.wp
  simp [execOp, hop, hm, hx, hy, hrun, Result.andThen]
  exact hK' _ _ (hK w' r1 r2)
end

end Go.Proofs.Ytipkkhigcnhjdaa
