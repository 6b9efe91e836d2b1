/- A map from int to int that the call has made: what it holds, as a function, and how many. -/
import Derived.Test.YtgfphbehecpgpaaRows
import Derived.Test.YtgfphbehecpgpaaBase
import Derived.ProofKit
import Derived.Maps.OwnSet
namespace Go.Proofs.Ytgfphbehecpgpaa
open Go.RowKit Go.Maps

def ikey (k : Int) : Lit := .int .i64 k
theorem ikey_inj {a b : Int} (h : ikey a = ikey b) : a = b := by unfold ikey at h; injection h
def W64 (a : Int) : Prop := -9223372036854775808 ≤ a ∧ a < 9223372036854775808
theorem keyedI : Keyed Try.prog 3 := int_keyed Try.underlying3
theorem keyOfI {k : Int} (hk : W64 k) : keyOf Try.prog 3 (.int .i64 k) = some (ikey k) :=
  keyOf_int_mk Try.underlying3 (by
    have h1 : IntKind.i64.min = -9223372036854775808 := by decide
    have h2 : IntKind.i64.max = 9223372036854775807 := by decide
    unfold W64 at hk; simp [Lit.wf, h1, h2]; omega)
def intElem : Value → Option (DataW Unit × List MemPlace)
  | .int .i64 a => some (.lit (.int .i64 a), [])
  | _ => none
theorem intElem_inv {v : Value} {d : DataW Unit} {ps : List MemPlace} (h : intElem v = some (d, ps)) : ∃ a, v = .int .i64 a ∧ d = .lit (.int .i64 a) := by
  unfold intElem at h
  split at h
  · simp at h; exact ⟨_, rfl, h.1.symm⟩
  · simp at h
theorem zeroI (w : World) : (zeroValue 3).run Try.prog w = .ok (.int .i64 0) w := by kernel_rfl
/-- Block b is a map that holds what f says, n in all. -/
def IsMapI (w : World) (b : Nat) (f : Int → Option Int) (n : Nat) : Prop :=
  ∃ D : DataW Unit, w.ownsMap Try.prog 3 intElem b n D ∧ (∀ k, has D (ikey k) = (f k).isSome) ∧ (∀ k v, f k = some v → ∀ z, D.atKey (ikey k) z = .lit (.int .i64 v)) ∧ size D = n

section
variable {w w' : World} {b n : Nat} {f : Int → Option Int}
theorem IsMapI.fr {S : Nat → Prop} (h : IsMapI w b f n) (F : Fr S w w') (hb : ¬ S b) : IsMapI w' b f n := by
  obtain ⟨D, ⟨es, clock, hg, r⟩, h1, h2, h3⟩ := h
  exact ⟨D, ⟨es, clock, F.same hg hb, r⟩, h1, h2, h3⟩
theorem IsMapI.drewN (h : IsMapI w b f n) (m : Nat) : IsMapI (w.drewN m) b f n := h.fr (Fr.drewN Nothing _ _) (fun h => h)
theorem IsMapI.lt (h : IsMapI w b f n) : b < w.heap.size := by obtain ⟨D, h, _⟩ := h; exact h.lt
theorem IsMapI.made (w : World) : IsMapI (w.alloc (.map #[] 0)) w.heap.size (fun _ => none) 0 :=
  ⟨.map [], World.ownsMap_made _ _ _ _, fun k => rfl, fun k v h => by simp at h, rfl⟩

/-- 'v, ok := m[k]'. -/
theorem IsMapI.look {t : TypeId} (ht : Try.prog.underlying t = some (.map 3 3)) (h : IsMapI w b f n) {k : Int} (hk : W64 k) :
    (Instr.lookup t (.map (some b)) (.int .i64 k) true).run Try.prog w = .ok (.tuple #[.int .i64 ((f k).getD 0), .bool (f k).isSome]) w := by
  obtain ⟨D, ho, h1, h2, h3⟩ := h
  obtain ⟨v, ps, hr, hv⟩ := ho.look_ok keyedI ht (zeroI w) (show intElem (.int .i64 0) = some _ from rfl) (keyOfI hk)
  rw [hr, h1]
  cases hf : f k with
  | none =>
    rw [atKey_of_not_has (by rw [h1, hf]; rfl)] at hv
    obtain ⟨x, rfl, hx⟩ := intElem_inv hv
    simp at hx
    subst hx; rfl
  | some v0 =>
    rw [h2 k v0 hf] at hv
    obtain ⟨x, rfl, hx⟩ := intElem_inv hv
    simp at hx
    rw [hx]; rfl
/-- 'len(m)'. -/
theorem IsMapI.len {t : TypeId} (ht : Try.prog.underlying t = some (.map 3 3)) (h : IsMapI w b f n) (ty : TypeId) :
    (Builtin.len_ #[t] ty #[.map (some b)]).run Try.prog w = .ok (.int .i64 n) w := by
  obtain ⟨D, ho, h1, h2, h3⟩ := h
  rw [ho.len ht ty, h3]
theorem owns_tight {D : DataW Unit} {m : Nat} (ho : w.ownsMap Try.prog 3 intElem b m D) (hn : size D = n) : w.ownsMap Try.prog 3 intElem b n D := by
  obtain ⟨es, clock, g1, g2, g3, g4⟩ := ho
  refine ⟨es, clock, g1, g2, ?_, g4⟩
  rw [← hn, g4]
  simp [size, length_sorted]
/-- 'm[k] = v'. -/
theorem IsMapI.store {t : TypeId} (ht : Try.prog.underlying t = some (.map 3 3)) (h : IsMapI w b f n) (hl : n < maxLen) {k : Int} (v : Int) (hk : W64 k) :
    ∃ w', (Instr.mapUpdate t (.map (some b)) (.int .i64 k) (.int .i64 v)).run Try.prog w = .ok () w' ∧ IsMapI w' b (fun j => if j = k then some v else f j) (if (f k).isSome then n else n + 1) ∧ Fr (fun x => x = b) w w' := by
  obtain ⟨D, ho, h1, h2, h3⟩ := h
  have hi := ho.isMap
  have hsz := size_put (k := ikey k) (ho.tidy keyedI) (.lit (.int .i64 v))
  rw [h1, h3] at hsz
  obtain ⟨w', hr, ho', hm⟩ := ho.store keyedI ht hl (keyOfI hk) (show intElem (.int .i64 v) = some (.lit (.int .i64 v), []) from rfl)
  have hkl : WideAt.IsKeyLit (ikey k) := keyedI.key (keyOfI hk)
  have hsz' : size (D.put (ikey k) (.lit (.int .i64 v))) = if (f k).isSome then n else n + 1 := by rw [hsz]; try (split <;> omega)
  refine ⟨w', hr, ⟨_, owns_tight ho' hsz', fun j => ?_, fun j u (hu : (if j = k then some v else f j) = some u) z => ?_, hsz'⟩, Fr.grown hm.grown (fun x e _ => by simpa using e.symm)⟩
  · show has _ _ = (if j = k then some v else f j).isSome
    by_cases e : j = k
    · subst e; rw [has_put_same hi hkl]; simp
    · rw [if_neg e, has_put_other (fun h => e (ikey_inj h)), h1]
  · by_cases e : j = k
    · subst e
      simp at hu
      subst hu
      rw [atKey_put_same hi hkl]
    · rw [if_neg e] at hu
      rw [atKey_put_other (fun h => e (ikey_inj h))]
      exact h2 j u hu z
/-- 'delete(m, k)'. -/
theorem IsMapI.drop {t : TypeId} (ht : Try.prog.underlying t = some (.map 3 3)) (h : IsMapI w b f n) {k : Int} (hk : W64 k) (ty : TypeId) :
    ∃ w', (Builtin.delete_ #[t, 3] ty #[.map (some b), .int .i64 k]).run Try.prog w = .ok (.tuple #[]) w' ∧ IsMapI w' b (fun j => if j = k then none else f j) (if (f k).isSome then n - 1 else n) ∧ Fr (fun x => x = b) w w' := by
  obtain ⟨D, ho, h1, h2, h3⟩ := h
  have hs := size_del (k := ikey k) (ho.tidy keyedI)
  rw [h1, h3] at hs
  obtain ⟨w', hr, ho', hm⟩ := ho.drop keyedI ht (keyOfI hk) ty
  have hsz : size (D.del (ikey k)) = if (f k).isSome then n - 1 else n := by cases hf : (f k).isSome <;> simp [hf] at hs ⊢ <;> omega
  refine ⟨w', hr, ⟨_, owns_tight ho' hsz, fun j => ?_, fun j u (hu : (if j = k then none else f j) = some u) z => ?_, hsz⟩, Fr.grown hm.grown (fun x e _ => by simpa using e.symm)⟩
  · show has _ _ = (if j = k then none else f j).isSome
    by_cases e : j = k
    · subst e; rw [has_del_same]; simp
    · rw [if_neg e, has_del_other (fun h => e (ikey_inj h)), h1]
  · by_cases e : j = k
    · subst e; simp at hu
    · rw [if_neg e] at hu
      rw [atKey_del_other (fun h => e (ikey_inj h))]
      exact h2 j u hu z

variable {ops : Array Oper} {rest : List Oper} {o : Oper} {a : Act} {Q : Exit → Act → World → Prop}
theorem wp_mapI_delete {K : Act → World → Prop} (m x : Operand) {t : TypeId} (hop : o.op = Op.call { callee := Callee.builtin Builtin.delete, args := #[m, x], argTypes := #[t, 3] })
    (ht : Try.prog.underlying t = some (.map 3 3)) (h : IsMapI w b f n) (hm : a.eval m = .map (some b)) {k : Int} (hx : a.eval x = .int .i64 k) (hk : W64 k)
    (hK : ∀ w', IsMapI w' b (fun j => if j = k then none else f j) (if (f k).isSome then n - 1 else n) → Fr (fun x => x = b) w w' → K (a.put o.dst (.tuple #[])) w') : Oper.wp Try.prog o a w K Q := by
  obtain ⟨w', hrun, r1, r2⟩ := h.drop ht hk o.type
  unfold Oper.wp
  simp [execOp, hop, resolve, invoke, builtin, hm, hx, hrun, Result.andThen]
  exact hK w' r1 r2
theorem wpList_mapI_delete (hg : o.guard = none) (m x : Operand) {t : TypeId} (hop : o.op = Op.call { callee := Callee.builtin Builtin.delete, args := #[m, x], argTypes := #[t, 3] })
    (ht : Try.prog.underlying t = some (.map 3 3)) (h : IsMapI w b f n) (hm : a.eval m = .map (some b)) {k : Int} (hx : a.eval x = .int .i64 k) (hk : W64 k)
    (hK : ∀ w', IsMapI w' b (fun j => if j = k then none else f j) (if (f k).isSome then n - 1 else n) → Fr (fun x => x = b) w w' → wpList Try.prog ops Q rest (a.put o.dst (.tuple #[])) w') : wpList Try.prog ops Q (o :: rest) a w :=
  wpList_plain hg fun _ hK' => wp_mapI_delete m x hop ht h hm hx hk fun w' r1 r2 => hK' _ _ (hK w' r1 r2)
theorem step_mapI_delete {K : Act → World → Prop} {E : Prop} (hg : o.guard = none) (m x : Operand) {t : TypeId} (hop : o.op = Op.call { callee := Callee.builtin Builtin.delete, args := #[m, x], argTypes := #[t, 3] })
    (ht : Try.prog.underlying t = some (.map 3 3)) (h : IsMapI w b f n) (hm : a.eval m = .map (some b)) {k : Int} (hx : a.eval x = .int .i64 k) (hk : W64 k)
    (hK : ∀ w', IsMapI w' b (fun j => if j = k then none else f j) (if (f k).isSome then n - 1 else n) → Fr (fun x => x = b) w w' → K (a.put o.dst (.tuple #[])) w') :
    if Region.wanted o (yielded ops a.tmps) = true then Oper.wp Try.prog o a w K Q else E := by
  have hw : Region.wanted o (yielded ops a.tmps) = true := by simp [Region.wanted, hg]
  rw [if_pos hw]
  exact wp_mapI_delete m x hop ht h hm hx hk hK
theorem wpList_mapI_store (hg : o.guard = none) (m x y : Operand) {t : TypeId} (hop : o.op = Op.mapUpdate t m x y)
    (ht : Try.prog.underlying t = some (.map 3 3)) (h : IsMapI w b f n) (hl : n < maxLen) (hm : a.eval m = .map (some b)) {k v : Int} (hx : a.eval x = .int .i64 k) (hy : a.eval y = .int .i64 v) (hk : W64 k)
    (hK : ∀ w', IsMapI w' b (fun j => if j = k then some v else f j) (if (f k).isSome then n else n + 1) → Fr (fun x => x = b) w w' → wpList Try.prog ops Q rest (a.put o.dst undef) w') : wpList Try.prog ops Q (o :: rest) a w := by
  refine wpList_plain hg fun K' hK' => ?_
  obtain ⟨w', hrun, r1, r2⟩ := h.store (v := v) ht hl hk
  unfold Oper.wp
  simp [execOp, hop, hm, hx, hy, hrun, Result.andThen]
  exact hK' _ _ (hK w' r1 r2)
end
end Go.Proofs.Ytgfphbehecpgpaa
