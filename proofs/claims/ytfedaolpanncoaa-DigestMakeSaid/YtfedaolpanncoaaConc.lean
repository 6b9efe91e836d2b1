/- A slice of the call's own that holds nothing yet, but has room. No condition. -/
import Derived.Test.YtfedaolpanncoaaColl
import Derived.Test.YtfedaolpanncoaaAppendR
import Derived.Lib.AppendZeros
namespace Go.Proofs.Ytfedaolpanncoaa
open Go.RowKit

/-- An empty slice of the call's own, with room for n. -/
def Grown (e : TypeId) (size n : Nat) (w : World) (x : Ending) (w' : World) : Prop :=
  ∃ a c, x = .returned (.slice a 0 c) ∧ n ≤ c ∧ CollE w e size (.slice a 0 c) 0 [] w'

theorem Owns.cut0 {w : World} {e : TypeId} {size n c : Nat} {a : Option Addr} {xs : List Value} (h : Owns w e size (.slice a n c) n xs) : Owns w e size (.slice a 0 c) 0 [] := by
  refine ⟨by simp, ?_⟩
  rcases h.2 with ⟨h1, _⟩ | ⟨g, cap, cur, h1, hb, hg, hn, hm, hs, ht⟩
  · simp only [Value.slice.injEq] at h1
    obtain ⟨rfl, -, rfl⟩ := h1
    exact .inl ⟨rfl, rfl⟩
  · simp only [Value.slice.injEq] at h1
    obtain ⟨rfl, -, rfl⟩ := h1
    exact .inr ⟨g, c, cur, rfl, hb, hg, Nat.zero_le _, hm, hs, by simp⟩

theorem ownBlock_any (a : Option Addr) (n m c d : Nat) : (Value.slice a n c).ownBlock = (Value.slice a m d).ownBlock := by cases a <;> rfl

theorem wpList_append_zr {P : Program} {w : World} {ops : Array Oper} {rest : List Oper} {o : Oper} {ac : Act} {Q : Exit → Act → World → Prop} (hgd : o.guard = none) (s x : Operand) (t tn : TypeId)
    (ho : o.op = .call { callee := .builtin .append, args := #[s, x], argTypes := #[t, tn] }) (kn : IntKind) (htn : P.underlying tn = some (.int kn))
    (e : TypeId) (i : TypeInfo) (z : Value) (size bytes : Nat) (ht : P.underlying t = some (.slice e)) (hi : P.info? e = some i) (hz : i.zero = some z) (hsize : i.size = size) (hby : i.bytes = bytes) (hzs : z.cells.size = size) (hsz : 0 < size)
    (hs : ac.eval s = .slice none 0 0) (k : IntKind) (m : Nat) (hx : ac.eval x = .int k m) (h0 : 0 < m) (h63 : m ≤ maxLen) (hbytes : m * bytes ≤ 281474976710656)
    (h : ∀ b cap w', m ≤ cap → Owns w' e size (.slice b 0 cap) 0 [] → (∀ k, InBlock (.slice b 0 cap) k → w.heap.size ≤ k) → Fr Nothing w w' → wpList P ops Q rest (ac.put o.dst (.slice b m cap)) w') : wpList P ops Q (o :: rest) ac w := by
  subst hsize
  subst hby
  have hr := Lib.run_append_nil_zeros (P := P) w t tn o.type e i z k kn ht htn hi hz m h0 hsz (by unfold maxLen at h63; omega) hbytes
  have hge := grownCap_ge w m 0 e
  have hcm : grownCap w m 0 e ≤ maxLen := grownCap_le_maxLen w m 0 e h63
  refine Lib.wpList_append_run w hgd s x t tn ho _ _ hs hx _ _ hr (h _ _ _ hge ⟨by simp, .inr ⟨w.heap.size, _, _, rfl, Nat.zero_le _, heap_alloc_new w.drew _, Nat.zero_le _, hcm, ?_, by simp⟩⟩ (fun k hk => ?_) ((Fr.drew _ w).trans' (Fr.alloc _ _ _)))
  · simp only [Array.size_append, size_zeroCells, hzs, ← Nat.add_mul]
    congr 1
    omega
  · simp only [InBlock, Value.ownBlock, Option.some.injEq] at hk
    omega

/-- One of the slices that are joined. -/
structure Part where
  a : Option Addr
  c : Nat
  xs : List Value
def Part.val (p : Part) : Value := .slice p.a p.xs.length p.c
structure Part.Ok (w : World) (p : Part) : Prop where
  none : p.a = none → p.xs.length = 0 ∧ p.c = 0
  sl : Sl w p.a p.xs
  one : ∀ u ∈ p.xs, u.oneCell' = true
theorem Part.Ok.fr {S : Nat → Prop} {w w' : World} {p : Part} (h : p.Ok w) (F : Fr S w w') (hn : ∀ k, ¬ S k) : p.Ok w' := ⟨h.none, h.sl.fr F (fun _ _ => hn _), h.one⟩
def total (ps : List Part) : Nat := (ps.flatMap Part.xs).length
def totalTo (ps : List Part) (k : Nat) : Nat := ((ps.take k).flatMap Part.xs).length
theorem totalTo_all (ps : List Part) : totalTo ps ps.length = total ps := by unfold totalTo total; rw [List.take_length]
theorem totalTo_succ (ps : List Part) {k : Nat} (hk : k < ps.length) : totalTo ps (k + 1) = totalTo ps k + ps[k].xs.length := by
  unfold totalTo; rw [List.take_succ_eq_append_getElem hk, List.flatMap_append, List.length_append]; simp
theorem totalTo_le (ps : List Part) (k : Nat) : totalTo ps k ≤ total ps := by
  unfold totalTo total
  have h : ps.flatMap Part.xs = (ps.take k).flatMap Part.xs ++ (ps.drop k).flatMap Part.xs := by rw [← List.flatMap_append, List.take_append_drop]
  rw [h, List.length_append]; omega
theorem flat_succ (ps : List Part) {k : Nat} (hk : k < ps.length) : (ps.take (k + 1)).flatMap Part.xs = (ps.take k).flatMap Part.xs ++ ps[k].xs := by
  rw [List.take_succ_eq_append_getElem hk, List.flatMap_append]; simp
/-- A new slice that reads as xs. -/
def Joined (e : TypeId) (xs : List Value) (w : World) (x : Ending) (w' : World) : Prop :=
  ∃ a c, x = .returned (.slice a xs.length c) ∧ CollE w e 1 (.slice a xs.length c) xs.length xs w'
end Go.Proofs.Ytfedaolpanncoaa
