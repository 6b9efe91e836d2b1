/- What steps do to a list, said of what stands at each user. Plain: no program. No condition. -/
import Derived.Test.YtfedaolpanncoaaDigJoin
namespace Go.Proofs.Ytfedaolpanncoaa
open Go.RowKit

instance item_deq : DecidableEq Item := fun x y => decidable_of_iff (sameB x y = true) (sameB_iff x y)
def Rise (l : List Item) : Prop := l.Pairwise fun a b => ltB a.user b.user = true
theorem riseB_pw {l : List Item} : riseB l = true ↔ Rise l := by
  unfold Rise
  induction l with
  | nil => simp [riseB]
  | cons x l ih =>
    cases l with
    | nil => simp [riseB]
    | cons y l =>
      rw [riseB, Bool.and_eq_true, ih]
      constructor
      · rintro ⟨h1, h2⟩
        refine List.pairwise_cons.2 ⟨fun z hz => ?_, h2⟩
        rcases List.mem_cons.1 hz with rfl | hz
        · exact h1
        · exact ltB_trans h1 ((List.pairwise_cons.1 h2).1 z hz)
      · intro h
        obtain ⟨h1, h2⟩ := List.pairwise_cons.1 h
        exact ⟨h1 y (by simp), h2⟩
/-- Who stands in a list. -/
def findI (l : List Item) (k : ByteArray) : Option Item := l.find? fun x => decide (x.user = k)
theorem findI_cons (x : Item) (l : List Item) (k : ByteArray) : findI (x :: l) k = if x.user = k then some x else findI l k := by
  unfold findI
  by_cases h : x.user = k <;> simp [h]
theorem findI_some {l : List Item} {k : ByteArray} {x : Item} (h : findI l k = some x) : x ∈ l ∧ x.user = k := by
  unfold findI at h
  exact ⟨List.mem_of_find?_eq_some h, by simpa using List.find?_some h⟩
theorem findI_none {l : List Item} {k : ByteArray} : findI l k = none ↔ ∀ x ∈ l, x.user ≠ k := by
  unfold findI
  rw [List.find?_eq_none]
  simp
theorem rise_find {l : List Item} (h : Rise l) {x : Item} (hx : x ∈ l) : findI l x.user = some x := by
  induction l with
  | nil => cases hx
  | cons y l ih =>
    rw [findI_cons]
    obtain ⟨h1, h2⟩ := List.pairwise_cons.1 h
    rcases List.mem_cons.1 hx with rfl | hx
    · rw [if_pos rfl]
    · rw [if_neg (fun e => by have := h1 x hx; rw [e, ltB_irrefl] at this; cases this)]
      exact ih h2 hx
theorem rise_above {x : Item} {l : List Item} (h : ∀ y ∈ l, ltB x.user y.user = true) {k : ByteArray} (hk : k = x.user ∨ ltB k x.user = true) : findI l k = none := by
  rw [findI_none]
  intro y hy e
  have h1 := h y hy
  rw [e] at h1
  rcases hk with rfl | hk
  · rw [ltB_irrefl] at h1; cases h1
  · rw [ltB_asym hk] at h1; cases h1
theorem listed_find {l : List Item} (h : Rise l) : ListedI (findI l) l := ⟨h, fun _ => ⟨fun hx => rise_find h hx, fun hx => (findI_some hx).1⟩⟩
theorem foldl_putF {l : List Item} (h : Rise l) : ∀ (f : ByteArray → Option Item) (k : ByteArray), (l.foldl putF f) k = match findI l k with | some x => Option.some x | none => f k := by
  induction l with
  | nil => intro f k; rfl
  | cons y l ih =>
    intro f k
    obtain ⟨h1, h2⟩ := List.pairwise_cons.1 h
    rw [List.foldl_cons, ih h2, findI_cons]
    by_cases e : y.user = k
    · rw [if_pos e, rise_above h1 (.inl e.symm)]
      show putF f y k = _
      unfold putF
      rw [if_pos e.symm]
    · rw [if_neg e]
      cases findI l k with
      | some z => rfl
      | none =>
        show putF f y k = _
        unfold putF
        rw [if_neg (fun h => e h.symm)]
theorem look_find {l : List Item} (h : Rise l) : (l.foldl putF fun _ => none) = findI l := by
  funext k
  rw [foldl_putF h]
  cases findI l k <;> rfl
theorem stepF_gone (f : ByteArray → Option Item) (x : Item) (k : ByteArray) : stepF f (goneS x) k = if k = x.user then none else f k := by unfold stepF goneS; rfl
theorem stepF_put (f : ByteArray → Option Item) (x : Item) (k : ByteArray) : stepF f (putS x) k = if k = x.user then some x else f k := by unfold stepF putS; rfl
/-- What the steps from a to b do at k. -/
def ofAt (a b : List Item) (f : ByteArray → Option Item) (k : ByteArray) : Option Item :=
  match findI b k with
  | some y => if findI a k = some y then f k else some y
  | none => if (findI a k).isSome then none else f k
theorem ofL_at : ∀ (a b : List Item), Rise a → Rise b → ∀ (f : ByteArray → Option Item) (k : ByteArray), ((ofL a b).foldl stepF f) k = ofAt a b f k
  | [], b, _, hb, f, k => by
    rw [ofL]
    unfold ofAt
    have hn : findI [] k = none := rfl
    rw [hn]
    simp only [Option.isSome_none, Bool.false_eq_true, if_false, reduceCtorEq]
    induction b generalizing f with
    | nil => rfl
    | cons y b ih =>
      obtain ⟨h1, h2⟩ := List.pairwise_cons.1 hb
      rw [List.map_cons, List.foldl_cons, ih h2, findI_cons]
      by_cases e : y.user = k
      · rw [if_pos e, rise_above h1 (.inl e.symm)]
        show stepF f (putS y) k = _
        rw [stepF_put, if_pos e.symm]
      · rw [if_neg e]
        cases findI b k with
        | some z => rfl
        | none =>
          show stepF f (putS y) k = _
          rw [stepF_put, if_neg (fun h => e h.symm)]
  | x :: a, [], ha, hb, f, k => by
    obtain ⟨h1, h2⟩ := List.pairwise_cons.1 ha
    rw [ofL_nil, List.foldl_cons, ofL_at a [] h2 hb]
    unfold ofAt
    have hn : findI [] k = none := rfl
    rw [hn]
    simp only []
    rw [stepF_gone, findI_cons]
    by_cases e : x.user = k
    · rw [if_pos e, if_pos e.symm]; simp
    · rw [if_neg e, if_neg (show ¬ k = x.user from fun h => e h.symm)]
  | x :: a, y :: b, ha, hb, f, k => by
    obtain ⟨h1, h2⟩ := List.pairwise_cons.1 ha
    obtain ⟨g1, g2⟩ := List.pairwise_cons.1 hb
    cases hlt : ltB x.user y.user with
    | true =>
      rw [ofL_lt hlt, List.foldl_cons, ofL_at a (y :: b) h2 hb]
      unfold ofAt
      rw [stepF_gone, findI_cons x]
      by_cases e : x.user = k
      · rw [if_pos e, if_pos e.symm]
        have n1 : findI (y :: b) k = none := by
          rw [findI_none]
          intro z hz e2
          rcases List.mem_cons.1 hz with rfl | hz
          · rw [e2, ← e, ltB_irrefl] at hlt; cases hlt
          · have := ltB_trans hlt (g1 z hz)
            rw [e2, ← e, ltB_irrefl] at this; cases this
        rw [n1]
        simp
      · rw [if_neg e, if_neg (fun h => e h.symm)]
    | false =>
      by_cases e0 : x.user = y.user
      · cases hs : sameB x y with
        | true =>
          obtain rfl := (sameB_iff x y).1 hs
          rw [ofL_eq hlt rfl hs, ofL_at a b h2 g2]
          unfold ofAt
          rw [findI_cons x a, findI_cons x b]
          by_cases e : x.user = k
          · rw [if_pos e, rise_above h1 (.inl e.symm), rise_above g1 (.inl e.symm)]
            simp [e]
          · rw [if_neg e, if_neg e]
        | false =>
          rw [ofL_ne hlt e0 hs, List.foldl_cons, ofL_at a b h2 g2]
          unfold ofAt
          rw [stepF_put, findI_cons x a, findI_cons y b]
          by_cases e : y.user = k
          · have ex : x.user = k := e0.trans e
            rw [if_pos e, if_pos ex, if_pos e.symm, rise_above h1 (.inl ex.symm), rise_above g1 (.inl e.symm)]
            have hne : x ≠ y := fun h => by rw [(sameB_iff x y).2 h] at hs; cases hs
            simp [hne]
          · rw [if_neg e, if_neg (fun h => e (e0 ▸ h)), if_neg (fun h => e h.symm)]
      · have hgt : ltB y.user x.user = true := by
          cases h : ltB y.user x.user with
          | true => rfl
          | false => exact absurd (ltB_total hlt h) e0
        rw [ofL_put hlt e0, List.foldl_cons, ofL_at (x :: a) b ha g2]
        unfold ofAt
        rw [stepF_put, findI_cons y b]
        by_cases e : y.user = k
        · have n1 : findI (x :: a) k = none := by
            rw [findI_none]
            intro z hz e2
            rcases List.mem_cons.1 hz with rfl | hz
            · exact e0 (e2.trans e.symm)
            · have := ltB_trans hgt (h1 z hz)
              rw [e2, ← e, ltB_irrefl] at this; cases this
          rw [if_pos e, if_pos e.symm, rise_above g1 (.inl e.symm), n1]
          simp
        · rw [if_neg e, if_neg (fun h => e h.symm)]
  termination_by a b => a.length + b.length
theorem makeF_of {a b : List Item} (ha : Rise a) (hb : Rise b) : makeF a (ofL a b) = findI b := by
  funext k
  unfold makeF
  rw [look_find ha, ofL_at a b ha hb]
  unfold ofAt
  cases hb' : findI b k with
  | some y =>
    by_cases h : findI a k = some y
    · simp [h]
    · simp [h]
  | none => cases findI a k <;> simp
/-- What a step of those is. -/
def StepOk (a b : List Item) (s : DStep) : Prop := (∃ x, s = goneS x ∧ findI a x.user = some x ∧ findI b x.user = none) ∨ (∃ y, s = putS y ∧ findI b y.user = some y ∧ findI a y.user ≠ some y)
theorem ofL_mem : ∀ (a b : List Item), Rise a → Rise b → ∀ s ∈ ofL a b, StepOk a b s
  | [], b, _, hb, s, hs => by
    rw [ofL] at hs
    obtain ⟨y, hy, rfl⟩ := List.mem_map.1 hs
    exact .inr ⟨y, rfl, rise_find hb hy, by simp [findI]⟩
  | x :: a, [], ha, hb, s, hs => by
    obtain ⟨h1, h2⟩ := List.pairwise_cons.1 ha
    rw [ofL_nil] at hs
    rcases List.mem_cons.1 hs with rfl | hs
    · exact .inl ⟨x, rfl, rise_find ha (by simp), rfl⟩
    · rcases ofL_mem a [] h2 hb s hs with ⟨z, rfl, e1, e2⟩ | ⟨y, _, e1, _⟩
      · exact .inl ⟨z, rfl, rise_find ha (List.mem_cons_of_mem _ (findI_some e1).1), e2⟩
      · cases e1
  | x :: a, y :: b, ha, hb, s, hs => by
    obtain ⟨h1, h2⟩ := List.pairwise_cons.1 ha
    obtain ⟨g1, g2⟩ := List.pairwise_cons.1 hb
    cases hlt : ltB x.user y.user with
    | true =>
      rw [ofL_lt hlt] at hs
      have hxb : ∀ z ∈ y :: b, ltB x.user z.user = true := fun z hz => by
        rcases List.mem_cons.1 hz with rfl | hz
        · exact hlt
        · exact ltB_trans hlt (g1 z hz)
      rcases List.mem_cons.1 hs with rfl | hs
      · exact .inl ⟨x, rfl, rise_find ha (by simp), rise_above hxb (.inl rfl)⟩
      · rcases ofL_mem a (y :: b) h2 hb s hs with ⟨z, rfl, e1, e2⟩ | ⟨z, rfl, e1, e2⟩
        · exact .inl ⟨z, rfl, rise_find ha (List.mem_cons_of_mem _ (findI_some e1).1), e2⟩
        · refine .inr ⟨z, rfl, e1, ?_⟩
          rw [findI_cons, if_neg (fun e => by have := hxb z (findI_some e1).1; rw [e, ltB_irrefl] at this; cases this)]
          exact e2
    | false =>
      by_cases e0 : x.user = y.user
      · have tail : ∀ s ∈ ofL a b, StepOk (x :: a) (y :: b) s := fun s hs => by
          rcases ofL_mem a b h2 g2 s hs with ⟨z, rfl, e1, e2⟩ | ⟨z, rfl, e1, e2⟩
          · refine .inl ⟨z, rfl, rise_find ha (List.mem_cons_of_mem _ (findI_some e1).1), ?_⟩
            rw [findI_cons, if_neg (fun e => by have := h1 z (findI_some e1).1; rw [e0, e, ltB_irrefl] at this; cases this)]
            exact e2
          · refine .inr ⟨z, rfl, rise_find hb (List.mem_cons_of_mem _ (findI_some e1).1), ?_⟩
            rw [findI_cons, if_neg (fun e => by have := g1 z (findI_some e1).1; rw [← e0, e, ltB_irrefl] at this; cases this)]
            exact e2
        cases hsb : sameB x y with
        | true => rw [ofL_eq hlt e0 hsb] at hs; exact tail s hs
        | false =>
          rw [ofL_ne hlt e0 hsb] at hs
          rcases List.mem_cons.1 hs with rfl | hs
          · refine .inr ⟨y, rfl, rise_find hb (by simp), ?_⟩
            rw [findI_cons, if_pos e0]
            intro h
            cases h
            rw [(sameB_iff x x).2 rfl] at hsb; cases hsb
          · exact tail s hs
      · have hgt : ltB y.user x.user = true := by
          cases h : ltB y.user x.user with
          | true => rfl
          | false => exact absurd (ltB_total hlt h) e0
        have hya : ∀ z ∈ x :: a, ltB y.user z.user = true := fun z hz => by
          rcases List.mem_cons.1 hz with rfl | hz
          · exact hgt
          · exact ltB_trans hgt (h1 z hz)
        rw [ofL_put hlt e0] at hs
        rcases List.mem_cons.1 hs with rfl | hs
        · refine .inr ⟨y, rfl, rise_find hb (by simp), ?_⟩
          rw [rise_above hya (.inl rfl)]
          simp
        · rcases ofL_mem (x :: a) b ha g2 s hs with ⟨z, rfl, e1, e2⟩ | ⟨z, rfl, e1, e2⟩
          · refine .inl ⟨z, rfl, e1, ?_⟩
            rw [findI_cons, if_neg (fun e => by have := hya z (findI_some e1).1; rw [e, ltB_irrefl] at this; cases this)]
            exact e2
          · exact .inr ⟨z, rfl, rise_find hb (List.mem_cons_of_mem _ (findI_some e1).1), e2⟩
  termination_by a b => a.length + b.length
theorem StepOk.user {a b : List Item} {s : DStep} (h : StepOk a b s) : findI a s.user ≠ findI b s.user ∧ oddB s = false ∧ ∃ x ∈ a ++ b, x.user = s.user := by
  rcases h with ⟨x, rfl, e1, e2⟩ | ⟨y, rfl, e1, e2⟩
  · refine ⟨?_, ?_, x, List.mem_append.2 (.inl (findI_some e1).1), rfl⟩
    · show findI a x.user ≠ findI b x.user
      rw [e1, e2]; simp
    · simp [oddB, goneS, sameB]
  · refine ⟨?_, ?_, y, List.mem_append.2 (.inr (findI_some e1).1), rfl⟩
    · show findI a y.user ≠ findI b y.user
      rw [e1]; exact e2
    · simp [oddB, putS]
theorem ofL_odd {a b : List Item} (ha : Rise a) (hb : Rise b) : (ofL a b).any oddB = false := by
  rw [List.any_eq_false]
  intro s hs
  rw [(ofL_mem a b ha hb s hs).user.2.1]
  simp
theorem ofL_self : ∀ (a : List Item), ofL a a = []
  | [] => by rw [ofL]; rfl
  | x :: a => by
    rw [ofL_eq (ltB_irrefl _) rfl ((sameB_iff x x).2 rfl)]
    exact ofL_self a
theorem ofL_nil_eq {a b : List Item} (ha : Rise a) (hb : Rise b) (h : ofL a b = []) : a = b := by
  have h1 := makeF_of ha hb
  rw [h] at h1
  unfold makeF at h1
  rw [look_find ha] at h1
  have h2 : findI a = findI b := h1
  have h3 := listed_find ha
  rw [h2] at h3
  exact listed_eqI h3 (listed_find hb)
end Go.Proofs.Ytfedaolpanncoaa
