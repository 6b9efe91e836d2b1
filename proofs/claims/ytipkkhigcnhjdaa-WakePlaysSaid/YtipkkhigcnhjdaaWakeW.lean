/- The box and the document's box tell the same. Plain lists, no program. -/
import Derived.Test.YtipkkhigcnhjdaaWakeAp
import Derived.Test.YtipkkhigcnhjdaaWakeRefE
import Derived.Test.YtipkkhigcnhjdaaWakeRefG
import Derived.Test.YtipkkhigcnhjdaaWakeRefK
import Derived.Test.YtipkkhigcnhjdaaWakeRefF
namespace Go.Proofs.Ytipkkhigcnhjdaa
open Go.RowKit
/-- The reference's device of that name. -/
def refOf (L : List RDev) (k : ByteArray) : Option RDev := L.find? fun d => decide (d.name = k)
/-- As the program would have it. -/
def toD (R : List ByteArray) (d : RDev) : Dev := ⟨d.name, 0, d.waits, d.at_, d.called, inR R d.name⟩
structure WP (L : List Dev) (R : List ByteArray) (LR : List RDev) : Prop where
  rl : RL L R
  so : Sorted LR
  eq : ∀ k, devOf L k = (refOf LR k).map (toD R)
section
variable {L : List Dev} {R R' : List ByteArray} {LR LR' : List RDev} {k : ByteArray} {now qt : Int}
theorem Sorted.nodup (h : Sorted LR) : (LR.map RDev.name).Nodup := by
  unfold List.Nodup
  rw [List.pairwise_map]
  have h' : LR.Pairwise (fun a b => nlt a.name b.name) := h
  exact h'.imp (by intro a b h e; rw [e] at h; exact nlt_irrefl _ h)
theorem refOf_at (hn : (LR.map RDev.name).Nodup) {j : Nat} (hj : j < LR.length) : refOf LR LR[j].name = some LR[j] := by
  unfold refOf
  cases hf : LR.find? (fun d => decide (d.name = LR[j].name)) with
  | none =>
    rw [List.find?_eq_none] at hf
    exact absurd (by simp) (hf LR[j] (List.getElem_mem hj))
  | some d =>
    have h1 := List.find?_some hf
    have h2 := List.mem_of_find?_eq_some hf
    obtain ⟨i, hi, rfl⟩ := List.mem_iff_getElem.1 h2
    have := namesR_inj hn hi hj (by simpa using h1)
    subst this; rfl
theorem refOf_mem (hn : (LR.map RDev.name).Nodup) {d : RDev} (hd : d ∈ LR) : refOf LR d.name = some d := by
  obtain ⟨j, hj, rfl⟩ := List.mem_iff_getElem.1 hd
  exact refOf_at hn hj
theorem refOf_none : refOf LR k = none ↔ k ∉ LR.map RDev.name := by
  unfold refOf
  rw [List.find?_eq_none]
  constructor
  · intro h hm
    obtain ⟨d, hd, rfl⟩ := List.mem_map.1 hm
    exact h d hd (by simp)
  · intro h d hd e
    exact h (List.mem_map.2 ⟨d, hd, by simpa using e⟩)
theorem refOf_some {d : RDev} (h : refOf LR k = some d) : d ∈ LR ∧ d.name = k := by
  unfold refOf at h
  exact ⟨List.mem_of_find?_eq_some h, by simpa using List.find?_some h⟩
theorem devOf_isSome : (devOf L k).isSome = true ↔ k ∈ L.map Dev.name := by
  unfold devOf
  rw [Option.isSome_map, List.find?_isSome]
  constructor
  · rintro ⟨d, hd, e⟩
    exact List.mem_map.2 ⟨d, hd, by simpa using e⟩
  · intro h
    obtain ⟨d, hd, e⟩ := List.mem_map.1 h
    exact ⟨d, hd, by simpa using e⟩
theorem refOf_isSome : (refOf LR k).isSome = true ↔ k ∈ LR.map RDev.name := by
  unfold refOf
  rw [List.find?_isSome]
  constructor
  · rintro ⟨d, hd, e⟩
    exact List.mem_map.2 ⟨d, hd, by simpa using e⟩
  · intro h
    obtain ⟨d, hd, e⟩ := List.mem_map.1 h
    exact ⟨d, hd, by simpa using e⟩
theorem WP.names (h : WP L R LR) (k : ByteArray) : k ∈ L.map Dev.name ↔ k ∈ LR.map RDev.name := by
  rw [← devOf_isSome, ← refOf_isSome, h.eq k, Option.isSome_map]
theorem WP.perm (h : WP L R LR) : (LR.map RDev.name).Perm (L.map Dev.name) := by
  rw [List.perm_ext_iff_of_nodup h.so.nodup h.rl.nn]
  exact fun k => (h.names k).symm
theorem WP.len (h : WP L R LR) : LR.length = L.length := by simpa using h.perm.length_eq
theorem WP.waits (h : WP L R LR) {d : RDev} (hd : d ∈ LR) : waitsOf L d.name = d.waits := by
  rw [waitsOf_devOf, h.eq, refOf_mem h.so.nodup hd]; rfl
theorem callsB_toD (d : RDev) : callsB (toD R d) now qt = callsR d R now qt := by
  unfold callsB callsR loudB toD
  simp
theorem tick_toD (d : RDev) : tickD now qt (toD R d) = toD (calledR d R now qt) d := by
  unfold tickD calledR
  rw [callsB_toD]
  cases hc : callsR d R now qt with
  | true => simp [toD, inR]
  | false => simp
theorem toD_other (d : RDev) (h : d.name ≠ k) (hR : R' = R ∨ R' = R ++ [k]) : toD R' d = toD R d := by
  rcases hR with rfl | rfl
  · rfl
  · unfold toD
    rw [inR_append]
    have : inR [k] d.name = false := by simp [inR]; exact fun e => h e.symm
    rw [this, Bool.or_false]
theorem called_or (d : RDev) : calledR d R now qt = R ∨ calledR d R now qt = R ++ [d.name] := by
  unfold calledR
  split
  · exact .inr rfl
  · exact .inl rfl
theorem sorted_iff : Sorted LR ↔ (LR.map RDev.name).Pairwise nlt := by unfold Sorted; rw [List.pairwise_map]
theorem WP.start : WP [] [] [] := ⟨RL.start, List.Pairwise.nil, fun _ => rfl⟩
/-- The names, in order, are the names in order. -/
theorem asc_eq {A B : List ByteArray} (hp : A.Perm B) (ha : A.Pairwise (fun x y => x.data.toList ≤ y.data.toList)) (hb : B.Pairwise nlt) : A = B := by
  refine hp.eq_of_pairwise (le := fun x y => x.data.toList ≤ y.data.toList) ?_ ha (hb.imp (fun h => List.le_of_lt h))
  intro a b _ _ h1 h2
  have := List.le_antisymm h1 h2
  cases a; cases b; exact congrArg ByteArray.mk (Array.toList_inj.1 this)

/-- The reference's list with one hint more: r is the device behind it. -/
theorem WP.hint {r : RDev} {L' : List Dev} (h : WP L R LR) (hrl : RL L' R') (hso : Sorted LR') (hk : r.name = k) (hR : R' = calledR r R now qt) (h1 : devOf L' k = some (tickD now qt (toD R r))) (h2 : ∀ x, x ≠ k → devOf L' x = devOf L x)
    (h3 : refOf LR' k = some r) (h4 : ∀ x, x ≠ k → refOf LR' x = refOf LR x) : WP L' R' LR' := by
  refine ⟨hrl, hso, fun x => ?_⟩
  by_cases hx : x = k
  · subst hx
    rw [h1, h3, tick_toD, ← hR]; rfl
  · rw [h2 x hx, h4 x hx, h.eq x]
    cases hr : refOf LR x with
    | none => rfl
    | some d =>
      have hd := (refOf_some hr).2
      have := toD_other (R := R) (R' := R') (k := k) d (by rw [hd]; exact hx) (by rw [hR, ← hk]; exact called_or r)
      simp only [Option.map_some, this]
theorem hintC_known {d : RDev} (h : WP L R LR) (hd : refOf LR k = some d) : hintC (devOf L k) k = toD R (moreD d) := by
  rw [h.eq, hd]; rfl
theorem hintC_new (h : WP L R LR) (hn : k ∉ LR.map RDev.name) : hintC (devOf L k) k = toD R ⟨k, 1, false, 0⟩ := by
  rw [h.eq, refOf_none.2 hn]
  have hno : inR R k = false := by
    cases hc : inR R k with
    | false => rfl
    | true =>
      exfalso
      exact hn ((h.names k).1 (h.rl.rs k (inR_iff.1 hc)))
  show newDev k 0 = _
  unfold newDev toD
  simp only [hno]
theorem refOf_set (hn : (LR.map RDev.name).Nodup) {j : Nat} (hj : j < LR.length) : refOf (LR.set j (moreD LR[j])) LR[j].name = some (moreD LR[j]) ∧ (∀ x, x ≠ LR[j].name → refOf (LR.set j (moreD LR[j])) x = refOf LR x) ∧ (LR.set j (moreD LR[j])).map RDev.name = LR.map RDev.name := by
  have e : (LR.set j (moreD LR[j])).map RDev.name = LR.map RDev.name := by
    apply List.ext_getElem
    · simp
    · intro i h1 h2
      simp only [List.getElem_map, List.getElem_set]
      split
      · rename_i he; subst he; rfl
      · rfl
  refine ⟨?_, fun x hx => ?_, e⟩
  · have h1 := refOf_at (LR := LR.set j (moreD LR[j])) (by rw [e]; exact hn) (j := j) (by simpa using hj)
    simp only [List.getElem_set_self] at h1
    exact h1
  · cases hr : refOf LR x with
    | none =>
      rw [refOf_none] at hr ⊢
      rw [e]; exact hr
    | some d =>
      obtain ⟨h1, h2⟩ := refOf_some hr
      obtain ⟨i, hi, rfl⟩ := List.mem_iff_getElem.1 h1
      have hij : ¬ j = i := fun he => by subst he; exact hx h2.symm
      have h3 := refOf_at (LR := LR.set j (moreD LR[j])) (by rw [e]; exact hn) (j := i) (by simpa using hi)
      rw [List.getElem_set, if_neg hij, h2] at h3
      exact h3
theorem insW_mem {x : RDev} (hnk : ∀ y ∈ LR, y.name ≠ k) : x ∈ insW LR k ↔ x = ⟨k, 1, false, 0⟩ ∨ x ∈ LR := by
  unfold insW
  simp only [List.mem_append, List.mem_filter, List.mem_cons, decide_eq_true_iff]
  constructor
  · rintro (⟨h, _⟩ | h | ⟨h, _⟩)
    · exact .inr h
    · exact .inl h
    · exact .inr h
  · rintro (h | h)
    · exact .inr (.inl h)
    · by_cases h1 : nlt x.name k
      · exact .inl ⟨h, h1⟩
      · exact .inr (.inr ⟨h, nlt_tri h1 (hnk x h)⟩)
theorem insW_sorted (h : Sorted LR) : Sorted (insW LR k) := by
  unfold Sorted insW
  have h' : LR.Pairwise (fun a b => nlt a.name b.name) := h
  rw [List.pairwise_append, List.pairwise_cons]
  refine ⟨h'.filter _, ⟨fun x hx => by simpa using (List.mem_filter.1 hx).2, h'.filter _⟩, fun x hx y hy => ?_⟩
  have h1 : nlt x.name k := by simpa using (List.mem_filter.1 hx).2
  rcases List.mem_cons.1 hy with rfl | h2
  · exact h1
  · exact nlt_trans h1 (by simpa using (List.mem_filter.1 h2).2)
theorem refOf_ins (h : Sorted LR) (hnk : ∀ y ∈ LR, y.name ≠ k) : refOf (insW LR k) k = some ⟨k, 1, false, 0⟩ ∧ ∀ x, x ≠ k → refOf (insW LR k) x = refOf LR x := by
  have hs := (insW_sorted (k := k) h).nodup
  refine ⟨refOf_mem hs ((insW_mem hnk).2 (.inl rfl)), fun x hx => ?_⟩
  cases hr : refOf LR x with
  | none =>
    rw [refOf_none] at hr ⊢
    intro hm
    obtain ⟨d, hd, e⟩ := List.mem_map.1 hm
    rcases (insW_mem hnk).1 hd with rfl | h2
    · exact hx e.symm
    · exact hr (List.mem_map.2 ⟨d, h2, e⟩)
  | some d =>
    obtain ⟨h1, h2⟩ := refOf_some hr
    have := refOf_mem hs ((insW_mem hnk).2 (.inr h1))
    rw [h2] at this
    exact this
theorem WP.waitsR (h : WP L R LR) (k : ByteArray) : waitsOf L k = Go.Proofs.Ytipkkhigcnhjdaa.waitsR LR k := by
  rw [waitsOf_devOf, h.eq]
  unfold Go.Proofs.Ytipkkhigcnhjdaa.waitsR refOf
  rw [Option.map_map]; rfl
theorem WP.told (h : WP L R LR) : toldOf L R = toldR LR R := by
  unfold toldOf toldR
  exact List.map_congr_left (fun r _ => by rw [h.waitsR])
theorem callsN_of (h : WP L R LR) {d : RDev} (hd : d ∈ LR) : callsN L now qt d.name = callsR d R now qt := by
  have h1 := h.eq d.name
  rw [refOf_mem h.so.nodup hd] at h1
  obtain ⟨e, he, hen, hc⟩ := devOf_some h1
  obtain ⟨j, hj, rfl⟩ := List.mem_iff_getElem.1 he
  rw [← hen, callsN_at h.rl.nn hj, ← callsB_toD, ← hc]
  rfl
theorem tick_row (h : WP L R LR) {N : List ByteArray} (hp : N.Perm (L.map Dev.name)) (ha : Asc N) : R ++ N.filter (callsN L now qt) = tickRR LR R now qt := by
  have hN : N = LR.map RDev.name := asc_eq (hp.trans h.perm.symm) ha (sorted_iff.1 h.so)
  subst hN
  unfold tickRR
  congr 1
  rw [List.filter_map]
  congr 1
  exact List.filter_congr (fun d hd => callsN_of h hd)
theorem inR_tick (h : Sorted LR) {d : RDev} (hd : d ∈ LR) : inR (tickRR LR R now qt) d.name = (inR R d.name || callsR d R now qt) := by
  unfold tickRR
  rw [inR_append]
  congr 1
  cases hc : callsR d R now qt with
  | true => exact inR_iff.2 (List.mem_map_of_mem (List.mem_filter.2 ⟨hd, hc⟩))
  | false =>
    cases hi : inR ((LR.filter (fun d => callsR d R now qt)).map RDev.name) d.name with
    | false => rfl
    | true =>
      exfalso
      obtain ⟨e, he, hen⟩ := List.mem_map.1 (inR_iff.1 hi)
      obtain ⟨h1, h2⟩ := List.mem_filter.1 he
      have h3 := refOf_mem h.nodup h1
      rw [hen, refOf_mem h.nodup hd] at h3
      obtain rfl := Option.some.inj h3
      rw [hc] at h2; simp at h2
theorem WP.tick (h : WP L R LR) {N : List ByteArray} (hp : N.Perm (L.map Dev.name)) (ha : Asc N) : WP (L.map (tickD now qt)) (tickRR LR R now qt) LR := by
  rw [← tick_row h hp ha]
  refine ⟨h.rl.tick hp, h.so, fun k => ?_⟩
  rw [devOf_map _ (tickD_name now qt) (fun d => canon_tick d), h.eq, tick_row h hp ha]
  cases hr : refOf LR k with
  | none => rfl
  | some d =>
    have hd := (refOf_some hr).1
    simp only [Option.map_some]
    congr 1
    unfold tickD
    rw [callsB_toD]
    cases hc : callsR d R now qt with
    | true => simp [toD, inR_tick h.so hd, hc]
    | false => simp [toD, inR_tick h.so hd, hc]
theorem fetchRL_sorted (h : Sorted LR) : Sorted (fetchRL LR R now) := by
  rw [sorted_iff, fetchRL_names]; exact sorted_iff.1 h
theorem refOf_fetch (h : Sorted LR) : refOf (fetchRL LR R now) k = (refOf LR k).map (fun d => if inR R d.name then resetR now d else d) := by
  have hn : ((fetchRL LR R now).map RDev.name).Nodup := by rw [fetchRL_names]; exact h.nodup
  cases hr : refOf LR k with
  | none =>
    rw [refOf_none] at hr
    rw [refOf_none.2 (by rw [fetchRL_names]; exact hr)]; rfl
  | some d =>
    obtain ⟨h1, h2⟩ := refOf_some hr
    have h3 : (if inR R d.name then resetR now d else d) ∈ fetchRL LR R now := List.mem_map_of_mem (f := fun d => if inR R d.name then resetR now d else d) h1
    have h4 := refOf_mem hn h3
    have h5 : (if inR R d.name then resetR now d else d).name = k := by split <;> exact h2
    rw [h5] at h4
    rw [h4]; rfl
theorem WP.fetch (h : WP L R LR) : WP (fetchL L R now) [] (fetchRL LR R now) := by
  refine ⟨h.rl.fetch, fetchRL_sorted h.so, fun k => ?_⟩
  rw [devOf_fetch h.rl, h.eq, refOf_fetch h.so, Option.map_map, Option.map_map]
  congr 1
  funext d
  simp only [Function.comp]
  have hnil : ∀ x, inR [] x = false := fun _ => rfl
  cases hi : inR R d.name with
  | true => simp [toD, hi, resetD, resetR, hnil]
  | false => simp [toD, hi, hnil]
theorem find_awake (k x : ByteArray) (LR : List RDev) : refOf (awakeL LR k) x = if x = k then none else refOf LR x := by
  unfold refOf awakeL
  by_cases hx : x = k
  · rw [if_pos hx, List.find?_eq_none]
    intro d hd
    have := (List.mem_filter.1 hd).2
    simp only [decide_eq_true_eq] at this ⊢
    rw [hx]; exact this
  · rw [if_neg hx, List.find?_filter]
    congr 1
    funext d
    by_cases e : d.name = x
    · simp [e, hx]
    · simp [e]
theorem dev_awake (k x : ByteArray) (L : List Dev) : devOf (wakeL L k) x = if x = k then none else devOf L x := by
  unfold devOf wakeL
  by_cases hx : x = k
  · rw [if_pos hx]
    have : (L.filter fun d => decide (d.name ≠ k)).find? (fun d => decide (d.name = x)) = none := by
      rw [List.find?_eq_none]
      intro d hd
      have := (List.mem_filter.1 hd).2
      simp only [decide_eq_true_eq] at this ⊢
      rw [hx]; exact this
    rw [this]; rfl
  · rw [if_neg hx, List.find?_filter]
    congr 2
    funext d
    by_cases e : d.name = x
    · simp [e, hx]
    · simp [e]
theorem awakeR_eq (R : List ByteArray) (k : ByteArray) : awakeR R k = wakeR R k := by
  unfold awakeR wakeR
  exact List.filter_congr (fun x _ => by simp)
theorem WP.awake (h : WP L R LR) (k : ByteArray) : WP (wakeL L k) (wakeR R k) (awakeL LR k) := by
  refine ⟨h.rl.awake k, ?_, fun x => ?_⟩
  · have h' : LR.Pairwise (fun a b => nlt a.name b.name) := h.so
    exact h'.filter _
  · rw [dev_awake, find_awake]
    by_cases hx : x = k
    · simp [hx]
    · rw [if_neg hx, if_neg hx, h.eq]
      cases hr : refOf LR x with
      | none => rfl
      | some d =>
        have hd := (refOf_some hr).2
        have : inR (wakeR R k) d.name = inR R d.name := by
          rw [Bool.eq_iff_iff, inR_iff, inR_iff]
          unfold wakeR
          rw [List.mem_filter]
          simp [hd, hx]
        simp only [Option.map_some, toD, this]
/-- What a hint that is taken gives, the row told. -/
def Hinted2 (S : Nat → Prop) (p : Nat) (qt : Int) (M : Nat) (L : List Dev) (R : List ByteArray) (k : ByteArray) (now : Int) (w : World) (e : Ending) (w' : World) : Prop :=
  e = .returned (.int .i64 0) ∧ ∃ (L' : List Dev) (R' : List ByteArray), BoxGone S w p qt (M + 2) L' R' w' ∧ RL L' R' ∧ devOf L' k = some (tickD now qt (hintC (devOf L k) k)) ∧ (∀ x, x ≠ k → devOf L' x = devOf L x) ∧ R' = if callsB (hintC (devOf L k) k) now qt then R ++ [k] else R
theorem box_hint_ok2 {S : Nat → Prop} {w : World} {p M : Nat} (k : ByteArray) (now : Int) (hk : k.size ≤ maxLen) (hk0 : k ≠ ByteArray.empty) (h0 : 0 ≤ now) (h9 : now ≤ 9223372036854775807) (h : IsBox S w p qt M L R) (hM : M ≤ 900000) (hR : RL L R) (hl : k ∈ L.map Dev.name ∨ L.length < 64) :
    Calls Try.prog 11 #[.pointer (some ⟨p, 0, none⟩), .string k, .int .i64 now] w (Hinted2 S p qt M L R k now w) := by
  by_cases hm : k ∈ L.map Dev.name
  · obtain ⟨d0, hd0, rfl⟩ := List.mem_map.1 hm
    obtain ⟨j, hj, rfl⟩ := List.mem_iff_getElem.1 hd0
    refine (box_hint_known j hj now hk0 h0 h9 h hM).mono ?_
    rintro e w1 ⟨rfl, g⟩
    have hj' : L[j]? = some L[j] := by simp [hj]
    have hinc : incL L j = L.set j { L[j] with waits := L[j].waits + 1 } := by simp only [incL, hj']
    rw [hinc] at g
    have hR1 := hR.inc hj
    have hj1 : j < (L.set j { L[j] with waits := L[j].waits + 1 }).length := by simpa using hj
    have e1 : (L.set j { L[j] with waits := L[j].waits + 1 })[j] = { L[j] with waits := L[j].waits + 1 } := by simp
    refine ⟨rfl, _, _, g, hR1.call hj1, ?_, fun x hx => ?_, ?_⟩
    · rw [devOf_call hR1.nn hj1, e1, if_pos rfl, devOf_at hR.nn hj, canon_tick]
      rfl
    · rw [devOf_call hR1.nn hj1, e1, if_neg (fun e => hx e.symm), devOf_set (d := { L[j] with waits := L[j].waits + 1 }) hR.nn hj rfl, if_neg (fun e => hx e.symm)]
    · rw [devOf_at hR.nn hj]
      have e2 : (L.set j { L[j] with waits := L[j].waits + 1 })[j]? = some { L[j] with waits := L[j].waits + 1 } := by simp [hj]
      simp only [callR, e2]
      rfl
  · have hl2 : L.length < 64 := hl.elim (fun h => (hm h).elim) (fun h => h)
    refine (box_hint_new k now hk hk0 h0 h9 h hM hm hl2).mono ?_
    rintro e w1 ⟨B, hB, rfl, g⟩
    have hR1 := hR.new hm B
    have hj1 : L.length < (L ++ [newDev k B]).length := by simp
    have e1 : (L ++ [newDev k B])[L.length] = newDev k B := by simp
    refine ⟨rfl, _, _, g, hR1.call hj1, ?_, fun x hx => ?_, ?_⟩
    · rw [devOf_call hR1.nn hj1, e1, if_pos (show (newDev k B).name = k from rfl), devOf_none hm, canon_tick]
      rfl
    · rw [devOf_call hR1.nn hj1, e1, if_neg (show ¬ (newDev k B).name = x from fun e => hx e.symm), devOf_more (d := newDev k B) hm, if_neg (show ¬ (newDev k B).name = x from fun e => hx e.symm)]
    · rw [devOf_none hm]
      have e2 : (L ++ [newDev k B])[L.length]? = some (newDev k B) := by simp
      simp only [callR, e2]
      rfl
end
end Go.Proofs.Ytipkkhigcnhjdaa
