/- Two boxes, of which one has hints of another device too: plain laws. No condition. -/
import Derived.Test.YtipkkhigcnhjdaaWakeL
import Derived.Test.YtipkkhigcnhjdaaWakeOps
namespace Go.Proofs.Ytipkkhigcnhjdaa
open Go.RowKit

/-- A device, wherever it lies. -/
def canon (d : Dev) : Dev := { d with blk := 0 }
/-- The device of that name, wherever it lies. -/
def devOf (L : List Dev) (k : ByteArray) : Option Dev := (L.find? fun d => decide (d.name = k)).map canon
section
variable {L Lo : List Dev} {R Ro N No : List ByteArray} {now qt : Int} {k : ByteArray}
theorem devOf_at (hn : (L.map Dev.name).Nodup) {j : Nat} (hj : j < L.length) : devOf L L[j].name = some (canon L[j]) := by
  unfold devOf
  have hm : L.find? (fun d => decide (d.name = L[j].name)) = some L[j] := by
    cases hf : L.find? (fun d => decide (d.name = L[j].name)) with
    | none =>
      rw [List.find?_eq_none] at hf
      exact absurd (by simp) (hf L[j] (List.getElem_mem hj))
    | some d =>
      have h1 := List.find?_some hf
      have h2 := List.mem_of_find?_eq_some hf
      obtain ⟨i, hi, rfl⟩ := List.mem_iff_getElem.1 h2
      have := names_inj hn hi hj (by simpa using h1)
      subst this; rfl
  rw [hm]; rfl
theorem devOf_mem (hn : (L.map Dev.name).Nodup) {d : Dev} (hd : d ∈ L) : devOf L d.name = some (canon d) := by
  obtain ⟨j, hj, rfl⟩ := List.mem_iff_getElem.1 hd
  exact devOf_at hn hj
theorem devOf_none (h : k ∉ L.map Dev.name) : devOf L k = none := by
  unfold devOf
  rw [Option.map_eq_none_iff, List.find?_eq_none]
  intro d hd e
  exact h (List.mem_map.2 ⟨d, hd, by simpa using e⟩)
theorem devOf_some {d : Dev} (h : devOf L k = some d) : ∃ e ∈ L, e.name = k ∧ canon e = d := by
  unfold devOf at h
  obtain ⟨e, he, rfl⟩ := Option.map_eq_some_iff.1 h
  exact ⟨e, List.mem_of_find?_eq_some he, by simpa using List.find?_some he, rfl⟩
theorem devOf_map (f : Dev → Dev) (hf : ∀ d, (f d).name = d.name) (hc : ∀ d, canon (f d) = f (canon d)) (L : List Dev) (k : ByteArray) : devOf (L.map f) k = (devOf L k).map f := by
  unfold devOf
  rw [List.find?_map]
  have e : ((fun d : Dev => decide (d.name = k)) ∘ f) = fun d => decide (d.name = k) := by funext d; simp [hf]
  rw [e, Option.map_map, Option.map_map]
  congr 1
  funext d
  exact hc d
theorem devOf_set (hn : (L.map Dev.name).Nodup) {j : Nat} (hj : j < L.length) {d : Dev} (hd : d.name = L[j].name) : devOf (L.set j d) k = if L[j].name = k then some (canon d) else devOf L k := by
  have e : (L.set j d).map Dev.name = L.map Dev.name := map_set_same _ hj hd
  have hn2 : ((L.set j d).map Dev.name).Nodup := by rw [e]; exact hn
  by_cases hk : L[j].name = k
  · rw [if_pos hk]
    have h1 := devOf_at hn2 (j := j) (by simpa using hj)
    rw [List.getElem_set_self] at h1
    rw [← hk, ← hd]; exact h1
  · rw [if_neg hk]
    by_cases hm : k ∈ L.map Dev.name
    · obtain ⟨x, hx, rfl⟩ := List.mem_map.1 hm
      obtain ⟨i, hi, rfl⟩ := List.mem_iff_getElem.1 hx
      have hij : j ≠ i := fun e => hk (by subst e; rfl)
      rw [devOf_at hn hi]
      have h1 := devOf_at hn2 (j := i) (by simpa using hi)
      rw [List.getElem_set_ne hij] at h1
      exact h1
    · rw [devOf_none hm, devOf_none (by rw [e]; exact hm)]
theorem canon_tick (d : Dev) : canon (tickD now qt d) = tickD now qt (canon d) := by
  unfold tickD
  have e : callsB (canon d) now qt = callsB d now qt := rfl
  rw [e]
  split <;> rfl
theorem devOf_call (hn : (L.map Dev.name).Nodup) {j : Nat} (hj : j < L.length) : devOf (callL L j now qt) k = if L[j].name = k then some (canon (tickD now qt L[j])) else devOf L k := by
  have hj' : L[j]? = some L[j] := by simp [hj]
  simp only [callL, hj', tickD]
  cases hc : callsB L[j] now qt with
  | true => simp only [if_true]; exact devOf_set hn hj rfl
  | false =>
    simp only [Bool.false_eq_true, if_false]
    by_cases hk : L[j].name = k
    · rw [if_pos hk, ← hk]; exact devOf_at hn hj
    · rw [if_neg hk]
theorem devOf_more {d : Dev} (h : d.name ∉ L.map Dev.name) : devOf (L ++ [d]) k = if d.name = k then some (canon d) else devOf L k := by
  unfold devOf
  rw [List.find?_append]
  by_cases hk : d.name = k
  · subst hk
    have : L.find? (fun x => decide (x.name = d.name)) = none := by
      rw [List.find?_eq_none]
      intro x hx e
      exact h (List.mem_map.2 ⟨x, hx, by simpa using e⟩)
    simp [this]
  · simp [hk]
theorem waitsOf_devOf (L : List Dev) (k : ByteArray) : waitsOf L k = ((devOf L k).map Dev.waits).getD 0 := by
  unfold waitsOf devOf
  rw [Option.map_map]; rfl
theorem mem_devOf (h : RL L R) (hk : k ∈ R) : ∃ d, devOf L k = some d ∧ d.rowed = true := by
  obtain ⟨d, hd, rfl⟩ := List.mem_map.1 (h.rs k hk)
  exact ⟨canon d, devOf_mem h.nn hd, (h.rf d hd).2 hk⟩
theorem inR_devOf (h : RL L R) (k : ByteArray) : inR R k = ((devOf L k).map Dev.rowed).getD false := by
  cases hc : inR R k with
  | true =>
    obtain ⟨d, h1, h2⟩ := mem_devOf h (inR_iff.1 hc)
    rw [h1]; exact h2.symm
  | false =>
    cases hd : devOf L k with
    | none => rfl
    | some d =>
      obtain ⟨e, he, hen, rfl⟩ := devOf_some hd
      cases hr : e.rowed with
      | false => simp [canon, hr]
      | true =>
        have := (h.rf e he).1 hr
        rw [hen] at this
        rw [inR_iff.2 this] at hc; simp at hc
theorem devOf_fetch (h : RL L R) : devOf (fetchL L R now) k = (devOf L k).map fun d => if d.rowed then resetD now d else d := by
  have e : fetchL L R now = L.map fun d => if d.rowed then resetD now d else d := by
    unfold fetchL
    refine List.map_congr_left fun d hd => ?_
    cases hr : d.rowed with
    | true => rw [inR_iff.2 ((h.rf d hd).1 hr)]
    | false =>
      have : inR R d.name = false := by
        cases hc : inR R d.name with
        | false => rfl
        | true => have := (h.rf d hd).2 (inR_iff.1 hc); rw [hr] at this; simp at this
      rw [this]
  rw [e]
  refine devOf_map _ (fun d => by split <;> rfl) (fun d => ?_) L k
  show canon (if d.rowed then resetD now d else d) = if (canon d).rowed then resetD now (canon d) else canon d
  have : (canon d).rowed = d.rowed := rfl
  rw [this]
  split <;> rfl
end

/-- A device with one hint more. -/
def hintC (o : Option Dev) (k : ByteArray) : Dev :=
  match o with
  | some d => { d with waits := d.waits + 1 }
  | none => newDev k 0
/-- What a hint that is taken gives. -/
def Hinted (S : Nat → Prop) (p : Nat) (qt : Int) (M : Nat) (L : List Dev) (k : ByteArray) (now : Int) (w : World) (e : Ending) (w' : World) : Prop :=
  e = .returned (.int .i64 0) ∧ ∃ (L' : List Dev) (R' : List ByteArray), BoxGone S w p qt (M + 2) L' R' w' ∧ RL L' R' ∧ devOf L' k = some (tickD now qt (hintC (devOf L k) k)) ∧ (∀ x, x ≠ k → devOf L' x = devOf L x) ∧ ∀ d ∈ L', d.name = k ∨ d.name ∈ L.map Dev.name
theorem callL_names {L : List Dev} {j : Nat} (hj : j < L.length) (now qt : Int) : (callL L j now qt).map Dev.name = L.map Dev.name := by
  have hj' : L[j]? = some L[j] := by simp [hj]
  simp only [callL, hj']
  split
  · exact map_set_same _ hj rfl
  · rfl
section
variable {S T : Nat → Prop} {w w' wr : World} {p M : Nat} {qt : Int} {L : List Dev} {R : List ByteArray}
theorem box_hint_ok (k : ByteArray) (now : Int) (hk : k.size ≤ maxLen) (hk0 : k ≠ ByteArray.empty) (h0 : 0 ≤ now) (h9 : now ≤ 9223372036854775807) (h : IsBox S w p qt M L R) (hM : M ≤ 900000) (hR : RL L R) (hl : L.length < 64) :
    Calls Try.prog 11 #[.pointer (some ⟨p, 0, none⟩), .string k, .int .i64 now] w (Hinted S p qt M L k now w) := by
  by_cases hm : k ∈ L.map Dev.name
  · obtain ⟨d0, hd0, rfl⟩ := List.mem_map.1 hm
    obtain ⟨j, hj, rfl⟩ := List.mem_iff_getElem.1 hd0
    refine (box_hint_known j hj now hk0 h0 h9 h hM).mono ?_
    rintro e w1 ⟨rfl, g⟩
    have hj' : L[j]? = some L[j] := by simp [hj]
    have hinc : incL L j = L.set j { L[j] with waits := L[j].waits + 1 } := by simp only [incL, hj']
    rw [hinc] at g
    have hR1 := hR.inc hj
    have hj1 : j < (L.set j { L[j] with waits := L[j].waits + 1 }).length := by simpa using hj
    have e1 : (L.set j { L[j] with waits := L[j].waits + 1 })[j] = { L[j] with waits := L[j].waits + 1 } := by simp
    refine ⟨rfl, _, _, g, hR1.call hj1, ?_, fun x hx => ?_, fun d hd => .inr ?_⟩
    · rw [devOf_call hR1.nn hj1, e1, if_pos rfl, devOf_at hR.nn hj, canon_tick]
      rfl
    · rw [devOf_call hR1.nn hj1, e1, if_neg (fun e => hx e.symm), devOf_set (d := { L[j] with waits := L[j].waits + 1 }) hR.nn hj rfl, if_neg (fun e => hx e.symm)]
    · have h2 := List.mem_map_of_mem (f := Dev.name) hd
      rw [callL_names hj1, map_set_same Dev.name hj (d := { L[j] with waits := L[j].waits + 1 }) rfl] at h2
      exact h2
  · refine (box_hint_new k now hk hk0 h0 h9 h hM hm hl).mono ?_
    rintro e w1 ⟨B, hB, rfl, g⟩
    have hR1 := hR.new hm B
    have hj1 : L.length < (L ++ [newDev k B]).length := by simp
    have e1 : (L ++ [newDev k B])[L.length] = newDev k B := by simp
    refine ⟨rfl, _, _, g, hR1.call hj1, ?_, fun x hx => ?_, fun d hd => ?_⟩
    · rw [devOf_call hR1.nn hj1, e1, if_pos (show (newDev k B).name = k from rfl), devOf_none hm, canon_tick]
      rfl
    · rw [devOf_call hR1.nn hj1, e1, if_neg (show ¬ (newDev k B).name = x from fun e => hx e.symm), devOf_more (d := newDev k B) hm, if_neg (show ¬ (newDev k B).name = x from fun e => hx e.symm)]
    · have h2 := List.mem_map_of_mem (f := Dev.name) hd
      rw [callL_names hj1, List.map_append, List.mem_append] at h2
      rcases h2 with h2 | h2
      · exact .inr h2
      · left; simpa [newDev] using h2
theorem box_waitsOf (k : ByteArray) (hk : k.size ≤ maxLen) (h : IsBox S w p qt M L R) (hR : RL L R) :
    Calls Try.prog 17 #[.pointer (some ⟨p, 0, none⟩), .string k] w fun e w' => e = .returned (.int .i64 (waitsOf L k)) ∧ w = w' := by
  by_cases hm : k ∈ L.map Dev.name
  · obtain ⟨d0, hd0, rfl⟩ := List.mem_map.1 hm
    obtain ⟨j, hj, rfl⟩ := List.mem_iff_getElem.1 hd0
    rw [waitsOf_at hR.nn hj]
    exact box_waits j hj h
  · have e : waitsOf L k = 0 := by rw [waitsOf_devOf, devOf_none hm]; rfl
    rw [e]
    exact box_waits_no k hk h hm
end

/-- The other name. -/
abbrev nameB : ByteArray := ⟨#[98]⟩
theorem nameAB : nameA ≠ nameB := by decide
/-- Both boxes: what is told of the first device is the same. -/
structure AP (Lb : List Dev) (Rb : List ByteArray) (Lo : List Dev) (Ro : List ByteArray) : Prop where
  rb : RL Lb Rb
  ro : RL Lo Ro
  eq : devOf Lb nameA = devOf Lo nameA
  na : ∀ d ∈ Lo, d.name = nameA
  nb : ∀ d ∈ Lb, d.name = nameA ∨ d.name = nameB
theorem nodup_one {X : List ByteArray} {x : ByteArray} (hn : X.Nodup) (h : ∀ y ∈ X, y = x) : X.length ≤ 1 := by
  match X, hn, h with
  | [], _, _ => simp
  | [_], _, _ => simp
  | y :: z :: r, hn, h =>
    have h1 := h y (by simp)
    have h2 := h z (by simp)
    rw [h1, h2] at hn
    simp at hn
theorem nodup_two {X : List ByteArray} {x y : ByteArray} (hn : X.Nodup) (h : ∀ z ∈ X, z = x ∨ z = y) : X.length ≤ 2 := by
  match X, hn, h with
  | [], _, _ => simp
  | [_], _, _ => simp
  | [_, _], _, _ => simp
  | a :: b :: c :: r, hn, h =>
    have h1 := h a (by simp)
    have h2 := h b (by simp)
    have h3 := h c (by simp)
    simp only [List.nodup_cons, List.mem_cons, not_or] at hn
    obtain ⟨⟨n1, n2, _⟩, ⟨n3, _⟩, _⟩ := hn
    exfalso
    rcases h1 with rfl | rfl <;> rcases h2 with rfl | rfl <;> rcases h3 with rfl | rfl <;> simp_all
section
variable {Lb Lo Lb' Lo' : List Dev} {Rb Ro Rb' Ro' Nb No : List ByteArray} {now qt : Int}
theorem AP.lenB (h : AP Lb Rb Lo Ro) : Lb.length < 64 := by
  have := nodup_two h.rb.nn (x := nameA) (y := nameB) (fun z hz => by obtain ⟨d, hd, rfl⟩ := List.mem_map.1 hz; exact h.nb d hd)
  simp at this; omega
theorem AP.lenO (h : AP Lb Rb Lo Ro) : Lo.length < 64 := by
  have := nodup_one h.ro.nn (x := nameA) (fun z hz => by obtain ⟨d, hd, rfl⟩ := List.mem_map.1 hz; exact h.na d hd)
  simp at this; omega
theorem AP.tick (h : AP Lb Rb Lo Ro) (hb : Nb.Perm (Lb.map Dev.name)) (ho : No.Perm (Lo.map Dev.name)) :
    AP (Lb.map (tickD now qt)) (Rb ++ Nb.filter (callsN Lb now qt)) (Lo.map (tickD now qt)) (Ro ++ No.filter (callsN Lo now qt)) := by
  refine ⟨h.rb.tick hb, h.ro.tick ho, ?_, fun d hd => ?_, fun d hd => ?_⟩
  · rw [devOf_map _ (tickD_name now qt) (fun d => canon_tick d), devOf_map _ (tickD_name now qt) (fun d => canon_tick d), h.eq]
  · obtain ⟨d0, hd0, rfl⟩ := List.mem_map.1 hd
    rw [tickD_name]; exact h.na d0 hd0
  · obtain ⟨d0, hd0, rfl⟩ := List.mem_map.1 hd
    rw [tickD_name]; exact h.nb d0 hd0
theorem AP.fetch (h : AP Lb Rb Lo Ro) : AP (fetchL Lb Rb now) [] (fetchL Lo Ro now) [] := by
  refine ⟨h.rb.fetch, h.ro.fetch, by rw [devOf_fetch h.rb, devOf_fetch h.ro, h.eq], fun d hd => ?_, fun d hd => ?_⟩
  · have h1 := List.mem_map_of_mem (f := Dev.name) hd
    rw [fetchL_names] at h1
    obtain ⟨d0, hd0, e⟩ := List.mem_map.1 h1
    rw [← e]; exact h.na d0 hd0
  · have h1 := List.mem_map_of_mem (f := Dev.name) hd
    rw [fetchL_names] at h1
    obtain ⟨d0, hd0, e⟩ := List.mem_map.1 h1
    rw [← e]; exact h.nb d0 hd0
theorem AP.waits (h : AP Lb Rb Lo Ro) : waitsOf Lb nameA = waitsOf Lo nameA := by rw [waitsOf_devOf, waitsOf_devOf, h.eq]
theorem AP.inRow (h : AP Lb Rb Lo Ro) : inR Rb nameA = inR Ro nameA := by rw [inR_devOf h.rb, inR_devOf h.ro, h.eq]
end

theorem filter_one {X : List ByteArray} (hn : X.Nodup) (x : ByteArray) : X.filter (fun y => decide (y = x)) = if inR X x then [x] else [] := by
  induction X with
  | nil => rfl
  | cons y X ih =>
    simp only [List.nodup_cons] at hn
    by_cases e : y = x
    · subst e
      have h1 : X.filter (fun z => decide (z = y)) = [] := List.filter_eq_nil_iff.2 fun z hz h => by
        obtain rfl : z = y := by simpa using h
        exact hn.1 hz
      rw [List.filter_cons_of_pos (by simp), h1]
      simp [inR]
    · rw [List.filter_cons_of_neg (by simp [e]), ih hn.2]
      unfold inR
      rw [List.any_cons, decide_eq_false e, Bool.false_or]
theorem AP.told {Lb Lo : List Dev} {Rb Ro : List ByteArray} (h : AP Lb Rb Lo Ro) : (toldOf Lb Rb).filter (fun c => decide (c.name = nameA)) = toldOf Lo Ro ∧ Ro.length ≤ 1 ∧ ∀ c ∈ toldOf Lo Ro, c.name = nameA := by
  have hra : ∀ r ∈ Ro, r = nameA := fun r hr => by
    obtain ⟨d, hd, rfl⟩ := List.mem_map.1 (h.ro.rs r hr)
    exact h.na d hd
  have ho : Ro = if inR Ro nameA then [nameA] else [] := by
    rw [← filter_one h.ro.rn]
    exact (List.filter_eq_self.2 fun y hy => by simp [hra y hy]).symm
  have e1 : (toldOf Lb Rb).filter (fun c => decide (c.name = nameA)) = (Rb.filter fun y => decide (y = nameA)).map fun r => ⟨r, waitsOf Lb r⟩ := by
    unfold toldOf
    rw [List.filter_map]; rfl
  refine ⟨?_, nodup_one h.ro.rn hra, fun c hc => ?_⟩
  · rw [e1, filter_one h.rb.rn, h.inRow]
    cases hc : inR Ro nameA with
    | true =>
      rw [hc] at ho
      simp only [if_true] at ho ⊢
      rw [ho]
      simp [toldOf, h.waits]
    | false =>
      rw [hc] at ho
      simp only [Bool.false_eq_true, if_false] at ho ⊢
      rw [ho]; rfl
  · unfold toldOf at hc
    obtain ⟨r, hr, rfl⟩ := List.mem_map.1 hc
    exact hra r hr
theorem AP.hintA {Lb Lo Lb' Lo' : List Dev} {Rb Ro Rb' Ro' : List ByteArray} {now qt : Int} (h : AP Lb Rb Lo Ro) (r1 : RL Lb' Rb') (r2 : RL Lo' Ro') (e1 : devOf Lb' nameA = some (tickD now qt (hintC (devOf Lb nameA) nameA))) (e2 : devOf Lo' nameA = some (tickD now qt (hintC (devOf Lo nameA) nameA)))
    (n1 : ∀ d ∈ Lb', d.name = nameA ∨ d.name ∈ Lb.map Dev.name) (n2 : ∀ d ∈ Lo', d.name = nameA ∨ d.name ∈ Lo.map Dev.name) : AP Lb' Rb' Lo' Ro' := by
  refine ⟨r1, r2, by rw [e1, e2, h.eq], fun d hd => ?_, fun d hd => ?_⟩
  · rcases n2 d hd with h1 | h1
    · exact h1
    · obtain ⟨x, hx, e⟩ := List.mem_map.1 h1
      rw [← e]; exact h.na x hx
  · rcases n1 d hd with h1 | h1
    · exact .inl h1
    · obtain ⟨x, hx, e⟩ := List.mem_map.1 h1
      rw [← e]; exact h.nb x hx
theorem AP.hintB {Lb Lo Lb' : List Dev} {Rb Ro Rb' : List ByteArray} (h : AP Lb Rb Lo Ro) (r1 : RL Lb' Rb') (e1 : ∀ x, x ≠ nameB → devOf Lb' x = devOf Lb x) (n1 : ∀ d ∈ Lb', d.name = nameB ∨ d.name ∈ Lb.map Dev.name) : AP Lb' Rb' Lo Ro := by
  refine ⟨r1, h.ro, by rw [e1 _ nameAB, h.eq], h.na, fun d hd => ?_⟩
  rcases n1 d hd with h1 | h1
  · exact .inr h1
  · obtain ⟨x, hx, e⟩ := List.mem_map.1 h1
    rw [← e]; exact h.nb x hx

/-- Two boxes in memory, apart. -/
structure WTwo (S T : Nat → Prop) (p q : Nat) (qt : Int) (M : Nat) (w : World) (Lb : List Dev) (Rb : List ByteArray) (Lo : List Dev) (Ro : List ByteArray) (wr : World) : Prop where
  both : IsBox S wr p qt M Lb Rb
  one : IsBox T wr q qt M Lo Ro
  newS : ∀ k, S k → w.heap.size ≤ k
  newT : ∀ k, T k → w.heap.size ≤ k
  apart : ∀ k, S k → ¬ T k
  fr : Fr (FromB w.heap.size) w wr
section
variable {S T : Nat → Prop} {w wr w' : World} {p q M M' : Nat} {qt : Int} {Lb Lo L' : List Dev} {Rb Ro R' : List ByteArray}
theorem WTwo.quiet (h : WTwo S T p q qt M w Lb Rb Lo Ro wr) (F : Fr Nothing wr w') : WTwo S T p q qt M w Lb Rb Lo Ro w' :=
  ⟨h.both.fr F (fun _ _ h => h), h.one.fr F (fun _ _ h => h), h.newS, h.newT, h.apart, h.fr.trans' F.fromN⟩
theorem WTwo.more (h : WTwo S T p q qt M w Lb Rb Lo Ro wr) (hM : M ≤ M') : WTwo S T p q qt M' w Lb Rb Lo Ro wr := ⟨h.both.more hM, h.one.more hM, h.newS, h.newT, h.apart, h.fr⟩
theorem WTwo.bothGone (h : WTwo S T p q qt M w Lb Rb Lo Ro wr) (g : BoxGone S wr p qt M' L' R' w') (hM : M ≤ M') : ∃ S', WTwo S' T p q qt M' w L' R' Lo Ro w' ∧ Fr S wr w' ∧ ∀ k, S' k → S k ∨ wr.heap.size ≤ k := by
  obtain ⟨S', h1, h2, f⟩ := g
  refine ⟨S', ⟨h1, (h.one.fr f (fun k hT hS => h.apart k hS hT)).more hM, fun k hk => ?_, h.newT, fun k hk hT => ?_, h.fr.trans' (f.from_ h.newS)⟩, f, h2⟩
  · rcases h2 k hk with h3 | h3
    · exact h.newS k h3
    · exact Nat.le_trans h.fr.size h3
  · rcases h2 k hk with h3 | h3
    · exact h.apart k h3 hT
    · have := h.one.lt hT; omega
theorem WTwo.oneGone (h : WTwo S T p q qt M w Lb Rb Lo Ro wr) (g : BoxGone T wr q qt M' L' R' w') (hM : M ≤ M') : ∃ T', WTwo S T' p q qt M' w Lb Rb L' R' w' ∧ Fr T wr w' ∧ ∀ k, T' k → T k ∨ wr.heap.size ≤ k := by
  obtain ⟨T', h1, h2, f⟩ := g
  refine ⟨T', ⟨(h.both.fr f (fun k hS hT => h.apart k hS hT)).more hM, h1, h.newS, fun k hk => ?_, fun k hS hk => ?_, h.fr.trans' (f.from_ h.newT)⟩, f, h2⟩
  · rcases h2 k hk with h3 | h3
    · exact h.newT k h3
    · exact Nat.le_trans h.fr.size h3
  · rcases h2 k hk with h3 | h3
    · exact h.apart k hS h3
    · have := h.both.lt hS; omega
end

end Go.Proofs.Ytipkkhigcnhjdaa
