/- Contracts of package wheel, by the sorted list of what it holds. Condition: IsWheel, as New makes it and each call keeps it. -/
import Derived.Test.YtgfphbehecpgpaaWheelP
namespace Go.Proofs.Ytgfphbehecpgpaa
open Go.RowKit
structure WheelIn (w : World) (p : Nat) (v : Value) (mb : Nat) (now : Int) (H : List Due) (f : Int → Option Int) (L : List Due) : Prop where
  wheel : WheelAt w p v mb now H f L.length
  holds : Holds f L
  neat : Neat L
  heap : HeapTo H H.length
  kept : ∀ d ∈ L, d ∈ H
  root : H = [] ∨ live f (gd H 0)
  wide : ∀ d ∈ H, W64 d.1
/-- A wheel at p, with the numbers L, at the time now; m: no more have been set. S: its blocks. -/
def IsWheel (S : Nat → Prop) (w : World) (p : Nat) (now : Int) (L : List Due) (m : Nat) : Prop :=
  ∃ v mb H f, WheelIn w p v mb now H f L ∧ H.length ≤ m ∧ ∀ k, S k ↔ k = p ∨ k = mb ∨ InBlock v k
section
variable {S : Nat → Prop} {w w' : World} {p m : Nat} {now : Int} {L : List Due}
theorem IsWheel.fr {T : Nat → Prop} (h : IsWheel S w p now L m) (F : Fr T w w') (hd : ∀ k, S k → ¬ T k) : IsWheel S w' p now L m := by
  obtain ⟨v, mb, H, f, h1, h2, h3⟩ := h
  exact ⟨v, mb, H, f, ⟨h1.wheel.fr F (hd _ ((h3 _).2 (.inl rfl))) (hd _ ((h3 _).2 (.inr (.inl rfl)))) (fun k hk => hd _ ((h3 _).2 (.inr (.inr hk)))), h1.holds, h1.neat, h1.heap, h1.kept, h1.root, h1.wide⟩, h2, h3⟩
theorem IsWheel.lt (h : IsWheel S w p now L m) {k : Nat} (hk : S k) : k < w.heap.size := by
  obtain ⟨v, mb, H, f, h1, h2, h3⟩ := h
  rcases (h3 k).1 hk with rfl | rfl | h
  · exact h1.wheel.wha.head.lt
  · exact h1.wheel.map.lt
  · exact h1.wheel.wha.hp.lt h
theorem IsWheel.neat (h : IsWheel S w p now L m) : Neat L := by obtain ⟨v, mb, H, f, h1, h2, h3⟩ := h; exact h1.neat
theorem IsWheel.wide (h : IsWheel S w p now L m) : ∀ d ∈ L, W64 d.1 := by obtain ⟨v, mb, H, f, h1, h2, h3⟩ := h; exact fun d hd => h1.wide d (h1.kept d hd)
/-- The same wheel, and blocks that are new at most. -/
abbrev Grown (w : World) (S S' : Nat → Prop) : Prop := ∀ k, S' k → S k ∨ w.heap.size ≤ k

theorem isw_new (w : World) : Calls Try.prog 10 #[] w fun e w' => ∃ p S, e = .returned (.pointer (some ⟨p, 0, none⟩)) ∧ IsWheel S w' p 0 [] 0 ∧ (∀ k, S k → w.heap.size ≤ k) ∧ Fr Nothing w w' := by
  refine (wheel_new w).mono ?_
  rintro e w' ⟨p, mb, rfl, h, h1, h2, F⟩
  refine ⟨p, _, rfl, ⟨_, mb, [], _, ⟨h, fun i a => by simp, ⟨List.Pairwise.nil, List.nodup_nil⟩, fun c _ hc => by simp at hc, by simp, .inl rfl, by simp⟩, Nat.le_refl _, fun k => Iff.rfl⟩, fun k hk => ?_, F⟩
  rcases hk with rfl | rfl | hk
  · exact h1
  · exact h2
  · simp [InBlock, Value.ownBlock] at hk
theorem isw_len (h : IsWheel S w p now L m) : Calls Try.prog 15 #[.pointer (some ⟨p, 0, none⟩)] w fun e w' => e = .returned (.int .i64 L.length) ∧ w = w' := by
  obtain ⟨v, mb, H, f, h1, h2, h3⟩ := h
  exact wheel_len h1.wheel
theorem isw_now (h : IsWheel S w p now L m) : Calls Try.prog 22 #[.pointer (some ⟨p, 0, none⟩)] w fun e w' => e = .returned (.int .i64 now) ∧ w = w' := by
  obtain ⟨v, mb, H, f, h1, h2, h3⟩ := h
  exact wheel_now h1.wheel
/-- When a number is due, in a list. -/
def atL (L : List Due) (id : Int) : Option Int := (L.find? (fun x => decide (x.1 = id))).map (·.2)
theorem atL_eq {f : Int → Option Int} (h : Holds f L) (id : Int) : f id = atL L id := by
  unfold atL
  cases hf : L.find? (fun x => decide (x.1 = id)) with
  | none =>
    cases hg : f id with
    | none => rfl
    | some a =>
      have := List.find?_eq_none.1 hf _ ((h id a).1 hg)
      simp at this
  | some x =>
    have h1 := List.find?_some hf
    have h2 := List.mem_of_find?_eq_some hf
    have e : x.1 = id := by simpa using h1
    have := (h x.1 x.2).2 h2
    rw [e] at this
    exact this
theorem isw_at (h : IsWheel S w p now L m) (k : Int) (hk : W64 k) : Calls Try.prog 23 #[.pointer (some ⟨p, 0, none⟩), .int .i64 k] w fun e w' => e = .returned (.tuple #[.int .i64 ((atL L k).getD 0), .bool (atL L k).isSome]) ∧ w = w' := by
  obtain ⟨v, mb, H, f, h1, h2, h3⟩ := h
  rw [← atL_eq h1.holds k]
  exact wheel_at h1.wheel k hk
theorem isw_next (h : IsWheel S w p now L m) : Calls Try.prog 21 #[.pointer (some ⟨p, 0, none⟩)] w fun e w' => e = .returned (.tuple #[.int .i64 (if L = [] then 0 else (gd L 0).2), .bool (decide (L ≠ []))]) ∧ w = w' := by
  obtain ⟨v, mb, H, f, h1, h2, h3⟩ := h
  have key : (H = [] ↔ L = []) ∧ (L ≠ [] → gd L 0 = gd H 0) := by
    have k1 : H = [] → L = [] := fun e => List.eq_nil_iff_forall_not_mem.2 (fun d hd => by have := h1.kept d hd; rw [e] at this; simp at this)
    have k2 : L = [] → H = [] := fun e => by
      rcases h1.root with h | h
      · exact h
      · have := (h1.holds _ _).1 h; rw [e] at this; simp at this
    refine ⟨⟨k1, k2⟩, fun hne => ?_⟩
    rcases h1.root with h | h
    · exact (hne (k1 h)).elim
    · obtain ⟨R, e⟩ := head_of_min h1.neat.asc ((h1.holds _ _).1 h) (fun x hx => heap_min h1.heap (h1.kept x hx))
      rw [e]; rfl
  have := wheel_next h1.wheel
  by_cases e : L = []
  · have e' := key.1.2 e
    simpa only [e, e', if_true] using this
  · have e' : ¬ H = [] := fun h => e (key.1.1 h)
    simp only [e, if_false]
    simp only [e', if_false] at this
    rw [key.2 e]
    simpa [e, e'] using this
theorem isw_set {id t : Int} (h : IsWheel S w p now L m) (hid : W64 id) (h1 : now < t) (h2 : t ≤ 1099511627776) (hn : L.length ≤ 256) (h3 : id ∈ L.map Prod.fst ∨ L.length < 256) (hm : m < 4000) :
    Calls Try.prog 12 #[.pointer (some ⟨p, 0, none⟩), .int .i64 id, .int .i64 t] w fun e w' => e = .returned (.int .i64 0) ∧ ∃ S', IsWheel S' w' p now (setL L id t) (m + 1) ∧ Grown w S S' ∧ Fr S w w' := by
  obtain ⟨v, mb, H, f, g, g2, g3⟩ := h
  have hs := g.holds.some_iff id
  refine (wheel_set g.wheel g.heap (by omega) g.wide id t hid h1 h2 hn (fun hf => by
    rw [hf] at hs
    rcases h3 with h | h
    · simp [h] at hs
    · exact h)).mono ?_
  rintro e w' ⟨rfl, H', v', R⟩
  have hlen : (if (f id).isSome then L.length else L.length + 1) = (setL L id t).length := by
    rw [set_len g.neat, hs]
    by_cases h : id ∈ L.map Prod.fst <;> simp [h]
  have R1 := R.wheel
  rw [hlen] at R1
  have hH1 : ∀ d, d ∈ (if f id = some t then H else H ++ [(id, t)]) → d ∈ H ∨ d = (id, t) := fun d hd => by
    split at hd
    · exact .inl hd
    · rcases List.mem_append.1 hd with h | h
      · exact .inl h
      · exact .inr (by simpa using h)
  have hle : (if f id = some t then H else H ++ [(id, t)]).length ≤ m + 1 := by
    split
    · omega
    · rw [List.length_append, List.length_singleton]; omega
  refine ⟨rfl, fun k => k = p ∨ k = mb ∨ InBlock v' k, ⟨v', mb, H', _, ⟨R1, g.holds.upd id t, g.neat.set id t, R.heap, fun d hd => ?_, R.root, fun d hd => ?_⟩, Nat.le_trans R.le hle, fun k => Iff.rfl⟩, fun k hk => ?_, R.fr.mono (fun k _ h => (g3 k).2 h)⟩
  · refine R.kept d ?_ ((g.holds.upd id t d.1 d.2).2 hd)
    rcases mem_ins.1 hd with rfl | h
    · split
      · rename_i h; exact g.kept _ ((g.holds _ _).1 h)
      · simp
    · have := g.kept d (mem_less.1 h).1
      split
      · exact this
      · exact List.mem_append_left _ this
  · rcases hH1 d (R.sub d hd) with h | rfl
    · exact g.wide d h
    · exact hid
  · rcases hk with rfl | rfl | hk
    · exact .inl ((g3 _).2 (.inl rfl))
    · exact .inl ((g3 _).2 (.inr (.inl rfl)))
    · rcases R.new k hk with h | h
      · exact .inl ((g3 _).2 (.inr (.inr h)))
      · exact .inr h
theorem isw_set_range {id t : Int} (h : IsWheel S w p now L m) (hr : t ≤ now ∨ 1099511627776 < t) :
    Calls Try.prog 12 #[.pointer (some ⟨p, 0, none⟩), .int .i64 id, .int .i64 t] w fun e w' => e = .returned (.int .i64 10) ∧ w = w' := by
  obtain ⟨v, mb, H, f, g, g2, g3⟩ := h
  exact wheel_set_range g.wheel id t hr
theorem isw_set_full {id t : Int} (h : IsWheel S w p now L m) (hid : W64 id) (h1 : now < t) (h2 : t ≤ 1099511627776) (hn : L.length = 256) (h3 : id ∉ L.map Prod.fst) :
    Calls Try.prog 12 #[.pointer (some ⟨p, 0, none⟩), .int .i64 id, .int .i64 t] w fun e w' => e = .returned (.int .i64 9) ∧ w = w' := by
  obtain ⟨v, mb, H, f, g, g2, g3⟩ := h
  have hs := g.holds.some_iff id
  have g4 := g.wheel
  rw [hn] at g4
  refine wheel_set_full g4 id t hid h1 h2 ?_
  simp only [h3, decide_false] at hs
  simpa using hs
theorem isw_drop {id : Int} (h : IsWheel S w p now L m) (hid : W64 id) (hm : m < 4000) :
    Calls Try.prog 18 #[.pointer (some ⟨p, 0, none⟩), .int .i64 id] w fun e w' => e = .returned (.bool (decide (id ∈ L.map Prod.fst))) ∧ ∃ S', IsWheel S' w' p now (less L id) m ∧ Grown w S S' ∧ Fr S w w' := by
  obtain ⟨v, mb, H, f, g, g2, g3⟩ := h
  have hs := g.holds.some_iff id
  rw [← hs]
  refine (wheel_drop g.wheel g.heap (by omega) g.wide id hid).mono ?_
  rintro e w' ⟨rfl, H', v', R⟩
  have hlen : (if (f id).isSome then L.length - 1 else L.length) = (less L id).length := by
    have := less_len g.neat.ids id
    rw [hs]
    by_cases h : id ∈ L.map Prod.fst
    · rw [if_pos h] at this; simp [h]; omega
    · rw [if_neg h] at this; simp [h]; omega
  have R1 := R.wheel
  rw [hlen] at R1
  refine ⟨rfl, fun k => k = p ∨ k = mb ∨ InBlock v' k, ⟨v', mb, H', _, ⟨R1, g.holds.strike id, g.neat.less id, R.heap, fun d hd => R.kept d (g.kept d (mem_less.1 hd).1) ((g.holds.strike id d.1 d.2).2 hd), R.root, fun d hd => g.wide d (R.sub d hd)⟩, Nat.le_trans R.le g2, fun k => Iff.rfl⟩, fun k hk => ?_, R.fr.mono (fun k _ h => (g3 k).2 h)⟩
  rcases hk with rfl | rfl | hk
  · exact .inl ((g3 _).2 (.inl rfl))
  · exact .inl ((g3 _).2 (.inr (.inl rfl)))
  · rcases R.new k hk with h | h
    · exact .inl ((g3 _).2 (.inr (.inr h)))
    · exact .inr h
theorem isw_go {t : Int} (h : IsWheel S w p now L m) (h1 : now ≤ t) (h2 : t ≤ 1099511627776) (hm : m < 4000) :
    Calls Try.prog 13 #[.pointer (some ⟨p, 0, none⟩), .int .i64 t] w fun e w' => ∃ lv S', e = .returned (.tuple #[lv, .int .i64 0]) ∧ IsWheel S' w' p t (L.filter (fun d => decide (t < d.2))) m ∧ Grown w S S' ∧
      Owns w' 3 1 lv (L.filter (fun d => decide (d.2 ≤ t))).length (ints (L.filter (fun d => decide (d.2 ≤ t)))) ∧ (∀ k, InBlock lv k → w.heap.size ≤ k ∧ ¬ S' k) ∧ Fr S w w' := by
  obtain ⟨v, mb, H, f, g, g2, g3⟩ := h
  refine (wheel_go g.wheel g.heap (by omega) g.wide g.holds g.neat.asc g.neat.ids g.kept t h1 h2).mono ?_
  rintro e w' ⟨lv, rfl, H', v', L', D, f', G, hlate, hroot⟩
  obtain ⟨e1, e2⟩ := split_early G.split G.early hlate
  rw [← e1, ← e2]
  have hN : Neat L' := by rw [e2]; exact g.neat.late t
  refine ⟨lv, fun k => k = p ∨ k = mb ∨ InBlock v' k, rfl, ⟨v', mb, H', f', ⟨G.wheel, G.holds, hN, G.heap, G.kept, hroot, fun d hd => g.wide d (G.sub d hd)⟩, Nat.le_trans G.le g2, fun k => Iff.rfl⟩, fun k hk => ?_, G.own, fun k hk => ⟨G.fresh k hk, fun hs => ?_⟩, G.fr.mono (fun k _ h => (g3 k).2 h)⟩
  · rcases hk with rfl | rfl | hk
    · exact .inl ((g3 _).2 (.inl rfl))
    · exact .inl ((g3 _).2 (.inr (.inl rfl)))
    · exact .inl ((g3 _).2 (.inr (.inr (G.old k hk))))
  · rcases hs with rfl | rfl | hs
    · exact G.apart.1 hk
    · exact G.apart.2.1 hk
    · exact G.apart.2.2 k hs hk
end
end Go.Proofs.Ytgfphbehecpgpaa
