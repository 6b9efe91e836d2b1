/- One wheel that is asked step by step, and what has come so far. No condition. -/
import Derived.Test.YtgfphbehecpgpaaWayR
namespace Go.Proofs.Ytgfphbehecpgpaa
open Go.RowKit
structure One (S : Nat → Prop) (p : Nat) (w0 wr : World) (now : Int) (L : List Due) (m : Nat) : Prop where
  a : IsWheel S wr p now L m
  new : ∀ k, S k → w0.heap.size ≤ k
  fr : Fr (FromB w0.heap.size) w0 wr
section
variable {S S' : Nat → Prop} {p m m' : Nat} {w0 w wr w' w2 : World} {now n' t : Int} {L L' L0 A D : List Due} {sv lv v7 : Value}
theorem One.quiet (h : One S p w0 wr now L m) (F : Fr Nothing wr w') : One S p w0 w' now L m := ⟨h.a.fr F (fun _ _ h => h), h.new, h.fr.trans' F.fromN⟩
theorem One.more (h : One S p w0 wr now L m) (hm : m ≤ m') : One S p w0 wr now L m' := ⟨h.a.more hm, h.new, h.fr⟩
theorem One.beside {T : Nat → Prop} (h : One S p w0 wr now L m) (F : Fr T wr w') (h1 : ∀ k, T k → w0.heap.size ≤ k ∧ ¬ S k) : One S p w0 w' now L m :=
  ⟨h.a.fr F (fun k hk ht => (h1 k ht).2 hk), h.new, h.fr.trans' (F.from_ (fun k hk => (h1 k hk).1))⟩
theorem One.step (h : One S p w0 wr now L m) (K : IsWheel S' w' p n' L' m') (g : Grown wr S S') (F : Fr S wr w') : One S' p w0 w' n' L' m' := by
  refine ⟨K, fun k hk => ?_, h.fr.trans' (F.from_ h.new)⟩
  rcases g k hk with h1 | h1
  · exact h.new k h1
  · exact Nat.le_trans h.fr.size h1
/-- Between two Go. A: what came; L: what is still due. -/
structure OnceAt (w wr : World) (S : Nat → Prop) (p : Nat) (now : Int) (L0 A L : List Due) (sv : Value) (m : Nat) : Prop where
  one : One S p w wr now L m
  cut : A ++ L = L0
  own : Owns wr 3 1 sv A.length (ints A)
  ownA : ∀ k, InBlock sv k → w.heap.size ≤ k ∧ ¬ S k
/-- Behind a Go, k of what came told. -/
structure OnceIn (w wr : World) (S : Nat → Prop) (p : Nat) (t : Int) (A D L : List Due) (sv lv : Value) (m k : Nat) : Prop where
  one : One S p w wr t L m
  own : Owns wr 3 1 sv (A ++ D.take k).length (ints (A ++ D.take k))
  ownA : ∀ b, InBlock sv b → w.heap.size ≤ b ∧ ¬ S b ∧ ¬ InBlock lv b
  l : Owns wr 3 1 lv D.length (ints D)
  lA : ∀ b, InBlock lv b → w.heap.size ≤ b ∧ ¬ S b
theorem once_go (h : OnceAt w wr S p now L0 A L sv m) (hm : m < 4000) (h1 : now ≤ t) (h2 : t ≤ 1099511627776) :
    Calls Try.prog 13 #[.pointer (some ⟨p, 0, none⟩), .int .i64 t] wr fun ee w' => ∃ a1 c1 S', ee = .returned (.tuple #[.slice a1 (upTo L t).length c1, .int .i64 0]) ∧ OnceIn w w' S' p t A (upTo L t) (past L t) sv (.slice a1 (upTo L t).length c1) m 0 := by
  refine (isw_go (t := t) h.one.a h1 h2 hm).mono ?_
  rintro ee w' ⟨mv, S', rfl, K, g, o, ap, f⟩
  obtain ⟨a1, c1, rfl, _, _⟩ := o.shape
  refine ⟨a1, c1, S', rfl, ⟨h.one.step K g f, ?_, fun k hk => ⟨(h.ownA k hk).1, fun hs => ?_, fun hl => ?_⟩, o, fun k hk => ⟨Nat.le_trans h.one.fr.size (ap k hk).1, (ap k hk).2⟩⟩⟩
  · rw [List.take_zero, List.append_nil]
    exact h.own.fr f (fun k hk hs => (h.ownA k hk).2 hs)
  · rcases g k hs with h3 | h3
    · exact (h.ownA k hk).2 h3
    · have := h.own.lt hk; omega
  · have := h.own.lt hk; have := (ap k hl).1; omega
theorem OnceIn.quiet {k : Nat} (h : OnceIn w wr S p t A D L sv lv m k) (F : Fr Nothing wr w') : OnceIn w w' S p t A D L sv lv m k :=
  ⟨h.one.quiet F, h.own.fr F (fun _ _ h => h), h.ownA, h.l.fr F (fun _ _ h => h), h.lA⟩
/-- One more is told. -/
theorem OnceIn.put {k : Nat} {x : Due} (h : OnceIn w wr S p t A D L sv lv m k) (hk : D[k]? = some x) (F : Fr Nothing wr w') (o : Owns w2 3 1 v7 ((A ++ D.take k).length + 1) (ints (A ++ D.take k) ++ [.int .i64 x.1])) (f : Fr (InBlock sv) w' w2) (nn : NewOr w' sv v7) :
    OnceIn w w2 S p t A D L v7 lv m (k + 1) := by
  have h := h.quiet F
  have e : A ++ D.take (k + 1) = (A ++ D.take k) ++ [x] := by
    rw [List.append_assoc, List.take_add_one, hk]; rfl
  refine ⟨h.one.beside f (fun b hb => ⟨(h.ownA b hb).1, (h.ownA b hb).2.1⟩), ?_, fun b hb => ?_, h.l.fr f (fun b hb hs => (h.ownA b hs).2.2 hb), h.lA⟩
  · rw [e, List.length_append, List.length_singleton]
    have e2 : ints ((A ++ D.take k) ++ [x]) = ints (A ++ D.take k) ++ [.int .i64 x.1] := by simp [ints]
    rw [e2]
    exact o
  · rcases nn b hb with h4 | h4
    · exact h.ownA b h4
    · exact ⟨Nat.le_trans h.one.fr.size h4, fun hs => by have := h.one.a.lt hs; omega, fun hs => by have := h.l.lt hs; omega⟩
/-- All of it is told. -/
theorem OnceIn.done (h : OnceIn w wr S p t A (upTo L t) (past L t) sv lv m (upTo L t).length) (hc : A ++ L = L0) (hL : L.Pairwise dless) : OnceAt w wr S p t L0 (A ++ upTo L t) (past L t) sv m := by
  have h1 := h.own
  rw [List.take_length] at h1
  refine ⟨h.one, ?_, h1, fun b hb => ⟨(h.ownA b hb).1, (h.ownA b hb).2.1⟩⟩
  rw [List.append_assoc, ← cut_at hL t]
  exact hc
/-- What Next tells. -/
def nextT (L : List Due) : Int := if L = [] then 0 else (gd L 0).2
def hasL (L : List Due) : Bool := decide (L ≠ [])
theorem once_next (h : IsWheel S w p now L m) : Calls Try.prog 21 #[.pointer (some ⟨p, 0, none⟩)] w fun e w' => e = .returned (.tuple #[.int .i64 (nextT L), .bool (hasL L)]) ∧ w = w' := isw_next h
theorem once_at {x : Due} (h : IsWheel S w p now L m) (hk : W64 x.1) (hn : atL L x.1 = none) : Calls Try.prog 23 #[.pointer (some ⟨p, 0, none⟩), .int .i64 x.1] w fun e w' => e = .returned (.tuple #[.int .i64 0, .bool false]) ∧ w = w' := by
  have := isw_at h x.1 hk
  rw [hn] at this
  exact this
theorem Owns.cell_ {w : World} {e : TypeId} {a : Option Addr} {n m c k : Nat} {xs : List Value} {u : Value} (h : Owns w e 1 (.slice a m c) n xs) (hk : xs[k]? = some u) : ∃ b o, a = some ⟨b, o, none⟩ ∧ w.cell? ⟨b, o + k, none⟩ = some u := h.sl.2.oneCell hk
/-- Whether something comes: whether the first is due. -/
theorem comes {L : List Due} (h : L.Pairwise dless) (t : Int) : (0 < (upTo L t).length) ↔ L ≠ [] ∧ (gd L 0).2 ≤ t := by
  cases L with
  | nil => simp [upTo]
  | cons x R =>
    have hx : gd (x :: R) 0 = x := rfl
    rw [hx, List.length_pos_iff]
    constructor
    · intro h1
      refine ⟨by simp, ?_⟩
      obtain ⟨y, hy⟩ := List.exists_mem_of_ne_nil _ h1
      have h2 := List.mem_filter.1 hy
      have h3 : y.2 ≤ t := by simpa using h2.2
      rcases List.mem_cons.1 h2.1 with rfl | h4
      · exact h3
      · have := (List.pairwise_cons.1 h).1 y h4
        unfold dless at this
        omega
    · rintro ⟨_, h1⟩
      exact List.ne_nil_of_mem (List.mem_filter.2 ⟨List.mem_cons_self, by simpa using h1⟩)
/-- What comes now has not come, and is not due any more. -/
theorem fresh_id {x : Due} {k j : Nat} (h : ((A ++ L).map Prod.fst).Nodup) (hL : L.Pairwise dless) (hk : (upTo L t)[k]? = some x) (hj : j < (A ++ (upTo L t).take k).length) : ((A ++ (upTo L t).take k)[j]).1 ≠ x.1 := by
  rw [cut_at hL t, ← List.append_assoc] at h
  have hlt := (List.getElem?_eq_some_iff.1 hk).1
  have e : (A ++ upTo L t) = (A ++ (upTo L t).take k) ++ (upTo L t).drop k := by rw [List.append_assoc, List.take_append_drop]
  rw [e, List.append_assoc, List.map_append, List.nodup_append] at h
  refine h.2.2 _ (List.mem_map_of_mem (List.getElem_mem hj)) _ (List.mem_map_of_mem (List.mem_append_left _ ?_))
  have : ((upTo L t).drop k)[0]? = some x := by rw [List.getElem?_drop]; exact hk
  exact List.mem_of_getElem? this
theorem gone_id {x : Due} {k : Nat} (h : ((A ++ L).map Prod.fst).Nodup) (hL : L.Pairwise dless) (hk : (upTo L t)[k]? = some x) : atL (past L t) x.1 = none := by
  unfold atL
  rw [Option.map_eq_none_iff, List.find?_eq_none]
  intro y hy hc
  have e : y.1 = x.1 := by simpa using hc
  rw [cut_at hL t, List.map_append, List.map_append, List.nodup_append] at h
  have h2 := h.2.1
  rw [List.nodup_append] at h2
  exact h2.2.2 _ (List.mem_map_of_mem (List.mem_of_getElem? hk)) _ (List.mem_map_of_mem hy) e.symm
end
end Go.Proofs.Ytgfphbehecpgpaa
