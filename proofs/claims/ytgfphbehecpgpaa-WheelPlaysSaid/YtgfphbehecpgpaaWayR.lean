/- Two wheels that are on the same way, one asked at once, the other in steps. No condition. -/
import Derived.Test.YtgfphbehecpgpaaWayQ
import Derived.Test.YtgfphbehecpgpaaAppendR
namespace Go.Proofs.Ytgfphbehecpgpaa
open Go.RowKit
theorem wpList_append_fpw {P : Program} {w : World} {ops : Array Oper} {rest : List Oper} {o : Oper} {a : Act} {Q : Exit → Act → World → Prop} (hw : Region.wanted o (yielded ops a.tmps) = true) (s x : Operand) (t : TypeId)
    (ho : o.op = .call { callee := .builtin .append, args := #[s, x], argTypes := #[t, t] })
    (e : TypeId) (i : TypeInfo) (z : Value) (size bytes : Nat) (ht : P.underlying t = some (.slice e)) (hi : P.info? e = some i) (hz : i.zero = some z)
    (hsize : i.size = size) (hby : i.bytes = bytes) (hzs : z.cells.size = size) (hsz : 0 < size)
    (v : Value) (n : Nat) (xs : List Value) (hs : a.eval s = v) (hown : Owns w e size v n xs)
    (sa : Option Addr) (m c : Nat) (news : List Value) (hx : a.eval x = .slice sa m c) (hl : news.length = m * size) (hnone : sa = none → m = 0 ∧ c = 0) (hsl : Sl w sa news) (h1 : ∀ u ∈ news, u.oneCell' = true)
    (h63 : n + m ≤ maxLen) (hbytes : (n + m) * bytes ≤ 140737488355328)
    (h : ∀ v' w', Owns w' e size v' (n + m) (xs ++ news) → Fr (InBlock v) w w' → NewOr w v v' → w.heap.size ≤ w'.heap.size → (v' = .slice none 0 0 ↔ v = .slice none 0 0 ∧ m = 0) → wpList P ops Q rest (a.put o.dst v') w') : wpList P ops Q (o :: rest) a w :=
  wpList_step fun K' hK => by
    rw [if_pos hw]
    exact wp_append_fp s x t ho e i z size bytes ht hi hz hsize hby hzs hsz v n xs hs hown sa m c news hx hl hnone hsl h1 h63 hbytes fun v' w' h2 h3 h4 h5 h6 => hK _ _ (h v' w' h2 h3 h4 h5 h6)

theorem Owns.none_nil {w : World} {e : TypeId} {size n c m : Nat} {xs : List Value} (h : Owns w e size (.slice none m c) n xs) : m = 0 ∧ c = 0 := by
  rcases h.2 with ⟨h1, _⟩ | ⟨g, cap, cur, h1, _⟩
  · simp only [Value.slice.injEq] at h1; exact h1.2
  · simp at h1
theorem ints_one (D : List Due) : ∀ u ∈ ints D, u.oneCell' = true := by
  intro u hu
  obtain ⟨d, _, rfl⟩ := List.mem_map.1 hu
  rfl
structure WayAt (w wr : World) (Sa Sb : Nat → Prop) (p q : Nat) (e nb : Int) (L Lb C : List Due) (al lv : Value) (m : Nat) : Prop where
  two : Two Sa Sb p q w wr e nb (past L e) Lb m m
  le : nb ≤ e
  came : C ++ upTo Lb e = upTo L e
  left : past Lb e = past L e
  own : Owns wr 3 1 lv C.length (ints C)
  ownA : ∀ k, InBlock lv k → w.heap.size ≤ k ∧ ¬ Sa k ∧ ¬ Sb k
  all : Owns wr 3 1 al (upTo L e).length (ints (upTo L e))
  allA : ∀ k, InBlock al k → w.heap.size ≤ k ∧ ¬ Sa k ∧ ¬ Sb k ∧ ¬ InBlock lv k
/-- Behind one more Go of the second wheel. -/
structure WayGo (w w' : World) (Sa Sb : Nat → Prop) (p q : Nat) (e nb t : Int) (L Lb C : List Due) (al lv mv : Value) (m : Nat) : Prop where
  two : Two Sa Sb p q w w' e (goNow nb t) (past L e) (goLeft Lb nb t) m m
  own : Owns w' 3 1 lv C.length (ints C)
  ownA : ∀ k, InBlock lv k → w.heap.size ≤ k ∧ ¬ Sa k ∧ ¬ Sb k
  all : Owns w' 3 1 al (upTo L e).length (ints (upTo L e))
  allA : ∀ k, InBlock al k → w.heap.size ≤ k ∧ ¬ Sa k ∧ ¬ Sb k ∧ ¬ InBlock lv k
  more : Owns w' 3 1 mv (goCame Lb nb t).length (ints (goCame Lb nb t))
  moreA : ∀ k, InBlock mv k → w.heap.size ≤ k ∧ ¬ InBlock al k
  ok : t ≤ e ∨ goErr nb t ≠ 0 → goNow nb t ≤ e ∧ (C ++ goCame Lb nb t) ++ upTo (goLeft Lb nb t) e = upTo L e ∧ past (goLeft Lb nb t) e = past L e
section
variable {w wr w' w2 : World} {Sa Sb : Nat → Prop} {p q m : Nat} {e nb t : Int} {L Lb C : List Due} {al lv mv v7 : Value}
theorem way_go (h : WayAt w wr Sa Sb p q e nb L Lb C al lv m) (hm : m < 4000) :
    Calls Try.prog 13 #[.pointer (some ⟨q, 0, none⟩), .int .i64 t] wr fun ee w' => ∃ a1 c1 S', ee = .returned (.tuple #[.slice a1 (goCame Lb nb t).length c1, .int .i64 (goErr nb t)]) ∧ WayGo w w' Sa S' p q e nb t L Lb C al lv (.slice a1 (goCame Lb nb t).length c1) m := by
  refine (isw_go_any (t := t) h.two.b hm).mono ?_
  rintro ee w' ⟨mv, S', rfl, K, g, o, ap, f⟩
  obtain ⟨a1, c1, rfl, _, _⟩ := o.shape
  refine ⟨a1, c1, S', rfl, ⟨h.two.stepB K g f, h.own.fr f (fun k hk hs => (h.ownA k hk).2.2 hs), fun k hk => ⟨(h.ownA k hk).1, (h.ownA k hk).2.1, fun hs => ?_⟩, h.all.fr f (fun k hk hs => (h.allA k hk).2.2.1 hs), fun k hk => ⟨(h.allA k hk).1, (h.allA k hk).2.1, fun hs => ?_, (h.allA k hk).2.2.2⟩, o, fun k hk => ⟨Nat.le_trans h.two.fr.size (ap k hk).1, fun ha => ?_⟩, fun ht => ?_⟩⟩
  · rcases g k hs with h1 | h1
    · exact (h.ownA k hk).2.2 h1
    · have := h.own.lt hk; omega
  · rcases g k hs with h1 | h1
    · exact (h.allA k hk).2.2.1 h1
    · have := h.all.lt hk; omega
  · have := h.all.lt ha; have := (ap k hk).1; omega
  · by_cases hb : goBad nb t
    · simp only [goNow, goCame, goLeft, if_pos hb, List.append_nil]
      exact ⟨h.le, h.came, h.left⟩
    · have ht2 : t ≤ e := by
        rcases ht with h1 | h1
        · exact h1
        · simp [goErr, if_neg hb] at h1
      simp only [goNow, goCame, goLeft, if_neg hb]
      refine ⟨ht2, ?_, ?_⟩
      · have h2 := two_steps h.two.b.neat.asc ht2
        have h3 := h.came
        rw [← h2] at h3
        rw [List.append_assoc]
        exact h3
      · rw [← h.left]
        exact past_past ht2
theorem cut_len {L : List Due} (h : L.Pairwise dless) (e : Int) : (upTo L e).length + (past L e).length = L.length := by
  have := congrArg List.length (cut_at h e)
  rw [List.length_append] at this
  exact this.symm
theorem came_le (L : List Due) (n t : Int) : (goCame L n t).length ≤ L.length := by
  unfold goCame
  split
  · exact Nat.zero_le _
  · exact List.length_filter_le _ _
theorem way_len (h : WayAt w wr Sa Sb p q e nb L Lb C al lv m) (hL : L.Pairwise dless) : C.length + Lb.length = L.length := by
  have h1 := congrArg List.length h.came
  rw [List.length_append] at h1
  have h2 := cut_len hL e
  have h3 := cut_len h.two.b.neat.asc e
  rw [h.left] at h3
  omega
theorem way_last (h : WayAt w wr Sa Sb p q e nb L Lb C al lv m) (he : e ≤ 1099511627776) : goErr nb e = 0 ∧ C ++ goCame Lb nb e = upTo L e ∧ goLeft Lb nb e = past L e := by
  have hb : ¬ goBad nb e := by have := h.le; unfold goBad; omega
  simp only [goErr, goCame, goLeft, if_neg hb]
  exact ⟨trivial, h.came, h.left⟩
theorem WayGo.quiet (h : WayGo w wr Sa Sb p q e nb t L Lb C al lv mv m) (F : Fr Nothing wr w') : WayGo w w' Sa Sb p q e nb t L Lb C al lv mv m :=
  ⟨h.two.quiet F, h.own.fr F (fun _ _ h => h), h.ownA, h.all.fr F (fun _ _ h => h), h.allA, h.more.fr F (fun _ _ h => h), h.moreA, h.ok⟩
/-- What came is put behind what had come. -/
theorem WayGo.put (h : WayGo w wr Sa Sb p q e nb t L Lb C al lv mv m) (ht : t ≤ e ∨ goErr nb t ≠ 0) (o : Owns w2 3 1 v7 (C.length + (goCame Lb nb t).length) (ints C ++ ints (goCame Lb nb t))) (f : Fr (InBlock lv) wr w2) (nn : NewOr wr lv v7) :
    WayAt w w2 Sa Sb p q e (goNow nb t) L (goLeft Lb nb t) (C ++ goCame Lb nb t) al v7 m := by
  obtain ⟨h1, h2, h3⟩ := h.ok ht
  refine ⟨h.two.beside f (fun k hk => h.ownA k hk), h1, h2, h3, ?_, fun k hk => ?_, h.all.fr f (fun k hk hs => (h.allA k hk).2.2.2 hs), fun k hk => ⟨(h.allA k hk).1, (h.allA k hk).2.1, (h.allA k hk).2.2.1, fun hs => ?_⟩⟩
  · simpa [ints] using o
  · rcases nn k hk with h4 | h4
    · exact h.ownA k h4
    · exact ⟨Nat.le_trans h.two.fr.size h4, fun hs => by have := h.two.a.lt hs; omega, fun hs => by have := h.two.b.lt hs; omega⟩
  · rcases nn k hs with h4 | h4
    · exact (h.allA k hk).2.2.2 h4
    · have := h.all.lt hk; omega
theorem ints_nums (D : List Due) : ints D = nums (D.map Prod.fst) := by simp [ints, nums]
theorem way_same (h : WayAt w wr Sa Sb p q e nb L Lb C al lv m) (hC : C = upTo L e) (hL : L.length ≤ 256) :
    Calls Try.prog 14 #[lv, al] wr fun ee w' => ee = .returned (.bool true) ∧ ∃ m, w' = wr.drewN m := by
  have h1 := h.own
  have h2 := h.all
  rw [← hC] at h2
  obtain ⟨a1, c1, rfl, _, _⟩ := h1.shape
  obtain ⟨a2, c2, rfl, _, _⟩ := h2.shape
  have s1 := h1.sl.2
  have s2 := h2.sl.2
  rw [ints_nums] at s1 s2
  have hl : C.length ≤ 256 := by rw [hC]; exact Nat.le_trans (List.length_filter_le _ _) hL
  have := same_ints a1 a2 (C.map Prod.fst) c1 c2 wr s1 s2 (by rw [List.length_map]; unfold maxLen; omega)
  rw [List.length_map] at this
  exact this
end
end Go.Proofs.Ytgfphbehecpgpaa
