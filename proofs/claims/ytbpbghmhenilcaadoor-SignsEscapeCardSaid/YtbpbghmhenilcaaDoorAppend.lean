/- append to a slice of the call's own: what it gives, and in which blocks. Condition: the bounds that Go's own run time sets. -/
import Derived.Test.YtbpbghmhenilcaaDoorBase
namespace Go.Proofs.YtbpbghmhenilcaaDoor
open Go.RowKit

/-- The slice v of n elements of type e, of so many cells each, reads as xs, and may be appended to. -/
abbrev Owns (w : World) (e : TypeId) (size : Nat) (v : Value) (n : Nat) (xs : List Value) : Prop := w.ownsRow 0 e size v n xs

/-- The block of a slice's cells. -/
def InBlock (v : Value) : Nat → Prop := fun k => v.ownBlock = some k

/-- v' lies where v lay, or in new memory. -/
def NewOr (w : World) (v v' : Value) : Prop := ∀ k, v'.ownBlock = some k → v.ownBlock = some k ∨ (w.heap.size ≤ k)

section
variable {P : Program} {w w' : World} {e : TypeId} {size n : Nat} {v : Value} {xs : List Value}

theorem Owns.nil (w : World) (e : TypeId) (size : Nat) : Owns w e size (.slice none 0 0) 0 [] := World.ownsRow_nil w 0 e size
theorem Owns.fr {S : Nat → Prop} (h : Owns w e size v n xs) (F : Fr S w w') (hn : ∀ k, v.ownBlock = some k → ¬ S k) : Owns w' e size v n xs := by
  refine ⟨h.1, ?_⟩
  rcases h.2 with h0 | ⟨g, cap, cur, rfl, hb, hg, r⟩
  · exact .inl h0
  · exact .inr ⟨g, cap, cur, rfl, hb, F.same hg (hn g rfl), r⟩
theorem Owns.lt (h : Owns w e size v n xs) {k : Nat} (hk : v.ownBlock = some k) : k < w.heap.size := (World.ownsRow.lt h k hk).2
theorem Owns.shape (h : Owns w e size v n xs) : ∃ a c, v = .slice a n c ∧ n ≤ c ∧ c ≤ maxLen := by
  rcases h.2 with ⟨rfl, rfl⟩ | ⟨g, cap, cur, rfl, hb, hg, hn, hm, r⟩
  · exact ⟨_, _, rfl, Nat.le_refl _, Nat.zero_le _⟩
  · exact ⟨_, _, rfl, hn, hm⟩
theorem Owns.sl {a : Option Addr} {m c : Nat} (h : Owns w e size (.slice a m c) n xs) : m = n ∧ Sl w a xs := by
  rcases h.2 with ⟨h1, rfl⟩ | ⟨g, cap, cur, h1, hb, hg, hn, hm, hs, ht⟩
  · have hx : xs = [] := List.eq_nil_of_length_eq_zero (by simpa using h.1)
    simp only [Value.slice.injEq] at h1
    exact ⟨h1.2.1, .inl hx⟩
  · simp only [Value.slice.injEq] at h1
    obtain ⟨rfl, rfl, rfl⟩ := h1
    refine ⟨rfl, .inr ⟨g, 0, rfl, fun i hi => ?_⟩⟩
    rw [Nat.zero_add, cell_of_row w g i cur e (0, 0) hg, ← ht]
    rw [← ht] at hi
    simp only [List.length_take, Array.length_toList] at hi
    rw [List.getElem?_take_of_lt (by omega), Array.getElem?_toList]
theorem Owns.ofRow {g : Nat} {t : TypeId} (h : Row w g xs t) (hm : xs.length ≤ maxLen) : Owns w t 1 (.slice (some ⟨g, 0, none⟩) xs.length xs.length) xs.length xs :=
  ⟨by simp, .inr ⟨g, xs.length, xs.toArray, rfl, Nat.zero_le _, h, Nat.le_refl _, hm, by simp, by simp⟩⟩
theorem NewOr.refl (w : World) (v : Value) : NewOr w v v := fun _ h => .inl h
theorem NewOr.trans {v1 v2 v3 : Value} {w2 : World} (h : NewOr w v1 v2) (h' : NewOr w2 v2 v3) (hs : w.heap.size ≤ w2.heap.size) : NewOr w v1 v3 := fun k hk => by
  rcases h' k hk with h1 | h1
  · exact h k h1
  · exact .inr (Nat.le_trans hs h1)

theorem run_append_fp (w : World) (t ty e : TypeId) (i : TypeInfo) (z : Value) (size bytes : Nat) (ht : P.underlying t = some (.slice e)) (hi : P.info? e = some i) (hz : i.zero = some z)
    (hsize : i.size = size) (hby : i.bytes = bytes) (hzs : z.cells.size = size) (hsz : 0 < size)
    (v : Value) (n : Nat) (xs : List Value) (hown : Owns w e size v n xs)
    (sa : Option Addr) (m c : Nat) (news : List Value) (hl : news.length = m * size) (hnone : sa = none → m = 0 ∧ c = 0) (hsl : Sl w sa news) (h1 : ∀ u ∈ news, u.oneCell' = true)
    (h63 : n + m ≤ maxLen) (hbytes : (n + m) * bytes ≤ 140737488355328) :
    ∃ v' w', (Builtin.append_ #[t, t] ty #[v, .slice sa m c]).run P w = .ok v' w' ∧ Owns w' e size v' (n + m) (xs ++ news) ∧ Fr (InBlock v) w w' ∧ NewOr w v v' ∧ w.heap.size ≤ w'.heap.size ∧
      (v' = .slice none 0 0 ↔ v = .slice none 0 0 ∧ m = 0) := by
  cases sa with
  | none =>
    obtain ⟨rfl, rfl⟩ := hnone rfl
    obtain rfl : news = [] := List.eq_nil_of_length_eq_zero (by simpa using hl)
    have hr := run_append_owned_none (P := P) w 0 t ty e i size ht hi v n xs hown
    exact ⟨v, w, hr, by simpa using hown, Fr.refl _ _, NewOr.refl _ _, Nat.le_refl _, by simp⟩
  | some ad =>
    have hnews : ∀ j u, news[j]? = some u → w.cell? (ad.add j) = some u := by
      intro j u hu
      obtain ⟨b, o, hbo, hc⟩ := hsl.oneCell hu
      obtain rfl := Option.some.inj hbo
      rw [Addr.add_lit]; exact hc
    subst hsize
    subst hby
    have hsmall : n + m ≤ 9223372036854775807 := by simp only [maxLen] at h63; omega
    have hlen : (xs ++ news).length = (n + m) * i.size := by rw [List.length_append, hown.1, hl, Nat.add_mul]
    have grown : ∀ (old : Nat), old < n + m →
        Owns (w.drew.alloc (.cells (xs.toArray ++ news.toArray ++ Builtin.zeroCells z.cells (grownCap w (n + m) old e - (n + m))) e)) e i.size
          (.slice (some ⟨w.heap.size, 0, none⟩) (n + m) (grownCap w (n + m) old e)) (n + m) (xs ++ news) := by
      intro old ho
      have hge := grownCap_ge w (n + m) old e
      have hcm : grownCap w (n + m) old e ≤ maxLen := grownCap_le_maxLen w (n + m) old e h63
      refine ⟨hlen, .inr ⟨w.heap.size, _, _, rfl, Nat.zero_le _, heap_alloc_new w.drew _, hge, hcm, ?_, ?_⟩⟩
      · simp only [Array.size_append, List.size_toArray, size_zeroCells, hzs, hown.1, hl, ← Nat.add_mul]
        congr 1
        omega
      · simp only [Array.toList_append, List.append_assoc]
        rw [← List.append_assoc, ← hlen]
        exact List.take_left
    have fresh : ∀ (o : Obj) (v' : Value) (v : Value), v'.ownBlock = some w.heap.size → Fr (InBlock v) w (w.drew.alloc o) ∧ NewOr w v v' ∧ w.heap.size ≤ (w.drew.alloc o).heap.size := by
      intro o v' v hv'
      refine ⟨(Fr.drew _ w).trans' (Fr.alloc _ _ _), fun k hk => ?_, by simp⟩
      rw [hv'] at hk
      obtain rfl := Option.some.inj hk
      exact .inr (Nat.le_refl _)
    rcases hown.2 with ⟨rfl, rfl⟩ | ⟨g, cap, cur, rfl, hbg, hg, hnc, hcm, hcs, htake⟩
    · obtain rfl : xs = [] := List.eq_nil_of_length_eq_zero (by simpa using hown.1)
      by_cases hm : m = 0
      · subst hm
        obtain rfl : news = [] := List.eq_nil_of_length_eq_zero (by simpa using hl)
        refine ⟨.slice none 0 0, w, ?_, Owns.nil w e i.size, Fr.refl _ _, NewOr.refl _ _, Nat.le_refl _, by simp⟩
        simp [Builtin.append_, run_underlying ht, sizeOf, typeInfo, hi, Builtin.lenOf, Builtin.firstCells, loadCells, loadCellsFrom]
      · have hr := run_append_nil (P := P) w t ty e i z ht hi hz ad m c news hl hnews (by omega) (by omega) (by have hb := hbytes; simp only [Nat.zero_add] at hb; omega)
        have hgr := grown 0 (by omega)
        simp only [Nat.zero_add, List.nil_append, Array.empty_append] at hgr ⊢
        obtain ⟨f1, f2, f3⟩ := fresh (.cells (news.toArray ++ Builtin.zeroCells z.cells (grownCap w m 0 e - m)) e) (.slice (some ⟨w.heap.size, 0, none⟩) m (grownCap w m 0 e)) (.slice none 0 0) rfl
        exact ⟨_, _, hr, hgr, f1, f2, f3, by simp [hm]⟩
    · by_cases hroom : n + m ≤ cap
      · have hfit : n * i.size + news.length ≤ cur.size := by rw [hl, hcs, ← Nat.add_mul]; exact Nat.mul_le_mul_right _ hroom
        have hr := run_append_room (P := P) w t ty e i ht hi g n cap cur hg ad m c news hl hnews h1 hroom hfit
        refine ⟨_, _, hr, ⟨hlen, .inr ⟨g, cap, _, rfl, hbg, setRow_heap w g cur _ e _ hg, hroom, hcm, ?_, ?_⟩⟩,
          ⟨rfl, rfl, rfl, by simp [World.setRow], fun k _ hk => setRow_other w g k _ (fun e => hk (by simp [InBlock, Value.ownBlock, e]))⟩, fun k hk => .inl hk, by simp [World.setRow], by simp⟩
        · simp only [List.size_toArray, List.length_append, List.length_take, List.length_drop, Array.length_toList]
          omega
        · rw [htake, ← hlen]
          exact List.take_left
      · have holds : ∀ j u, xs[j]? = some u → w.cell? ((⟨g, 0, none⟩ : Addr).add j) = some u := hown.cells (g := g) rfl
        have hr := run_append_grow (P := P) w t ty e i z ht hi hz ⟨g, 0, none⟩ n cap xs hown.1 holds ad m c news hl hnews (by omega) (by omega) (growslice_fits (by omega) hbytes)
        have hgr := grown cap (by omega)
        obtain ⟨f1, f2, f3⟩ := fresh (.cells (xs.toArray ++ news.toArray ++ Builtin.zeroCells z.cells (grownCap w (n + m) cap e - (n + m))) e) (.slice (some ⟨w.heap.size, 0, none⟩) (n + m) (grownCap w (n + m) cap e)) (.slice (some ⟨g, 0, none⟩) n cap) rfl
        exact ⟨_, _, hr, hgr, f1, f2, f3, by simp⟩

theorem wp_append_fp {o : Oper} {a : Act} {K : Act → World → Prop} {Q : Exit → Act → World → Prop} (s x : Operand) (t : TypeId)
    (ho : o.op = .call { callee := .builtin .append, args := #[s, x], argTypes := #[t, t] })
    (e : TypeId) (i : TypeInfo) (z : Value) (size bytes : Nat) (ht : P.underlying t = some (.slice e)) (hi : P.info? e = some i) (hz : i.zero = some z)
    (hsize : i.size = size) (hby : i.bytes = bytes) (hzs : z.cells.size = size) (hsz : 0 < size)
    (v : Value) (n : Nat) (xs : List Value) (hs : a.eval s = v) (hown : Owns w e size v n xs)
    (sa : Option Addr) (m c : Nat) (news : List Value) (hx : a.eval x = .slice sa m c) (hl : news.length = m * size) (hnone : sa = none → m = 0 ∧ c = 0) (hsl : Sl w sa news) (h1 : ∀ u ∈ news, u.oneCell' = true)
    (h63 : n + m ≤ maxLen) (hbytes : (n + m) * bytes ≤ 140737488355328)
    (h : ∀ v' w', Owns w' e size v' (n + m) (xs ++ news) → Fr (InBlock v) w w' → NewOr w v v' → w.heap.size ≤ w'.heap.size → (v' = .slice none 0 0 ↔ v = .slice none 0 0 ∧ m = 0) → K (a.put o.dst v') w') : o.wp P a w K Q := by
  obtain ⟨v', w', hr, h2, h3, h4, h5, h6⟩ := run_append_fp (P := P) w t o.type e i z size bytes ht hi hz hsize hby hzs hsz v n xs hown sa m c news hl hnone hsl h1 h63 hbytes
  unfold Oper.wp execOp
  simp only [ho, resolve, invoke, builtin, Sem.run_bind, Sem.run_pure, Result.andThen_ok, List.map_toArray, List.map_cons, List.map_nil, hs, hx, hr]
  exact h v' w' h2 h3 h4 h5 h6

theorem wpList_append_fp {ops : Array Oper} {rest : List Oper} {o : Oper} {a : Act} {Q : Exit → Act → World → Prop} (hgd : o.guard = none) (s x : Operand) (t : TypeId)
    (ho : o.op = .call { callee := .builtin .append, args := #[s, x], argTypes := #[t, t] })
    (e : TypeId) (i : TypeInfo) (z : Value) (size bytes : Nat) (ht : P.underlying t = some (.slice e)) (hi : P.info? e = some i) (hz : i.zero = some z)
    (hsize : i.size = size) (hby : i.bytes = bytes) (hzs : z.cells.size = size) (hsz : 0 < size)
    (v : Value) (n : Nat) (xs : List Value) (hs : a.eval s = v) (hown : Owns w e size v n xs)
    (sa : Option Addr) (m c : Nat) (news : List Value) (hx : a.eval x = .slice sa m c) (hl : news.length = m * size) (hnone : sa = none → m = 0 ∧ c = 0) (hsl : Sl w sa news) (h1 : ∀ u ∈ news, u.oneCell' = true)
    (h63 : n + m ≤ maxLen) (hbytes : (n + m) * bytes ≤ 140737488355328)
    (h : ∀ v' w', Owns w' e size v' (n + m) (xs ++ news) → Fr (InBlock v) w w' → NewOr w v v' → w.heap.size ≤ w'.heap.size → (v' = .slice none 0 0 ↔ v = .slice none 0 0 ∧ m = 0) → wpList P ops Q rest (a.put o.dst v') w') : wpList P ops Q (o :: rest) a w :=
  wpList_plain hgd fun _ hK => wp_append_fp s x t ho e i z size bytes ht hi hz hsize hby hzs hsz v n xs hs hown sa m c news hx hl hnone hsl h1 h63 hbytes fun v' w' h2 h3 h4 h5 h6 => hK _ _ (h v' w' h2 h3 h4 h5 h6)
theorem step_append_fp {ops : Array Oper} {o : Oper} {a : Act} {K : Act → World → Prop} {Q : Exit → Act → World → Prop} {E : Prop} (hgd : o.guard = none) (s x : Operand) (t : TypeId)
    (ho : o.op = .call { callee := .builtin .append, args := #[s, x], argTypes := #[t, t] })
    (e : TypeId) (i : TypeInfo) (z : Value) (size bytes : Nat) (ht : P.underlying t = some (.slice e)) (hi : P.info? e = some i) (hz : i.zero = some z)
    (hsize : i.size = size) (hby : i.bytes = bytes) (hzs : z.cells.size = size) (hsz : 0 < size)
    (v : Value) (n : Nat) (xs : List Value) (hs : a.eval s = v) (hown : Owns w e size v n xs)
    (sa : Option Addr) (m c : Nat) (news : List Value) (hx : a.eval x = .slice sa m c) (hl : news.length = m * size) (hnone : sa = none → m = 0 ∧ c = 0) (hsl : Sl w sa news) (h1 : ∀ u ∈ news, u.oneCell' = true)
    (h63 : n + m ≤ maxLen) (hbytes : (n + m) * bytes ≤ 140737488355328)
    (h : ∀ v' w', Owns w' e size v' (n + m) (xs ++ news) → Fr (InBlock v) w w' → NewOr w v v' → w.heap.size ≤ w'.heap.size → (v' = .slice none 0 0 ↔ v = .slice none 0 0 ∧ m = 0) → K (a.put o.dst v') w') :
    if Region.wanted o (yielded ops a.tmps) = true then Oper.wp P o a w K Q else E := by
  have hw : Region.wanted o (yielded ops a.tmps) = true := by simp [Region.wanted, hgd]
  rw [if_pos hw]
  exact wp_append_fp s x t ho e i z size bytes ht hi hz hsize hby hzs hsz v n xs hs hown sa m c news hx hl hnone hsl h1 h63 hbytes h
end

theorem NewOr.fresh {w : World} {v : Value} (h : NewOr w (.slice none 0 0) v) {q : Nat} (hq : InBlock v q) : w.heap.size ≤ q := by
  rcases h q hq with h1 | h1
  · simp [Value.ownBlock] at h1
  · exact h1
theorem Fr.ofNil {w w' : World} (h : Fr (InBlock (.slice none 0 0)) w w') : Fr Nothing w w' := h.mono fun k _ hk => by simp [InBlock, Value.ownBlock] at hk

theorem inBlock_at {a : Option Addr} {n c b : Nat} {Q : Addr → Prop} (h : ∀ ad, a = some ad → ad = ⟨b, 0, none⟩ ∧ Q ad) {k : Nat} (hk : InBlock (.slice a n c) k) : k = b := by
  cases a with
  | none => simp [InBlock, Value.ownBlock] at hk
  | some ad =>
    have := (h ad rfl).1
    subst this
    simp only [InBlock, Value.ownBlock, Option.some.injEq] at hk
    exact hk.symm

theorem one_texts (L : List ByteArray) : ∀ u ∈ L.map Value.string, u.oneCell' = true := by
  intro u hu
  obtain ⟨x, _, rfl⟩ := List.mem_map.1 hu; rfl

end Go.Proofs.YtbpbghmhenilcaaDoor
