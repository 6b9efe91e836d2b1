/- append where there is room, or onto nil: what it gives, without a bound of 2^47 bytes. Condition: room, or fewer than 2^48 bytes. -/
import Derived.Test.YtfedaolpanncoaaAppend
namespace Go.Proofs.Ytfedaolpanncoaa
open Go.RowKit

section
variable {P : Program} {w w' : World} {e : TypeId} {size n : Nat} {v : Value} {xs : List Value}

theorem run_append_rm (w : World) (t ty e : TypeId) (i : TypeInfo) (size : Nat) (ht : P.underlying t = some (.slice e)) (hi : P.info? e = some i)
    (hsize : i.size = size) (hsz : 0 < size) (b : Option Addr) (n cap : Nat) (xs : List Value) (hown : Owns w e size (.slice b n cap) n xs)
    (sa : Option Addr) (m c : Nat) (news : List Value) (hl : news.length = m * size) (hnone : sa = none → m = 0 ∧ c = 0) (hsl : Sl w sa news) (h1 : ∀ u ∈ news, u.oneCell' = true)
    (hroom : n + m ≤ cap) :
    ∃ w', (Builtin.append_ #[t, t] ty #[.slice b n cap, .slice sa m c]).run P w = .ok (.slice b (n + m) cap) w' ∧ Owns w' e size (.slice b (n + m) cap) (n + m) (xs ++ news) ∧ Fr (InBlock (.slice b n cap)) w w' := by
  cases sa with
  | none =>
    obtain ⟨rfl, rfl⟩ := hnone rfl
    obtain rfl : news = [] := List.eq_nil_of_length_eq_zero (by simpa using hl)
    have hr := run_append_owned_none (P := P) w 0 t ty e i size ht hi _ n xs hown
    exact ⟨w, by simpa using hr, by simpa using hown, Fr.refl _ _⟩
  | some ad =>
    have hnews : ∀ j u, news[j]? = some u → w.cell? (ad.add j) = some u := by
      intro j u hu
      obtain ⟨b, o, hbo, hc⟩ := hsl.oneCell hu
      obtain rfl := Option.some.inj hbo
      rw [Addr.add_lit]; exact hc
    subst hsize
    have hlen : (xs ++ news).length = (n + m) * i.size := by rw [List.length_append, hown.1, hl, Nat.add_mul]
    rcases hown.2 with ⟨h0, h00⟩ | ⟨g, cap', cur, h0, hbg, hg, hnc, hcm, hcs, htake⟩
    · simp only [Value.slice.injEq] at h0
      obtain ⟨rfl, rfl, rfl⟩ := h0
      obtain rfl : m = 0 := by omega
      obtain rfl : xs = [] := List.eq_nil_of_length_eq_zero (by simpa using hown.1)
      obtain rfl : news = [] := List.eq_nil_of_length_eq_zero (by simpa using hl)
      refine ⟨w, ?_, Owns.nil w e i.size, Fr.refl _ _⟩
      simp [Builtin.append_, run_underlying ht, sizeOf, typeInfo, hi, Builtin.lenOf, Builtin.firstCells, loadCells, loadCellsFrom]
    · simp only [Value.slice.injEq] at h0
      obtain ⟨rfl, -, rfl⟩ := h0
      have hfit : n * i.size + news.length ≤ cur.size := by rw [hl, hcs, ← Nat.add_mul]; exact Nat.mul_le_mul_right _ hroom
      have hr := run_append_room (P := P) w t ty e i ht hi g n cap cur hg ad m c news hl hnews h1 hroom hfit
      refine ⟨_, hr, ⟨hlen, .inr ⟨g, cap, _, rfl, hbg, setRow_heap w g cur _ e _ hg, hroom, hcm, ?_, ?_⟩⟩,
        ⟨rfl, rfl, rfl, by simp [World.setRow], fun k _ hk => setRow_other w g k _ (fun e => hk (by simp [InBlock, Value.ownBlock, e]))⟩⟩
      · simp only [List.size_toArray, List.length_append, List.length_take, List.length_drop, Array.length_toList]
        omega
      · rw [htake, ← hlen]
        exact List.take_left

theorem run_append_nl (w : World) (t ty e : TypeId) (i : TypeInfo) (z : Value) (size bytes : Nat) (ht : P.underlying t = some (.slice e)) (hi : P.info? e = some i) (hz : i.zero = some z)
    (hsize : i.size = size) (hby : i.bytes = bytes) (hzs : z.cells.size = size)
    (a : Option Addr) (m c : Nat) (news : List Value) (hl : news.length = m * size) (hsl : Sl w a news) (hsz : 0 < size) (h0 : 0 < m) (h63 : m ≤ maxLen) (hbytes : m * bytes ≤ 281474976710656) :
    ∃ b cap w', (Builtin.append_ #[t, t] ty #[.slice none 0 0, .slice a m c]).run P w = .ok (.slice b m cap) w' ∧ m ≤ cap ∧ Owns w' e size (.slice b m cap) m news ∧ (∀ k, InBlock (.slice b m cap) k → w.heap.size ≤ k) ∧ Fr Nothing w w' := by
  have hpos : 0 < news.length := by rw [hl]; exact Nat.mul_pos h0 hsz
  obtain ⟨b, o, rfl, hc⟩ := hsl.at_ (i := 0) hpos
  have hnews : ∀ j u, news[j]? = some u → w.cell? ((⟨b, o, none⟩ : Addr).add j) = some u := by
    intro j u hu
    have hj : j < news.length := (List.getElem?_eq_some_iff.1 hu).1
    rw [Addr.add_lit, hc j hj]; exact hu
  subst hsize
  subst hby
  have hr := run_append_nil (P := P) w t ty e i z ht hi hz ⟨b, o, none⟩ m c news hl hnews h0 (by unfold maxLen at h63; omega) hbytes
  have hge := grownCap_ge w m 0 e
  have hcm : grownCap w m 0 e ≤ maxLen := grownCap_le_maxLen w m 0 e h63
  refine ⟨_, _, _, hr, hge, ⟨hl, .inr ⟨w.heap.size, _, _, rfl, Nat.zero_le _, heap_alloc_new w.drew _, hge, hcm, ?_, ?_⟩⟩, fun k hk => ?_, (Fr.drew _ w).trans' (Fr.alloc _ _ _)⟩
  · simp only [Array.size_append, List.size_toArray, size_zeroCells, hzs, hl, ← Nat.add_mul]
    congr 1
    omega
  · simp only [Array.toList_append]
    rw [← hl]
    exact List.take_left
  · simp only [InBlock, Value.ownBlock, Option.some.injEq] at hk
    omega

theorem wpList_append_rm {ops : Array Oper} {rest : List Oper} {o : Oper} {ac : Act} {Q : Exit → Act → World → Prop} (hgd : o.guard = none) (s x : Operand) (t : TypeId)
    (ho : o.op = .call { callee := .builtin .append, args := #[s, x], argTypes := #[t, t] })
    (e : TypeId) (i : TypeInfo) (size : Nat) (ht : P.underlying t = some (.slice e)) (hi : P.info? e = some i) (hsize : i.size = size) (hsz : 0 < size)
    (b : Option Addr) (n cap : Nat) (xs : List Value) (hs : ac.eval s = .slice b n cap) (hown : Owns w e size (.slice b n cap) n xs)
    (sa : Option Addr) (m c : Nat) (news : List Value) (hx : ac.eval x = .slice sa m c) (hl : news.length = m * size) (hnone : sa = none → m = 0 ∧ c = 0) (hsl : Sl w sa news) (h1 : ∀ u ∈ news, u.oneCell' = true)
    (hroom : n + m ≤ cap)
    (h : ∀ w', Owns w' e size (.slice b (n + m) cap) (n + m) (xs ++ news) → Fr (InBlock (.slice b n cap)) w w' → wpList P ops Q rest (ac.put o.dst (.slice b (n + m) cap)) w') : wpList P ops Q (o :: rest) ac w :=
  wpList_plain hgd fun _ hK => by
    obtain ⟨w', hr, h2, h3⟩ := run_append_rm (P := P) w t o.type e i size ht hi hsize hsz b n cap xs hown sa m c news hl hnone hsl h1 hroom
    unfold Oper.wp execOp
    simp only [ho, resolve, invoke, builtin, Sem.run_bind, Sem.run_pure, Result.andThen_ok, List.map_toArray, List.map_cons, List.map_nil, hs, hx, hr]
    exact hK _ _ (h w' h2 h3)

theorem wpList_append_nl {ops : Array Oper} {rest : List Oper} {o : Oper} {ac : Act} {Q : Exit → Act → World → Prop} (hgd : o.guard = none) (s x : Operand) (t : TypeId)
    (ho : o.op = .call { callee := .builtin .append, args := #[s, x], argTypes := #[t, t] })
    (e : TypeId) (i : TypeInfo) (z : Value) (size bytes : Nat) (ht : P.underlying t = some (.slice e)) (hi : P.info? e = some i) (hz : i.zero = some z) (hsize : i.size = size) (hby : i.bytes = bytes) (hzs : z.cells.size = size) (hsz : 0 < size)
    (hs : ac.eval s = .slice none 0 0)
    (a : Option Addr) (m c : Nat) (news : List Value) (hx : ac.eval x = .slice a m c) (hl : news.length = m * size) (hsl : Sl w a news) (h0 : 0 < m) (h63 : m ≤ maxLen) (hbytes : m * bytes ≤ 281474976710656)
    (h : ∀ b cap w', m ≤ cap → Owns w' e size (.slice b m cap) m news → (∀ k, InBlock (.slice b m cap) k → w.heap.size ≤ k) → Fr Nothing w w' → wpList P ops Q rest (ac.put o.dst (.slice b m cap)) w') : wpList P ops Q (o :: rest) ac w :=
  wpList_plain hgd fun _ hK => by
    obtain ⟨b, cap, w', hr, h2, h3, h4, h5⟩ := run_append_nl (P := P) w t o.type e i z size bytes ht hi hz hsize hby hzs a m c news hl hsl hsz h0 h63 hbytes
    unfold Oper.wp execOp
    simp only [ho, resolve, invoke, builtin, Sem.run_bind, Sem.run_pure, Result.andThen_ok, List.map_toArray, List.map_cons, List.map_nil, hs, hx, hr]
    exact hK _ _ (h b cap w' h2 h3 h4 h5)
end
end Go.Proofs.Ytfedaolpanncoaa
