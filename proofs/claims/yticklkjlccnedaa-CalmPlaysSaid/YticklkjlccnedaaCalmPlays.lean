/- CalmPlays answers true for every input and changes no memory that was there. No condition. -/
import Derived.Test.YticklkjlccnedaaCalmRef
import Derived.Deep.CutBlock
namespace Go.Proofs.Yticklkjlccnedaa
open Go.RowKit

structure CalmOp where
  kind : Int
  k : ByteArray
  s : ByteArray
def CalmOp.cells (o : CalmOp) : List Value := [.int .i64 o.kind, .string o.k, .string o.s]
def CalmOp.Good (o : CalmOp) : Prop := (Lit.int .i64 o.kind).wf = true ∧ o.k.size ≤ maxLen ∧ o.s.size ≤ maxLen
theorem CalmOp.len (o : CalmOp) : o.cells.length = 3 := rfl
theorem calmop_dec {H : Type} {enc : TypeId × Value → H} {w : World} (n : Nat) (cs : List Value) (y : DataW H × List MemPlace)
    (h : DataW.trod enc Try.prog w 0 (fun _ => true) true n 38 cs = some y) : ∃ r : CalmOp, cs = r.cells ∧ r.Good := by
  obtain ⟨xs, m, _, _, hl, hlen, hf⟩ := DataW.trod_struct Try.underlying38 h
  have hl' : cs.length = 3 := hl.trans (by kernel_rfl)
  have hx : xs.length = 3 := hlen
  match cs, hl', xs, hx with
  | [c0, c1, c2], _, [y0, y1, y2], _ =>
    obtain ⟨a, e0, _, wa⟩ := DataW.trod_int Try.underlying3 (hf 0 _ rfl)
    obtain ⟨s, e1, _, ws⟩ := DataW.trod_string Try.underlying9 (hf 1 _ rfl)
    obtain ⟨t, e2, _, wt⟩ := DataW.trod_string Try.underlying9 (hf 2 _ rfl)
    have k0 : Try.prog.cellsOf 3 = 1 := by kernel_rfl
    have k3 : Try.prog.cellsOf 9 = 1 := by kernel_rfl
    simp [k0, k3] at e0 e1 e2
    subst e0 e1 e2
    exact ⟨⟨a, s, t⟩, rfl, wa, ws, wt⟩

set_option maxHeartbeats 400000 in
theorem calmop_early (a : Option Addr) (n c : Nat) (w : World) (hn : n ≤ c) (hc : (c : Int) ≤ 9223372036854775807) :
    Calls Try.prog 15 #[.slice a n c] w fun e w' => e = .returned (.slice a (min n 200) c) ∧ w = w' := by
  have h1 : (n : Int) ≤ c := by omega
  go_enter Try.func15, Try.ntmps15
  go_wp2_with (fail)
  go_ret
  have e : (min (n : Int) 200).toNat = min n 200 := by omega
  exact ⟨by rw [e]; rfl, rfl⟩

def KindOf (m : Nat) (w : World) (e : Ending) (w' : World) : Prop := ∃ q : Nat, q < m ∧ e = .returned (.int .i64 q) ∧ Fr Nothing w w'
set_option maxHeartbeats 400000 in
theorem calmop_kind (o : CalmOp) (w : World) :
    Calls Try.prog 16 #[.agg #[.int .i64 o.kind, .string o.k, .string o.s]] w (KindOf 4 w) := by
  obtain ⟨q, hq, e⟩ := umod o.kind 4 (by omega) (by omega)
  have E : Hid (wrap64 ((IntKind.u64.wrap o.kind).tmod 4) = (q : Int)) := e
  clear e
  go_enter Try.func16, Try.ntmps16
  go_wp2
  go_ret
  exact ⟨q, hq, congrArg _ (congrArg _ E.out), Fr.alloc _ _ _⟩

/-- The calm and the reference's, alike. -/
structure CPlay (S T : Nat → Prop) (p q m : Nat) (w : World) (L : List Pair) (wr : World) : Prop where
  calm : IsCalm S wr p m L
  ref : IsCRef T wr q m L
  newS : ∀ k, S k → w.heap.size ≤ k
  newT : ∀ k, T k → w.heap.size ≤ k
  apart : ∀ k, S k → ¬ T k
  fr : Fr (FromB w.heap.size) w wr

section
variable {S T : Nat → Prop} {w wr w1 w2 w' : World} {p q m : Nat} {L L' : List Pair}
theorem CPlay.quiet (h : CPlay S T p q m w L wr) (F : Fr Nothing wr w') : CPlay S T p q m w L w' :=
  ⟨h.calm.fr F (fun _ _ h => h), h.ref.fr F (fun _ _ h => h), h.newS, h.newT, h.apart, h.fr.trans' F.fromN⟩
theorem CPlay.drew (h : CPlay S T p q m w L wr) : CPlay S T p q m w L wr.drew := h.quiet (Fr.drew _ _)
theorem CPlay.drewN (h : CPlay S T p q m w L wr) (n : Nat) : CPlay S T p q m w L (wr.drewN n) := h.quiet (Fr.drewN _ _ _)
theorem CPlay.both (h : CPlay S T p q m w L wr) (g : CalmGone S wr p m L' w1) (g2 : CRefGone T w1 q m L' w2) : ∃ S' T', CPlay S' T' p q m w L' w2 ∧ (∀ k, S' k → S k ∨ wr.heap.size ≤ k) ∧ (∀ k, T' k → T k ∨ wr.heap.size ≤ k) ∧ Fr (fun k => S k ∨ T k) wr w2 := by
  obtain ⟨S', h1, h2, f⟩ := g
  obtain ⟨T', r1, r2, f2⟩ := g2
  have hd : ∀ k, S' k → ¬ T k := fun k hk hT => by
    rcases h2 k hk with h3 | h3
    · exact h.apart k h3 hT
    · have := h.ref.lt hT; omega
  refine ⟨S', T', ⟨h1.fr f2 hd, r1, fun k hk => ?_, fun k hk => ?_, fun k hS hk => ?_, (h.fr.trans' (f.from_ h.newS)).trans' (f2.from_ h.newT)⟩, h2, fun k hk => (r2 k hk).imp id (fun h => Nat.le_trans f.size h), (f.mono fun _ _ h => .inl h).trans' (f2.mono fun _ _ h => .inr h)⟩
  · rcases h2 k hk with h3 | h3
    · exact h.newS k h3
    · exact Nat.le_trans h.fr.size h3
  · rcases r2 k hk with h3 | h3
    · exact h.newT k h3
    · exact Nat.le_trans h.fr.size (Nat.le_trans f.size h3)
  · rcases r2 k hk with h3 | h3
    · exact hd k hS h3
    · have := h1.lt hS; omega
end

theorem findT_more (A : List Pair) (q : Pair) (k : ByteArray) (hn : findT A k = none) : findT (A ++ [q]) k = if q.1 = k then some q.2 else none := by
  obtain ⟨a, b⟩ := q
  by_cases h : a = k
  · subst h; rw [findT_snoc _ _ _ _ hn]; simp
  · have h' : ¬ k = a := fun e => h e.symm
    unfold findT at *
    rw [List.find?_append]
    simp [h, Option.map_eq_none_iff.1 hn]
theorem findT_less (A : List Pair) (q : Pair) (k : ByteArray) (hk : q.1 ≠ k) : findT (A ++ [q]) k = findT A k := by
  unfold findT
  rw [List.find?_append]
  simp [hk]
theorem findT_before {L : List Pair} (hn : (L.map Prod.fst).Nodup) {j : Nat} (hj : j < L.length) : findT (L.take j) L[j].1 = none := by
  refine find_none.2 fun hm => ?_
  have e : L = L.take j ++ (L[j] :: L.drop (j + 1)) := by
    rw [← List.drop_eq_getElem_cons hj]; exact (List.take_append_drop j L).symm
  rw [e, List.map_append, List.nodup_append] at hn
  exact hn.2.2 _ hm _ (show L[j].1 ∈ (L[j] :: L.drop (j + 1)).map Prod.fst from List.mem_cons_self ..) rfl

set_option maxRecDepth 100000 in
set_option maxHeartbeats 8000000 in
theorem calmplays_any (n : Int) (a : Option Addr) (rs : List CalmOp) (c : Nat) (w : World) (_w0 : (Lit.int .i64 n).wf = true) (hlc : rs.length ≤ c) (hcm : c ≤ maxLen) (ht : Recs CalmOp.cells 3 w a rs) (hs : ∀ r ∈ rs, r.Good) :
    Calls Try.prog 4 #[.int .i64 n, .slice a rs.length c] w fun e w' => e = .returned (.bool true) ∧ Below w.heap.size w w' := by
  obtain ⟨m, hm⟩ : ∃ m : Nat, (m : Int) = min (max n 1) 64 := ⟨(min (max n 1) 64).toNat, by omega⟩
  have Hm := Lib.hid hm
  have hc9 : (c : Int) ≤ 9223372036854775807 := by unfold maxLen at hcm; omega
  have Hs := Lib.hid hs
  clear hm _w0 hcm hs
  go_enter Try.func4, Try.ntmps4
  go_wp2_with (fail)
  refine (calm_lives _).mono ?_
  rintro e w1 ⟨rfl, f0⟩
  go_wp2_with (fail)
  refine (calm_new n m _ Hm.out).mono ?_
  rintro e w2 ⟨p, S, rfl, r1, hS, f1⟩
  go_wp2_with (fail)
  refine (cref_new n m _ Hm.out).mono ?_
  rintro e w3 ⟨q, T, rfl, r2, hT, f2⟩
  have inv : CPlay S T p q m w [] w3 :=
    ⟨r1.fr f2 (fun _ _ h => h), r2, fun k hk => Nat.le_trans f0.size (hS k hk), fun k hk => Nat.le_trans f0.size (Nat.le_trans f1.size (hT k hk)), fun k h1 h2 => by have := r1.lt h1; have := hT k h2; omega, (f0.fromN.trans' f1.fromN).trans' f2.fromN⟩
  clear r1 r2 hS hT f0 f1 f2
  go_wp2_with (fail)
  refine (calmop_early a rs.length c _ hlc hc9).mono ?_
  rintro e w4 ⟨rfl, rfl⟩
  obtain ⟨Q, hQ⟩ : ∃ Q, Q = rs.take 200 := ⟨_, rfl⟩
  have htQ : Recs CalmOp.cells 3 w a Q := by rw [hQ]; exact ht.take 200
  have hQl : min rs.length 200 = Q.length := by rw [hQ]; simp; omega
  have hQ2 : Q.length ≤ 200 := by rw [hQ]; simp; omega
  have HsQ : Hid (∀ r ∈ Q, r.Good) := (show ∀ r ∈ Q, r.Good from fun r hr => Hs.out r (by rw [hQ] at hr; exact List.mem_of_mem_take hr))
  rw [hQl]
  clear hQ hQl ht hlc hc9 Hs
  go_wp2_with (fail)
  go_loopg [7] Q.length (fun g i wr => ∃ (k : Nat) (L : List Pair) (S T : Nat → Prop), k ≤ Q.length ∧ g = Q.length - k ∧ i = .int .i64 k ∧ CPlay S T p q m w L wr)
  case atStart => exact ⟨0, [], S, T, Nat.zero_le _, rfl, rfl, inv⟩
  case round =>
    clear inv S T
    obtain ⟨k, L, S, T, hk, rfl, rfl, inv⟩ := hrel
    have hBs := inv.fr.size
    by_cases hlt : k < Q.length
    · obtain ⟨b, o, rfl, hc⟩ := (htQ.kept inv.fr).at_ hlt
      have c0 := hc 0 _ rfl
      rw [Nat.add_zero] at c0
      have c1 := hc 1 _ rfl
      have c2 := hc 2 _ rfl
      have hg := HsQ.out Q[k] (List.getElem_mem hlt)
      obtain ⟨x, hx⟩ : ∃ x, x = Q[k] := ⟨_, rfl⟩
      rw [← hx] at c0 c1 c2 hg
      have Hg := Lib.hid hg
      clear hc hx hg
      go_upto_block 2 with (go_at_call 16; refine (calmop_kind x _).mono ?_; rintro e w5 ⟨z, hz, rfl, f5⟩)
      have r0 := Row.allocNew wr x.cells 38
      have fa : Fr Nothing wr w5 := (Fr.alloc _ _ _).trans' f5
      have d1 : w5.cell? ⟨wr.heap.size, 1, none⟩ = some (.string x.k) := cell_fr (r0.cell 1 rfl) f5 (fun h => h)
      have d2 : w5.cell? ⟨wr.heap.size, 2, none⟩ = some (.string x.s) := cell_fr (r0.cell 2 rfl) f5 (fun h => h)
      have n1 : ¬ S wr.heap.size := fun h => by have := inv.calm.lt h; omega
      have n2 : ¬ T wr.heap.size := fun h => by have := inv.ref.lt h; omega
      have inv5 := inv.quiet fa
      have hB5 := inv5.fr.size
      obtain ⟨ob, hob⟩ : ∃ ob, ob = wr.heap.size := ⟨_, rfl⟩
      have oblt : ob < w5.heap.size := by have := fa.size; have h1 := (Row.lt r0); have h2 := f5.size; simp at h1 h2; omega
      rw [← hob] at d1 d2 n1 n2
      rw [← hob]
      clear inv fa f5 c0 c1 c2 hob r0
      go_cut [9] (fun ok wx => ok = .bool true ∧ ∃ (L' : List Pair) (S3 T3 : Nat → Prop), CPlay S3 T3 p q m w L' wx ∧ wx.cell? ⟨ob, 1, none⟩ = some (.string x.k))
      case first =>
        have hnd := inv5.calm.nodup
        have hle := inv5.calm.le
        have hmo := inv5.calm.most
        have Hnd := Lib.hid hnd
        clear hnd
        obtain rfl | rfl | rfl | rfl : z = 0 ∨ z = 1 ∨ z = 2 ∨ z = 3 := by omega
        · by_cases hroom : (findT L x.k).isSome ∨ L.length < m
          · have Hroom := Lib.hid hroom
            clear hroom
            go_wp2_with (fail)
            go_region_held3 (fun w' => w'.cell? ⟨ob, 1, none⟩ = some (.string x.k) ∧ w'.cell? ⟨ob, 2, none⟩ = some (.string x.s)) (first | assumption | exact ⟨d1, d2⟩ | exact ⟨d16, d26⟩ | exact ⟨d17, d27⟩)
              ((first
                | (go_at_call 10; refine (calm_put_ok _ _ Hg.out.2.1 Hg.out.2.2 inv5.calm.drew Hroom.out).mono ?_; rintro e w6 ⟨rfl, g6⟩; have f6 := g6.choose_spec.2.2; have d16 := cell_fr (w := w5.drew) (by exact d1) f6 n1; have d26 := cell_fr (w := w5.drew) (by exact d2) f6 n1; have ref6 := inv5.drew.ref.fr f6 (fun k h1 h2 => inv5.apart k h2 h1))
                | (go_at_call 17; refine (cref_put_ok _ _ ref6 Hnd.out Hroom.out).mono ?_; rintro e w7 ⟨rfl, g7⟩; have d17 := cell_fr d16 g7.choose_spec.2.2 n2; have d27 := cell_fr d26 g7.choose_spec.2.2 n2)))
            go_wp2_with (fail)
            go_meet
            case rel =>
              obtain ⟨S3, T3, i3, _⟩ := inv5.drew.both g6 g7
              exact ⟨rfl, _, S3, T3, i3, d17⟩
          · have hf : findT L x.k = none := by
              cases h : findT L x.k with
              | none => rfl
              | some v => exact absurd (.inl (by rw [h]; rfl)) hroom
            have hl : m ≤ L.length := by
              rcases Nat.lt_or_ge L.length m with h | h
              · exact absurd (.inr h) hroom
              · exact h
            have Hf := Lib.hid hf
            clear hroom hf
            go_wp2_with (fail)
            go_region_held3 (fun w' => w'.cell? ⟨ob, 1, none⟩ = some (.string x.k) ∧ w'.cell? ⟨ob, 2, none⟩ = some (.string x.s)) (first | assumption | exact ⟨d1, d2⟩ | exact ⟨d16, d26⟩)
              ((first
                | (go_at_call 10; refine (calm_put_no _ _ Hg.out.2.1 inv5.calm.drew Hf.out hl).mono ?_; rintro e w6 ⟨rfl, f6⟩; have d16 := cell_fr (w := w5.drew) (by exact d1) f6 (fun h => h); have d26 := cell_fr (w := w5.drew) (by exact d2) f6 (fun h => h); have i6 := inv5.drew.quiet f6)
                | (go_at_call 17; refine (cref_put_no _ _ i6.ref Hf.out hl).mono ?_; rintro e w7 ⟨rfl, n7, rfl⟩)))
            go_wp2_with (fail)
            go_meet
            case rel => exact ⟨rfl, L, S, T, i6.drewN n7, d16⟩
        · go_wp2_with (fail)
          refine (calm_flush inv5.calm).mono ?_
          rintro e w6 ⟨a6, c6, rfl, t6, b6, o6, g6⟩
          have f6 := g6.choose_spec.2.2
          have ref6 := inv5.ref.fr f6 (fun k h1 h2 => inv5.apart k h2 h1)
          have d16 := cell_fr d1 f6 n1
          go_wp2_with (fail)
          refine (cref_texts 1 Prod.snd (by decide) (fun _ => rfl) ref6).mono ?_
          rintro e w7 ⟨a7, c7, rfl, t7, b7, o7, f7⟩
          have hs7 := same_yes a6 a7 (L.map Prod.snd) c6 c7 w7 (Sl.fr t6 f7 (fun _ _ h => h)) t7 (by rw [List.length_map]; unfold maxLen; omega)
          rw [List.length_map] at hs7
          go_wp2_with (fail)
          refine hs7.mono ?_
          rintro e w8 ⟨rfl, m8, rfl⟩
          have ref8 := (ref6.fr f7 (fun _ _ h => h)).drewN m8
          have d18 : (w7.drewN m8).cell? ⟨ob, 1, none⟩ = some (.string x.k) := cell_fr d16 (f7.trans' (Fr.drewN _ _ m8)) (fun h => h)
          obtain ⟨v8, hr8, hS8⟩ := ref8
          have p8 := hr8.head.free 0
          have p8' := hr8.head.cell 0 rfl
          have fN : Fr Nothing w6 (w7.drewN m8) := f7.trans' (Fr.drewN _ _ m8)
          have Hr8 := Lib.hid hr8
          have HS8 := Lib.hid hS8
          clear hr8 hS8 hs7
          go_wp2_with (fail)
          go_meet
          case rel =>
            obtain ⟨S6, r6, hs6, _⟩ := g6
            have hTq : T q := (HS8.out q).2 (.inl rfl)
            have hset : Fr (fun k => k = q) (w7.drewN m8) ((w7.drewN m8).setCell ⟨q, 0, none⟩ (.slice none 0 0)) := Fr.setCell (S := fun k => k = q) (p := ⟨q, 0, none⟩) rfl _
            have nob : ¬ ob = q := fun e => n2 (e ▸ hTq)
            have hS6T : ∀ k, S6 k → ¬ T k := fun k hk hT => by
              rcases hs6 k hk with h3 | h3
              · exact inv5.apart k h3 hT
              · have := inv5.ref.lt hT; omega
            have no : ∀ k, ¬ InBlock (.slice none 0 0) k := fun k hk => by simp [InBlock, Value.ownBlock] at hk
            refine ⟨rfl, [], S6, fun k => k = q ∨ InBlock (.slice none 0 0) k, ⟨(r6.fr fN (fun _ _ h => h)).fr hset (fun k hk e => hS6T k hk (e ▸ hTq)), ⟨_, CRefAt.relaid Hr8.out.head (Owns.nil _ _ _) (no q) hmo (Nat.zero_le _), fun k => Iff.rfl⟩, fun k hk => ?_, fun k hk => ?_, fun k hk h2 => ?_, ((inv5.fr.trans' (f6.from_ inv5.newS)).trans' fN.fromN).trans' (hset.mono fun k _ hk => by subst hk; exact inv5.newT _ hTq)⟩, cell_fr d18 hset nob⟩
            · rcases hs6 k hk with h3 | h3
              · exact inv5.newS k h3
              · exact Nat.le_trans hB5 h3
            · rcases hk with rfl | hk
              · exact inv5.newT _ hTq
              · exact (no k hk).elim
            · rcases h2 with rfl | h2
              · exact hS6T _ hk hTq
              · exact no k h2
        · by_cases hf : (findT L x.k).isSome
          · have Hf := Lib.hid hf
            clear hf
            go_wp2_with (fail)
            go_region_held3 (fun w' => w'.cell? ⟨ob, 1, none⟩ = some (.string x.k)) (first | assumption)
              ((first
                | (go_at_call 19; refine (calm_drop_yes _ Hg.out.2.1 inv5.calm.drew Hf.out).mono ?_; rintro e w6 ⟨rfl, r6, f6⟩; have d16 := cell_fr (w := w5.drew) (by exact d1) f6 n1; have ref6 := inv5.drew.ref.fr f6 (fun k h1 h2 => inv5.apart k h2 h1))
                | (go_at_call 20; refine (cref_drop_yes _ ref6 Hnd.out Hf.out).mono ?_; rintro e w7 ⟨rfl, g7⟩; have d17 := cell_fr d16 g7.choose_spec.2.2 n2)))
            go_wp2_with (fail)
            go_meet
            case rel =>
              obtain ⟨S3, T3, i3, _⟩ := inv5.drew.both ⟨S, r6, fun k hk => .inl hk, f6⟩ g7
              exact ⟨rfl, _, S3, T3, i3, d17⟩
          · have hf' : findT L x.k = none := by simpa using hf
            have Hf := Lib.hid hf'
            clear hf hf'
            go_wp2_with (fail)
            go_region_held3 (fun w' => w'.cell? ⟨ob, 1, none⟩ = some (.string x.k)) (first | assumption)
              ((first
                | (go_at_call 19; refine (calm_drop_no _ Hg.out.2.1 inv5.calm.drew Hf.out).mono ?_; rintro e w6 ⟨rfl, f6⟩; have d16 := cell_fr (w := w5.drew) (by exact d1) f6 (fun h => h); have i6 := inv5.drew.quiet f6)
                | (go_at_call 20; refine (cref_drop_no _ i6.ref Hf.out).mono ?_; rintro e w7 ⟨rfl, rfl⟩)))
            go_wp2_with (fail)
            go_meet
            case rel => exact ⟨rfl, L, S, T, i6, d16⟩
        · go_wp2_with (fail)
          go_meet
          case rel => exact ⟨rfl, L, S, T, inv5, d1⟩
      case rest =>
        obtain ⟨rfl, L', S3, T3, inv', dx⟩ := hcut
        clear inv5 hB5 d1 d2 n1 n2 hz L S T oblt
        obtain ⟨v, hr, hST⟩ := inv'.ref
        obtain ⟨av, cv, rfl, _, _⟩ := hr.own.shape
        have e0 := hr.head.cell 0 rfl
        have e1 := hr.head.cell 1 rfl
        have hrec := hr.recs
        have hle := inv'.calm.le
        have hmo := inv'.calm.most
        have hnd := inv'.calm.nodup
        have Hnd := Lib.hid hnd
        have Hr := Lib.hid hr
        have hfull : ((L'.length : Int) == (m : Int)) = decide (L'.length = m) := by
          by_cases h : L'.length = m
          · simp [h]
          · rw [decide_eq_false h, beq_eq_false_iff_ne]; omega
        clear hr hST hnd
        go_wp2_with (fail)
        go_region_held3 (fun w' => w'.cell? ⟨q, 0, none⟩ = some (.slice av L'.length cv) ∧ w'.cell? ⟨q, 1, none⟩ = some (.int .i64 m)) (first | assumption | exact ⟨e0, e1⟩ | exact ⟨e07, e17⟩ | exact ⟨e08, e18⟩)
          ((first
            | (go_at_call 11; refine (calm_len (by exact inv'.drew.calm)).mono ?_; rintro e w6 ⟨rfl, rfl⟩)
            | (go_at_call 21; refine (calm_full (by exact inv'.drew.calm)).mono ?_; rintro e w6 ⟨rfl, n6, rfl⟩)
            | (go_at_call 22; refine (calm_from (by exact (inv'.drewN _).calm)).mono ?_; rintro e w7 ⟨a7, c7, rfl, t7, b7, o7, f7'⟩; have f7 : Fr Nothing wc w7 := (Fr.drewN _ _ _).trans' f7'; have e07 := cell_fr e0 f7 (fun h => h); have e17 := cell_fr e1 f7 (fun h => h); have i7 := inv'.quiet f7)
            | (go_at_call 18; refine (cref_texts 0 Prod.fst (by decide) (fun _ => rfl) i7.ref).mono ?_; rintro e w8 ⟨a8, c8, rfl, t8, b8, o8, f8⟩; have e08 := cell_fr e07 f8 (fun h => h); have e18 := cell_fr e17 f8 (fun h => h); have hs8 := same_yes a7 a8 (L'.map Prod.fst) c7 c8 w8 (Sl.fr t7 f8 (fun _ _ h => h)) t8 (by rw [List.length_map]; unfold maxLen; omega); rw [List.length_map] at hs8)
            | (go_at_call 12; refine hs8.mono ?_; rintro e w9 ⟨rfl, m9, rfl⟩)))
        have f9 : Fr Nothing wc (w8.drewN m9) := (f7.trans' f8).trans' (Fr.drewN _ _ _)
        have i9 := inv'.quiet f9
        have e09 := cell_fr e0 f9 (fun h => h)
        have dx9 := cell_fr dx f9 (fun h => h)
        have hrec9 := hrec.fr f9 (fun _ _ h => h)
        clear e0 e1 e07 e17 e08 e18 t7 t8 b7 b8 o7 o8 f7 f7' f8 f9 hs8 i7 inv' dx hrec hfull
        generalize w8.drewN m9 = wB at *
        obtain ⟨y0, hy0⟩ : ∃ y0, y0 = (findT L' x.k).getD ByteArray.empty := ⟨_, rfl⟩
        obtain ⟨b0, hb0⟩ : ∃ b0, b0 = (findT L' x.k).isSome := ⟨_, rfl⟩
        have Hy0 := Lib.hid hy0
        have Hb0 := Lib.hid hb0
        clear hy0 hb0
        go_wp2_with (fail)
        refine (calm_of x.k Hg.out.2.1 i9.calm).mono ?_
        rw [← Hy0.out, ← Hb0.out]
        rintro e w10 ⟨rfl, rfl⟩
        go_wp2_with (fail)
        go_loopg [12, 13, 14] L'.length (fun g s t i wr => ∃ (j : Nat) (y : ByteArray) (bb : Bool), j ≤ L'.length ∧ g = L'.length - j ∧ i = .int .i64 j ∧ s = .string y ∧ t = .bool bb ∧ Hid (y = (findT (L'.take j) x.k).getD ByteArray.empty ∧ bb = (findT (L'.take j) x.k).isSome) ∧ ∃ n, wr = wB.drewN n)
        case atStart => exact ⟨0, ByteArray.empty, false, Nat.zero_le _, rfl, rfl, rfl, rfl, ⟨rfl, rfl⟩, 0, rfl⟩
        case round =>
          obtain ⟨j, y, bb, hj, rfl, rfl, rfl, rfl, HY, n9, rfl⟩ := hrel
          by_cases hlj : j < L'.length
          · obtain ⟨b1, o1, rfl, hc1⟩ := hrec9.at_ hlj
            have g0 := hc1 0 _ rfl
            rw [Nat.add_zero] at g0
            have g1 := hc1 1 _ rfl
            by_cases he : L'[j].1 = x.k
            · have hd : (L'[j].1.toList == x.k.toList) = true := by rw [same_text, decide_eq_true he]
              have hbf := findT_before Hnd.out hlj
              rw [he] at hbf
              have hmore := findT_more (L'.take j) L'[j] x.k hbf
              rw [if_pos he, ← List.take_succ_eq_append_getElem hlj] at hmore
              have Hmore := Lib.hid hmore
              clear hc1 he hbf hmore
              go_wp2_with (fail)
              go_quiet (fail)
              go_wp2_with (fail)
              go_roundg (L'.length - (j + 1))
              case measure => omega
              case rel => exact ⟨j + 1, _, true, by omega, rfl, by go_num, rfl, rfl, (show _ ∧ _ by rw [Hmore.out]; exact ⟨rfl, rfl⟩), _, rfl⟩
            · have hd : (L'[j].1.toList == x.k.toList) = false := by rw [same_text, decide_eq_false he]
              have hless := findT_less (L'.take j) L'[j] x.k he
              rw [← List.take_succ_eq_append_getElem hlj] at hless
              have Hless := Lib.hid hless
              clear hc1 he hless g1
              go_wp2_with (fail)
              go_quiet (fail)
              go_wp2_with (fail)
              go_roundg (L'.length - (j + 1))
              case measure => omega
              case rel => exact ⟨j + 1, y, bb, by omega, rfl, by go_num, rfl, rfl, (show _ ∧ _ by rw [Hless.out]; exact HY.out), _, rfl⟩
          · obtain rfl : j = L'.length := by omega
            have hY := HY.out
            rw [List.take_length, ← Hy0.out, ← Hb0.out] at hY
            obtain ⟨rfl, rfl⟩ := hY
            clear e09 dx9 hrec9
            go_wp2_with (fail)
            go_roundg (Q.length - (k + 1))
            case measure => omega
            case rel => exact ⟨k + 1, L', S3, T3, by omega, rfl, by go_num, i9.drewN _⟩
    · go_wp2_with (fail)
      go_ret
      exact ⟨rfl, inv.fr.belowB⟩

end Go.Proofs.Yticklkjlccnedaa
