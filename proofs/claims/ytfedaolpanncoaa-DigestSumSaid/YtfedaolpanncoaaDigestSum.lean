/- DigestSum answers true of every input, and changes no argument. Condition: of each item the two texts together are fewer than 2^48 bytes. -/
import Derived.Test.YtfedaolpanncoaaDigSeen
import Derived.Laws.OwnMore
import Derived.Test.YtfedaolpanncoaaOpenS
namespace Go.Proofs.Ytfedaolpanncoaa
open Go.RowKit

def Item.GoodS (x : Item) : Prop := x.Good ∧ Small x
set_option maxRecDepth 100000 in
theorem item_decS {H : Type} {enc : TypeId × Value → H} {w : World} (n : Nat) (cs : List Value) (y : DataW H × List MemPlace)
    (h : DataW.trod enc Try.prog w 0 (fun _ => true) true n 27 cs = some y) (hw : ∀ m ∈ y.1.weights Try.prog 27, m ≤ reachBytes) : ∃ r : Item, cs = r.cells ∧ r.GoodS := by
  obtain ⟨xs, m, _, hy, hl, hlen, hf⟩ := DataW.trod_struct Try.underlying27 h
  have hl' : cs.length = 4 := hl.trans (by kernel_rfl)
  have hx : xs.length = 4 := hlen
  match cs, hl', xs, hx with
  | [c0, c1, c2, c3], _, [y0, y1, y2, y3], _ =>
    obtain ⟨s, e0, z0, ws⟩ := DataW.trod_string Try.underlying9 (hf 0 _ rfl)
    obtain ⟨t, e1, z1, wt⟩ := DataW.trod_string Try.underlying9 (hf 1 _ rfl)
    obtain ⟨a, e2, z2, wa⟩ := DataW.trod_int Try.underlying3 (hf 2 _ rfl)
    obtain ⟨b, e3, z3⟩ := DataW.trod_bool Try.underlying4 (hf 3 _ rfl)
    have k0 : Try.prog.cellsOf 3 = 1 := by kernel_rfl
    have k3 : Try.prog.cellsOf 9 = 1 := by kernel_rfl
    have k4 : Try.prog.cellsOf 4 = 1 := by kernel_rfl
    simp [k0, k3, k4] at e0 e1 e2 e3
    subst e0 e1 e2 e3
    subst hy
    subst z0 z1
    have g0 := hw s.data.toList.length (by simp [DataW.weights, Try.underlying27, DataW.weightsEach])
    have g1 := hw t.data.toList.length (by simp [DataW.weights, Try.underlying27, DataW.weightsEach])
    refine ⟨⟨s, t, a, b⟩, rfl, ⟨ws, wt, wa⟩, ?_⟩
    unfold Small
    simp only [reachBytes, Array.length_toList, ByteArray.size_data] at g0 g1
    show s.size + t.size + 5 ≤ _
    omega

theorem Try.infoItem : (Try.prog.info? 27).map (fun i => (i.zero, i.size, i.bytes)) = some (some (.agg #[.string ByteArray.empty, .string ByteArray.empty, .int .i64 0, .bool false]), 4, 48) := by kernel_rfl
theorem items_one (l : List Item) : ∀ u ∈ l.flatMap Item.cells, u.oneCell' = true := by
  intro u hu
  obtain ⟨x, _, hx⟩ := List.mem_flatMap.1 hu
  simp only [Item.cells, List.mem_cons, List.not_mem_nil, or_false] at hx
  rcases hx with rfl | rfl | rfl | rfl <;> rfl

set_option maxHeartbeats 400000 in
theorem item_early (a : Option Addr) (n c : Nat) (w : World) (hn : n ≤ c) (_hc : (c : Int) ≤ 9223372036854775807) :
    Calls Try.prog 10 #[.slice a n c] w fun e w' => e = .returned (.slice a (min n 60) c) ∧ w = w' := by
  have h1 : (n : Int) ≤ c := by omega
  have e : (min (n : Int) 60).toNat = min n 60 := by omega
  go_enter Try.func10, Try.ntmps10
  go_wp2_with (fail)
  go_ret
  exact ⟨rfl, rfl⟩

set_option maxRecDepth 100000 in
set_option maxHeartbeats 4000000 in
theorem digestsum_any (a : Option Addr) (l : List Item) (c : Nat) (at_ sub : Int) (w : World) (hlc : l.length ≤ c) (hc : c ≤ maxLen) (h : Items w a l) (hg : ∀ x ∈ l, x.GoodS) (_hat : (Lit.int .i64 at_).wf = true) (_hsub : (Lit.int .i64 sub).wf = true) :
    Calls Try.prog 3 #[.slice a l.length c, .int .i64 at_, .int .i64 sub] w fun e w' => e = .returned (.bool true) ∧ Below w.heap.size w w' := by
  have hc9 : (c : Int) ≤ 9223372036854775807 := by unfold maxLen at hc; omega
  obtain ⟨L, hL⟩ : ∃ L, L = l.take 60 := ⟨_, rfl⟩
  have hLl : L.length = min l.length 60 := by rw [hL, List.length_take]; omega
  have hL60 : L.length ≤ 60 := by omega
  have hLc : L.length ≤ c := by omega
  have hI : Items w a L := by rw [hL]; exact h.take 60
  have hG : ∀ x ∈ L, Small x := fun x hx => (hg x (by rw [hL] at hx; exact List.mem_of_mem_take hx)).2
  have HL := Lib.hid hLl
  have HI := Lib.hid hI
  have HG := Lib.hid hG
  have Hc := Lib.hid hc
  clear hL hLl hI hG h hg hc
  go_enter Try.func3, Try.ntmps3
  go_wp2_with (fail)
  refine (dig_lives _).mono ?_
  rintro e w1 ⟨rfl, f1⟩
  go_wp2_with (fail)
  refine (item_early a l.length c _ hlc hc9).mono ?_
  rintro e w1' ⟨rfl, rfl⟩
  rw [← HL.out]
  clear hlc
  by_cases h0 : L = []
  · have hz : ((L.length : Int) == 0) = true := by rw [h0]; rfl
    clear h0
    go_wp2_with (fail)
    go_ret
    exact ⟨rfl, f1.below (Nat.le_refl _) (fun _ h => h.elim)⟩
  · have hz : ((L.length : Int) == 0) = false := by rw [beq_eq_false_iff_ne]; intro h; exact h0 (List.eq_nil_of_length_eq_zero (by omega))
    have hpos : 0 < L.length := by rcases Nat.eq_zero_or_pos L.length with h | h; exact absurd (List.eq_nil_of_length_eq_zero h) h0; exact h
    obtain ⟨i0, hi, hz0, hz1, hz2⟩ := info_parts Try.infoItem
    have Hz2 := Lib.hid hz2
    have Hz1 := Lib.hid hz1
    have Hz0 := Lib.hid hz0
    have Hi := Lib.hid hi
    have hI1 := HI.out.fr f1 (fun _ _ h => h)
    obtain ⟨b0, o0, rfl, hcc⟩ := hI1.at_ hpos
    have hb0 : b0 < w1.heap.size := World.block_lt_of_cell? w1 _ (hcc 0 _ rfl)
    clear hcc
    have hs1 : Sl w1 (some ⟨b0, o0, none⟩) (L.flatMap Item.cells) := hI1.2.2
    clear hz2 hz1 hz0 hi hI1
    have hfl : (L.flatMap Item.cells).length = L.length * 4 := flat_len _ 4 Item.len L
    have Hfl := Lib.hid hfl
    clear hfl
    obtain ⟨k, hk, ek'⟩ := umod at_ L.length hpos (by omega)
    obtain ⟨q, hq, eq'⟩ := umod sub 4 (by omega) (by omega)
    have eq : wrap64 ((IntKind.u64.wrap sub).tmod 4) = (q : Int) := eq'
    obtain ⟨x, hx⟩ : ∃ x, x = L[k] := ⟨_, rfl⟩
    obtain ⟨q2, hq2, eq2'⟩ := umod x.sub 4 (by omega) (by omega)
    have eq2 : wrap64 ((IntKind.u64.wrap x.sub).tmod 4) = (q2 : Int) := eq2'
    have Hx := Lib.hid hx
    clear hx eq' eq2'
    have ek : Hid (wrap64 ((IntKind.u64.wrap at_).tmod (L.length : Int)) = (k : Int)) := ek'
    clear ek'
    go_wp2_with (at_builtin; go_must (refine wpList_append_fp rfl (.const (.slice none 0 0)) (.tmp 24) 22 rfl 27 i0 (.agg #[.string ByteArray.empty, .string ByteArray.empty, .int .i64 0, .bool false]) 4 48 Try.underlying22 Hi.out Hz0.out Hz1.out Hz2.out rfl (by decide) (.slice none 0 0) 0 [] rfl (Owns.nil _ _ _) _ L.length _ (L.flatMap Item.cells) rfl Hfl.out (by simp) hs1 (items_one L) (by unfold maxLen; omega) (by omega) ?_))
    intro v2 w2 o2' f2 n2 s2 _
    rw [ek.out]
    have o2 : Owns w2 27 4 v2 L.length (L.flatMap Item.cells) := by simpa using o2'
    obtain ⟨a2, c2, rfl, hc2, _⟩ := o2.shape
    obtain ⟨g2, rfl⟩ : ∃ g2, a2 = some ⟨g2, 0, none⟩ := by
      rcases o2.2 with ⟨h1, h2⟩ | ⟨g, cap, cur, h1, _⟩
      · omega
      · simp only [Value.slice.injEq] at h1; exact ⟨g, h1.1⟩
    have hg2 : w1.heap.size ≤ g2 := NewOr.fresh n2 rfl
    have x2 := o2.cellAt (k * 4 + 2) (by omega)
    have x2' : (L.flatMap Item.cells)[k * 4 + 2]? = some (.int .i64 x.sub) := flat_get Item.cells 4 Item.len L k 2 x (by rw [Hx.out]; simp [hk]) (by omega)
    rw [x2'] at x2
    have y2 := o2.frozenAt (k * 4 + 2)
    have f2' := f2.ofNil
    clear o2' x2' n2 s2 f2 hs1
    have hs3 : Sl (w2.setCell ⟨g2, k * 4 + 2, none⟩ (.int .i64 q)) (some ⟨b0, o0, none⟩) (L.flatMap Item.cells) :=
      (((HI.out.2.2.fr f1 (fun _ _ h => h)).fr f2' (fun _ _ h => h)).fr (Fr.setCell (S := fun z => z = g2) (p := ⟨g2, k * 4 + 2, none⟩) rfl _) (fun ad e h => by cases e; simp at h; omega))
    obtain ⟨o3, _⟩ := World.ownsRow.stored o2 (k * 4 + 2) (.int .i64 q)
    rw [flat_set L k 2 (.int .i64 q) (withSub x q) hk (by omega) (by rw [← Hx.out]; rfl)] at o3
    have F3 : Fr (fun z => z = g2) w2 (w2.setCell ⟨g2, k * 4 + 2, none⟩ (.int .i64 q)) := Fr.setCell (S := fun z => z = g2) (p := ⟨g2, k * 4 + 2, none⟩) rfl _
    have O3 := Lib.hid o3
    clear o2 o3
    go_wp2_with (at_builtin; go_must (refine wpList_append_fp rfl (.const (.slice none 0 0)) (.tmp 34) 22 rfl 27 i0 (.agg #[.string ByteArray.empty, .string ByteArray.empty, .int .i64 0, .bool false]) 4 48 Try.underlying22 Hi.out Hz0.out Hz1.out Hz2.out rfl (by decide) (.slice none 0 0) 0 [] rfl (Owns.nil _ _ _) _ L.length _ (L.flatMap Item.cells) rfl Hfl.out (by simp) hs3 (items_one L) (by unfold maxLen; omega) (by omega) ?_))
    intro v4 w4 o4' f4' n4 s4 _
    have o4 : Owns w4 27 4 v4 L.length (L.flatMap Item.cells) := by simpa using o4'
    obtain ⟨a4, c4, rfl, hc4, _⟩ := o4.shape
    obtain ⟨g4, rfl⟩ : ∃ g4, a4 = some ⟨g4, 0, none⟩ := by
      rcases o4.2 with ⟨h1, h2⟩ | ⟨g, cap, cur, h1, _⟩
      · omega
      · simp only [Value.slice.injEq] at h1; exact ⟨g, h1.1⟩
    have hg4 := NewOr.fresh n4 rfl
    have hg24 : g2 < g4 := by
      have h1 := Owns.lt O3.out (k := g2) rfl
      simp at h1 hg4
      omega
    have f4 := f4'.ofNil
    have x4 := o4.cellAt (k * 4 + 2) (by omega)
    have x4' : (L.flatMap Item.cells)[k * 4 + 2]? = some (.int .i64 x.sub) := flat_get Item.cells 4 Item.len L k 2 x (by rw [Hx.out]; simp [hk]) (by omega)
    rw [x4'] at x4
    have y4 := o4.frozenAt (k * 4 + 2)
    obtain ⟨o5, _⟩ := World.ownsRow.stored o4 (k * 4 + 2) (.int .i64 q2)
    rw [flat_set L k 2 (.int .i64 q2) (withSub x q2) hk (by omega) (by rw [← Hx.out]; rfl)] at o5
    have F5 : Fr (fun z => z = g4) w4 (w4.setCell ⟨g4, k * 4 + 2, none⟩ (.int .i64 q2)) := Fr.setCell (S := fun z => z = g4) (p := ⟨g4, k * 4 + 2, none⟩) rfl _
    obtain ⟨LA, hLA⟩ : ∃ LA, LA = L.set k (withSub x q2) := ⟨_, rfl⟩
    rw [← hLA] at o5
    have hLAl : LA.length = L.length := by rw [hLA]; simp
    have hLAk : LA[k]? = some (withSub x q2) := by rw [hLA]; simp [hk]
    have hs5 := (Owns.sl o5).2
    have hfA : (LA.flatMap Item.cells).length = L.length * 4 := by rw [← hLAl]; exact flat_len _ 4 Item.len LA
    have HLA := Lib.hid hLA
    have HLAl := Lib.hid hLAl
    have HLAk := Lib.hid hLAk
    have HfA := Lib.hid hfA
    have O5 := Lib.hid o5
    clear o4' x4' n4 s4 f4' hs3 x2 y2 hLA hLAl hLAk hfA o5 o4
    go_wp2_with (at_builtin; go_must (refine wpList_append_fp rfl (.const (.slice none 0 0)) (.tmp 48) 22 rfl 27 i0 (.agg #[.string ByteArray.empty, .string ByteArray.empty, .int .i64 0, .bool false]) 4 48 Try.underlying22 Hi.out Hz0.out Hz1.out Hz2.out rfl (by decide) (.slice none 0 0) 0 [] rfl (Owns.nil _ _ _) _ L.length _ (LA.flatMap Item.cells) rfl HfA.out (by simp) hs5 (items_one LA) (by unfold maxLen; omega) (by omega) ?_))
    intro v6 w6 o6' f6' n6 s6 _
    have o6 : Owns w6 27 4 v6 L.length (LA.flatMap Item.cells) := by simpa using o6'
    obtain ⟨a6, c6, rfl, hc6, _⟩ := o6.shape
    obtain ⟨g6, rfl⟩ : ∃ g6, a6 = some ⟨g6, 0, none⟩ := by
      rcases o6.2 with ⟨h1, h2⟩ | ⟨g, cap, cur, h1, _⟩
      · omega
      · simp only [Value.slice.injEq] at h1; exact ⟨g, h1.1⟩
    have hg6 := NewOr.fresh n6 rfl
    have hg46 : g4 < g6 := by
      have h1 := Owns.lt O5.out (k := g4) rfl
      simp at h1 hg6
      omega
    have f6 := f6'.ofNil
    have x6 := o6.cellAt (k * 4 + 3) (by omega)
    have x6' : (LA.flatMap Item.cells)[k * 4 + 3]? = some (.bool x.asked) := flat_get Item.cells 4 Item.len LA k 3 (withSub x q2) HLAk.out (by omega)
    rw [x6'] at x6
    have y6 := o6.frozenAt (k * 4 + 3)
    have hkA : k < LA.length := by rw [HLAl.out]; exact hk
    obtain ⟨o7, _⟩ := World.ownsRow.stored o6 (k * 4 + 3) (.bool (!x.asked))
    rw [flat_set LA k 3 (.bool (!x.asked)) (withAsk (withSub x q2) (!x.asked)) hkA (by omega) (by
      have : LA[k] = withSub x q2 := by have := HLAk.out; rw [List.getElem?_eq_getElem hkA] at this; exact Option.some.inj this
      rw [this]; rfl)] at o7
    have F7 : Fr (fun z => z = g6) w6 (w6.setCell ⟨g6, k * 4 + 3, none⟩ (.bool (!x.asked))) := Fr.setCell (S := fun z => z = g6) (p := ⟨g6, k * 4 + 3, none⟩) rfl _
    have p3 := ((((Owns.fr O3.out f4 (fun _ _ h => h)).fr F5 (fun z hz e => by simp [Value.ownBlock] at hz; omega)).fr f6 (fun _ _ h => h)).fr F7 (fun z hz e => by simp [Value.ownBlock] at hz; omega))
    have p5 := (Owns.fr O5.out f6 (fun _ _ h => h)).fr F7 (fun z hz e => by simp [Value.ownBlock] at hz; omega)
    clear o6' x6' n6 s6 f6' hs5 x4 y4 o6
    have P3 := Lib.hid p3
    have P5 := Lib.hid p5
    have P7 := Lib.hid o7
    clear p3 p5 o7
    go_wp2_with (fail)
    have z4 := World.ownsRow.cellAt P5.out (k * 4 + 2) (by omega)
    have z4' : (LA.flatMap Item.cells)[k * 4 + 2]? = some (.int .i64 q2) := flat_get Item.cells 4 Item.len LA k 2 (withSub x q2) HLAk.out (by omega)
    rw [z4'] at z4
    obtain ⟨LB, hLB⟩ : ∃ LB, LB = L.set k (withSub x q) := ⟨_, rfl⟩
    have hLBl : LB.length = L.length := by rw [hLB]; simp
    have p3 := P3.out
    rw [← hLB] at p3
    have z2 := World.ownsRow.cellAt p3 (k * 4 + 2) (by omega)
    have z2' : (LB.flatMap Item.cells)[k * 4 + 2]? = some (.int .i64 q) := flat_get Item.cells 4 Item.len LB k 2 (withSub x q) (by rw [hLB]; simp [hk]) (by omega)
    rw [z2'] at z2
    obtain ⟨LC, hLC⟩ : ∃ LC, LC = LA.set k (withAsk (withSub x q2) (!x.asked)) := ⟨_, rfl⟩
    have hLCl : LC.length = L.length := by rw [hLC]; simp [HLAl.out]
    have p7 := P7.out
    rw [← hLC] at p7
    have smX : ∀ (y : Item) (s : Int), y ∈ L → Small (withSub y s) := fun y s hy => HG.out y hy
    have hxL : x ∈ L := by rw [Hx.out]; exact List.getElem_mem hk
    have smS : ∀ {M : List Item} {y : Item}, (∀ z ∈ M, Small z) → Small y → ∀ z ∈ M.set k y, Small z := fun {M y} hM hy z hz => by
      rcases List.mem_or_eq_of_mem_set hz with h | h
      · exact hM z h
      · rw [h]; exact hy
    have smA : ∀ z ∈ LA, Small z := by rw [HLA.out]; exact smS HG.out (smX x q2 hxL)
    have smB : ∀ z ∈ LB, Small z := by rw [hLB]; exact smS HG.out (smX x q hxL)
    have smC : ∀ z ∈ LC, Small z := by rw [hLC]; exact smS smA (smX x q2 hxL)
    have neC : sumN LA ≠ sumN LC := by
      rw [hLC, HLA.out, List.set_set]
      exact sum_ask hk (withSub x q2)
    have neB : q2 ≠ q → sumN LA ≠ sumN LB := fun h => by
      rw [hLB, HLA.out]
      exact sum_sub hk x (by omega) (by omega) (by omega) (by omega) (by omega)
    have eqB : q2 = q → sumN LA = sumN LB := fun h => by rw [hLB, HLA.out, h]
    have FB : Fr (FromB w.heap.size) w (w6.setCell ⟨g6, k * 4 + 3, none⟩ (.bool (!x.asked))) := by
      have e1 := f1.size
      have e2 := f2'.size
      have h2 : w1.heap.size ≤ g2 := hg2
      exact ((((((f1.fromN).trans' f2'.fromN).trans' (F3.from_ (fun z hz => by subst hz; omega))).trans' f4.fromN).trans' (F5.from_ (fun z hz => by subst hz; omega))).trans' f6.fromN).trans' (F7.from_ (fun z hz => by subst hz; omega))
    obtain ⟨sA, hsA⟩ : ∃ sA, sA = sumN LA := ⟨_, rfl⟩
    obtain ⟨sB, hsB⟩ : ∃ sB, sB = sumN LB := ⟨_, rfl⟩
    obtain ⟨sC, hsC⟩ : ∃ sC, sC = sumN LC := ⟨_, rfl⟩
    rw [← hsA, ← hsC] at neC
    rw [← hsA, ← hsB] at neB eqB
    generalize w6.setCell ⟨g6, k * 4 + 3, none⟩ (.bool (!x.asked)) = w7 at *
    have hA : ∀ W, Fr Nothing w7 W → Calls Try.prog 11 #[.slice (some ⟨g4, 0, none⟩) L.length c4] W fun e w' => e = .returned (.int .u32 (sA : Nat)) ∧ Fr Nothing W w' := fun W hW => by
      have := dig_sum (some ⟨g4, 0, none⟩) c4 LA W ⟨Item.len, by decide, (Owns.sl P5.out).2.fr hW (fun _ _ h => h)⟩ (by rw [HLAl.out]; omega) smA
      rw [HLAl.out, ← hsA] at this; exact this
    have hB : ∀ W, Fr Nothing w7 W → Calls Try.prog 11 #[.slice (some ⟨g2, 0, none⟩) L.length c2] W fun e w' => e = .returned (.int .u32 (sB : Nat)) ∧ Fr Nothing W w' := fun W hW => by
      have := dig_sum (some ⟨g2, 0, none⟩) c2 LB W ⟨Item.len, by decide, (Owns.sl p3).2.fr hW (fun _ _ h => h)⟩ (by rw [hLBl]; omega) smB
      rw [hLBl, ← hsB] at this; exact this
    have hC : ∀ W, Fr Nothing w7 W → Calls Try.prog 11 #[.slice (some ⟨g6, 0, none⟩) L.length c6] W fun e w' => e = .returned (.int .u32 (sC : Nat)) ∧ Fr Nothing W w' := fun W hW => by
      have := dig_sum (some ⟨g6, 0, none⟩) c6 LC W ⟨Item.len, by decide, (Owns.sl p7).2.fr hW (fun _ _ h => h)⟩ (by rw [hLCl]; omega) smC
      rw [hLCl, ← hsC] at this; exact this
    have HA := Lib.hid hA
    have HB := Lib.hid hB
    have HC := Lib.hid hC
    have HFB := Lib.hid FB
    have hnC : ((sA : Int) != (sC : Int)) = true := by rw [bne_iff_ne]; omega
    have HnB := Lib.hid neB
    have HeB := Lib.hid eqB
    clear hA hB hC FB neC neB eqB hsA hsB hsC smA smB smC smS smX hxL p3 p7 hLB hLBl hLC hLCl z2' z4' P3 P5 P7 F3 F5 F7 f1 f2' f4 f6 x6 y6 O3 O5 HLA HLAk HLAl HfA hg2 hg4 hg6 eq eq2 hkA
    have G : Fr Nothing w7 w7.drew := Fr.drew _ _
    by_cases hqq : q2 = q
    · have hs := HeB.out hqq
      subst hqq
      subst hs
      clear HnB HeB
      go_region_held3 (fun w' => w'.cell? ⟨g4, k * 4 + 2, none⟩ = some (.int .i64 q2) ∧ w'.cell? ⟨g2, k * 4 + 2, none⟩ = some (.int .i64 q2)) (first | assumption | exact ⟨z4, z2⟩)
        ((go_at_call 11; (first | (with_reducible refine (HA.out _ (by exact G)).mono ?_) | (with_reducible refine (HB.out _ (by exact G)).mono ?_) | (with_reducible refine (HC.out _ (by exact G)).mono ?_)); rintro e w8 ⟨rfl, f8⟩; have z4 := cell_fr (by exact z4) f8 (fun h => h); have z2 := cell_fr (by exact z2) f8 (fun h => h); have G := Fr.trans' G f8))
      go_wp2_with (fail)
      go_ret
      exact ⟨rfl, (HFB.out.trans' G.fromN).belowB⟩
    · have hn := HnB.out hqq
      have h1 : ((sA : Int) == (sB : Int)) = false := by rw [beq_eq_false_iff_ne]; omega
      have h2 : ((q2 : Int) == (q : Int)) = false := by rw [beq_eq_false_iff_ne]; omega
      clear HnB HeB hn hqq
      go_region_held3 (fun w' => w'.cell? ⟨g4, k * 4 + 2, none⟩ = some (.int .i64 q2) ∧ w'.cell? ⟨g2, k * 4 + 2, none⟩ = some (.int .i64 q)) (first | assumption | exact ⟨z4, z2⟩)
        ((go_at_call 11; (first | (with_reducible refine (HA.out _ (by exact G)).mono ?_) | (with_reducible refine (HB.out _ (by exact G)).mono ?_) | (with_reducible refine (HC.out _ (by exact G)).mono ?_)); rintro e w8 ⟨rfl, f8⟩; have z4 := cell_fr (by exact z4) f8 (fun h => h); have z2 := cell_fr (by exact z2) f8 (fun h => h); have G := Fr.trans' G f8))
      go_wp2_with (fail)
      go_ret
      exact ⟨rfl, (HFB.out.trans' G.fromN).belowB⟩
end Go.Proofs.Ytfedaolpanncoaa
