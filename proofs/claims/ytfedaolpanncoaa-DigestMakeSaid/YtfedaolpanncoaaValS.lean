/- maps.Values, slices.AppendSeq, slices.Collect at a struct type. No condition. -/
import Derived.RangeFuncBox
import Derived.RangeFuncNested
import Derived.RangeFuncLeaves
import Derived.Maps.AppendAt
import Derived.Maps.OwnIn
import Derived.Sort.MapsRangeIn
import Derived.Sort.KeysCollected
import Derived.Shelf.Abstract
import Derived.Shelf.RegionOpen
import Derived.WalkKit
import Derived.OwnWalkIn
import Derived.TacticsInMore
import Derived.LoopNIn
import Derived.LoopIn
import Derived.Test.YtfedaolpanncoaaMapV
import Derived.Test.YtfedaolpanncoaaAppend
import Derived.Test.YtfedaolpanncoaaElems
namespace Go.Proofs.Ytfedaolpanncoaa
open Go.RowKit Go.Shelf Go.Maps Go.Sort

attribute [local go_sem] Oper.semAt_some
/-- All have come: the names, each once, each with what it holds. -/
def AllS (f : ByteArray → Option DStep) (xs : List DStep) : Prop := ∃ ks : List ByteArray, ks.Nodup ∧ (∀ k, k ∈ ks ↔ (f k).isSome = true) ∧ xs = ks.filterMap f
set_option maxRecDepth 100000 in
set_option maxHeartbeats 4000000 in
/-- The closure of maps.Values, for every loop body. -/
theorem mapvalsS (F : Fence) (n : Nat) (h8 : F.fn 45) (hro : F.round = none) (hn : 1 ≤ n) (l Bm b nn : Nat) (D0 : DataW DStep) (J Jx : List DStep → World → Prop)
    (hY : ∀ pre x W, J pre W → pre.length < Maps.size D0 → YieldAt F (n - 1) Try.prog l #[stepE.enc x] W fun e W' =>
      (e = .returned (.bool true) ∧ J (pre ++ [x]) W' ∧ KeepsWalks W W') ∨ (e = .returned (.bool false) ∧ Jx (pre ++ [x]) W'))
    (W : World) (hJ : AbidesFrom W.heap.size J) (hm : W.cell? ⟨Bm, 0, none⟩ = some (.map (some b))) (hown : W.ownsMap Try.prog 9 stepE.R b nn D0) (h0 : J [] W) :
    CallsIn F n Try.prog 45 #[.func (.yield l) #[] #[], .pointer (some ⟨Bm, 0, none⟩)] W fun e W' => (∃ v, e = .returned v) ∧
      ((∃ xs, (∃ ps : List (List UInt8 × DStep), (ps.map (·.1)).Nodup ∧ (∀ x, x ∈ ps.map (·.1) ↔ has D0 (.string x) = true) ∧ (∀ p ∈ ps, ∀ z, D0.atKey (.string p.1) z = .held p.2) ∧ xs = ps.map (·.2)) ∧ xs.length ≤ Maps.size D0 ∧ J xs W') ∨ (∃ pre, True ∧ Jx pre W')) := by
  refine callsIn_of_wp Try.func45 rfl h8 ?_ hro
  simp only [Try.ntmps45, List.size_toArray, List.length_cons, List.length_nil, Nat.reduceAdd, Nat.reduceSub, Array.replicate_succ, Array.replicate_zero, List.push_toArray, List.append_toArray, List.nil_append, List.cons_append]
  gi_wp2_with (first
    | (gi_at_range; refine wpListIn_range_own _ rfl _ 61 rfl 9 37 (string_keyed Try.underlying9) Try.underlying61 _ b nn _ rfl hown ?_; intro w0 hrg0 hg0 hs0)
    | gi_in)
  go_frame
  gi_loopw [4] (fun _ wr => ∃ (left : Lit → Bool) (cnt : Nat) (ps : List (List UInt8 × DStep)), wr.ranges Try.prog 9 stepE.R b W.heap.size nn D0 left cnt ∧ ps.length + cnt ≤ Maps.size D0 ∧ Collected D0 left (ps.map (·.1)) ∧ (∀ p ∈ ps, ∀ z, D0.atKey (.string p.1) z = .held p.2) ∧ J (ps.map (·.2)) wr)
    (fun _ wr => wr.rangeLeft b W.heap.size)
  case atStart =>
    exact ⟨_, _, [], hrg0, by simp, Collected.start D0, by simp, hJ [] W w0 none h0 hg0 (fun r e => by cases e)⟩
  case round =>
    obtain ⟨left, cnt, ps, hrg, hcs, hC, hV, hJs⟩ := hrel
    gi_wp2_with (first
      | (gi_at_next; refine wpListIn_next_ranges _ rfl _ rfl 9 (string_keyed Try.underlying9) stepE.R encStr stepE.enc (fun key kl hk => by obtain ⟨x, hx, _⟩ := Maps.keyOf_str Try.underlying9 hk; exact ⟨x, hx⟩) (fun v y hv => by obtain ⟨c, rfl, _⟩ := stepE.inv v y hv; exact ⟨c, rfl⟩) b W.heap.size nn _ _ _ rfl hrg ?_ ?_)
      | gi_in)
    · intro hc0 hl0
      gi_wp2
      go_end0
      exact ⟨⟨_, rfl⟩, .inl ⟨_, ⟨ps, hC.1, fun x => by rw [hC.2 x, hl0]; simp, hV, rfl⟩, by simp; omega, hJs⟩⟩
    · intro x c kl yd yp w2 cnt2 hkey hlk hv hat hrg2 hlt hg2 hs2 hen
      obtain ⟨x', ex, rfl, _⟩ := Maps.keyOf_str Try.underlying9 hkey
      obtain rfl : x = x' := encStr_inj ex
      obtain ⟨c', ec, ez⟩ := stepE.inv _ _ hv
      obtain rfl : c = c' := stepE.inj ec
      obtain rfl : yd = .held c := (Prod.mk.inj ez).1
      have hJ2 : J (ps.map (·.2)) w2 := hJ _ wr w2 (some W.heap.size) hJs hg2 (fun r e => by cases e; exact ⟨Nat.le_refl _, hrg.iter_walk⟩)
      have hen' := hen
      clear hen hs2
      dsimp only [stepE, stepV] at hen'
      obtain ⟨w3, hw3⟩ : ∃ w3, w3 = w2.alloc (.cells #[Value.string c.user, Value.string c.item.user, Value.string c.item.name, Value.int .i64 c.item.sub, Value.bool c.item.asked, Value.bool c.gone] 37) := ⟨_, rfl⟩
      have hJ3 : J (ps.map (·.2)) w3 := hJ _ w2 w3 none hJ2 (by rw [hw3]; exact World.grownBy_alloc w2 _ none) (fun r e => by cases e)
      have hk23 : KeepsWalks w2 w3 := by rw [hw3]; exact KeepsWalks.alloc _ _
      have hrg3 := hrg2.of_walks hk23
      obtain ⟨fn, tmps, assign, body, hy, hR⟩ := hY (ps.map (·.2)) c w3 hJ3 (by simp; omega)
      dsimp only [stepE, stepV] at hy
      rw [hw3] at hy hR
      gi_wp2
      refine hR.mono ?_
      have hC2 : Collected D0 (fun z => left z && !z.sameKey (.string x)) ((ps ++ [(x, c)]).map (·.1)) := by simpa using hC.step hlk hat
      have hV2 : ∀ p ∈ ps ++ [(x, c)], ∀ z, D0.atKey (.string p.1) z = .held p.2 := fun p hp => (List.mem_append.1 hp).elim (hV p) (fun e => by simp at e; subst e; exact hat)
      rintro e W3 (⟨rfl, hJ4, hk3⟩ | ⟨rfl, hJx3⟩)
      · gi_wp2
        rw [← hw3] at hk3
        have hrg4 := hrg3.of_walks hk3
        go_roundw
        case rel => exact ⟨_, cnt2, ps ++ [(x, c)], hrg4, by simp; omega, hC2, hV2, by simpa using hJ4⟩
        case measure => rw [hrg4.left_eq, hrg.left_eq]; exact hlt
      · gi_wp2
        refine bodyPost_ret (results_none rfl _ _ _) rfl ?_
        exact ⟨⟨_, rfl⟩, .inr ⟨_, trivial, hJx3⟩⟩
theorem mapvals_makeS (v : Value) (w : World) (b : Nat) (hv : v = .map (some b)) :
    Calls Try.prog 33 #[v] w fun e w' => e = .returned (.func (.func 45) #[] #[.pointer (some ⟨w.heap.size, 0, none⟩)]) ∧ w' = w.alloc (.cells #[.map (some b)] 61) := by
  subst hv
  go_enter Try.func33, Try.ntmps33
  go_wp2_with (fail)
  go_ret
  exact ⟨rfl, rfl⟩
theorem all_ofS {f : ByteArray → Option DStep} {D0 : DataW DStep} (h1 : ∀ k, has D0 (skey k) = (f k).isSome) (h2 : ∀ k v, f k = some v → ∀ z, D0.atKey (skey k) z = .held v) {xs : List DStep}
    (h : ∃ ps : List (List UInt8 × DStep), (ps.map (·.1)).Nodup ∧ (∀ x, x ∈ ps.map (·.1) ↔ has D0 (.string x) = true) ∧ (∀ p ∈ ps, ∀ z, D0.atKey (.string p.1) z = .held p.2) ∧ xs = ps.map (·.2)) : AllS f xs := by
  obtain ⟨ps, hn, hm, hv, rfl⟩ := h
  have hsk : ∀ x : List UInt8, skey ⟨x.toArray⟩ = .string x := fun x => by simp [skey]
  have hf : ∀ p ∈ ps, f ⟨p.1.toArray⟩ = some p.2 := by
    intro p hp
    have h3 := (hm p.1).1 (List.mem_map_of_mem hp)
    rw [← hsk, h1] at h3
    obtain ⟨v, hv'⟩ := Option.isSome_iff_exists.1 h3
    have h4 := h2 _ _ hv' .nil
    rw [hsk, hv p hp .nil] at h4
    rw [hv', DataW.held.inj h4]
  refine ⟨ps.map fun p => ⟨p.1.toArray⟩, ?_, fun k => ?_, ?_⟩
  · have : (ps.map fun p => (⟨p.1.toArray⟩ : ByteArray)) = (ps.map (·.1)).map fun x => ⟨x.toArray⟩ := by rw [List.map_map]; rfl
    rw [this, List.nodup_iff_pairwise_ne, List.pairwise_map]
    refine hn.imp fun {a b} hab he => hab ?_
    have := congrArg (fun x : ByteArray => x.data.toList) he
    simpa using this
  · rw [← h1]
    have h5 := hm k.data.toList
    constructor
    · intro hk
      obtain ⟨p, hp, rfl⟩ := List.mem_map.1 hk
      have := (hm p.1).1 (List.mem_map_of_mem hp)
      rw [hsk]; exact this
    · intro hk
      obtain ⟨p, hp, e⟩ := List.mem_map.1 (h5.2 hk)
      refine List.mem_map.2 ⟨p, hp, ?_⟩
      exact congrArg (fun x : List UInt8 => (⟨x.toArray⟩ : ByteArray)) e
  · clear hn hm hv
    induction ps with
    | nil => rfl
    | cons p ps ih =>
      rw [List.map_cons, List.map_cons, List.filterMap_cons, hf p (by simp), ← ih (fun q hq => hf q (by simp [hq]))]
/-- What maps.Values hands back. -/
theorem mapvals_stopsS (F : Fence) (n : Nat) (h8 : F.fn 45) (hro : F.round = none) (hn : 1 ≤ n) (Bm b nn : Nat) (f : ByteArray → Option DStep) (w : World) (hBm : Bm < w.heap.size)
    (hm : w.cell? ⟨Bm, 0, none⟩ = some (.map (some b))) (h : IsMapV stepE w b f nn) :
    SeqStopsK F n Try.prog 45 #[.pointer (some ⟨Bm, 0, none⟩)] (fun x : DStep => #[stepE.enc x]) KeepsWalks (fun xs => AllS f xs ∧ xs.length ≤ nn) (fun _ => True) nn w := fun l J Jx W hW hJ _ hY h0 => by
  have hb := h.lt
  obtain ⟨D, ho, h1, h2, h3⟩ := h
  have ho' : W.ownsMap Try.prog 9 stepE.R b nn D := by
    obtain ⟨es, clock, hg, r⟩ := ho
    exact ⟨es, clock, (hW.block b hb).trans hg, r⟩
  refine (mapvalsS F n h8 hro hn l Bm b nn D J Jx (fun pre x W1 hj hl => hY pre x W1 hj (by rw [h3] at hl; exact hl)) W hJ ((hW.cell (p := ⟨Bm, 0, none⟩) hBm).trans hm) ho' h0).mono ?_
  rintro e W' ⟨he, ⟨xs, hx, hl, hj⟩ | hx⟩
  · exact ⟨he, .inl ⟨xs, ⟨all_ofS h1 h2 hx, by rw [← h3]; exact hl⟩, hj⟩⟩
  · exact ⟨he, .inr hx⟩
set_option maxRecDepth 100000 in
set_option maxHeartbeats 2000000 in
theorem mapappS (f : ByteArray → Option DStep) (b nn Bs : Nat) (w : World) (hnn : nn ≤ 100000) (hBs : Bs < w.heap.size) (hc : w.cell? ⟨Bs, 0, none⟩ = some (.map (some b))) (hM : IsMapV stepE w b f nn) :
    Calls Try.prog 50 #[.slice none 0 0, .func (.func 45) #[] #[.pointer (some ⟨Bs, 0, none⟩)]] w fun e W' =>
      ∃ v xs, e = .returned v ∧ (AllS f xs ∧ xs.length ≤ nn) ∧ W'.ownsRow w.heap.size 37 6 v xs.length (xs.flatMap DStep.cells) ∧ (v = .slice none 0 0 ↔ xs = []) ∧ Below w.heap.size w W' := by
  refine (callsIn_wide (n := 4)).1 ?_
  obtain ⟨i0, hi, hz0, hz1, hz2⟩ := info_parts Try.infoStep
  refine callsIn_of_wp_marks Try.func50 rfl trivial ?_ rfl
  simp only [Try.ntmps50, List.size_toArray, List.length_cons, List.length_nil, Nat.reduceAdd, Nat.reduceSub, Array.replicate_succ, Array.replicate_zero, List.push_toArray, List.append_toArray, List.nil_append, List.cons_append]
  gi_wp2
  have bO := Boxed.new w 32 (.slice none 0 0)
  have hB0 : Below w.heap.size w (w.alloc (.cells #[.slice none 0 0] 32)) := (Below.refl _ w).alloc (Nat.le_refl _) _
  have hM2 : IsMapV stepE (w.alloc (.cells #[.slice none 0 0] 32)) b f nn := hM.fr (Fr.alloc Nothing _ _) (fun h => h)
  refine wpIn_rangeFunc_ownH rfl (by omega) (gf := 45) (lb := #[.pointer (some ⟨Bs, 0, none⟩)]) rfl trivial (enters_of Try.func45 (by kernel_rfl) rfl)
    (mapvals_stopsS Fence.wide (4 - 1) trivial rfl (by omega) Bs b nn f _ (by simp; omega) (cell_fr hc (Fr.alloc Nothing _ _) (fun h => h)) hM2) walksK_t walksK_b (Below.refl _ _) (fun _ => rfl)
    (fun pre W => (∃ v, Boxed W w.heap.size 32 v ∧ W.ownsRow w.heap.size 37 6 v pre.length (pre.flatMap DStep.cells) ∧ (v = .slice none 0 0 ↔ pre = [])) ∧ Below w.heap.size w W)
    (fun _ _ _ => False)
    (OwnFrom.and (Own.from (holdsRow_own w.heap.size w.heap.size 32 37 6 (fun pre : List DStep => pre.length) (fun pre => pre.flatMap DStep.cells) (fun pre v => v = .slice none 0 0 ↔ pre = [])) _) (ownFrom_below (Nat.le_refl _) (by simp)))
    (fun _ _ _ _ _ hs _ _ => hs)
    ⟨⟨_, bO, World.ownsRow_nil _ _ _ _, by simp⟩, hB0⟩
    (fun x a' W => ∃ Bx, w.heap.size < Bx ∧ W.heap[Bx]? = some (.cells x.cells.toArray 37 (0, 0)) ∧ a' = { tmps := #[.slice none 0 0, .func (.func 45) #[] #[.pointer (some ⟨Bs, 0, none⟩)], .pointer (some ⟨w.heap.size, 0, none⟩), undef, .slice none 0 0, .pointer (some ⟨Bx, 0, none⟩), .func (.func 45) #[] #[.pointer (some ⟨Bs, 0, none⟩)], stepE.enc x, undef, undef, undef, undef, undef], defers := [] })
    ?ax ?assign ?body ?done ?stop
  case ax =>
    rintro x a' _ X Y row ⟨Bx, h1, h2, h3⟩ hg hrow
    refine ⟨Bx, h1, (hg.block Bx (Array.getElem?_eq_some_iff.1 h2).1 (fun e' => ?_)).trans h2, h3⟩
    obtain ⟨_, o, ho, hc⟩ := hrow Bx e'.symm
    rw [h2] at ho; cases ho; cases hc
  case assign =>
    rintro l pre x W K ⟨⟨v, hv, hrow, hnil⟩, hB⟩ hK
    dsimp only [stepE, stepV]
    gi_wp2
    exact hK _ _ ((KeepsOthers.alloc _ _).from _) (KeepsWalks.alloc _ _) ⟨⟨v, hv.alloc _, hrow.alloc _, hnil⟩, hB.alloc hB.size _⟩ ⟨W.heap.size, hv.lt, World.alloc_heap_new W _, rfl⟩
  case body =>
    rintro l pre x a' W hl ⟨r, hr⟩ ⟨⟨v, hv, hrow, hnil⟩, hB⟩ ⟨Bx, hBx, hbx, rfl⟩ hlt
    have hc := hv.cell
    have hx : Row W Bx x.cells 37 := hbx
    have hx0 := hx.cell 0 rfl
    have hx1 := hx.cell 1 rfl
    have hx2 := hx.cell 2 rfl
    have hx3 := hx.cell 3 rfl
    have hx4 := hx.cell 4 rfl
    have hx5 := hx.cell 5 rfl
    have hnew : ∀ j u, x.cells[j]? = some u → (W.alloc (.cells x.cells.toArray 37)).cell? ((⟨W.heap.size, 0, none⟩ : Addr).add j) = some u := fun j u hu => by
      rw [Addr.add_lit, Nat.zero_add]; exact (Row.allocNew W x.cells 37).cell j hu
    have hone : ∀ u ∈ x.cells, u.oneCell' = true := by intro u hu; simp only [DStep.cells, List.mem_cons, List.not_mem_nil, or_false] at hu; rcases hu with rfl | rfl | rfl | rfl | rfl | rfl <;> rfl
    gi_wp2_with (gi_at_builtin; refine wpListIn_append_own _ rfl _ _ 32 rfl w.heap.size 37 i0 (.agg #[.string ByteArray.empty, .string ByteArray.empty, .string ByteArray.empty, .int .i64 0, .bool false, .bool false]) 6 72 Try.underlying32 hi hz0 hz1 hz2 rfl (by decide) _ _ _ rfl (hrow.alloc _) ⟨W.heap.size, 0, none⟩ 1 1 x.cells rfl rfl hnew hone (by unfold maxLen; omega) (by omega) (by have := hB.size; simp; omega) ?_; intro v' w1 hown' hgrow _; obtain ⟨g', cap', rfl⟩ := ownsRow_succ hown'; obtain ⟨hv1, hv2, hr2, hk2, hb2⟩ := hv.appended (by decide) hrow hB.size (Nat.le_refl _) hown' hgrow; have hc1 := hv1.cell; have hf1 := hv1.frozen)
    exact ⟨hk2.from _, hk2.walks, ⟨_, hv2, by simpa using hr2, by simp⟩, hB.trans hb2⟩
  case done =>
    rintro D ys W hD hS ⟨⟨v, hv, hrow, hnil⟩, hB⟩ hK
    have hc := hv.cell
    gi_wp2
    refine ⟨by simp, .inl ⟨_, _, rfl, run_takeDeferred hK, ?_⟩⟩
    exact ⟨_, results_tmp rfl _ _ _, v, ys, rfl, hS, ownsRow_putObj hrow _ hK rfl, hnil, hB.trans (belowK_b (w := w) (Nat.le_refl _) W D _ _ (by simp at hD; omega) hK rfl rfl)⟩
  case stop =>
    rintro D c pre W _ _ h _
    exact h.elim
/-- slices.Collect over maps.Values. -/
theorem mapcollectS (f : ByteArray → Option DStep) (b nn Bs : Nat) (w : World) (hnn : nn ≤ 100000) (hBs : Bs < w.heap.size) (hc : w.cell? ⟨Bs, 0, none⟩ = some (.map (some b))) (hM : IsMapV stepE w b f nn) :
    Calls Try.prog 43 #[.func (.func 45) #[] #[.pointer (some ⟨Bs, 0, none⟩)]] w fun e W' =>
      ∃ v xs, e = .returned v ∧ (AllS f xs ∧ xs.length ≤ nn) ∧ W'.ownsRow w.heap.size 37 6 v xs.length (xs.flatMap DStep.cells) ∧ (v = .slice none 0 0 ↔ xs = []) ∧ Below w.heap.size w W' := by
  go_enter Try.func43, Try.ntmps43
  go_wp2_with (go_at_call 50; refine (mapappS f b nn Bs _ hnn hBs hc hM).mono ?_; rintro e w1 ⟨v, xs, rfl, h1, h2, h3, h4⟩)
  go_ret
  exact ⟨v, xs, rfl, h1, h2, h3, h4⟩
end Go.Proofs.Ytfedaolpanncoaa
