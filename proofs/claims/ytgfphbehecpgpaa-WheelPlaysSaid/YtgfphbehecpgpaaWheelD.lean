import Derived.Test.YtgfphbehecpgpaaWheelC
namespace Go.Proofs.Ytgfphbehecpgpaa
open Go.RowKit
def Holds (f : Int → Option Int) (L : List Due) : Prop := ∀ i a, f i = some a ↔ (i, a) ∈ L
theorem head_of_min {L : List Due} {d : Due} (hs : L.Pairwise dless) (hd : d ∈ L) (hm : ∀ x ∈ L, ¬ dless x d) : ∃ R, L = d :: R := by
  cases L with
  | nil => simp at hd
  | cons x R =>
    rcases List.mem_cons.1 hd with rfl | h
    · exact ⟨R, rfl⟩
    · exact (hm x List.mem_cons_self ((List.pairwise_cons.1 hs).1 d h)).elim
theorem holds_tail {f : Int → Option Int} {d : Due} {R : List Due} (h : Holds f (d :: R)) (hn : ((d :: R).map Prod.fst).Nodup) : Holds (strike f d.1) R := by
  intro i a
  unfold strike
  simp only [List.map_cons, List.nodup_cons, List.mem_map, not_exists, not_and] at hn
  by_cases e : i = d.1
  · subst e
    simp only [if_true]
    constructor
    · intro h; simp at h
    · intro h1; exact (hn.1 _ h1 rfl).elim
  · rw [if_neg e, h i a, List.mem_cons]
    constructor
    · rintro (h1 | h1)
      · exact (e (by rw [← h1])).elim
      · exact h1
    · exact .inr
theorem heap_min {H : List Due} (h : HeapTo H H.length) {x : Due} (hx : x ∈ H) : ¬ dless x (gd H 0) := by
  obtain ⟨i, hi, rfl⟩ := List.getElem_of_mem hx
  rw [← gd_at hi]
  exact heap_top h i hi

abbrev ints (D : List Due) : List Value := D.map (fun d => .int .i64 d.1)
/-- On the way of Go. -/
structure GoAt (w : World) (p mb : Nat) (v : Value) (t : Int) (H : List Due) (L : List Due) (H' : List Due) (v' : Value) (L' D : List Due) (f : Int → Option Int) (lv : Value) (wr : World) : Prop where
  wheel : WheelAt wr p v' mb t H' f L'.length
  holds : Holds f L'
  split : L = D ++ L'
  early : ∀ d ∈ D, d.2 ≤ t
  heap : HeapTo H' H'.length
  sub : ∀ d ∈ H', d ∈ H
  kept : ∀ d ∈ L', d ∈ H'
  old : ∀ k, InBlock v' k → InBlock v k
  le : H'.length ≤ H.length
  few : D.length + H'.length ≤ H.length
  own : Owns wr 3 1 lv D.length (ints D)
  fresh : ∀ k, InBlock lv k → w.heap.size ≤ k
  fr : Fr (fun k => k = p ∨ k = mb ∨ InBlock v k) w wr
  vlt : ∀ k, InBlock v k → k < w.heap.size
  plt : p < w.heap.size
  mlt : mb < w.heap.size
section
variable {w wr w3 : World} {p mb n : Nat} {v v' : Value} {t : Int} {H L H' L' D : List Due} {f : Int → Option Int} {lv : Value}
theorem GoAt.wide (g : GoAt w p mb v t H L H' v' L' D f lv wr) {S : Nat → Prop} (F : Fr S wr w3) (hS : ∀ k, S k → k = p ∨ k = mb ∨ InBlock v k) :
    Owns w3 3 1 lv D.length (ints D) ∧ Fr (fun k => k = p ∨ k = mb ∨ InBlock v k) w w3 := by
  refine ⟨g.own.fr F (fun k hk hs => ?_), g.fr.trans' (F.mono (fun k _ h => hS k h))⟩
  have h1 := g.fresh k hk
  have h2 := g.plt
  have h3 := g.mlt
  rcases hS k hs with h | h | h
  · omega
  · omega
  · have := g.vlt k h; omega
theorem GoAt.tidied (g : GoAt w p mb v t H L H' v' L' D f lv wr) {H3 : List Due} {v3 : Value} (T : TidyAt wr p v' mb t H' f L'.length H3 v3 w3) : GoAt w p mb v t H L H3 v3 L' D f lv w3 := by
  obtain ⟨o, F⟩ := g.wide T.fr (fun k h => h.elim .inl (fun h => .inr (.inr (g.old k h))))
  have h1 := T.le
  have h2 := g.le
  have h3 := g.few
  exact ⟨T.wheel, g.holds, g.split, g.early, T.heap, fun d hd => g.sub d (T.sub d hd), fun d hd => T.kept d (g.kept d hd) ((g.holds d.1 d.2).2 hd), fun k hk => g.old k (T.old k hk), by omega, by omega, o, g.fresh, F, g.vlt, g.plt, g.mlt⟩
theorem GoAt.apart (g : GoAt w p mb v t H L H' v' L' D f lv wr) : ¬ InBlock lv p ∧ ¬ InBlock lv mb ∧ ∀ k, InBlock v' k → ¬ InBlock lv k := by
  refine ⟨fun h => ?_, fun h => ?_, fun k hk h => ?_⟩
  · have := g.fresh _ h; have := g.plt; omega
  · have := g.fresh _ h; have := g.mlt; omega
  · have := g.fresh _ h; have := g.vlt k (g.old k hk); omega
theorem GoAt.popped {d : Due} {R H2 : List Due} {v2 : Value} (g : GoAt w p mb v t H L (d :: R) v' L' D f lv wr) (A : WheelAt w3 p v2 mb t H2 f L'.length) (h2 : HeapTo H2 H2.length) (p2 : (d :: H2).Perm (d :: R)) (i2 : ∀ k, InBlock v2 k → InBlock v' k) (F : Fr (WS p v') wr w3)
    (nl : ¬ live f d) : GoAt w p mb v t H L H2 v2 L' D f lv w3 := by
  obtain ⟨o, F⟩ := g.wide F (fun k h => h.elim .inl (fun h => .inr (.inr (g.old k h))))
  have h1 := g.le
  have h3 := g.few
  have lp := p2.length_eq
  simp only [List.length_cons] at lp h1 h3
  refine ⟨A, g.holds, g.split, g.early, h2, fun x hx => g.sub x (p2.mem_iff.1 (List.mem_cons_of_mem _ hx)), fun x hx => ?_, fun k hk => g.old k (i2 k hk), by omega, by omega, o, g.fresh, F, g.vlt, g.plt, g.mlt⟩
  rcases List.mem_cons.1 (p2.mem_iff.2 (g.kept x hx)) with rfl | h
  · exact (nl ((g.holds _ _).2 hx)).elim
  · exact h
theorem GoAt.front {d : Due} {R : List Due} (g : GoAt w p mb v t H L (d :: R) v' L' D f lv wr) (hs : L.Pairwise dless) (hl : live f d) : ∃ L2, L' = d :: L2 := by
  rw [g.split] at hs
  refine head_of_min (List.pairwise_append.1 hs).2.1 ((g.holds _ _).1 hl) (fun x hx => ?_)
  have := heap_min g.heap (g.kept x hx)
  rwa [gd_cons] at this
theorem GoAt.came {d : Due} {R H2 L2 : List Due} {v2 lv2 : Value} (g : GoAt w p mb v t H L (d :: R) v' (d :: L2) D f lv wr) (hd : (L.map Prod.fst).Nodup) (hs : L.Pairwise dless) (ht : d.2 ≤ t) (A : WheelAt w3 p v2 mb t H2 (strike f d.1) L2.length) (h2 : HeapTo H2 H2.length) (p2 : (d :: H2).Perm (d :: R)) (i2 : ∀ k, InBlock v2 k → InBlock v' k)
    (o : Owns w3 3 1 lv2 (D ++ [d]).length (ints (D ++ [d]))) (hfr : ∀ k, InBlock lv2 k → w.heap.size ≤ k) (F : Fr (fun k => k = p ∨ k = mb ∨ InBlock v k) w w3) : GoAt w p mb v t H L H2 v2 L2 (D ++ [d]) (strike f d.1) lv2 w3 := by
  have h1 := g.le
  have h3 := g.few
  have lp := p2.length_eq
  simp only [List.length_cons] at lp h1 h3
  have hs2 := g.split
  have hd2 : ((d :: L2).map Prod.fst).Nodup := by
    rw [hs2, List.map_append] at hd
    exact (List.nodup_append.1 hd).2.1
  have hs3 : (d :: L2).Pairwise dless := by rw [hs2] at hs; exact (List.pairwise_append.1 hs).2.1
  refine ⟨A, holds_tail g.holds hd2, by rw [hs2]; simp, fun x hx => ?_, h2, fun x hx => g.sub x (p2.mem_iff.1 (List.mem_cons_of_mem _ hx)), fun x hx => ?_, fun k hk => g.old k (i2 k hk), by omega, by simp; omega, o, hfr, F, g.vlt, g.plt, g.mlt⟩
  · rcases List.mem_append.1 hx with h | h
    · exact g.early x h
    · simp at h; rw [h]; exact ht
  · rcases List.mem_cons.1 (p2.mem_iff.2 (g.kept x (List.mem_cons_of_mem _ hx))) with rfl | h
    · exact (dless_irrefl _ ((List.pairwise_cons.1 hs3).1 _ hx)).elim
    · exact h
end
theorem infoInt : (Try.prog.info? 3).map (fun i => (i.zero, i.size, i.bytes)) = some (some (.int .i64 0), 1, 8) := by kernel_rfl

set_option maxHeartbeats 4000000 in
set_option maxRecDepth 100000 in
theorem wheel_go {w : World} {p mb : Nat} {v : Value} {now : Int} {H L : List Due} {f : Int → Option Int} (h : WheelAt w p v mb now H f L.length) (hh : HeapTo H H.length) (hl : H.length < 5000) (hw : ∀ d ∈ H, W64 d.1)
    (hf : Holds f L) (hs : L.Pairwise dless) (hnd : (L.map Prod.fst).Nodup) (hk : ∀ d ∈ L, d ∈ H) (t : Int) (h1 : now ≤ t) (h2 : t ≤ 1099511627776) :
    Calls Try.prog 13 #[.pointer (some ⟨p, 0, none⟩), .int .i64 t] w fun e w' => ∃ lv, e = .returned (.tuple #[lv, .int .i64 0]) ∧
      ∃ H' v' L' D f', GoAt w p mb v t H L H' v' L' D f' lv w' ∧ (∀ d ∈ L', t < d.2) ∧ (H' = [] ∨ live f' (gd H' 0)) := by
  have g1 : decide (t < now) = false := by rw [decide_eq_false_iff_not]; omega
  have g2 : decide (1099511627776 < t) = false := by rw [decide_eq_false_iff_not]; omega
  have c2 := h.wha.head.cell 2 rfl
  have z2 := h.wha.head.free 2
  have hplt := h.wha.head.lt
  have F0 : Fr (fun k => k = p) w (w.setCell ⟨p, 2, none⟩ (.int .i64 t)) := Fr.setCell (S := fun k => k = p) (p := ⟨p, 2, none⟩) rfl _
  have W0 : WheelAt (w.setCell ⟨p, 2, none⟩ (.int .i64 t)) p v mb t H f L.length :=
    ⟨⟨h.wha.head.set 2 (.int .i64 t), h.wha.hp.fr F0 (fun k hk e => h.wha.ne k hk e), h.wha.ne⟩, h.map.fr F0 h.nemp, h.nemp, h.nemv⟩
  have HW := Lib.hid hw
  have HS := Lib.hid hs
  have HD := Lib.hid hnd
  have G0 : Hid (GoAt w p mb v t H L H v L [] f (.slice none 0 0) (w.setCell ⟨p, 2, none⟩ (.int .i64 t))) :=
    Lib.hid ⟨W0, hf, rfl, by simp, hh, fun _ h => h, hk, fun _ h => h, Nat.le_refl _, by simp, Owns.nil _ _ _, fun k hk => by simp [InBlock, Value.ownBlock] at hk, F0.mono (fun _ _ h => .inl h), fun k hk => h.wha.hp.lt hk, hplt, h.map.lt⟩
  clear h hh hw hs hnd hf hk W0
  go_enter Try.func13, Try.ntmps13
  go_wp2_with (fail)
  go_loopg [6] H.length (fun g lv wr => ∃ (H' : List Due) (v' : Value) (L' D : List Due) (f' : Int → Option Int), g = H'.length ∧ Hid (GoAt w p mb v t H L H' v' L' D f' lv wr))
  case atStart => exact ⟨H, v, L, [], f, rfl, G0⟩
  case round =>
    obtain ⟨H', v', L', D, f', rfl, HX⟩ := hrel
    obtain ⟨a, c, rfl⟩ := HX.out.wheel.wha.slice
    have h0 := HX.out.wheel.wha.head.cell 0 rfl
    have hle := HX.out.le
    cases H' with
    | nil =>
      have hT := wheel_tidy HX.out.wheel HX.out.heap (by simp) (by simp)
      go_wp2_with (go_at_call 25; refine hT.mono ?_; rintro e w3 ⟨rfl, H3, v3, T3, r3⟩)
      refine bodyPost_ret (results_tmp2 rfl _ _ _) rfl ⟨_, rfl, H3, v3, L', D, f', HX.out.tidied T3, fun x hx => ?_, r3⟩
      have := HX.out.kept x hx
      simp at this
    | cons d R =>
      obtain ⟨b, o, rfl, hc⟩ := HX.out.wheel.wha.hp.dues.2.at_ (i := 0) (by simp)
      have c1 : wr.cell? ⟨b, o + 1, none⟩ = some (.int .i64 d.2) := by have := hc 1 _ rfl; simpa using this
      have e1 : (d :: R).length = R.length + 1 := rfl
      rw [e1] at h0 hle
      have e2 : decide (0 < (R.length : Int) + 1) = true := by rw [decide_eq_true_iff]; omega
      have hd : W64 d.1 := HW.out d (HX.out.sub d List.mem_cons_self)
      clear hc
      by_cases ht : d.2 ≤ t
      · have g3 : decide (d.2 ≤ t) = true := by rw [decide_eq_true_iff]; omega
        have POP := heap_pop HX.out.wheel.wha HX.out.heap (by simp) (by have := HX.out.le; omega)
        rw [gd_cons] at POP
        cases ho : decide (f' d.1 ≠ some d.2) with
        | true =>
          go_wp2_with (first
            | (go_at_call 26; refine POP.mono ?_; rintro e w2 ⟨rfl, v2, H2, A2, p2, h2', i2, f2⟩; have hA := assert_due d w2; have W2 := HX.out.wheel.turned A2 f2 (fun k hk => .inl (i2 k hk)); have W2A := W2.quiet (Fr.alloc Nothing w2 (.cells #[.int .i64 d.1, .int .i64 d.2] 60)); have OLD := wheel_old W2A d hd; rw [ho] at OLD)
            | (go_at_call 27; refine OLD.mono ?_; rintro e w3 ⟨rfl, f3⟩))
          have nl : ¬ live f' d := of_decide_eq_true ho
          have lp := p2.length_eq
          simp only [List.length_cons] at lp
          go_roundg H2.length
          case measure => simp only [List.length_cons]; omega
          case rel =>
            exact ⟨H2, v2, L', D, f', rfl, Lib.hid (HX.out.popped (W2A.quiet f3) h2' p2 i2 (f2.trans' (((Fr.alloc Nothing _ _).trans' f3).mono (fun _ _ h => h.elim))) nl)⟩
        | false =>
          have hlv : live f' d := Decidable.not_not.1 (of_decide_eq_false ho)
          obtain ⟨L2, rfl⟩ := HX.out.front HS.out hlv
          obtain ⟨i0, hi, hz0, hz1, hz2⟩ := info_parts infoInt
          have Hi := Lib.hid hi
          have Hz0 := Lib.hid hz0
          have Hz1 := Lib.hid hz1
          have Hz2 := Lib.hid hz2
          clear hi hz0 hz1 hz2
          go_wp2_with (first
            | (go_at_call 26; refine POP.mono ?_; rintro e w2 ⟨rfl, v2, H2, A2, p2, h2', i2, f2⟩; have hA := assert_due d w2; have W2 := HX.out.wheel.turned A2 f2 (fun k hk => .inl (i2 k hk)); have W2A := W2.quiet (Fr.alloc Nothing w2 (.cells #[.int .i64 d.1, .int .i64 d.2] 60)); have OLD := wheel_old W2A d hd; rw [ho] at OLD)
            | (go_at_call 27; refine OLD.mono ?_; rintro e w3 ⟨rfl, f3⟩; have hn := (Row.allocNew w2 [.int .i64 d.1, .int .i64 d.2] 60).fr f3 (fun h => h); have hn0 := hn.cell 0 rfl; have f23 := f2.trans' (((Fr.alloc Nothing _ _).trans' f3).mono (fun _ _ h => h.elim)); have hob := (HX.out.wide f23 (fun k h => h.elim .inl (fun h => .inr (.inr (HX.out.old k h))))).1)
            | (at_builtin; go_must (refine wpList_append_fp rfl (.tmp 51) (.tmp 54) 23 rfl 3 i0 (.int .i64 0) 1 8 Try.underlying23 Hi.out Hz0.out Hz1.out Hz2.out rfl (by decide) u6 D.length (ints D) rfl (hob.fr (Fr.alloc Nothing _ _) (fun _ _ h => h)) _ 1 1 [.int .i64 d.1] rfl rfl (by simp) (Sl.ofRow (Row.allocNew _ _ _)) (by intro u hu; simp at hu; rw [hu]; rfl) (by have := HX.out.few; unfold maxLen; omega) (by have := HX.out.few; omega) ?_); intro v7 w7 o7 f7 n7 s7 _
               have fa := Fr.alloc Nothing w3 (.cells #[.int .i64 d.1] 3)
               have f7' : Fr (InBlock u6) w3 w7 := (fa.mono (fun _ _ h => h.elim)).trans' f7
               have W7 := (W2A.quiet f3).fr f7' HX.out.apart.1 HX.out.apart.2.1 (fun k hk => HX.out.apart.2.2 k (i2 k hk))
               have hn7 := hn.fr f7' (fun hk => by have := HX.out.own.lt hk; have := f2.size; omega)
               have q07 := hn7.cell 0 rfl
               have c17 := W7.wha.head.cell 1 rfl
               obtain ⟨w8, hr8, M8, F8⟩ := (W7.map.fr (Fr.drew Nothing w7) (fun h => h)).drop Try.underlying52 hd 0
               have W8 := (W7.quiet (Fr.drew Nothing _)).stored M8 F8
               clear hn7 M8))
          go_region
          go_wp2_with (fail)
          have n7' : NewOr (w3.alloc (.cells #[.int .i64 d.1] 3)) u6 v7 := n7
          have z1 := HX.out.fr.size
          have z2 := f23.size
          have z3 : w3.heap.size ≤ (w3.alloc (.cells #[.int .i64 d.1] 3)).heap.size := fa.size
          have fr7 : ∀ k, InBlock v7 k → w.heap.size ≤ k := fun k hk => by
            rcases n7' k hk with h | h
            · exact HX.out.fresh k h
            · omega
          have o8 : Owns w8 3 1 v7 (D.length + 1) (ints D ++ [.int .i64 d.1]) := (o7.fr (Fr.drew Nothing _) (fun _ _ h => h)).fr F8 (fun k hk e => by have := fr7 k hk; have := HX.out.mlt; omega)
          have W9 : WheelAt w8 p v2 mb t H2 (strike f' d.1) L2.length := by
            have := W8
            rw [show f' d.1 = some d.2 from hlv] at this
            simp only [Option.isSome_some, if_true] at this
            exact this
          have lp := p2.length_eq
          simp only [List.length_cons] at lp
          have fin : Fr (fun k => k = p ∨ k = mb ∨ InBlock v k) w w8 := by
            have q1 := (HX.out.wide f23 (fun k h => h.elim .inl (fun h => .inr (.inr (HX.out.old k h))))).2
            have q2 := q1.trans f7' (fun k hk h => by have := HX.out.fresh k h; omega)
            have q3 := q2.trans' ((Fr.drew Nothing w7).mono (fun _ _ h => h.elim))
            exact q3.trans F8 (fun k hk h => .inr (.inl h))
          go_roundg H2.length
          case measure => simp only [List.length_cons]; omega
          case rel =>
            exact ⟨H2, v2, L2, D ++ [d], strike f' d.1, rfl, Lib.hid (HX.out.came HD.out HS.out ht W9 h2' p2 i2 (by rw [List.length_append]; simpa [ints] using o8) fr7 fin)⟩
      · have g3 : decide (d.2 ≤ t) = false := by rw [decide_eq_false_iff_not]; omega
        have hT := wheel_tidy HX.out.wheel HX.out.heap (by have := HX.out.le; omega) (fun x hx => HW.out x (HX.out.sub x hx))
        go_wp2_with (go_at_call 25; refine hT.mono ?_; rintro e w3 ⟨rfl, H3, v3, T3, r3⟩)
        refine bodyPost_ret (results_tmp2 rfl _ _ _) rfl ⟨_, rfl, H3, v3, L', D, f', HX.out.tidied T3, fun x hx => ?_, r3⟩
        have hm := heap_min HX.out.heap (HX.out.kept x hx)
        rw [gd_cons] at hm
        unfold dless at hm
        omega
end Go.Proofs.Ytgfphbehecpgpaa
