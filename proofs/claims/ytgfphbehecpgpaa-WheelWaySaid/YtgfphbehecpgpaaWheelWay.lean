/- WheelWay answers true for every input and changes no memory that was there. No condition. -/
import Derived.Test.YtgfphbehecpgpaaWayR
import Derived.Test.YtgfphbehecpgpaaTxt
import Derived.Test.YtgfphbehecpgpaaSkip
namespace Go.Proofs.Ytgfphbehecpgpaa
open Go.RowKit
set_option maxHeartbeats 4000000 in
set_option maxRecDepth 100000 in
theorem wheelway_any (a : Option Addr) (rs : List WheelOp) (c : Nat) (b : Option Addr) (st : List Int) (cb : Nat) (fin : Int) (w : World) (hlc : rs.length ≤ c) (hcm : c ≤ maxLen) (ht : Recs WheelOp.cells 4 w a rs) (_hs : ∀ r ∈ rs, r.Good)
    (_hlb : st.length ≤ cb) (_hcb : cb ≤ maxLen) (hst : Sl w b (nums st)) (_hz : ∀ n ∈ st, (Lit.int .i64 n).wf = true) (_hf : (Lit.int .i64 fin).wf = true) :
    Calls Try.prog 3 #[.slice a rs.length c, .slice b st.length cb, .int .i64 fin] w fun e w' => e = .returned (.bool true) ∧ Below w.heap.size w w' := by
  have hc9 : (c : Int) ≤ 9223372036854775807 := by unfold maxLen at hcm; omega
  have HG := Lib.hid _hs
  obtain ⟨i0, hi, hz0, hz1, hz2⟩ := info_parts infoInt
  have Hi := Lib.hid hi
  have Hz0 := Lib.hid hz0
  have Hz1 := Lib.hid hz1
  have Hz2 := Lib.hid hz2
  clear hi hz0 hz1 hz2
  obtain ⟨E, hE, eE⟩ := umod fin 1099511627777 (by omega) (by omega)
  have EE : Hid (wrap64 ((IntKind.u64.wrap fin).tmod 1099511627777) = (E : Int)) := eE
  clear eE
  have HT := Lib.hid ht
  have HS := Lib.hid hst
  clear _hs ht hst hcm _hz _hf
  go_enter Try.func3, Try.ntmps3
  go_wp2_with (fail)
  refine (wheel_lives _).mono ?_
  rintro e w1 ⟨rfl, f0⟩
  go_wp2_with (fail)
  refine (wheelop_early a rs.length c _ hlc hc9).mono ?_
  rintro e w2 ⟨rfl, rfl⟩
  go_wp2_with (first
    | (with_reducible (go_at_call 10; refine (isw_new w1).mono ?_; rintro e w2 ⟨p, S, rfl, K1, n1, f1⟩))
    | (go_at_call 10; refine (isw_new w2).mono ?_; rintro e w3 ⟨q, T, rfl, K2, n2, f2⟩))
  have inv : Two S T p q w w3 0 0 [] [] 0 0 :=
    ⟨K1.fr f2 (fun _ _ h => h), K2, fun k h1 h2 => by have := K1.lt h1; have := n2 k h2; omega, fun k hk => Nat.le_trans f0.size (n1 k hk), fun k hk => Nat.le_trans f0.size (Nat.le_trans f1.size (n2 k hk)), (f0.fromN.trans' f1.fromN).trans' f2.fromN⟩
  obtain ⟨N, hN⟩ : ∃ N, N = min rs.length 400 := ⟨_, rfl⟩
  rw [← hN]
  have hN1 : N ≤ rs.length := by omega
  have hN4 : N ≤ 400 := by omega
  clear hN K1 K2 n1 n2 f0 f1 f2
  go_loopg [9] N (fun g i wr => ∃ (k : Nat) (Sa Sb : Nat → Prop) (L : List Due), k ≤ N ∧ g = N - k ∧ i = .int .i64 k ∧ L.length ≤ 256 ∧ Hid (Two Sa Sb p q w wr 0 0 L L k k))
  case atStart => exact ⟨0, S, T, [], by omega, rfl, rfl, by simp, inv⟩
  case round =>
    obtain ⟨k, Sa, Sb, L, hk, rfl, rfl, hL, HX⟩ := hrel
    by_cases hlt : k < N
    · obtain ⟨b1, o1, rfl, hc⟩ := HT.out.at_ (i := k) (by omega)
      have hki : k < rs.length := by omega
      obtain ⟨o, ho⟩ : ∃ o, o = rs[k] := ⟨_, rfl⟩
      rw [← ho] at hc
      have c0 : w.cell? ⟨b1, o1 + k * 4, none⟩ = some (.int .i64 o.kind) := hc 0 _ rfl
      have c1 : w.cell? ⟨b1, o1 + k * 4 + 1, none⟩ = some (.int .i64 o.id) := hc 1 _ rfl
      have c2 : w.cell? ⟨b1, o1 + k * 4 + 2, none⟩ = some (.int .i64 o.at_) := hc 2 _ rfl
      have c3 : w.cell? ⟨b1, o1 + k * 4 + 3, none⟩ = some (.bool o.on) := hc 3 _ rfl
      have hblt := World.block_lt_of_cell? w _ c0
      simp only at hblt
      have hw : W64 o.id := by
        have := (HG.out rs[k] (List.getElem_mem hki)).2.1
        rw [← ho] at this
        have h1 : IntKind.i64.min = -9223372036854775808 := by decide
        have h2 : IntKind.i64.max = 9223372036854775807 := by decide
        simp [Lit.wf, h1, h2] at this
        unfold W64; omega
      have HB : Hid (∀ w', Fr (FromB w.heap.size) w w' → w'.cell? ⟨b1, o1 + k * 4, none⟩ = some (.int .i64 o.kind) ∧ w'.cell? ⟨b1, o1 + k * 4 + 1, none⟩ = some (.int .i64 o.id) ∧ w'.cell? ⟨b1, o1 + k * 4 + 2, none⟩ = some (.int .i64 o.at_) ∧ w'.cell? ⟨b1, o1 + k * 4 + 3, none⟩ = some (.bool o.on)) :=
        Lib.hid (fun w' F => ⟨cell_fr c0 F (by show ¬ _ ≤ _; omega), cell_fr c1 F (by show ¬ _ ≤ _; omega), cell_fr c2 F (by show ¬ _ ≤ _; omega), cell_fr c3 F (by show ¬ _ ≤ _; omega)⟩)
      clear hc ho c0 c1 c2 c3 hblt
      have hkI : (k : Int) < N := by omega
      have hNc : (N : Int) ≤ c := by omega
      cases z1 : (o.knd == 0) with
      | true =>
        go_wp2_with (fail)
        go_region_held3 (fun w' => w'.cell? ⟨b1, o1 + k * 4, none⟩ = some (.int .i64 o.kind) ∧ w'.cell? ⟨b1, o1 + k * 4 + 1, none⟩ = some (.int .i64 o.id) ∧ w'.cell? ⟨b1, o1 + k * 4 + 2, none⟩ = some (.int .i64 o.at_) ∧ w'.cell? ⟨b1, o1 + k * 4 + 3, none⟩ = some (.bool o.on))
          (first | exact HB.out _ HX.out.fr | exact HB.out _ HK.out.fr | exact HB.out _ HA1.out.fr | exact HB.out _ HB1.out.fr | exact HB.out _ (HX.out.fr.trans' (Fr.drew _ _)))
          (first
            | (go_at_call 11; refine (wheelop_kind o _).mono ?_; rintro e w4 ⟨rfl, f4⟩; have HK := Lib.hid (HX.out.quiet ((Fr.drew Nothing _).trans' f4)))
            | (with_reducible (go_at_call 12; refine (isw_set_any HK.out.a hw hL (by omega)).mono ?_; rintro e w5 ⟨rfl, S5, K5, n5, f5⟩; have HA1 := Lib.hid (HK.out.stepA K5 n5 f5)))
            | (go_at_call 12; refine (isw_set_any HA1.out.b hw hL (by omega)).mono ?_; rintro e w6 ⟨rfl, S6, K6, n6, f6⟩; have HB1 := Lib.hid (HA1.out.stepB K6 n6 f6)))
        go_wp2_with (fail)
        go_roundg (N - (k + 1))
        case measure => omega
        case rel => exact ⟨k + 1, S5, S6, _, by omega, rfl, by go_num, setR_len HX.out.a.neat hL 0 o.id o.at_, HB1⟩
      | false =>
        go_wp2_with (fail)
        refine wp_region_held_drew (S := fun w' => w'.cell? ⟨b1, o1 + k * 4, none⟩ = some (.int .i64 o.kind) ∧ w'.cell? ⟨b1, o1 + k * 4 + 1, none⟩ = some (.int .i64 o.id) ∧ w'.cell? ⟨b1, o1 + k * 4 + 2, none⟩ = some (.int .i64 o.at_) ∧ w'.cell? ⟨b1, o1 + k * 4 + 3, none⟩ = some (.bool o.on)) (by kernel_rfl) (HB.out _ (HX.out.fr.trans' (Fr.drew _ _))) (fun hHeld => ?_)
        refine wpAnyH_yield 30 (i := 0) (v := .slice (some ⟨b1, o1, none⟩) N c) rfl rfl (by kernel_rfl) (by kernel_rfl) (by kernel_rfl) (fun _ _ _ h => h) (Or.inl ⟨by rfl, fun w' hSw => by (dsimp only at hSw; go_simp)⟩) hHeld ?_
        try simp only [Act.put, List.setIfInBounds_toArray, List.set_cons_zero, List.set_cons_succ]
        refine wpAnyH_yield 31 (i := 1) (v := .int .i64 k) rfl rfl (by kernel_rfl) (by kernel_rfl) (by kernel_rfl) (fun _ _ _ h => h) (Or.inl ⟨by rfl, fun w' hSw => by (dsimp only at hSw; go_simp)⟩) hHeld ?_
        try simp only [Act.put, List.setIfInBounds_toArray, List.set_cons_zero, List.set_cons_succ]
        refine wpAnyH_yield 32 (i := 2) (v := .pointer (some ⟨b1, o1 + k * 4, none⟩)) rfl rfl (by kernel_rfl) (by kernel_rfl) (by kernel_rfl) (fun _ _ _ h => h) (Or.inl ⟨by rfl, fun w' hSw => by (dsimp only at hSw; go_simp)⟩) hHeld ?_
        try simp only [Act.put, List.setIfInBounds_toArray, List.set_cons_zero, List.set_cons_succ]
        refine wpAnyH_yield 33 (i := 3) (v := .agg #[.int .i64 o.kind, .int .i64 o.id, .int .i64 o.at_, .bool o.on]) rfl rfl (by kernel_rfl) (by kernel_rfl) (by kernel_rfl) (fun _ _ _ h => h) (Or.inl ⟨by rfl, fun w' hSw => by (dsimp only at hSw; go_simp)⟩) hHeld ?_
        try simp only [Act.put, List.setIfInBounds_toArray, List.set_cons_zero, List.set_cons_succ]
        refine wpAnyH_ready (rs := [4]) (by kernel_rfl) (by simp) ?_
        refine AllReadyH.cons rfl (fun K hK => ?_) AllReadyH.nil
        go_simp
        go_at_call 11
        refine (wheelop_kind o _).mono ?_
        rintro e w4 ⟨rfl, f4⟩
        have HK := Lib.hid (HX.out.quiet ((Fr.drew Nothing _).trans' f4))
        refine hK.out _ _ (HB.out _ HK.out.fr) (fun hHeld => ?_)
        clear hK
        try simp only [Act.put, List.setIfInBounds_toArray, List.set_cons_zero, List.set_cons_succ]
        refine wpAnyH_yield 35 (i := 5) (v := .bool false) rfl rfl (by kernel_rfl) (by kernel_rfl) (by kernel_rfl) (fun _ _ _ h => h) (Or.inl ⟨by rfl, fun w' hSw => by (dsimp only at hSw; go_simp)⟩) hHeld ?_
        try simp only [Act.put, List.setIfInBounds_toArray, List.set_cons_zero, List.set_cons_succ]
        refine wpAnyH_yield 36 (i := 6) (v := .bool false) rfl rfl (by kernel_rfl) (by kernel_rfl) (by kernel_rfl) (fun _ _ _ h => h) (Or.inl ⟨by rfl, fun w' hSw => by (dsimp only at hSw; go_simp)⟩) hHeld ?_
        try simp only [Act.put, List.setIfInBounds_toArray, List.set_cons_zero, List.set_cons_succ]
        refine wpAnyH_skips (g := 6) (b := true) (t := 36) (by kernel_rfl) (by rfl) (fun d _ _ _ h => by cases d <;> exact h) [(7, 37), (8, 38), (9, 39), (10, 40), (11, 41), (12, 42), (13, 43), (14, 44), (15, 45), (16, 46), (17, 47), (18, 48), (19, 49), (20, 50), (21, 51), (22, 52), (23, 53), (24, 54), (25, 55), (26, 56), (27, 57), (28, 58), (29, 59), (30, 60), (31, 61)] 1 _ _ _ (by kernel_rfl) (by rfl) hHeld ?_
        simp only [List.foldl_cons, List.foldl_nil, Act.put, List.setIfInBounds_toArray, List.set_cons_zero, List.set_cons_succ]
        refine wpAnyH_yield 62 (i := 32) (v := .bool false) rfl rfl (by kernel_rfl) (by kernel_rfl) (by kernel_rfl) (fun _ _ _ h => h) (Or.inl ⟨by rfl, fun w' hSw => by (dsimp only at hSw; go_simp)⟩) hHeld ?_
        try simp only [Act.put, List.setIfInBounds_toArray, List.set_cons_zero, List.set_cons_succ]
        refine wpAnyH_done (by kernel_rfl) ?_ _
        go_wp2_with (fail)
        go_roundg (N - (k + 1))
        case measure => omega
        case rel => exact ⟨k + 1, Sa, Sb, L, by omega, rfl, by go_num, hL, Lib.hid ⟨HK.out.a.more (by omega), HK.out.b.more (by omega), HK.out.apart, HK.out.newA, HK.out.newB, HK.out.fr⟩⟩
    · obtain rfl : k = N := by omega
      have hkk : ¬ (k : Int) < k := by omega
      go_upto_region 10 with (fail)
      go_cut [2] (fun s1 wx => s1 = .int .i64 E ∧ wr = wx)
      case first =>
        go_wp2_with (fail)
        go_meet
        case rel => exact ⟨by rw [EE.out], rfl⟩
      case rest =>
        obtain ⟨rfl, rfl⟩ := hcut
        go_wp2_with (first
          | (go_at_call 13; refine (isw_go (t := E) HX.out.a (by omega) (by omega) (by omega)).mono ?_; rintro e w4 ⟨al, S4, rfl, K4, n4, oal, nal, f4⟩))
        have inv2 : WayAt w w4 S4 Sb p q E 0 L L [] al (.slice none 0 0) k :=
          ⟨HX.out.stepA K4 n4 f4, by omega, by simp, rfl, Owns.nil _ _ _, fun k hk => by simp [InBlock, Value.ownBlock] at hk, oal,
            fun k hk => ⟨Nat.le_trans HX.out.fr.size (nal k hk).1, (nal k hk).2, fun hs => by have := HX.out.b.lt hs; have := (nal k hk).1; omega, fun h => by simp [InBlock, Value.ownBlock] at h⟩⟩
        have INV := Lib.hid inv2
        have hLs := HX.out.a.neat.asc
        clear inv2 K4 n4 oal nal f4 HX
        obtain ⟨M, hM⟩ : ∃ M, M = min st.length 50 := ⟨_, rfl⟩
        go_loopg [12, 13] M (fun g l i wx => ∃ (j : Nat) (Sb : Nat → Prop) (nb : Int) (Lb C : List Due), j ≤ M ∧ g = M - j ∧ i = .int .i64 j ∧ Hid (WayAt w wx S4 Sb p q E nb L Lb C al l k))
        case atStart => exact ⟨0, Sb, 0, L, [], by omega, rfl, rfl, INV⟩
        case round =>
          obtain ⟨j, Sb5, nb, Lb, C, hj, rfl, rfl, HY⟩ := hrel
          by_cases hlt : j < M
          · have hjI : (j : Int) < st.length := by omega
            have hj50 : (j : Int) < 50 := by omega
            obtain ⟨b2, o2, rfl, hcell⟩ := HS.out.at_ (i := j) (by simp; omega)
            obtain ⟨t, ht⟩ : ∃ t, t = st[j]'(by omega) := ⟨_, rfl⟩
            have c0 : w.cell? ⟨b2, o2 + j, none⟩ = some (.int .i64 t) := by have := hcell j (by simp; omega); rw [ht]; simpa [show j < st.length by omega] using this
            have hblt := World.block_lt_of_cell? w _ c0
            simp only at hblt
            have HB : Hid (∀ w', Fr (FromB w.heap.size) w w' → w'.cell? ⟨b2, o2 + j, none⟩ = some (.int .i64 t)) :=
              Lib.hid (fun w' F => cell_fr c0 F (by show ¬ _ ≤ _; omega))
            have c1 := HB.out _ HY.out.two.fr
            clear hcell c0 ht hblt
            have hlC : C.length + (goCame Lb nb t).length ≤ 256 := by
              have h1 := way_len HY.out hLs
              have h2 := came_le Lb nb t
              omega
            by_cases hA : t ≤ E
            · have gA : decide (t ≤ (E : Int)) = true := by rw [decide_eq_true_iff]; exact hA
              go_wp2_with (first
                | (go_at_call 13; refine (way_go (t := t) HY.out (by omega)).mono ?_; rintro e w5 ⟨a1, cc1, S5, rfl, G5⟩; have GG := Lib.hid G5; have c2 := HB.out _ G5.two.fr; clear G5)
                | (at_builtin; go_must (refine wpList_append_fp rfl (.tmp 102) (.tmp 103) 23 rfl 3 i0 (.int .i64 0) 1 8 Try.underlying23 Hi.out Hz0.out Hz1.out Hz2.out rfl (by decide) u12 C.length (ints C) rfl GG.out.own _ _ _ (ints (goCame Lb nb t)) rfl (by simp) (fun h => by subst h; exact GG.out.more.none_nil) GG.out.more.sl.2 (ints_one _) (by unfold maxLen; omega) (by omega) ?_); intro v7 w7 o7 f7 n7 s7 _))
              go_roundg (M - (j + 1))
              case measure => omega
              case rel => exact ⟨j + 1, S5, _, _, _, by omega, rfl, by go_num, Lib.hid (GG.out.put (.inl hA) o7 f7 n7)⟩
            · have gA : decide (t ≤ (E : Int)) = false := by rw [decide_eq_false_iff_not]; exact hA
              by_cases hE2 : goErr nb t = 0
              · have gE : (goErr nb t != 0) = false := by simp [hE2]
                go_wp2_with (first
                  | (go_at_call 13; refine (way_go (t := t) HY.out (by omega)).mono ?_; rintro e w5 ⟨a1, cc1, S5, rfl, G5⟩; have GG := Lib.hid G5; have c2 := HB.out _ G5.two.fr; clear G5)
                  | (at_builtin; go_must (refine wpList_append_fp rfl (.tmp 102) (.tmp 103) 23 rfl 3 i0 (.int .i64 0) 1 8 Try.underlying23 Hi.out Hz0.out Hz1.out Hz2.out rfl (by decide) u12 C.length (ints C) rfl GG.out.own _ _ _ (ints (goCame Lb nb t)) rfl (by simp) (fun h => by subst h; exact GG.out.more.none_nil) GG.out.more.sl.2 (ints_one _) (by unfold maxLen; omega) (by omega) ?_); intro v7 w7 o7 f7 n7 s7 _))
                go_ret
                exact ⟨rfl, GG.out.two.fr.belowB⟩
              · have gE : (goErr nb t != 0) = true := by simp [hE2]
                go_wp2_with (first
                  | (go_at_call 13; refine (way_go (t := t) HY.out (by omega)).mono ?_; rintro e w5 ⟨a1, cc1, S5, rfl, G5⟩; have GG := Lib.hid G5; have c2 := HB.out _ G5.two.fr; clear G5)
                  | (at_builtin; go_must (refine wpList_append_fp rfl (.tmp 102) (.tmp 103) 23 rfl 3 i0 (.int .i64 0) 1 8 Try.underlying23 Hi.out Hz0.out Hz1.out Hz2.out rfl (by decide) u12 C.length (ints C) rfl GG.out.own _ _ _ (ints (goCame Lb nb t)) rfl (by simp) (fun h => by subst h; exact GG.out.more.none_nil) GG.out.more.sl.2 (ints_one _) (by unfold maxLen; omega) (by omega) ?_); intro v7 w7 o7 f7 n7 s7 _))
                go_roundg (M - (j + 1))
                case measure => omega
                case rel => exact ⟨j + 1, S5, _, _, _, by omega, rfl, by go_num, Lib.hid (GG.out.put (.inr hE2) o7 f7 n7)⟩
          · obtain rfl : j = M := by omega
            have hlast := way_last HY.out (by omega)
            have hlC : C.length + (goCame Lb nb E).length ≤ 256 := by
              have h1 := way_len HY.out hLs
              have h2 := came_le Lb nb E
              omega
            by_cases h50 : st.length ≤ 50
            · have hjs : j = st.length := by omega
              have Hlast := Lib.hid hlast
              clear hM hlt h50 hlast
              subst hjs
              go_wp2_with (first
                | (go_at_call 13; refine (way_go (t := E) HY.out (by omega)).mono ?_; rintro e w5 ⟨a1, cc1, S5, rfl, G5⟩; have GG := Lib.hid G5; clear G5; rw [Hlast.out.1])
                | (at_builtin; go_must (refine wpList_append_fpw (by rfl) (.tmp 118) (.tmp 119) 23 rfl 3 i0 (.int .i64 0) 1 8 Try.underlying23 Hi.out Hz0.out Hz1.out Hz2.out rfl (by decide) u12 C.length (ints C) rfl GG.out.own _ _ _ (ints (goCame Lb nb E)) rfl (by simp) (fun h => by subst h; exact GG.out.more.none_nil) GG.out.more.sl.2 (ints_one _) (by unfold maxLen; omega) (by omega) ?_); intro v7 w7 o7 f7 n7 s7 _; have PP := GG.out.put (.inl (Int.le_refl _)) o7 f7 n7)
                | (go_at_call 14; refine (way_same PP Hlast.out.2.1 hL).mono ?_; rintro e w8 ⟨rfl, m8, rfl⟩; have TT := PP.two.quiet (Fr.drewN Nothing w7 m8))
                | (with_reducible (go_at_call 15; refine (isw_len TT.a).mono ?_; rintro e w9 ⟨rfl, rfl⟩))
                | (with_reducible (go_at_call 15; refine (isw_len TT.b).mono ?_; rintro e w9 ⟨rfl, rfl⟩)))
              go_ret
              exact ⟨ret_val (by rw [Hlast.out.2.2]; simp), TT.fr.belowB⟩
            · obtain rfl : j = 50 := by omega
              have g1 : decide ((50 : Int) < st.length) = true := by rw [decide_eq_true_iff]; omega
              have Hlast := Lib.hid hlast
              clear hM hlt h50 hlast
              go_wp2_with (first
                | (go_at_call 13; refine (way_go (t := E) HY.out (by omega)).mono ?_; rintro e w5 ⟨a1, cc1, S5, rfl, G5⟩; have GG := Lib.hid G5; clear G5; rw [Hlast.out.1])
                | (at_builtin; go_must (refine wpList_append_fpw (by rfl) (.tmp 118) (.tmp 119) 23 rfl 3 i0 (.int .i64 0) 1 8 Try.underlying23 Hi.out Hz0.out Hz1.out Hz2.out rfl (by decide) u12 C.length (ints C) rfl GG.out.own _ _ _ (ints (goCame Lb nb E)) rfl (by simp) (fun h => by subst h; exact GG.out.more.none_nil) GG.out.more.sl.2 (ints_one _) (by unfold maxLen; omega) (by omega) ?_); intro v7 w7 o7 f7 n7 s7 _; have PP := GG.out.put (.inl (Int.le_refl _)) o7 f7 n7)
                | (go_at_call 14; refine (way_same PP Hlast.out.2.1 hL).mono ?_; rintro e w8 ⟨rfl, m8, rfl⟩; have TT := PP.two.quiet (Fr.drewN Nothing w7 m8))
                | (with_reducible (go_at_call 15; refine (isw_len TT.a).mono ?_; rintro e w9 ⟨rfl, rfl⟩))
                | (with_reducible (go_at_call 15; refine (isw_len TT.b).mono ?_; rintro e w9 ⟨rfl, rfl⟩)))
              go_ret
              exact ⟨ret_val (by rw [Hlast.out.2.2]; simp), TT.fr.belowB⟩
end Go.Proofs.Ytgfphbehecpgpaa
