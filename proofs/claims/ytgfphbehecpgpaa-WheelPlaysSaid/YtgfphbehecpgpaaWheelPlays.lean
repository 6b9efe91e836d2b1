/- WheelPlays answers true for every input and changes no memory that was there. No condition. -/
import Derived.Test.YtgfphbehecpgpaaWRefF
import Derived.Test.YtgfphbehecpgpaaTxt
namespace Go.Proofs.Ytgfphbehecpgpaa
open Go.RowKit
theorem play_cells {Sa Sb : Nat → Prop} {p q ob m : Nat} {o : WheelOp} {w0 wr : World} {na nb : Int} {La Lb : List Due} (h : Play Sa Sb p q ob o w0 wr na nb La Lb m) :
    wr.cell? ⟨ob, 0, none⟩ = some (.int .i64 o.kind) ∧ wr.cell? ⟨ob, 1, none⟩ = some (.int .i64 o.id) ∧ wr.cell? ⟨ob, 2, none⟩ = some (.int .i64 o.at_) ∧ wr.cell? ⟨ob, 3, none⟩ = some (.bool o.on) ∧ wr.cell? ⟨q, 1, none⟩ = some (.int .i64 nb) := by
  obtain ⟨a, c, hr, _⟩ := h.b
  exact ⟨h.row.cell 0 rfl, h.row.cell 1 rfl, h.row.cell 2 rfl, h.row.cell 3 rfl, hr.head.cell 1 rfl⟩
structure Pair2 (Sa Sb : Nat → Prop) (p q : Nat) (w0 wr : World) (n : Int) (L : List Due) (m : Nat) : Prop where
  a : IsWheel Sa wr p n L m
  b : IsRefW Sb wr q n L
  apart : ∀ k, Sa k → ¬ Sb k
  newA : ∀ k, Sa k → w0.heap.size ≤ k
  newB : ∀ k, Sb k → w0.heap.size ≤ k
  fr : Fr (FromB w0.heap.size) w0 wr
theorem Pair2.copy {Sa Sb : Nat → Prop} {p q m : Nat} {w0 wr : World} {n : Int} {L : List Due} (h : Pair2 Sa Sb p q w0 wr n L m) (o : WheelOp) :
    Play Sa Sb p q wr.heap.size o w0 (wr.alloc (.cells #[.int .i64 o.kind, .int .i64 o.id, .int .i64 o.at_, .bool o.on] 29)) n n L L m :=
  ⟨h.a.fr (Fr.alloc Nothing _ _) (fun _ _ h => h), h.b.fr (Fr.alloc Nothing _ _) (fun _ _ h => h), h.apart, h.newA, h.newB, Row.allocNew wr [.int .i64 o.kind, .int .i64 o.id, .int .i64 o.at_, .bool o.on] _, fun hs => by have := h.a.lt hs; omega, fun hs => by have := h.b.lt hs; omega, h.fr.trans' (Fr.alloc Nothing _ _).fromN⟩
theorem Play.pair {Sa Sb : Nat → Prop} {p q ob m : Nat} {o : WheelOp} {w0 wr : World} {n : Int} {L : List Due} (h : Play Sa Sb p q ob o w0 wr n n L L m) : Pair2 Sa Sb p q w0 wr n L m := ⟨h.a, h.b, h.apart, h.newA, h.newB, h.fr⟩
theorem setR_neat {L : List Due} (h : Neat L) (n id t : Int) : Hid (Neat (setR L n id t).2) := by
  unfold setR
  split
  · exact h
  · split
    · exact h
    · exact h.set id t
theorem left_neat {L : List Due} (h : Neat L) (n t : Int) : Hid (Neat (goLeft L n t)) := by
  unfold goLeft
  split
  · exact h
  · exact h.late t
theorem left_le {L : List Due} (h : L.length ≤ 256) (n t : Int) : (goLeft L n t).length ≤ 256 := by
  unfold goLeft
  split
  · exact h
  · exact Nat.le_trans (List.length_filter_le _ _) h
theorem same_owned {w : World} {lv1 lv2 : Value} {D : List Due} (h1 : Owns w 3 1 lv1 D.length (ints D)) (h2 : Owns w 3 1 lv2 D.length (ints D)) (hl : D.length ≤ 256) :
    Calls Try.prog 14 #[lv1, lv2] w fun ee w' => ee = .returned (.bool true) ∧ ∃ m, w' = w.drewN m := by
  obtain ⟨a1, c1, rfl, _, _⟩ := h1.shape
  obtain ⟨a2, c2, rfl, _, _⟩ := h2.shape
  have s1 := h1.sl.2
  have s2 := h2.sl.2
  rw [ints_nums] at s1 s2
  have := same_ints a1 a2 (D.map Prod.fst) c1 c2 w s1 s2 (by rw [List.length_map]; unfold maxLen; omega)
  rw [List.length_map] at this
  exact this
set_option maxHeartbeats 4000000 in
set_option maxRecDepth 100000 in
theorem wheelplays_any (a : Option Addr) (rs : List WheelOp) (c : Nat) (w : World) (hlc : rs.length ≤ c) (hcm : c ≤ maxLen) (ht : Recs WheelOp.cells 4 w a rs) (_hs : ∀ r ∈ rs, r.Good) :
    Calls Try.prog 5 #[.slice a rs.length c] w fun e w' => e = .returned (.bool true) ∧ Below w.heap.size w w' := by
  have hc9 : (c : Int) ≤ 9223372036854775807 := by unfold maxLen at hcm; omega
  have HG := Lib.hid _hs
  have HT := Lib.hid ht
  clear _hs ht hcm
  go_enter Try.func5, Try.ntmps5
  go_wp2_with (fail)
  refine (wheel_lives _).mono ?_
  rintro e w1 ⟨rfl, f0⟩
  go_wp2_with (first
    | (go_at_call 10; refine (isw_new w1).mono ?_; rintro e w2 ⟨p, S, rfl, K1, n1, f1⟩)
    | (go_at_call 9; refine (wheelop_early a rs.length c _ hlc hc9).mono ?_; rintro e w3 ⟨rfl, rfl⟩))
  have inv : Pair2 S _ p w2.heap.size w (w2.alloc (.cells #[.slice none 0 0, .int .i64 0] 42)) 0 [] 0 :=
    ⟨K1.fr (Fr.alloc Nothing _ _) (fun _ _ h => h), IsRefW.new w2, fun k h1 h2 => by have := K1.lt h1; omega, fun k hk => Nat.le_trans f0.size (n1 k hk), fun k hk => by have := f0.size; have := f1.size; omega, (f0.fromN.trans' f1.fromN).trans' (Fr.alloc Nothing _ _).fromN⟩
  obtain ⟨N, hN⟩ : ∃ N, N = min rs.length 400 := ⟨_, rfl⟩
  rw [← hN]
  have hN1 : N ≤ rs.length := by omega
  have hN4 : N ≤ 400 := by omega
  have INV := Lib.hid inv
  obtain ⟨q, hq⟩ : ∃ q, q = w2.heap.size := ⟨_, rfl⟩
  rw [← hq] at INV ⊢
  obtain ⟨R0, hR0⟩ : ∃ R0 : Nat → Prop, Hid (Pair2 S R0 p q w (w2.alloc (.cells #[.slice none 0 0, .int .i64 0] 42)) 0 [] 0) := ⟨_, INV⟩
  clear INV inv hN K1 n1 f0 f1 hq
  go_loopg [5] N (fun g i wr => ∃ (k : Nat) (Sa Sb : Nat → Prop) (n : Int) (L : List Due), k ≤ N ∧ g = N - k ∧ i = .int .i64 k ∧ L.length ≤ 256 ∧ Hid (Neat L) ∧ Hid (Pair2 Sa Sb p q w wr n L k))
  case atStart => exact ⟨0, S, R0, 0, [], by omega, rfl, rfl, by simp, Lib.hid ⟨List.Pairwise.nil, List.nodup_nil⟩, hR0⟩
  case round =>
    obtain ⟨k, Sa, Sb, n, L, hk, rfl, rfl, hL, HN, HX⟩ := hrel
    by_cases hlt : k < N
    · obtain ⟨b1, o1, rfl, hc⟩ := HT.out.at_ (i := k) (by omega)
      have hki : k < rs.length := by omega
      obtain ⟨o, ho⟩ : ∃ o, o = rs[k] := ⟨_, rfl⟩
      rw [← ho] at hc
      have c0 : w.cell? ⟨b1, o1 + k * 4, none⟩ = some (.int .i64 o.kind) := hc 0 _ rfl
      have c1 : w.cell? ⟨b1, o1 + k * 4 + 1, none⟩ = some (.int .i64 o.id) := hc 1 _ rfl
      have c2 : w.cell? ⟨b1, o1 + k * 4 + 2, none⟩ = some (.int .i64 o.at_) := hc 2 _ rfl
      have c3 : w.cell? ⟨b1, o1 + k * 4 + 3, none⟩ = some (.bool o.on) := hc 3 _ rfl
      have hblt := World.block_lt_of_cell? w _ c0
      simp only at hblt
      have hw : W64 o.id := by
        have := (HG.out rs[k] (List.getElem_mem hki)).2.1
        rw [← ho] at this
        have h1 : IntKind.i64.min = -9223372036854775808 := by decide
        have h2 : IntKind.i64.max = 9223372036854775807 := by decide
        simp [Lit.wf, h1, h2] at this
        unfold W64; omega
      have d0 := cell_fr c0 HX.out.fr (by show ¬ _ ≤ _; omega)
      have d1 := cell_fr c1 HX.out.fr (by show ¬ _ ≤ _; omega)
      have d2 := cell_fr c2 HX.out.fr (by show ¬ _ ≤ _; omega)
      have d3 := cell_fr c3 HX.out.fr (by show ¬ _ ≤ _; omega)
      clear hc ho c0 c1 c2 c3 hblt
      have hkI : (k : Int) < N := by omega
      have hNc : (N : Int) ≤ c := by omega
      go_upto_region 9 with (fail)
      have hp := HX.out.copy o
      obtain ⟨ob, hob⟩ : ∃ ob, ob = wr.heap.size := ⟨_, rfl⟩
      rw [← hob] at hp ⊢
      obtain ⟨wo, hwo⟩ : ∃ wo, wo = wr.alloc (.cells #[.int .i64 o.kind, .int .i64 o.id, .int .i64 o.at_, .bool o.on] 29) := ⟨_, rfl⟩
      rw [← hwo] at hp ⊢
      have HP := Lib.hid hp
      clear hob hwo hp d0 d1 d2 d3
      first
        | (go_region_held3 (fun w' => w'.cell? ⟨ob, 0, none⟩ = some (.int .i64 o.kind) ∧ w'.cell? ⟨ob, 1, none⟩ = some (.int .i64 o.id) ∧ w'.cell? ⟨ob, 2, none⟩ = some (.int .i64 o.at_) ∧ w'.cell? ⟨ob, 3, none⟩ = some (.bool o.on) ∧ w'.cell? ⟨q, 1, none⟩ = some (.int .i64 n))
            (first | exact play_cells (HP.out.quiet (Fr.drew Nothing _)) | exact play_cells HQ.out)
            (first
              | (go_at_call 16; refine (wheelop_time o n _).mono ?_; rintro e w4 ⟨t, rfl, f4⟩; have HQ := Lib.hid ((HP.out.quiet (Fr.drew Nothing _)).quiet f4))))
        | fail
      obtain ⟨d0, d1, d2, d3, d4⟩ := play_cells HQ.out
      go_upto_block 2 with (go_at_call 11; refine (wheelop_kind o _).mono ?_; rintro e w5 ⟨rfl, f5⟩; have HK := Lib.hid (HQ.out.quiet f5))
      clear d0 d1 d2 d3 d4
      obtain ⟨d0, d1, d2, d3, d4⟩ := play_cells HK.out
      go_cut [8, 9, 10, 11, 12] (fun s8 s9 s10 s11 s12 wx => s8 = .bool true ∧ ∃ (Sa' Sb' : Nat → Prop) (n' : Int) (L' : List Due), L'.length ≤ 256 ∧ Hid (Neat L') ∧ Hid (Play Sa' Sb' p q ob o w wx n' n' L' L' (k + 1)))
      case first =>
        cases z1 : (o.knd == 0) with
        | true =>
          have z2 : (o.knd == 1) = false := by
            have : o.knd = 0 := by simpa using z1
            simp [this]
          have z3 : (o.knd == 2) = false := by
            have : o.knd = 0 := by simpa using z1
            simp [this]
          go_wp2_with (fail)
          first
            | (go_region_held3 (fun w' => w'.cell? ⟨ob, 0, none⟩ = some (.int .i64 o.kind) ∧ w'.cell? ⟨ob, 1, none⟩ = some (.int .i64 o.id) ∧ w'.cell? ⟨ob, 2, none⟩ = some (.int .i64 o.at_) ∧ w'.cell? ⟨ob, 3, none⟩ = some (.bool o.on) ∧ w'.cell? ⟨q, 1, none⟩ = some (.int .i64 n))
                (first | exact play_cells (HK.out.quiet (Fr.drew Nothing _)) | exact play_cells HA.out | exact play_cells HB.out)
                (first
                  | (go_at_call 12; refine (isw_set_any (HK.out.quiet (Fr.drew Nothing _)).a hw hL (by omega)).mono ?_; rintro e w6 ⟨rfl, S6, K6, n6, f6⟩; have HA := Lib.hid ((HK.out.quiet (Fr.drew Nothing _)).stepA K6 n6 f6))
                  | (go_at_call 17; refine (wref_set o.id _ HA.out.b HN.out hL).mono ?_; rintro e w7 ⟨rfl, G7⟩; obtain ⟨S7, hb7⟩ := HA.out.goneB G7; have HB := Lib.hid hb7; clear hb7)))
            | fail
          go_wp2_with (fail)
          go_meet
          case rel => exact ⟨by simp, S6, S7, n, _, setR_len HN.out hL n o.id t, setR_neat HN.out n o.id t, HB⟩
        | false =>
          cases z2 : (o.knd == 1) with
          | true =>
            have z3 : (o.knd == 2) = false := by
              have : o.knd = 1 := by simpa using z2
              simp [this]
            go_wp2_with (fail)
            first
              | (go_region_held3 (fun w' => w'.cell? ⟨ob, 0, none⟩ = some (.int .i64 o.kind) ∧ w'.cell? ⟨ob, 1, none⟩ = some (.int .i64 o.id) ∧ w'.cell? ⟨ob, 2, none⟩ = some (.int .i64 o.at_) ∧ w'.cell? ⟨ob, 3, none⟩ = some (.bool o.on) ∧ w'.cell? ⟨q, 1, none⟩ = some (.int .i64 n))
                  (first | exact play_cells (HK.out.quiet (Fr.drew Nothing _)) | exact play_cells HA.out | exact play_cells HB.out)
                  (first
                    | (go_at_call 18; refine (isw_drop (HK.out.quiet (Fr.drew Nothing _)).a hw (by omega)).mono ?_; rintro e w6 ⟨rfl, S6, K6, n6, f6⟩; have HA := Lib.hid ((HK.out.quiet (Fr.drew Nothing _)).stepA K6 n6 f6))
                    | (go_at_call 19; refine (wref_drop o.id HA.out.b HN.out.ids hL).mono ?_; rintro e w7 ⟨rfl, G7⟩; obtain ⟨S7, hb7⟩ := HA.out.goneB G7; have HB := Lib.hid hb7; clear hb7)))
              | fail
            go_wp2_with (fail)
            go_meet
            case rel => exact ⟨by simp, S6, S7, n, _, Nat.le_trans (List.length_filter_le _ _) hL, Lib.hid (HN.out.less _), Lib.hid (HB.out.more (by omega))⟩
          | false =>
            have z3 : (o.knd == 2) = true := by
              have h1 := knd_le o
              have h2 : o.knd ≠ 0 := by simpa using z1
              have h3 : o.knd ≠ 1 := by simpa using z2
              have : o.knd = 2 := by omega
              simp [this]
            have hcl : (goCame L n t).length ≤ 256 := Nat.le_trans (came_le L n t) hL
            go_wp2_with (first
              | (go_at_call 13; refine (isw_go_any (t := t) HK.out.a (by omega)).mono ?_; rintro e w6 ⟨l6, S6, rfl, K6, n6, o6, a6, f6⟩; have HA := Lib.hid (HK.out.stepA K6 n6 f6); have nb6 : ∀ k, InBlock l6 k → ¬ Sb k := fun k h1 h2 => by have := HK.out.b.lt h2; have := (a6 k h1).1; omega)
              | (go_at_call 20; refine (wref_go_any (t := t) HA.out.b hL HN.out.asc).mono ?_; rintro e w7 ⟨l7, S7, rfl, K7, n7, o7, a7, f7⟩; have HB := Lib.hid (HA.out.stepB K7 n7 f7); have o67 := o6.fr f7 nb6)
              | (go_at_call 14; refine (same_owned o67 o7 hcl).mono ?_; rintro e w8 ⟨rfl, m8, rfl⟩; have HC := Lib.hid (HB.out.quiet (Fr.drewN Nothing _ m8))))
            go_meet
            case rel => exact ⟨rfl, S6, S7, _, _, left_le hL n t, left_neat HN.out n t, Lib.hid (HC.out.more (by omega))⟩
      case rest =>
        obtain ⟨rfl, Sa2, Sb2, n2, L2, hL2, HN2, HP2⟩ := hcut
        obtain ⟨a8, c8, r8, _⟩ := HP2.out.b
        have k0 := r8.head.cell 0 rfl
        have k1 := r8.head.cell 1 rfl
        have hle8 := r8.le
        have hc8 : (c8 : Int) ≤ 9223372036854775807 := by have := r8.cap; unfold maxLen at this; omega
        have R8 := Lib.hid r8
        clear r8
        have hnext : ∃ (nx : Int) (hs : Bool), nextT L2 = nx ∧ hasL L2 = hs ∧ (L2 = [] ∧ nx = 0 ∧ hs = false ∨ ∃ x R, L2 = x :: R ∧ nx = x.2 ∧ hs = true) := by
          cases L2 with
          | nil => exact ⟨0, false, rfl, rfl, .inl ⟨rfl, rfl, rfl⟩⟩
          | cons x R => exact ⟨x.2, true, by simp [nextT, gd], by simp [hasL], .inr ⟨x, R, rfl, rfl, rfl⟩⟩
        obtain ⟨nx, hs, hnx, hhs, hcase⟩ := hnext
        have HC := Lib.hid hcase
        have hN1' := once_next HP2.out.a
        rw [hnx, hhs] at hN1'
        have HNx := Lib.hid hN1'
        clear hnx hhs hcase hN1' d0 d1 d2 d3 d4
        go_upto_region 21 with (go_at_call 21; refine HNx.out.mono ?_; rintro e w9 ⟨rfl, rfl⟩)
        go_cut [146] (fun s146 wx => s146 = .bool false ∧ ∃ m, wx = wc.drewN m)
        case first =>
          rcases HC.out with ⟨rfl, rfl, rfl⟩ | ⟨x, R, rfl, rfl, rfl⟩
          · simp only [List.length_nil] at k0
            go_quiet ((first
              | (go_at_call 15; exact Calls.quiet_of_same ((isw_len (HP2.out.quiet (Fr.drewN Nothing _ _)).a).mono fun e w' ⟨h1, h2⟩ => ⟨h1, h2.symm⟩))
              | (go_at_call 22; exact Calls.quiet_of_same ((isw_now (HP2.out.quiet (Fr.drewN Nothing _ _)).a).mono fun e w' ⟨h1, h2⟩ => ⟨h1, h2.symm⟩))))
            go_wp2_with (fail)
            go_meet
            case rel => exact ⟨rfl, nq, rfl⟩
          · obtain ⟨b8, o8, rfl, hc8'⟩ := R8.out.recs.at_ (i := 0) (by simp)
            have x1 : wc.cell? ⟨b8, o8 + 1, none⟩ = some (.int .i64 x.2) := by have := hc8' 1 _ rfl; simpa using this
            have k0' : wc.cell? ⟨q, 0, none⟩ = some (.slice (some ⟨b8, o8, none⟩) (R.length + 1) c8) := k0
            have hR1 : (0 : Int) < R.length + 1 := by omega
            have hR2 : (1 : Int) ≤ c8 := by simp at hle8; omega
            have hR3 : (R.length : Int) + 1 ≤ c8 := by simp at hle8; omega
            clear hc8' k0
            go_quiet ((first
              | (go_at_call 15; exact Calls.quiet_of_same ((isw_len (HP2.out.quiet (Fr.drewN Nothing _ _)).a).mono fun e w' ⟨h1, h2⟩ => ⟨h1, h2.symm⟩))
              | (go_at_call 22; exact Calls.quiet_of_same ((isw_now (HP2.out.quiet (Fr.drewN Nothing _ _)).a).mono fun e w' ⟨h1, h2⟩ => ⟨h1, h2.symm⟩))))
            go_wp2_with (fail)
            go_meet
            case rel => exact ⟨rfl, nq, rfl⟩
        case rest =>
          obtain ⟨rfl, m9, rfl⟩ := hcut
          have HPd := Lib.hid (HP2.out.quiet (Fr.drewN Nothing _ m9))
          have Rd := Lib.hid (R8.out.fr (Fr.drewN Nothing _ m9) (fun _ _ h => h))
          obtain ⟨W, hW⟩ : ∃ W, W = wc.drewN m9 := ⟨_, rfl⟩
          rw [← hW] at HPd Rd ⊢
          clear hW k0 k1
          have k0 := Rd.out.head.cell 0 rfl
          go_wp2_with (fail)
          go_loopw [15] (fun i wy => ∃ j : Nat, j ≤ L2.length ∧ i = .int .i64 j ∧ W = wy) (fun i _ => L2.length - (intOf i).toNat)
          case atStart => exact ⟨0, Nat.zero_le _, rfl, rfl⟩
          case round =>
            obtain ⟨j, hj, rfl, rfl⟩ := hrel
            by_cases hltj : j < L2.length
            · obtain ⟨b8, o8, rfl, hc8'⟩ := Rd.out.recs.at_ hltj
              obtain ⟨y, hy⟩ : ∃ y, y = L2[j] := ⟨_, rfl⟩
              rw [← hy] at hc8'
              have x0 : W.cell? ⟨b8, o8 + j * 2, none⟩ = some (.int .i64 y.1) := hc8' 0 _ rfl
              have x1 : W.cell? ⟨b8, o8 + j * 2 + 1, none⟩ = some (.int .i64 y.2) := hc8' 1 _ rfl
              have hyL : L2[j]? = some y := by rw [hy]; exact List.getElem?_eq_getElem hltj
              have hat := isw_at HPd.out.a y.1 (HPd.out.a.wide y (List.mem_of_getElem? hyL))
              rw [atL_get HN2.out.ids hyL] at hat
              have HAt := Lib.hid hat
              have hj1 : (j : Int) < L2.length := by omega
              have hj2 : (L2.length : Int) ≤ c8 := by omega
              clear hc8' hat hyL hy
              go_wp2_with (go_at_call 23; refine HAt.out.mono ?_; rintro e w9 ⟨rfl, rfl⟩)
              go_roundw
              case rel => exact ⟨j + 1, by omega, by go_num, trivial⟩
              case measure => simp [intOf]; omega
            · obtain rfl : j = L2.length := by omega
              go_wp2_with (fail)
              go_roundg (N - (k + 1))
              case measure => omega
              case rel => exact ⟨k + 1, Sa2, Sb2, n2, L2, by omega, rfl, by go_num, hL2, HN2, Lib.hid HPd.out.pair⟩
    · obtain rfl : k = N := by omega
      go_wp2_with (fail)
      go_ret
      exact ⟨rfl, HX.out.fr.belowB⟩
end Go.Proofs.Ytgfphbehecpgpaa
