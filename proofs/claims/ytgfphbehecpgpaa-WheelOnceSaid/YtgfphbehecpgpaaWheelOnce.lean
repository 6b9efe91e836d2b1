/- WheelOnce answers true for every input and changes no memory that was there. No condition. -/
import Derived.Test.YtgfphbehecpgpaaOnceR
import Derived.Test.YtgfphbehecpgpaaTxt
namespace Go.Proofs.Ytgfphbehecpgpaa
open Go.RowKit
set_option maxHeartbeats 4000000 in
set_option maxRecDepth 100000 in
theorem wheelonce_any (a : Option Addr) (rs : List WheelOp) (c : Nat) (b : Option Addr) (st : List Int) (cb : Nat) (w : World) (hlc : rs.length ≤ c) (hcm : c ≤ maxLen) (ht : Recs WheelOp.cells 4 w a rs) (_hs : ∀ r ∈ rs, r.Good)
    (_hlb : st.length ≤ cb) (_hcb : cb ≤ maxLen) (hst : Sl w b (nums st)) (_hz : ∀ n ∈ st, (Lit.int .i64 n).wf = true) :
    Calls Try.prog 7 #[.slice a rs.length c, .slice b st.length cb] w fun e w' => e = .returned (.bool true) ∧ Below w.heap.size w w' := by
  have hc9 : (c : Int) ≤ 9223372036854775807 := by unfold maxLen at hcm; omega
  have HG := Lib.hid _hs
  obtain ⟨i0, hi, hz0, hz1, hz2⟩ := info_parts infoInt
  have Hi := Lib.hid hi
  have Hz0 := Lib.hid hz0
  have Hz1 := Lib.hid hz1
  have Hz2 := Lib.hid hz2
  clear hi hz0 hz1 hz2
  have HT := Lib.hid ht
  have HS := Lib.hid hst
  clear _hs ht hst hcm _hz
  go_enter Try.func7, Try.ntmps7
  go_wp2_with (fail)
  refine (wheel_lives _).mono ?_
  rintro e w1 ⟨rfl, f0⟩
  go_wp2_with (first
    | (go_at_call 10; refine (isw_new w1).mono ?_; rintro e w2 ⟨p, S, rfl, K1, n1, f1⟩)
    | (go_at_call 9; refine (wheelop_early a rs.length c _ hlc hc9).mono ?_; rintro e w3 ⟨rfl, rfl⟩))
  have inv : One S p w w2 0 [] 0 := ⟨K1, fun k hk => Nat.le_trans f0.size (n1 k hk), f0.fromN.trans' f1.fromN⟩
  obtain ⟨N, hN⟩ : ∃ N, N = min rs.length 400 := ⟨_, rfl⟩
  rw [← hN]
  have hN1 : N ≤ rs.length := by omega
  have hN4 : N ≤ 400 := by omega
  clear hN K1 n1 f0 f1
  go_loopg [6] N (fun g i wr => ∃ (k : Nat) (S : Nat → Prop) (L : List Due), k ≤ N ∧ g = N - k ∧ i = .int .i64 k ∧ L.length ≤ 256 ∧ Hid (One S p w wr 0 L k))
  case atStart => exact ⟨0, S, [], by omega, rfl, rfl, by simp, inv⟩
  case round =>
    obtain ⟨k, Sa, L, hk, rfl, rfl, hL, HX⟩ := hrel
    by_cases hlt : k < N
    · obtain ⟨b1, o1, rfl, hc⟩ := HT.out.at_ (i := k) (by omega)
      have hki : k < rs.length := by omega
      obtain ⟨o, ho⟩ : ∃ o, o = rs[k] := ⟨_, rfl⟩
      rw [← ho] at hc
      have c0 : w.cell? ⟨b1, o1 + k * 4, none⟩ = some (.int .i64 o.kind) := hc 0 _ rfl
      have c1 : w.cell? ⟨b1, o1 + k * 4 + 1, none⟩ = some (.int .i64 o.id) := hc 1 _ rfl
      have c2 : w.cell? ⟨b1, o1 + k * 4 + 2, none⟩ = some (.int .i64 o.at_) := hc 2 _ rfl
      have c3 : w.cell? ⟨b1, o1 + k * 4 + 3, none⟩ = some (.bool o.on) := hc 3 _ rfl
      have hblt := World.block_lt_of_cell? w _ c0
      simp only at hblt
      have hw : W64 o.id := by
        have := (HG.out rs[k] (List.getElem_mem hki)).2.1
        rw [← ho] at this
        have h1 : IntKind.i64.min = -9223372036854775808 := by decide
        have h2 : IntKind.i64.max = 9223372036854775807 := by decide
        simp [Lit.wf, h1, h2] at this
        unfold W64; omega
      have HB : Hid (∀ w', Fr (FromB w.heap.size) w w' → w'.cell? ⟨b1, o1 + k * 4, none⟩ = some (.int .i64 o.kind) ∧ w'.cell? ⟨b1, o1 + k * 4 + 1, none⟩ = some (.int .i64 o.id) ∧ w'.cell? ⟨b1, o1 + k * 4 + 2, none⟩ = some (.int .i64 o.at_) ∧ w'.cell? ⟨b1, o1 + k * 4 + 3, none⟩ = some (.bool o.on)) :=
        Lib.hid (fun w' F => ⟨cell_fr c0 F (by show ¬ _ ≤ _; omega), cell_fr c1 F (by show ¬ _ ≤ _; omega), cell_fr c2 F (by show ¬ _ ≤ _; omega), cell_fr c3 F (by show ¬ _ ≤ _; omega)⟩)
      clear hc ho c0 c1 c2 c3 hblt
      have hkI : (k : Int) < N := by omega
      have hNc : (N : Int) ≤ c := by omega
      have hc1 := HB.out _ HX.out.fr
      have done : ∀ (S' : Nat → Prop) (L' : List Due) (w' : World), L'.length ≤ 256 → One S' p w w' 0 L' (k + 1) → Hid (∃ (k' : Nat) (S : Nat → Prop) (L : List Due), k' ≤ N ∧ N - (k + 1) = N - k' ∧ Value.int .i64 ((k : Int) + 1) = .int .i64 k' ∧ L.length ≤ 256 ∧ Hid (One S p w w' 0 L k')) :=
        fun S' L' w' h1 h2 => Lib.hid ⟨k + 1, S', L', by omega, rfl, by go_num, h1, Lib.hid h2⟩
      cases z1 : (o.knd == 0) with
      | true =>
        have z2 : (o.knd == 1) = false := by
          have : o.knd = 0 := by simpa using z1
          simp [this]
        go_wp2_with (first
          | (go_at_call 11; refine (wheelop_kind o _).mono ?_; rintro e w4 ⟨rfl, f4⟩; have HK := Lib.hid (HX.out.quiet f4); have hc2 := HB.out _ HK.out.fr))
        first
          | (go_region_held3 (fun w' => w'.cell? ⟨b1, o1 + k * 4, none⟩ = some (.int .i64 o.kind) ∧ w'.cell? ⟨b1, o1 + k * 4 + 1, none⟩ = some (.int .i64 o.id) ∧ w'.cell? ⟨b1, o1 + k * 4 + 2, none⟩ = some (.int .i64 o.at_) ∧ w'.cell? ⟨b1, o1 + k * 4 + 3, none⟩ = some (.bool o.on))
              (first | exact HB.out _ (HK.out.fr.trans' (Fr.drew _ _)) | exact HB.out _ HA.out.fr)
              (first
                | (go_at_call 12; refine (isw_set_any (HK.out.quiet (Fr.drew Nothing _)).a hw hL (by omega)).mono ?_; rintro e w5 ⟨rfl, S5, K5, n5, f5⟩; have HA := Lib.hid ((HK.out.quiet (Fr.drew Nothing _)).step K5 n5 f5))))
          | fail
        have hc3 := HB.out _ HA.out.fr
        have hL5 := setR_len HX.out.a.neat hL 0 o.id o.at_
        go_wp2_with (first
          | (go_at_call 11; refine (wheelop_kind o _).mono ?_; rintro e w6 ⟨rfl, f6⟩; have HD := done _ _ _ hL5 (HA.out.quiet f6)))
        go_roundg (N - (k + 1))
        case measure => omega
        case rel => exact HD.out
      | false =>
        cases z2 : (o.knd == 1) with
        | true =>
          go_wp2_with (first
            | (with_reducible (go_at_call 11; refine (wheelop_kind o wr).mono ?_; rintro e w4 ⟨rfl, f4⟩; have HK := Lib.hid (HX.out.quiet f4); have hc2 := HB.out _ HK.out.fr))
            | (with_reducible (go_at_call 11; refine (wheelop_kind o w4).mono ?_; rintro e w5 ⟨rfl, f5⟩; have HK5 := Lib.hid (HK.out.quiet f5); have hc3 := HB.out _ HK5.out.fr))
            | (go_at_call 18; refine (isw_drop HK5.out.a hw (by omega)).mono ?_; rintro e w6 ⟨rfl, S6, K6, n6, f6⟩; have HD := done _ _ _ (Nat.le_trans (List.length_filter_le _ _) hL) ((HK5.out.step K6 n6 f6).more (by omega))))
          go_roundg (N - (k + 1))
          case measure => omega
          case rel => exact HD.out
        | false =>
          go_wp2_with (first
            | (with_reducible (go_at_call 11; refine (wheelop_kind o wr).mono ?_; rintro e w4 ⟨rfl, f4⟩; have HK := Lib.hid (HX.out.quiet f4); have hc2 := HB.out _ HK.out.fr))
            | (with_reducible (go_at_call 11; refine (wheelop_kind o w4).mono ?_; rintro e w5 ⟨rfl, f5⟩; have HD := done _ _ _ hL ((HK.out.quiet f5).more (by omega)))))
          go_roundg (N - (k + 1))
          case measure => omega
          case rel => exact HD.out
    · obtain rfl : k = N := by omega
      have hkk : ¬ (k : Int) < k := by omega
      have HX1 := Lib.hid HX.out
      go_wp2_with (go_at_call 15; refine (isw_len HX.out.a).mono ?_; rintro e w9 ⟨rfl, rfl⟩)
      have hn0 := HX.out.a.neat
      obtain ⟨M, hM⟩ : ∃ M, M = min st.length 50 := ⟨_, rfl⟩
      go_loopg [8, 9, 10, 11] M (fun g cm nw l i wx => ∃ (j : Nat) (S : Nat → Prop) (n : Nat) (A L' : List Due) (a2 : Option Addr) (c2 : Nat), j ≤ M ∧ g = M - j ∧ i = .int .i64 j ∧ cm = .int .i64 A.length ∧ nw = .int .i64 n ∧ n ≤ 99 * j ∧ l = .slice a2 A.length c2 ∧ Hid (OnceAt w wx S p n L A L' (.slice a2 A.length c2) k))
      case atStart => exact ⟨0, Sa, 0, [], L, none, 0, by omega, rfl, rfl, rfl, rfl, by omega, rfl, Lib.hid ⟨HX.out, rfl, Owns.nil _ _ _, fun k hk => by simp [InBlock, Value.ownBlock] at hk⟩⟩
      case round =>
        obtain ⟨j, S5, n, A, L', a2, c2, hj, rfl, rfl, rfl, rfl, hn, rfl, HY⟩ := hrel
        by_cases hlt : j < M
        · have hjI : (j : Int) < st.length := by omega
          have hj50 : (j : Int) < 50 := by omega
          obtain ⟨b2, o2, rfl, hcell⟩ := HS.out.at_ (i := j) (by simp; omega)
          obtain ⟨t, ht⟩ : ∃ t, t = st[j]'(by omega) := ⟨_, rfl⟩
          have c0 : w.cell? ⟨b2, o2 + j, none⟩ = some (.int .i64 t) := by have := hcell j (by simp; omega); rw [ht]; simpa [show j < st.length by omega] using this
          have hblt := World.block_lt_of_cell? w _ c0
          simp only at hblt
          have c1 : _ = some (Value.int .i64 t) := cell_fr c0 HY.out.one.fr (by show ¬ _ ≤ _; omega)
          obtain ⟨r, hr, er⟩ := umod t 100 (by omega) (by omega)
          have ER : Hid (wrap64 ((IntKind.u64.wrap t).tmod 100) = (r : Int)) := er
          clear hcell c0 ht hblt er
          go_upto_region 17 with (fail)
          go_cut [9] (fun s1 wx => s1 = .int .i64 ((n + r : Nat) : Int) ∧ wr = wx)
          case first =>
            go_wp2_with (fail)
            go_meet
            case rel => exact ⟨by rw [ER.out]; exact congrArg (Value.int .i64) (by unfold wrap64; omega), rfl⟩
          case rest =>
            obtain ⟨rfl, rfl⟩ := hcut
            clear c1 ER
            have HLs := Lib.hid HY.out.one.a.neat.asc
            have HW := Lib.hid HY.out.one.a.wide
            obtain ⟨t', ht'⟩ : ∃ t' : Nat, t' = n + r := ⟨_, rfl⟩
            rw [← ht']
            have ht1 : n ≤ t' := by omega
            have ht2 : t' ≤ 99 * (j + 1) := by omega
            clear ht' hn hr
            obtain ⟨d, hd⟩ : ∃ d, (upTo L' t').length = d := ⟨_, rfl⟩
            have hgo := once_go (t := t') HY.out (by omega) (by omega) (by omega)
            rw [hd] at hgo
            have hcm := comes HLs.out t'
            rw [hd] at hcm
            have HGo := Lib.hid hgo
            have HCm := Lib.hid hcm
            have HD := Lib.hid hd
            clear hgo hcm hd
            go_upto_region 20 with (first
              | (go_at_call 21; refine (once_next HY.out.one.a).mono ?_; rintro e w5 ⟨rfl, rfl⟩)
              | (go_at_call 13; refine HGo.out.mono ?_; rintro e w6 ⟨a1, c1, S6, rfl, G6⟩; have GG := Lib.hid G6; clear G6))
            go_cut [13, 107] (fun s13 s1 wx => s1 = .bool false ∧ w6 = wx)
            case first =>
              cases hB : hasL L' with
              | false =>
                obtain rfl : d = 0 := by
                  have : L' = [] := by simpa [hasL] using hB
                  have h2 : ¬ 0 < d := fun h => (HCm.out.1 h).1 this
                  omega
                go_wp2_with (fail)
                go_meet
                case rel => exact ⟨rfl, rfl⟩
              | true =>
                have hne : L' ≠ [] := by simpa [hasL] using hB
                have hnt : nextT L' = (gd L' 0).2 := if_neg hne
                by_cases hC : nextT L' ≤ t'
                · have gC : decide (nextT L' ≤ (t' : Int)) = true := by rw [decide_eq_true_iff]; exact hC
                  have hdp : 0 < d := HCm.out.2 ⟨hne, by rw [← hnt]; exact hC⟩
                  clear hnt hne hC
                  go_wp2_with (fail)
                  go_meet
                  case rel => exact ⟨rfl, rfl⟩
                · have gC : decide (nextT L' ≤ (t' : Int)) = false := by rw [decide_eq_false_iff_not]; exact hC
                  obtain rfl : d = 0 := by
                    have h2 : ¬ 0 < d := fun h => hC (by rw [hnt]; exact (HCm.out.1 h).2)
                    omega
                  clear hnt hne hC
                  go_wp2_with (fail)
                  go_meet
                  case rel => exact ⟨rfl, rfl⟩
            case rest =>
              obtain ⟨rfl, rfl⟩ := hcut
              go_wp2_with (fail)
              go_loopg [8, 10, 16] d (fun g cm l k' wx => ∃ (q : Nat) (a3 : Option Addr) (c3 : Nat), q ≤ d ∧ g = d - q ∧ k' = .int .i64 q ∧ cm = .int .i64 ((A.length + q : Nat) : Int) ∧ l = .slice a3 (A.length + q) c3 ∧ Hid (OnceIn w wx S6 p t' A (upTo L' t') (past L' t') (.slice a3 (A.length + q) c3) (.slice a1 d c1) k q))
              case atStart => exact ⟨0, a2, c2, by omega, rfl, rfl, rfl, rfl, GG⟩
              case round =>
                obtain ⟨q, a3, c3, hq, rfl, rfl, rfl, rfl, HI⟩ := hrel
                by_cases hqd : q < d
                · have hqI : (q : Int) < d := by omega
                  obtain ⟨x, hx⟩ : ∃ x, (upTo L' t')[q]? = some x := ⟨_, List.getElem?_eq_getElem (by rw [HD.out]; exact hqd)⟩
                  obtain ⟨b4, o4, rfl, hc4⟩ := HI.out.l.cell_ (k := q) (u := .int .i64 x.1) (by simp [ints, hx])
                  have hid : Hid (((A ++ L').map Prod.fst).Nodup) := Lib.hid (by rw [HY.out.cut]; exact hn0.ids)
                  have hgone := gone_id (t := (t' : Int)) hid.out HLs.out hx
                  have hfresh : Hid (∀ j, j < A.length + q → ∃ y : Int, (y == x.1) = false ∧ (ints (A ++ (upTo L' t').take q))[j]? = some (.int .i64 y)) := Lib.hid (fun j hj => by
                    have hl : (A ++ (upTo L' t').take q).length = A.length + q := by rw [List.length_append, List.length_take, HD.out, Nat.min_eq_left hq]
                    have hj' : j < (A ++ (upTo L' t').take q).length := by omega
                    refine ⟨((A ++ (upTo L' t').take q)[j]).1, by simpa using fresh_id hid.out HLs.out hx hj', ?_⟩
                    simp only [ints, List.getElem?_map, List.getElem?_eq_getElem hj', Option.map_some])
                  have HAt := Lib.hid hgone
                  have HX9 := Lib.hid hx
                  have HW9 := Lib.hid (HW.out x (List.mem_filter.1 (List.mem_of_getElem? hx)).1)
                  have hbnd : A.length + q ≤ 256 := by
                    have h1 := congrArg List.length HY.out.cut
                    have h2 : (upTo L' t').length ≤ L'.length := List.length_filter_le _ _
                    rw [List.length_append] at h1
                    rw [HD.out] at h2
                    omega
                  clear hgone hx
                  go_wp2_with (fail)
                  go_loopw [17] (fun i wy => ∃ j : Nat, j ≤ A.length + q ∧ i = .int .i64 j ∧ ∃ m, wy = wr.drewN m) (fun i _ => A.length + q - (intOf i).toNat)
                  case atStart => exact ⟨0, Nat.zero_le _, rfl, 0, rfl⟩
                  case round =>
                    obtain ⟨j5, hj5, rfl, m5, rfl⟩ := hrel
                    by_cases hlt5 : j5 < A.length + q
                    · obtain ⟨y, hy, hys⟩ := hfresh.out j5 hlt5
                      obtain ⟨b5, o5, rfl, hc5⟩ := HI.out.own.cell_ hys
                      have hj5I : (j5 : Int) < A.length + q := by omega
                      clear hys
                      go_wp2_with (fail)
                      go_quiet (fail)
                      go_wp2_with (fail)
                      go_roundw
                      case rel => exact ⟨j5 + 1, by omega, by go_num, m5 + nq, by simp⟩
                      case measure => simp [intOf]; omega
                    · obtain rfl : j5 = A.length + q := by omega
                      have hsr : Sl ((wr.drewN m5).alloc (.cells #[.int .i64 x.1] 3)) (some ⟨(wr.drewN m5).heap.size, 0, none⟩) [.int .i64 x.1] := Sl.ofRow (Row.allocNew _ _ _)
                      go_wp2_with (first
                        | (go_at_call 23; refine (once_at (HI.out.quiet (Fr.drewN Nothing _ m5)).one.a HW9.out HAt.out).mono ?_; rintro e w9 ⟨rfl, rfl⟩)
                        | (at_builtin; go_must (refine wpList_append_fp rfl (.tmp 139) (.tmp 144) 23 rfl 3 i0 (.int .i64 0) 1 8 Try.underlying23 Hi.out Hz0.out Hz1.out Hz2.out rfl (by decide) (.slice a3 (A.length + q) c3) _ _ rfl (HI.out.own.fr ((Fr.drewN Nothing _ m5).trans' (Fr.alloc Nothing _ _)) (fun _ _ h => h)) _ 1 1 [.int .i64 x.1] rfl rfl (by simp) hsr (by intro u hu; simp at hu; rw [hu]; rfl) (by unfold maxLen; simp; omega) (by simp; omega) ?_); intro v7 w7 o7 f7 n7 s7 _))
                      have hlq : (A ++ (upTo L' t').take q).length = A.length + q := by rw [List.length_append, List.length_take, HD.out, Nat.min_eq_left hq]
                      have P7 := HI.out.put HX9.out ((Fr.drewN Nothing _ m5).trans' (Fr.alloc Nothing _ _)) o7 f7 n7
                      obtain ⟨a7, c7, rfl, _, _⟩ := o7.shape
                      rw [hlq] at P7
                      go_roundg (d - (q + 1))
                      case measure => omega
                      case rel => exact ⟨q + 1, a7, c7, by omega, rfl, by go_num, by go_num, by rw [hlq]; rfl, Lib.hid P7⟩
                · obtain rfl : q = d := by omega
                  have P8 : OnceAt w wr S6 p t' L (A ++ upTo L' t') (past L' t') (.slice a3 (A.length + q) c3) k := by
                    have h9 := HI.out
                    rw [← HD.out] at h9
                    rw [← HD.out]
                    exact h9.done HY.out.cut HLs.out
                  have hl8 : A.length + q = (A ++ upTo L' t').length := by rw [List.length_append, HD.out]
                  rw [hl8] at P8
                  go_wp2_with (fail)
                  go_roundg (M - (j + 1))
                  case measure => omega
                  case rel => exact ⟨j + 1, S6, t', A ++ upTo L' t', past L' t', a3, c3, by omega, rfl, by go_num, by rw [hl8], rfl, ht2, by rw [hl8], Lib.hid P8⟩
        · obtain rfl : j = M := by omega
          have hlen := congrArg List.length HY.out.cut
          rw [List.length_append] at hlen
          have hsub : (L.length : Int) - A.length = L'.length := by omega
          by_cases h50 : st.length ≤ 50
          · have hjs : j = st.length := by omega
            clear hM hlt h50 hlen hn hj
            subst hjs
            go_wp2_with (go_at_call 15; refine (isw_len HY.out.one.a).mono ?_; rintro e w9 ⟨rfl, rfl⟩)
            go_ret
            exact ⟨rfl, HY.out.one.fr.belowB⟩
          · obtain rfl : j = 50 := by omega
            have g1 : decide ((50 : Int) < st.length) = true := by rw [decide_eq_true_iff]; omega
            clear hM hlt h50 hlen hn hj
            go_wp2_with (go_at_call 15; refine (isw_len HY.out.one.a).mono ?_; rintro e w9 ⟨rfl, rfl⟩)
            go_ret
            exact ⟨rfl, HY.out.one.fr.belowB⟩
end Go.Proofs.Ytgfphbehecpgpaa
