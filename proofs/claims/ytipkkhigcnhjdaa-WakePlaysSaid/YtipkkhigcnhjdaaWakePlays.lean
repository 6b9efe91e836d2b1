/- WakePlays answers true for every input and changes no memory that was there. No condition. -/
import Derived.Test.YtipkkhigcnhjdaaWakeX
import Derived.Test.YtipkkhigcnhjdaaWakeLives
import Derived.Test.YtipkkhigcnhjdaaWakeOps
namespace Go.Proofs.Ytipkkhigcnhjdaa
open Go.RowKit
/-- Both boxes between two steps. -/
structure PW0 (S T : Nat → Prop) (p q : Nat) (qt : Int) (M : Nat) (w0 wr : World) (L : List Dev) (R : List ByteArray) (LR : List RDev) : Prop where
  box : IsBox S wr p qt M L R
  ref : IsRef T wr q qt LR R
  apart : ∀ k, S k → ¬ T k
  newS : ∀ k, S k → w0.heap.size ≤ k
  newT : ∀ k, T k → w0.heap.size ≤ k
  fr : Fr (FromB w0.heap.size) w0 wr
theorem PW0.copy {S T : Nat → Prop} {p q M : Nat} {qt : Int} {w0 wr : World} {L : List Dev} {R : List ByteArray} {LR : List RDev} (h : PW0 S T p q qt M w0 wr L R LR) (o : WakeOp) :
    PW S T p q wr.heap.size o qt M w0 (wr.alloc (.cells #[.int .i64 o.kind, .int .i64 o.by_, .string o.dev] 37)) L R LR R :=
  ⟨h.box.fr (Fr.alloc Nothing _ _) (fun _ _ h => h), h.ref.fr (Fr.alloc Nothing _ _) (fun _ _ h => h), h.apart, h.newS, h.newT, Row.allocNew wr [.int .i64 o.kind, .int .i64 o.by_, .string o.dev] _, fun hs => by have := h.box.lt hs; omega, fun hs => by have := h.ref.lt hs; omega, h.fr.trans' (Fr.alloc Nothing _ _).fromN⟩
theorem PW.pair {S T : Nat → Prop} {p q ob M : Nat} {o : WakeOp} {qt : Int} {w0 wr : World} {L : List Dev} {R : List ByteArray} {LR : List RDev} (h : PW S T p q ob o qt M w0 wr L R LR R) : PW0 S T p q qt M w0 wr L R LR := ⟨h.box, h.ref, h.apart, h.newS, h.newT, h.fr⟩
theorem WP.at_of {L : List Dev} {R : List ByteArray} {LR : List RDev} {k : ByteArray} (h : WP L R LR) (hw : waitsOf L k ≠ 0) : decide (atOf LR k < 0) = false := by
  have hk : k ∈ LR.map RDev.name := by
    apply Classical.byContradiction
    intro hn
    have h1 : k ∉ L.map Dev.name := fun h2 => hn ((h.names k).1 h2)
    rw [waitsOf_devOf, devOf_none h1] at hw
    exact hw rfl
  obtain ⟨d, hd, rfl⟩ := List.mem_map.1 hk
  obtain ⟨j, hj, rfl⟩ := List.mem_iff_getElem.1 hd
  rw [atOf_at h.so.nodup hj, decide_eq_false_iff_not]
  omega
set_option maxHeartbeats 8000000 in
set_option maxRecDepth 100000 in
theorem wakeplays_any (quiet : Int) (a : Option Addr) (rs : List WakeOp) (c : Nat) (odd : Int) (w : World) (_w0 : (Lit.int .i64 quiet).wf = true) (hlc : rs.length ≤ c) (hcm : c ≤ maxLen) (ht : Recs WakeOp.cells 3 w a rs) (_hs : ∀ r ∈ rs, r.Good) (_w1 : (Lit.int .i64 odd).wf = true) :
    Calls Try.prog 6 #[.int .i64 quiet, .slice a rs.length c, .int .i64 odd] w fun e w' => e = .returned (.bool true) ∧ Below w.heap.size w w' := by
  obtain ⟨qt, hqt⟩ : ∃ qt : Int, qt = min (max quiet 0) 1000 := ⟨_, rfl⟩
  have Hqt := Lib.hid hqt
  have hc9 : (c : Int) ≤ 9223372036854775807 := by unfold maxLen at hcm; omega
  have HG := Lib.hid _hs
  have HT := Lib.hid ht
  clear hqt _w0 _w1 hcm _hs ht
  go_enter Try.func6, Try.ntmps6
  go_wp2_with (fail)
  refine (wake_lives _).mono ?_
  rintro e w1 ⟨rfl, f0⟩
  go_wp2_with (fail)
  refine (box_new quiet qt _ Hqt.out).mono ?_
  rintro e w2 ⟨p, S, rfl, h1, hS, f1⟩
  go_wp2_with (fail)
  refine (ref_new quiet qt _ Hqt.out).mono ?_
  rintro e w3 ⟨q, T, rfl, h2, hT, f2⟩
  have inv : PW0 S T p q qt 0 w w3 [] [] [] :=
    ⟨h1.fr f2 (fun _ _ h => h), h2, fun k h3 h4 => by have := h1.lt h3; have := hT k h4; omega, fun k hk => Nat.le_trans f0.size (hS k hk), fun k hk => Nat.le_trans f0.size (Nat.le_trans f1.size (hT k hk)), (f0.fromN.trans' f1.fromN).trans' f2.fromN⟩
  have INV := Lib.hid inv
  clear inv h1 h2 hS hT f0 f1 f2
  go_wp2_with (fail)
  refine (wakeop_early a rs.length c _ hlc hc9).mono ?_
  rintro e w4 ⟨rfl, rfl⟩
  obtain ⟨N, hN⟩ : ∃ N, N = min rs.length 150 := ⟨_, rfl⟩
  rw [← hN]
  have hN1 : N ≤ rs.length := by omega
  have hN4 : N ≤ 150 := by omega
  clear hN
  go_wp2_with (fail)
  go_loopg [9, 10] N (fun g nw i wr => ∃ (k : Nat) (n : Nat) (S T : Nat → Prop) (L : List Dev) (R : List ByteArray) (LR : List RDev), k ≤ N ∧ g = N - k ∧ i = .int .i64 k ∧ nw = .int .i64 n ∧ n ≤ 10 * k ∧ Hid (WP L R LR) ∧ Hid (PW0 S T p q qt (140 * k) w wr L R LR))
  case atStart => exact ⟨0, 0, S, T, [], [], [], by omega, rfl, rfl, rfl, by omega, Lib.hid WP.start, INV⟩
  case round =>
    obtain ⟨k, n, Sa, Ta, L, R, LR, hk, rfl, rfl, rfl, hn, HW, HX⟩ := hrel
    by_cases hlt : k < N
    · obtain ⟨b1, o1, rfl, hc⟩ := HT.out.at_ (i := k) (by omega)
      have hki : k < rs.length := by omega
      obtain ⟨o, ho⟩ : ∃ o, o = rs[k] := ⟨_, rfl⟩
      rw [← ho] at hc
      have c0 : w.cell? ⟨b1, o1 + k * 3, none⟩ = some (.int .i64 o.kind) := hc 0 _ rfl
      have c1 : w.cell? ⟨b1, o1 + k * 3 + 1, none⟩ = some (.int .i64 o.by_) := hc 1 _ rfl
      have c2 : w.cell? ⟨b1, o1 + k * 3 + 2, none⟩ = some (.string o.dev) := hc 2 _ rfl
      have hblt := World.block_lt_of_cell? w _ c0
      simp only at hblt
      have HD : Hid (o.dev.size ≤ maxLen) := Lib.hid (by have := (HG.out rs[k] (List.getElem_mem hki)).2.2; rw [← ho] at this; exact this)
      have d0 := cell_fr c0 HX.out.fr (by show ¬ _ ≤ _; omega)
      have d1 := cell_fr c1 HX.out.fr (by show ¬ _ ≤ _; omega)
      have d2 := cell_fr c2 HX.out.fr (by show ¬ _ ≤ _; omega)
      obtain ⟨m, hm, em⟩ := umod o.by_ 10 (by omega) (by omega)
      have EM : Hid (wrap64 ((IntKind.u64.wrap o.by_).tmod 10) = (m : Int)) := em
      clear hc ho c0 c1 c2 hblt em
      have hkI : (k : Int) < N := by omega
      have hNc : (N : Int) ≤ c := by omega
      go_upto_region 10 with (fail)
      have hp := HX.out.copy o
      obtain ⟨ob, hob⟩ : ∃ ob, ob = wr.heap.size := ⟨_, rfl⟩
      rw [← hob] at hp ⊢
      obtain ⟨wo, hwo⟩ : ∃ wo, wo = wr.alloc (.cells #[.int .i64 o.kind, .int .i64 o.by_, .string o.dev] 37) := ⟨_, rfl⟩
      rw [← hwo] at hp ⊢
      have HP := Lib.hid hp
      clear hob hwo hp d0 d1 d2
      have d1 := HP.out.row.cell 1 rfl
      go_cut [9] (fun s wx => s = .int .i64 ((n + m : Nat) : Int) ∧ wo = wx)
      case first =>
        go_wp2_with (fail)
        go_meet
        case rel => exact ⟨by rw [EM.out]; exact congrArg (Value.int .i64) (by unfold wrap64; omega), rfl⟩
      case rest =>
        obtain ⟨rfl, rfl⟩ := hcut
        obtain ⟨n2, hn2⟩ : ∃ n2, n2 = n + m := ⟨_, rfl⟩
        rw [← hn2]
        have hn3 : n2 ≤ 10 * (k + 1) := by omega
        clear hn2 hn hm EM
        obtain ⟨B, hB⟩ : ∃ B : Bool, B = decide (k = 7 ∧ odd < 1099511627776 ∧ -1099511627776 < odd) := ⟨_, rfl⟩
        have HBB := Lib.hid hB
        clear hB
        go_upto_region 12 with (fail)
        go_cut [50] (fun s wx => s = .bool B ∧ wo = wx)
        case first =>
          by_cases k7 : k = 7
          · have q1 : ((k : Int) == 7) = true := by simp [k7]
            by_cases o1 : odd < 1099511627776
            · have q2 : decide (odd < 1099511627776) = true := decide_eq_true o1
              by_cases o2 : -1099511627776 < odd
              · have q3 : decide (-1099511627776 < odd) = true := decide_eq_true o2
                obtain rfl : B = true := by rw [HBB.out]; simp [k7, o1, o2]
                clear k7 o1 o2
                go_wp2_with (fail)
                go_meet
                case rel => exact ⟨rfl, rfl⟩
              · have q3 : decide (-1099511627776 < odd) = false := decide_eq_false o2
                obtain rfl : B = false := by rw [HBB.out]; simp [o2]
                clear k7 o1 o2
                go_wp2_with (fail)
                go_meet
                case rel => exact ⟨rfl, rfl⟩
            · have q2 : decide (odd < 1099511627776) = false := decide_eq_false o1
              obtain rfl : B = false := by rw [HBB.out]; simp [o1]
              clear k7 o1
              go_wp2_with (fail)
              go_meet
              case rel => exact ⟨rfl, rfl⟩
          · have q1 : ((k : Int) == 7) = false := by simp; omega
            obtain rfl : B = false := by rw [HBB.out]; simp [k7]
            clear k7
            go_wp2_with (fail)
            go_meet
            case rel => exact ⟨rfl, rfl⟩
        case rest =>
          obtain ⟨rfl, rfl⟩ := hcut
          cases B with
          | true =>
            have ha9 : odd ≤ 9223372036854775807 := by have := of_decide_eq_true HBB.out.symm; omega
            have hM : 140 * k ≤ 21000 := by omega
            have d0 := HP.out.row.cell 0 rfl
            have d20 := HP.out.row.cell 2 rfl
            go_upto_block 2 with (go_at_call 15; refine (wakeop_kind o _).mono ?_; rintro e w5 ⟨z, hz, rfl, f5⟩; have HK := Lib.hid (HP.out.quiet f5))
            clear d0 d1 d20
            have d2 := HK.out.row.cell 2 rfl
            go_cut [13] (fun ok wx => ok = .bool true ∧ ∃ (S' T' : Nat → Prop) (L' : List Dev) (R' : List ByteArray) (LR' : List RDev), Hid (WP L' R' LR') ∧ Hid (PW S' T' p q ob o qt (140 * (k + 1)) w wx L' R' LR' R'))
            case first =>
              obtain rfl | rfl | rfl | rfl : z = 0 ∨ z = 1 ∨ z = 2 ∨ z = 3 := by omega
              · obtain ⟨E, LR6, R6, PR⟩ := hint_pair (q := q) o.dev odd HD.out ha9 (HK.out.quiet (Fr.drew Nothing _)).box (by omega) HW.out
                have PRH := Lib.hid PR
                clear PR
                go_wp2_with (fail)
                first
                  | (go_region_held3 (fun w' => w'.cell? ⟨ob, 2, none⟩ = some (.string o.dev))
                      (first | exact (HK.out.quiet (Fr.drew Nothing _)).row.cell 2 rfl | exact HA.out.row.cell 2 rfl | exact HB7.out.row.cell 2 rfl)
                      (first
                        | (go_at_call 11; refine PRH.out.box.mono ?_; rintro e w6 ⟨rfl, L6, G6, W6⟩; obtain ⟨S6, K6, n6, f6⟩ := G6; have HW6 := Lib.hid W6; have HA := Lib.hid ((HK.out.quiet (Fr.drew Nothing _)).stepS K6 n6 f6); clear W6)
                        | (go_at_call 19; refine (PRH.out.ref _ _ HA.out.ref).mono ?_; rintro e w7 ⟨rfl, G7⟩; obtain ⟨S7, K7, n7, f7⟩ := G7; have HB7 := Lib.hid (HA.out.stepT K7 n7 f7))))
                  | fail
                go_wp2_with (fail)
                go_meet
                case rel => exact ⟨by simp, S6, S7, L6, R6, LR6, HW6, Lib.hid (HB7.out.more (by omega))⟩
              · obtain ⟨LR6, R6, PR⟩ := tick_pair (q := q) odd ha9 HK.out.box (by omega) HW.out
                have PRH := Lib.hid PR
                clear PR
                go_wp2_with (first
                  | (go_at_call 16; refine PRH.out.box.mono ?_; rintro e w6 ⟨rfl, L6, G6, W6⟩; obtain ⟨S6, K6, n6, f6⟩ := G6; have HW6 := Lib.hid W6; have HA := Lib.hid (HK.out.stepS K6 n6 f6); clear W6)
                  | (go_at_call 20; refine (PRH.out.ref _ _ HA.out.ref).mono ?_; rintro e w7 ⟨rfl, G7⟩; obtain ⟨S7, K7, n7, f7⟩ := G7; have HB7 := Lib.hid (HA.out.stepT K7 n7 f7)))
                go_meet
                case rel => exact ⟨rfl, S6, S7, L6, R6, LR6, HW6, Lib.hid (HB7.out.more (by omega))⟩
              · have hroom := box_room HK.out.box
                have hRM : R.length ≤ 21000 := by have := hroom.2.1; omega
                have hl64 : LR.length ≤ 64 := by rw [HW.out.len]; exact hroom.1
                have hfit : ∀ d ∈ LR, 0 ≤ d.waits ∧ d.waits ≤ 1000000 := fun d hd => by have := HW.out.fits HK.out.box d hd; omega
                have HFit := Lib.hid hfit
                have htl : Hid ((toldR LR R).length = R.length) := Lib.hid (by simp [toldR])
                clear hroom hfit
                go_wp2_with (first
                  | (go_at_call 12; refine (box_fetch odd ha9 HK.out.box (by omega) HW.out.rl.rn HW.out.rl.rs).mono ?_; rintro e w6 ⟨a6, c6, rfl, t6, b6, S6, K6, s6, f6⟩; have HA := Lib.hid (HK.out.stepS K6 (fun k hk => .inl (s6 k hk)) f6); have T6 := Lib.hid t6; have B6 := Lib.hid b6; clear t6 b6)
                  | (go_at_call 22; refine (ref_fetch odd ha9 hl64 (by omega) HW.out.so.nodup HW.out.rl.rn (fun r hr => (HW.out.names r).1 (HW.out.rl.rs r hr)) HFit.out HA.out.ref).mono ?_; rintro e w7 ⟨a7, c7, S7, rfl, t7, b7, K7, s7, f7⟩; have HB7 := Lib.hid (HA.out.stepT K7 (fun k hk => .inl (s7 k hk)) f7); have T7 := Lib.hid t7; have T67 := Lib.hid (T6.out.fr f7 (fun ad ha hs => by subst ha; have h1 := B6.out ad.block rfl; have h2 := HK.out.ref.lt hs; omega)); clear t7 b7; rw [HW.out.told] at T67; have SM := wake_same a6 a7 (toldR LR R) c6 c7 w7 T67.out T7.out (by rw [htl.out]; unfold maxLen; omega); rw [htl.out] at SM; have HSM := Lib.hid SM; clear SM)
                  | (go_at_call 21; refine HSM.out.mono ?_; rintro e w8 ⟨rfl, m8, rfl⟩; have HC8 := Lib.hid (HB7.out.quiet (Fr.drewN Nothing _ m8))))
                go_meet
                case rel => exact ⟨rfl, S6, S7, _, [], _, Lib.hid HW.out.fetch, Lib.hid (HC8.out.more (by omega))⟩
              · have hroom := box_room HK.out.box
                have hR64 : R.length ≤ 4000 := by
                  have h1 := (HW.out.rl.rn.length_le_of_subset (fun r hr => HW.out.rl.rs r hr))
                  rw [List.length_map] at h1
                  omega
                obtain ⟨LR6, R6, PR⟩ := awake_pair (q := q) o.dev HD.out HK.out.box hR64 HW.out
                have PRH := Lib.hid PR
                clear PR
                go_wp2_with (first
                  | (go_at_call 23; refine PRH.out.box.mono ?_; rintro e w6 ⟨rfl, L6, G6, W6⟩; obtain ⟨S6, K6, n6, f6⟩ := G6; have HW6 := Lib.hid W6; have HA := Lib.hid (HK.out.stepS K6 n6 f6); have d6 := HA.out.row.cell 2 rfl; clear W6)
                  | (go_at_call 24; refine (PRH.out.ref _ _ HA.out.ref).mono ?_; rintro e w7 ⟨rfl, G7⟩; obtain ⟨S7, K7, n7, f7⟩ := G7; have HB7 := Lib.hid (HA.out.stepT K7 n7 f7)))
                go_meet
                case rel => exact ⟨rfl, S6, S7, L6, R6, LR6, HW6, Lib.hid (HB7.out.more (by omega))⟩
            case rest =>
              obtain ⟨rfl, Sa2, Ta2, L2, R2, LR2, HW2, HP2⟩ := hcut
              obtain ⟨vl, vr, r8, _⟩ := HP2.out.ref
              obtain ⟨al, cl, rfl, hlc8, hlm8⟩ := r8.own.shape
              obtain ⟨ar, cr, rfl, hrc8, hrm8⟩ := r8.row.shape
              have hcl9 : (cl : Int) ≤ 9223372036854775807 := by unfold maxLen at hlm8; omega
              have hcr9 : (cr : Int) ≤ 9223372036854775807 := by unfold maxLen at hrm8; omega
              have k0 := r8.head.cell 0 rfl
              have k1 := r8.head.cell 1 rfl
              have R8 := Lib.hid r8
              have hnbs : Hid (({ data := #[110, 111, 98, 111, 100, 121, 39, 115] } : ByteArray).size ≤ maxLen) := Lib.hid (by decide)
              clear r8 d2
              go_upto_region 26 with (fail)
              go_cut [115] (fun s wx => s = .bool false ∧ ∃ m, wx = wc.drewN m)
              case first =>
                by_cases hw0 : waitsOf L2 { data := #[110, 111, 98, 111, 100, 121, 39, 115] } = 0
                · have g1 : (waitsOf L2 { data := #[110, 111, 98, 111, 100, 121, 39, 115] } != 0) = false := by simp [hw0]
                  clear hw0
                  go_quiet ((first
                    | (go_at_call 13; exact Calls.quiet_of_same ((box_len (HP2.out.quiet (Fr.drewN Nothing _ _)).box).mono fun e w' ⟨h1, h2⟩ => ⟨h1, h2.symm⟩))
                    | (go_at_call 17; exact Calls.quiet_of_same ((box_waitsOf { data := #[110, 111, 98, 111, 100, 121, 39, 115] } hnbs.out (HP2.out.quiet (Fr.drewN Nothing _ _)).box HW2.out.rl).mono fun e w' ⟨h1, h2⟩ => ⟨h1, h2.symm⟩))
                    | (go_at_call 25; exact Calls.quiet_of_same ((ref_at { data := #[110, 111, 98, 111, 100, 121, 39, 115] } (HP2.out.quiet (Fr.drewN Nothing _ _)).ref).mono fun e w' ⟨h1, h2⟩ => ⟨h1, h2.symm⟩))))
                  go_wp2_with (fail)
                  go_meet
                  case rel => exact ⟨rfl, _, rfl⟩
                · have g1 : (waitsOf L2 { data := #[110, 111, 98, 111, 100, 121, 39, 115] } != 0) = true := by simp [hw0]
                  have g2 : decide (atOf LR2 { data := #[110, 111, 98, 111, 100, 121, 39, 115] } < 0) = false := HW2.out.at_of hw0
                  clear hw0
                  go_quiet ((first
                    | (go_at_call 13; exact Calls.quiet_of_same ((box_len (HP2.out.quiet (Fr.drewN Nothing _ _)).box).mono fun e w' ⟨h1, h2⟩ => ⟨h1, h2.symm⟩))
                    | (go_at_call 17; exact Calls.quiet_of_same ((box_waitsOf { data := #[110, 111, 98, 111, 100, 121, 39, 115] } hnbs.out (HP2.out.quiet (Fr.drewN Nothing _ _)).box HW2.out.rl).mono fun e w' ⟨h1, h2⟩ => ⟨h1, h2.symm⟩))
                    | (go_at_call 25; exact Calls.quiet_of_same ((ref_at { data := #[110, 111, 98, 111, 100, 121, 39, 115] } (HP2.out.quiet (Fr.drewN Nothing _ _)).ref).mono fun e w' ⟨h1, h2⟩ => ⟨h1, h2.symm⟩))))
                  go_wp2_with (fail)
                  go_meet
                  case rel => exact ⟨rfl, _, rfl⟩
              case rest =>
                obtain ⟨rfl, m9, rfl⟩ := hcut
                have HPd := Lib.hid (HP2.out.quiet (Fr.drewN Nothing _ m9))
                have Rd := Lib.hid (R8.out.fr (Fr.drewN Nothing _ m9) (fun h => h) (fun _ _ h => h) (fun _ _ h => h))
                have HWt : Hid (∀ j (h : j < LR2.length), waitsOf L2 LR2[j].name = LR2[j].waits) := Lib.hid fun j h => HW2.out.waits (List.getElem_mem h)
                have HFt : Hid (∀ j (h : j < LR2.length), LR2[j].name.size ≤ maxLen) := Lib.hid fun j h => (HW2.out.fits HPd.out.box _ (List.getElem_mem h)).2.2.2.2
                clear k0 k1
                obtain ⟨W, hW⟩ : ∃ W, W = wc.drewN m9 := ⟨_, rfl⟩
                rw [← hW] at HPd Rd ⊢
                clear hW
                have k0 := Rd.out.head.cell 0 rfl
                go_wp2_with (fail)
                go_loopw [14] (fun i wy => ∃ j : Nat, j ≤ LR2.length ∧ i = .int .i64 j ∧ ∃ m, wy = W.drewN m) (fun i _ => LR2.length - (intOf i).toNat)
                case atStart => exact ⟨0, Nat.zero_le _, rfl, 0, rfl⟩
                case round =>
                  obtain ⟨j, hj, rfl, m7, rfl⟩ := hrel
                  by_cases hlj : j < LR2.length
                  · obtain ⟨b3, o3, rfl, hc3⟩ := (show Recs RDev.cells 4 W al LR2 from ⟨RDev.len, by decide, Rd.out.own.sl.2⟩).at_ hlj
                    obtain ⟨x, hx⟩ : ∃ x, x = LR2[j] := ⟨_, rfl⟩
                    have hw7 := HWt.out j hlj
                    have hs7 := HFt.out j hlj
                    rw [← hx] at hc3 hw7 hs7
                    obtain ⟨V, hV⟩ : ∃ V, V = W.drewN m7 := ⟨_, rfl⟩
                    have k0V : V.cell? ⟨q, 0, none⟩ = some (.slice (some ⟨b3, o3, none⟩) LR2.length cl) := by rw [hV]; exact k0
                    have e0 : V.cell? ⟨b3, o3 + j * 4, none⟩ = some (.string x.name) := by rw [hV]; have := hc3 0 _ rfl; rw [Nat.add_zero] at this; exact this
                    have e1 : V.cell? ⟨b3, o3 + j * 4 + 1, none⟩ = some (.int .i64 x.waits) := by rw [hV]; exact hc3 1 _ rfl
                    have hq : Hid (∀ m, Calls Try.prog 17 #[.pointer (some ⟨p, 0, none⟩), .string x.name] (V.drewN m) fun e w' => e = .returned (.int .i64 x.waits) ∧ w' = V.drewN m) := Lib.hid fun m => by
                      have := box_waitsOf x.name hs7 (HPd.out.quiet ((Fr.drewN Nothing _ m7).trans' (Fr.drewN Nothing _ m))).box HW2.out.rl
                      rw [← hV] at this
                      rw [hw7] at this
                      exact this.mono fun e w' ⟨h1, h2⟩ => ⟨h1, h2.symm⟩
                    have hjI : (j : Int) < LR2.length := by omega
                    have hne : (x.waits != x.waits) = false := by simp
                    rw [← hV]
                    have HV := Lib.hid hV
                    clear hc3 hw7 hs7 hx hV
                    go_wp2_with (fail)
                    go_quiet ((go_at_call 17; exact Calls.quiet_of_same (hq.out _)))
                    go_wp2_with (fail)
                    go_roundw
                    case rel => exact ⟨j + 1, by omega, by go_num, m7 + nq, by rw [HV.out]; simp⟩
                    case measure => simp [intOf]; omega
                  · obtain rfl : j = LR2.length := by omega
                    go_wp2_with (fail)
                    go_roundg (N - (k + 1))
                    case measure => omega
                    case rel => exact ⟨k + 1, n2, Sa2, Ta2, L2, R2, LR2, by omega, rfl, by go_num, rfl, hn3, HW2, Lib.hid (HPd.out.quiet (Fr.drewN Nothing _ _)).pair⟩
          | false =>
            have ha9 : (n2 : Int) ≤ 9223372036854775807 := by omega
            have hM : 140 * k ≤ 21000 := by omega
            have d0 := HP.out.row.cell 0 rfl
            have d20 := HP.out.row.cell 2 rfl
            go_upto_block 2 with (go_at_call 15; refine (wakeop_kind o _).mono ?_; rintro e w5 ⟨z, hz, rfl, f5⟩; have HK := Lib.hid (HP.out.quiet f5))
            clear d0 d1 d20
            have d2 := HK.out.row.cell 2 rfl
            go_cut [13] (fun ok wx => ok = .bool true ∧ ∃ (S' T' : Nat → Prop) (L' : List Dev) (R' : List ByteArray) (LR' : List RDev), Hid (WP L' R' LR') ∧ Hid (PW S' T' p q ob o qt (140 * (k + 1)) w wx L' R' LR' R'))
            case first =>
              obtain rfl | rfl | rfl | rfl : z = 0 ∨ z = 1 ∨ z = 2 ∨ z = 3 := by omega
              · obtain ⟨E, LR6, R6, PR⟩ := hint_pair (q := q) o.dev (n2 : Int) HD.out ha9 (HK.out.quiet (Fr.drew Nothing _)).box (by omega) HW.out
                have PRH := Lib.hid PR
                clear PR
                go_wp2_with (fail)
                first
                  | (go_region_held3 (fun w' => w'.cell? ⟨ob, 2, none⟩ = some (.string o.dev))
                      (first | exact (HK.out.quiet (Fr.drew Nothing _)).row.cell 2 rfl | exact HA.out.row.cell 2 rfl | exact HB7.out.row.cell 2 rfl)
                      (first
                        | (go_at_call 11; refine PRH.out.box.mono ?_; rintro e w6 ⟨rfl, L6, G6, W6⟩; obtain ⟨S6, K6, n6, f6⟩ := G6; have HW6 := Lib.hid W6; have HA := Lib.hid ((HK.out.quiet (Fr.drew Nothing _)).stepS K6 n6 f6); clear W6)
                        | (go_at_call 19; refine (PRH.out.ref _ _ HA.out.ref).mono ?_; rintro e w7 ⟨rfl, G7⟩; obtain ⟨S7, K7, n7, f7⟩ := G7; have HB7 := Lib.hid (HA.out.stepT K7 n7 f7))))
                  | fail
                go_wp2_with (fail)
                go_meet
                case rel => exact ⟨by simp, S6, S7, L6, R6, LR6, HW6, Lib.hid (HB7.out.more (by omega))⟩
              · obtain ⟨LR6, R6, PR⟩ := tick_pair (q := q) (n2 : Int) ha9 HK.out.box (by omega) HW.out
                have PRH := Lib.hid PR
                clear PR
                go_wp2_with (first
                  | (go_at_call 16; refine PRH.out.box.mono ?_; rintro e w6 ⟨rfl, L6, G6, W6⟩; obtain ⟨S6, K6, n6, f6⟩ := G6; have HW6 := Lib.hid W6; have HA := Lib.hid (HK.out.stepS K6 n6 f6); clear W6)
                  | (go_at_call 20; refine (PRH.out.ref _ _ HA.out.ref).mono ?_; rintro e w7 ⟨rfl, G7⟩; obtain ⟨S7, K7, n7, f7⟩ := G7; have HB7 := Lib.hid (HA.out.stepT K7 n7 f7)))
                go_meet
                case rel => exact ⟨rfl, S6, S7, L6, R6, LR6, HW6, Lib.hid (HB7.out.more (by omega))⟩
              · have hroom := box_room HK.out.box
                have hRM : R.length ≤ 21000 := by have := hroom.2.1; omega
                have hl64 : LR.length ≤ 64 := by rw [HW.out.len]; exact hroom.1
                have hfit : ∀ d ∈ LR, 0 ≤ d.waits ∧ d.waits ≤ 1000000 := fun d hd => by have := HW.out.fits HK.out.box d hd; omega
                have HFit := Lib.hid hfit
                have htl : Hid ((toldR LR R).length = R.length) := Lib.hid (by simp [toldR])
                clear hroom hfit
                go_wp2_with (first
                  | (go_at_call 12; refine (box_fetch (n2 : Int) ha9 HK.out.box (by omega) HW.out.rl.rn HW.out.rl.rs).mono ?_; rintro e w6 ⟨a6, c6, rfl, t6, b6, S6, K6, s6, f6⟩; have HA := Lib.hid (HK.out.stepS K6 (fun k hk => .inl (s6 k hk)) f6); have T6 := Lib.hid t6; have B6 := Lib.hid b6; clear t6 b6)
                  | (go_at_call 22; refine (ref_fetch (n2 : Int) ha9 hl64 (by omega) HW.out.so.nodup HW.out.rl.rn (fun r hr => (HW.out.names r).1 (HW.out.rl.rs r hr)) HFit.out HA.out.ref).mono ?_; rintro e w7 ⟨a7, c7, S7, rfl, t7, b7, K7, s7, f7⟩; have HB7 := Lib.hid (HA.out.stepT K7 (fun k hk => .inl (s7 k hk)) f7); have T7 := Lib.hid t7; have T67 := Lib.hid (T6.out.fr f7 (fun ad ha hs => by subst ha; have h1 := B6.out ad.block rfl; have h2 := HK.out.ref.lt hs; omega)); clear t7 b7; rw [HW.out.told] at T67; have SM := wake_same a6 a7 (toldR LR R) c6 c7 w7 T67.out T7.out (by rw [htl.out]; unfold maxLen; omega); rw [htl.out] at SM; have HSM := Lib.hid SM; clear SM)
                  | (go_at_call 21; refine HSM.out.mono ?_; rintro e w8 ⟨rfl, m8, rfl⟩; have HC8 := Lib.hid (HB7.out.quiet (Fr.drewN Nothing _ m8))))
                go_meet
                case rel => exact ⟨rfl, S6, S7, _, [], _, Lib.hid HW.out.fetch, Lib.hid (HC8.out.more (by omega))⟩
              · have hroom := box_room HK.out.box
                have hR64 : R.length ≤ 4000 := by
                  have h1 := (HW.out.rl.rn.length_le_of_subset (fun r hr => HW.out.rl.rs r hr))
                  rw [List.length_map] at h1
                  omega
                obtain ⟨LR6, R6, PR⟩ := awake_pair (q := q) o.dev HD.out HK.out.box hR64 HW.out
                have PRH := Lib.hid PR
                clear PR
                go_wp2_with (first
                  | (go_at_call 23; refine PRH.out.box.mono ?_; rintro e w6 ⟨rfl, L6, G6, W6⟩; obtain ⟨S6, K6, n6, f6⟩ := G6; have HW6 := Lib.hid W6; have HA := Lib.hid (HK.out.stepS K6 n6 f6); have d6 := HA.out.row.cell 2 rfl; clear W6)
                  | (go_at_call 24; refine (PRH.out.ref _ _ HA.out.ref).mono ?_; rintro e w7 ⟨rfl, G7⟩; obtain ⟨S7, K7, n7, f7⟩ := G7; have HB7 := Lib.hid (HA.out.stepT K7 n7 f7)))
                go_meet
                case rel => exact ⟨rfl, S6, S7, L6, R6, LR6, HW6, Lib.hid (HB7.out.more (by omega))⟩
            case rest =>
              obtain ⟨rfl, Sa2, Ta2, L2, R2, LR2, HW2, HP2⟩ := hcut
              obtain ⟨vl, vr, r8, _⟩ := HP2.out.ref
              obtain ⟨al, cl, rfl, hlc8, hlm8⟩ := r8.own.shape
              obtain ⟨ar, cr, rfl, hrc8, hrm8⟩ := r8.row.shape
              have hcl9 : (cl : Int) ≤ 9223372036854775807 := by unfold maxLen at hlm8; omega
              have hcr9 : (cr : Int) ≤ 9223372036854775807 := by unfold maxLen at hrm8; omega
              have k0 := r8.head.cell 0 rfl
              have k1 := r8.head.cell 1 rfl
              have R8 := Lib.hid r8
              have hnbs : Hid (({ data := #[110, 111, 98, 111, 100, 121, 39, 115] } : ByteArray).size ≤ maxLen) := Lib.hid (by decide)
              clear r8 d2
              go_upto_region 26 with (fail)
              go_cut [115] (fun s wx => s = .bool false ∧ ∃ m, wx = wc.drewN m)
              case first =>
                by_cases hw0 : waitsOf L2 { data := #[110, 111, 98, 111, 100, 121, 39, 115] } = 0
                · have g1 : (waitsOf L2 { data := #[110, 111, 98, 111, 100, 121, 39, 115] } != 0) = false := by simp [hw0]
                  clear hw0
                  go_quiet ((first
                    | (go_at_call 13; exact Calls.quiet_of_same ((box_len (HP2.out.quiet (Fr.drewN Nothing _ _)).box).mono fun e w' ⟨h1, h2⟩ => ⟨h1, h2.symm⟩))
                    | (go_at_call 17; exact Calls.quiet_of_same ((box_waitsOf { data := #[110, 111, 98, 111, 100, 121, 39, 115] } hnbs.out (HP2.out.quiet (Fr.drewN Nothing _ _)).box HW2.out.rl).mono fun e w' ⟨h1, h2⟩ => ⟨h1, h2.symm⟩))
                    | (go_at_call 25; exact Calls.quiet_of_same ((ref_at { data := #[110, 111, 98, 111, 100, 121, 39, 115] } (HP2.out.quiet (Fr.drewN Nothing _ _)).ref).mono fun e w' ⟨h1, h2⟩ => ⟨h1, h2.symm⟩))))
                  go_wp2_with (fail)
                  go_meet
                  case rel => exact ⟨rfl, _, rfl⟩
                · have g1 : (waitsOf L2 { data := #[110, 111, 98, 111, 100, 121, 39, 115] } != 0) = true := by simp [hw0]
                  have g2 : decide (atOf LR2 { data := #[110, 111, 98, 111, 100, 121, 39, 115] } < 0) = false := HW2.out.at_of hw0
                  clear hw0
                  go_quiet ((first
                    | (go_at_call 13; exact Calls.quiet_of_same ((box_len (HP2.out.quiet (Fr.drewN Nothing _ _)).box).mono fun e w' ⟨h1, h2⟩ => ⟨h1, h2.symm⟩))
                    | (go_at_call 17; exact Calls.quiet_of_same ((box_waitsOf { data := #[110, 111, 98, 111, 100, 121, 39, 115] } hnbs.out (HP2.out.quiet (Fr.drewN Nothing _ _)).box HW2.out.rl).mono fun e w' ⟨h1, h2⟩ => ⟨h1, h2.symm⟩))
                    | (go_at_call 25; exact Calls.quiet_of_same ((ref_at { data := #[110, 111, 98, 111, 100, 121, 39, 115] } (HP2.out.quiet (Fr.drewN Nothing _ _)).ref).mono fun e w' ⟨h1, h2⟩ => ⟨h1, h2.symm⟩))))
                  go_wp2_with (fail)
                  go_meet
                  case rel => exact ⟨rfl, _, rfl⟩
              case rest =>
                obtain ⟨rfl, m9, rfl⟩ := hcut
                have HPd := Lib.hid (HP2.out.quiet (Fr.drewN Nothing _ m9))
                have Rd := Lib.hid (R8.out.fr (Fr.drewN Nothing _ m9) (fun h => h) (fun _ _ h => h) (fun _ _ h => h))
                have HWt : Hid (∀ j (h : j < LR2.length), waitsOf L2 LR2[j].name = LR2[j].waits) := Lib.hid fun j h => HW2.out.waits (List.getElem_mem h)
                have HFt : Hid (∀ j (h : j < LR2.length), LR2[j].name.size ≤ maxLen) := Lib.hid fun j h => (HW2.out.fits HPd.out.box _ (List.getElem_mem h)).2.2.2.2
                clear k0 k1
                obtain ⟨W, hW⟩ : ∃ W, W = wc.drewN m9 := ⟨_, rfl⟩
                rw [← hW] at HPd Rd ⊢
                clear hW
                have k0 := Rd.out.head.cell 0 rfl
                go_wp2_with (fail)
                go_loopw [14] (fun i wy => ∃ j : Nat, j ≤ LR2.length ∧ i = .int .i64 j ∧ ∃ m, wy = W.drewN m) (fun i _ => LR2.length - (intOf i).toNat)
                case atStart => exact ⟨0, Nat.zero_le _, rfl, 0, rfl⟩
                case round =>
                  obtain ⟨j, hj, rfl, m7, rfl⟩ := hrel
                  by_cases hlj : j < LR2.length
                  · obtain ⟨b3, o3, rfl, hc3⟩ := (show Recs RDev.cells 4 W al LR2 from ⟨RDev.len, by decide, Rd.out.own.sl.2⟩).at_ hlj
                    obtain ⟨x, hx⟩ : ∃ x, x = LR2[j] := ⟨_, rfl⟩
                    have hw7 := HWt.out j hlj
                    have hs7 := HFt.out j hlj
                    rw [← hx] at hc3 hw7 hs7
                    obtain ⟨V, hV⟩ : ∃ V, V = W.drewN m7 := ⟨_, rfl⟩
                    have k0V : V.cell? ⟨q, 0, none⟩ = some (.slice (some ⟨b3, o3, none⟩) LR2.length cl) := by rw [hV]; exact k0
                    have e0 : V.cell? ⟨b3, o3 + j * 4, none⟩ = some (.string x.name) := by rw [hV]; have := hc3 0 _ rfl; rw [Nat.add_zero] at this; exact this
                    have e1 : V.cell? ⟨b3, o3 + j * 4 + 1, none⟩ = some (.int .i64 x.waits) := by rw [hV]; exact hc3 1 _ rfl
                    have hq : Hid (∀ m, Calls Try.prog 17 #[.pointer (some ⟨p, 0, none⟩), .string x.name] (V.drewN m) fun e w' => e = .returned (.int .i64 x.waits) ∧ w' = V.drewN m) := Lib.hid fun m => by
                      have := box_waitsOf x.name hs7 (HPd.out.quiet ((Fr.drewN Nothing _ m7).trans' (Fr.drewN Nothing _ m))).box HW2.out.rl
                      rw [← hV] at this
                      rw [hw7] at this
                      exact this.mono fun e w' ⟨h1, h2⟩ => ⟨h1, h2.symm⟩
                    have hjI : (j : Int) < LR2.length := by omega
                    have hne : (x.waits != x.waits) = false := by simp
                    rw [← hV]
                    have HV := Lib.hid hV
                    clear hc3 hw7 hs7 hx hV
                    go_wp2_with (fail)
                    go_quiet ((go_at_call 17; exact Calls.quiet_of_same (hq.out _)))
                    go_wp2_with (fail)
                    go_roundw
                    case rel => exact ⟨j + 1, by omega, by go_num, m7 + nq, by rw [HV.out]; simp⟩
                    case measure => simp [intOf]; omega
                  · obtain rfl : j = LR2.length := by omega
                    go_wp2_with (fail)
                    go_roundg (N - (k + 1))
                    case measure => omega
                    case rel => exact ⟨k + 1, n2, Sa2, Ta2, L2, R2, LR2, by omega, rfl, by go_num, rfl, hn3, HW2, Lib.hid (HPd.out.quiet (Fr.drewN Nothing _ _)).pair⟩
    · obtain rfl : k = N := by omega
      go_wp2_with (fail)
      go_ret
      exact ⟨rfl, HX.out.fr.belowB⟩
end Go.Proofs.Ytipkkhigcnhjdaa
