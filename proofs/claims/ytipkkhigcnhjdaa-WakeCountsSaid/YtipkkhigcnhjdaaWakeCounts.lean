/- WakeCounts answers true for every input and changes no memory that was there. No condition. -/
import Derived.Test.YtipkkhigcnhjdaaWakeOps
namespace Go.Proofs.Ytipkkhigcnhjdaa
open Go.RowKit

set_option maxRecDepth 100000 in
set_option maxHeartbeats 8000000 in
theorem wakecounts_any (quiet : Int) (a : Option Addr) (rs : List WakeOp) (c : Nat) (w : World) (_w0 : (Lit.int .i64 quiet).wf = true) (hlc : rs.length ≤ c) (hcm : c ≤ maxLen) (ht : Recs WakeOp.cells 3 w a rs) (_hs : ∀ r ∈ rs, r.Good) :
    Calls Try.prog 4 #[.int .i64 quiet, .slice a rs.length c] w fun e w' => e = .returned (.bool true) ∧ Below w.heap.size w w' := by
  obtain ⟨qt, hqt⟩ : ∃ qt : Int, qt = min (max quiet 0) 1000 := ⟨_, rfl⟩
  have Hqt := Lib.hid hqt
  have hc9 : (c : Int) ≤ 9223372036854775807 := by unfold maxLen at hcm; omega
  clear hqt _w0 hcm _hs
  go_enter Try.func4, Try.ntmps4
  go_wp2_with (fail)
  refine (wake_lives _).mono ?_
  rintro e w1 ⟨rfl, f0⟩
  go_wp2_with (fail)
  refine (box_new quiet qt _ Hqt.out).mono ?_
  rintro e w2 ⟨p, S, rfl, h1, hS, f1⟩
  have inv : WInv S p qt 0 w [] [] w2 := ⟨h1, fun k hk => Nat.le_trans f0.size (hS k hk), f0.fromN.trans' f1.fromN⟩
  clear h1 hS f0 f1
  go_wp2_with (fail)
  refine (wakeop_early a rs.length c _ hlc hc9).mono ?_
  rintro e w4 ⟨rfl, rfl⟩
  obtain ⟨Q, hQ⟩ : ∃ Q, Q = rs.take 150 := ⟨_, rfl⟩
  have htQ : Recs WakeOp.cells 3 w a Q := by rw [hQ]; exact ht.take 150
  have hQl : min rs.length 150 = Q.length := by rw [hQ]; simp; omega
  have hQ2 : Q.length ≤ 150 := by rw [hQ]; simp; omega
  rw [hQl]
  clear hQ hQl ht hlc hc9
  go_wp2_with (fail)
  go_loopg [6, 7, 8, 9] Q.length (fun g n h t i wr => ∃ (k : Nat) (nw hh tt : Int) (L : List Dev) (R : List ByteArray) (S : Nat → Prop), k ≤ Q.length ∧ g = Q.length - k ∧ i = .int .i64 k ∧ n = .int .i64 nw ∧ 0 ≤ nw ∧ nw ≤ 10 * k ∧ h = .int .i64 hh ∧ 0 ≤ hh ∧ hh ≤ k ∧ t = .int .i64 tt ∧ 0 ≤ tt ∧ tt ≤ hh ∧ WInv S p qt (66 * k) w L R wr ∧ Hid (ALogic L R hh tt))
  case atStart => exact ⟨0, 0, 0, 0, [], [], S, Nat.zero_le _, rfl, rfl, rfl, by omega, by omega, rfl, by omega, by omega, rfl, by omega, by omega, inv, .inl ⟨rfl, rfl, rfl⟩⟩
  case round =>
    clear inv S
    obtain ⟨k, nw, hh, tt, L, R, S, hk, rfl, rfl, rfl, hn0, hn1, rfl, hh0, hh1, rfl, ht0, ht1, inv, HL⟩ := hrel
    by_cases hlt : k < Q.length
    · obtain ⟨b, o, rfl, hc⟩ := (htQ.kept inv.fr).at_ hlt
      have c0 := hc 0 _ rfl
      rw [Nat.add_zero] at c0
      have c1 := hc 1 _ rfl
      have c2 := hc 2 _ rfl
      obtain ⟨x, hx⟩ : ∃ x, x = Q[k] := ⟨_, rfl⟩
      rw [← hx] at c0 c1 c2
      clear hc hx
      obtain ⟨q, hq, he⟩ := umod x.by_ 10 (by omega) (by omega)
      have E : Hid (wrap64 ((IntKind.u64.wrap x.by_).tmod 10) = (q : Int)) := he
      clear he
      have r0 := Row.allocNew wr x.cells 37
      have fa : Fr Nothing wr (wr.alloc (.cells x.cells.toArray 37)) := Fr.alloc _ _ _
      go_upto_region 10 with (fail)
      go_cut [6] (fun s wx => s = .int .i64 (nw + q) ∧ wr.alloc (.cells x.cells.toArray 37) = wx)
      case first =>
        go_wp2_with (fail)
        go_meet
        case rel =>
          refine ⟨?_, rfl⟩
          rw [E.out, IntWalk.wrap64_in _ (by omega)]
      case rest =>
        obtain ⟨rfl, hw⟩ := hcut
        rw [hw] at r0 fa
        clear hw c0 c1 c2
        have inv1 := inv.quiet fa
        have d2 := r0.cell 2 rfl
        have n1 : ¬ S wr.heap.size := fun h => by have := inv.box.lt h; omega
        have R0 := Lib.hid r0
        obtain ⟨ob, hob⟩ : ∃ ob, ob = wr.heap.size := ⟨_, rfl⟩
        have k0 := r0.cell 0 rfl
        have k1 := r0.cell 1 rfl
        rw [← hob] at d2 n1 k0 k1
        rw [← hob]
        have hnw0 : 0 ≤ nw + q := by omega
        have hnw1 : nw + q ≤ 10 * (k + 1) := by omega
        have hnw9 : nw + q ≤ 9223372036854775807 := by omega
        obtain ⟨nw', hnw'⟩ : ∃ nw' : Int, nw' = nw + q := ⟨_, rfl⟩
        rw [← hnw'] at hnw0 hnw1 hnw9
        rw [← hnw']
        clear inv r0 fa hob hnw' hn0 hn1 E hq
        go_upto_block 2 with (go_at_call 15; refine (wakeop_kind x _).mono ?_; rintro e w5 ⟨z, hz, rfl, f5⟩)
        have e2 := cell_fr d2 f5 (fun h => h)
        have inv5 := inv1.quiet f5
        clear d2 k0 k1 inv1 f5 R0
        go_cut [7, 8] (fun h t wx => ∃ (hh' tt' : Int) (L' : List Dev) (R' : List ByteArray) (S' : Nat → Prop), h = .int .i64 hh' ∧ 0 ≤ hh' ∧ hh' ≤ k + 1 ∧ t = .int .i64 tt' ∧ 0 ≤ tt' ∧ tt' ≤ hh' ∧ WInv S' p qt (66 * (k + 1)) w L' R' wx ∧ Hid (ALogic L' R' hh' tt'))
        case first =>
          obtain rfl | rfl | rfl | rfl : z = 0 ∨ z = 1 ∨ z = 2 ∨ z = 3 := by omega
          · by_cases hdev : x.dev = nameA
            · rw [hdev] at e2
              have hal := HL.out
              rcases hal with ⟨rfl, rfl, hth⟩ | ⟨d, rfl, hdn, hsum, hd0, hrr⟩
              · have hh2 := box_hint_new nameA nw' (by decide) (by decide) hnw0 hnw9 inv5.box (by omega) (by simp) (by decide)
                have Hth := Lib.hid hth
                clear hth hdev
                go_wp2_with (fail)
                refine hh2.mono ?_
                rintro e w6 ⟨B, hB, rfl, g6⟩
                obtain ⟨S6, i6, _⟩ := inv5.gone g6
                clear inv5 g6 hh2
                go_wp2_with (fail)
                go_meet
                case rel => exact ⟨hh + 1, tt, _, _, S6, by first | rfl | go_num, by omega, by omega, rfl, ht0, by omega, ⟨i6.box.more (by omega), i6.new, i6.fr⟩, ALogic.hintNew B hh tt nw' qt Hth.out⟩
              · have hh2 := box_hint_known 0 (by simp) nw' (by rw [show [d][0].name = d.name from rfl, hdn]; decide) hnw0 hnw9 inv5.box (by omega)
                rw [show [d][0].name = nameA from hdn] at hh2
                clear hsum hrr hdev hdn
                go_wp2_with (fail)
                refine hh2.mono ?_
                rintro e w6 ⟨rfl, g6⟩
                obtain ⟨S6, i6, _⟩ := inv5.gone g6
                clear inv5 g6 hh2
                go_wp2_with (fail)
                go_meet
                case rel => exact ⟨hh + 1, tt, _, _, S6, by first | rfl | go_num, by omega, by omega, rfl, ht0, by omega, ⟨i6.box.more (by omega), i6.new, i6.fr⟩, HL.out.hintKnown nw' qt⟩
            · have hd : (x.dev.toList == (⟨#[97]⟩ : ByteArray).toList) = false := by rw [same_text, decide_eq_false hdev]
              have hd2 : (x.dev.toList == [97]) = false := by rw [← hd, ByteArray.toList_eq ⟨#[97]⟩]
              have hd3 : ¬ x.dev.toList = [97] := fun e => by rw [e] at hd2; simp at hd2
              clear hdev
              go_wp2_with (fail)
              go_meet
              case rel => exact ⟨hh, tt, L, R, S, rfl, hh0, by omega, rfl, ht0, ht1, ⟨inv5.box.more (by omega), inv5.new, inv5.fr⟩, HL⟩
          · go_wp2_with (fail)
            refine (box_tick nw' hnw0 hnw9 inv5.box (by omega)).mono ?_
            rintro e w6 ⟨N, rfl, hN, hA, g6⟩
            obtain ⟨S6, i6, _⟩ := inv5.gone g6
            have HL6 := HL.out.tick nw' qt hN
            have H6 := Lib.hid HL6
            clear inv5 g6 HL6 hN hA
            go_wp2_with (fail)
            go_meet
            case rel => exact ⟨hh, tt, _, _, S6, rfl, hh0, by omega, rfl, ht0, ht1, ⟨i6.box.more (by omega), i6.new, i6.fr⟩, H6.out⟩
          · obtain ⟨hrn, hrs, hr1⟩ := HL.out.row
            obtain ⟨hf1, hf2⟩ := HL.out.fetch nw'
            go_wp2_with (fail)
            refine (box_fetch nw' hnw9 inv5.box (by omega) hrn hrs).mono ?_
            rintro e w6 ⟨a6, c6, rfl, t6, b6, S6, x6, hs6, f6⟩
            have i6 := inv5.fetched x6 hs6 f6
            have Hf1 := Lib.hid hf1
            have Hf2 := Lib.hid hf2
            clear inv5 x6 f6 hs6 hf1 hf2 hrn hrs b6 e2
            go_wp2_with (fail)
            go_loopg [8, 12] R.length (fun g t i wr => ∃ (j : Nat) (z : Int), j ≤ R.length ∧ g = R.length - j ∧ i = .int .i64 j ∧ t = .int .i64 z ∧ Hid (z = if j = 0 then tt else hh) ∧ w6 = wr)
            case atStart => exact ⟨0, tt, Nat.zero_le _, rfl, rfl, rfl, rfl, rfl⟩
            case round =>
              obtain ⟨j, z, hj, rfl, rfl, rfl, HZ, rfl⟩ := hrel
              by_cases hlj : j < R.length
              · have hj0 : j = 0 := by omega
                subst hj0
                have hlt6 : 0 < (toldOf L R).length := by simp [toldOf]; exact hlj
                obtain ⟨b7, o7, rfl, hcT⟩ := t6.at_ hlt6
                obtain ⟨q1, q2, q3⟩ := Hf2.out _ (List.getElem_mem hlt6)
                have g0 := hcT 0 _ rfl
                have g1 := hcT 1 _ rfl
                rw [q1] at g0
                obtain ⟨cn, hcn⟩ : ∃ cn, cn = (toldOf L R)[0].count := ⟨_, rfl⟩
                rw [← hcn] at g1 q2 q3
                have hz : z = tt := HZ.out
                subst hz
                simp only [Nat.zero_mul, Nat.add_zero] at g0 g1
                have hsm : IntKind.i64.wrap (z + cn) = z + cn := IntWalk.i64_in _ (by omega)
                have Q3 := Lib.hid q3
                clear hcT q1 q3 hcn HZ
                go_wp2_with (fail)
                go_roundg (R.length - (0 + 1))
                case measure => omega
                case rel => exact ⟨1, hh, by omega, rfl, by go_num, by rw [Q3.out], rfl, rfl⟩
              · have hjR : j = R.length := by omega
                subst hjR
                clear t6
                go_wp2_with (fail)
                go_meet
                case rel =>
                  have hz := HZ.out
                  refine ⟨hh, z, _, _, S6, rfl, hh0, by omega, rfl, ?_, ?_, ⟨i6.box.more (by omega), i6.new, i6.fr⟩, by rw [hz]; exact Hf1.out⟩
                  · rw [hz]; split <;> assumption
                  · rw [hz]; split
                    · exact ht1
                    · exact Int.le_refl _
          · go_wp2_with (fail)
            go_meet
            case rel => exact ⟨hh, tt, L, R, S, rfl, hh0, by omega, rfl, ht0, ht1, ⟨inv5.box.more (by omega), inv5.new, inv5.fr⟩, HL⟩
        case rest =>
          clear inv5 e2 HL hz n1 ht0 ht1 hh0 hh1
          obtain ⟨hh', tt', L', R', S', rfl, a1, a2, rfl, a3, a4, inv', HL'⟩ := hcut
          have hr1 := HL'.out.row.2.2
          go_wp2_with (fail)
          refine (box_len inv'.box).mono ?_
          rintro e w8 ⟨rfl, rfl⟩
          have hal := HL'.out
          rcases hal with ⟨rfl, rfl, hth⟩ | ⟨d, rfl, hdn, hsum, hd0, hrr⟩
          · subst hth
            go_wp2_with (fail)
            refine (box_waits_no nameA (by decide) inv'.box (by simp)).mono ?_
            rintro e w9 ⟨rfl, rfl⟩
            go_wp2_with (fail)
            go_roundg (Q.length - (k + 1))
            case measure => omega
            case rel => exact ⟨k + 1, nw', tt', tt', [], [], S', by omega, rfl, by go_num, rfl, hnw0, by omega, rfl, a1, by omega, rfl, a3, a4, inv', HL'⟩
          · have hwt := box_waits 0 (by simp) inv'.box
            rw [show [d][0].name = nameA from hdn, show [d][0].waits = d.waits from rfl] at hwt
            have hsm : IntKind.i64.wrap (tt' + d.waits) = hh' := by rw [hsum]; exact IntWalk.i64_in _ (by omega)
            have Hsum := Lib.hid hsum
            clear hsum hrr hdn
            go_wp2_with (fail)
            refine hwt.mono ?_
            rintro e w9 ⟨rfl, rfl⟩
            go_wp2_with (fail)
            go_roundg (Q.length - (k + 1))
            case measure => omega
            case rel => exact ⟨k + 1, nw', hh', tt', [d], R', S', by omega, rfl, by go_num, rfl, hnw0, by omega, rfl, a1, by omega, rfl, a3, a4, inv', HL'⟩
    · go_wp2_with (fail)
      go_ret
      exact ⟨rfl, inv.fr.belowB⟩

end Go.Proofs.Ytipkkhigcnhjdaa
