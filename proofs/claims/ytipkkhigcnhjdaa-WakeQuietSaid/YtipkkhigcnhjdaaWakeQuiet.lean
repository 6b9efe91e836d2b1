/- WakeQuiet answers true for every input and changes no memory that was there. No condition. -/
import Derived.Test.YtipkkhigcnhjdaaWakeOps
namespace Go.Proofs.Ytipkkhigcnhjdaa
open Go.RowKit

def kindN (o : WakeOp) : Nat := (wrap64 ((IntKind.u64.wrap o.kind).tmod 4)).toNat
theorem kindN_lt (o : WakeOp) : kindN o < 4 ∧ wrap64 ((IntKind.u64.wrap o.kind).tmod 4) = (kindN o : Int) := by
  obtain ⟨q, hq, e⟩ := umod o.kind 4 (by omega) (by omega)
  have e' : wrap64 ((IntKind.u64.wrap o.kind).tmod 4) = (q : Int) := e
  unfold kindN
  rw [e']
  exact ⟨by simpa using hq, by simp⟩
set_option maxHeartbeats 400000 in
theorem wakeop_kindN (o : WakeOp) (z : Nat) (hz : kindN o = z) (w : World) :
    Calls Try.prog 15 #[.agg #[.int .i64 o.kind, .int .i64 o.by_, .string o.dev]] w fun e w' => e = .returned (.int .i64 z) ∧ Fr Nothing w w' := by
  have E : Hid (wrap64 ((IntKind.u64.wrap o.kind).tmod 4) = (z : Int)) := (show _ = _ by rw [(kindN_lt o).2, hz])
  clear hz
  go_enter Try.func15, Try.ntmps15
  go_wp2
  go_ret
  exact ⟨congrArg _ (congrArg _ E.out), Fr.alloc _ _ _⟩

/-- One device at most: when it was called, and what stands in the row. -/
def QLogic (L : List Dev) (R : List ByteArray) (called : Bool) (last now qt : Int) : Prop :=
  (L = [] ∧ R = [] ∧ called = false) ∨ ∃ d : Dev, L = [d] ∧ d.name = nameA ∧ 0 ≤ d.waits ∧ d.called = called ∧ (called = true → d.at_ = last) ∧ ((d.rowed = true ∧ R = [nameA] ∧ (called = true → qt ≤ now - last)) ∨ (d.rowed = false ∧ R = []))
theorem QLogic.later {L : List Dev} {R : List ByteArray} {called : Bool} {last now qt now' : Int} (h : QLogic L R called last now qt) (hn : now ≤ now') : QLogic L R called last now' qt := by
  rcases h with h | ⟨d, h1, h2, h3, h4, h5, ⟨h6, h7, h8⟩ | h6⟩
  · exact .inl h
  · exact .inr ⟨d, h1, h2, h3, h4, h5, .inl ⟨h6, h7, fun hc => by have := h8 hc; omega⟩⟩
  · exact .inr ⟨d, h1, h2, h3, h4, h5, .inr h6⟩
/-- One more in the row, if it is called. -/
theorem QLogic.call1 {d : Dev} {R : List ByteArray} {called : Bool} {last now qt : Int} (h2 : d.name = nameA) (h3 : 0 ≤ d.waits) (h4 : d.called = called) (h5 : called = true → d.at_ = last) (h6 : (d.rowed = true ∧ R = [nameA] ∧ (called = true → qt ≤ now - last)) ∨ (d.rowed = false ∧ R = [])) :
    QLogic [tickD now qt d] (if callsB d now qt then R ++ [d.name] else R) called last now qt := by
  cases hc : callsB d now qt with
  | true =>
    have hc2 := hc
    unfold callsB at hc2
    simp only [Bool.and_eq_true, Bool.not_eq_true', decide_eq_true_eq] at hc2
    have hR : R = [] := by
      rcases h6 with ⟨h7, _⟩ | ⟨_, h7⟩
      · rw [hc2.1.2] at h7; simp at h7
      · exact h7
    subst hR
    have hl := hc2.2
    simp only [if_true]
    refine .inr ⟨tickD now qt d, rfl, ?_, ?_, ?_, ?_, .inl ⟨?_, ?_, fun hcl => ?_⟩⟩
    · simp [tickD, hc, h2]
    · simp [tickD, hc, h3]
    · simp [tickD, hc, h4]
    · intro hcl; simp [tickD, hc, h5 hcl]
    · simp [tickD, hc]
    · simp [h2]
    · unfold loudB at hl
      rw [h4, hcl, h5 hcl] at hl
      simpa using hl
  | false =>
    simp only [Bool.false_eq_true, if_false]
    refine .inr ⟨tickD now qt d, rfl, ?_, ?_, ?_, ?_, ?_⟩ <;> simp only [tickD, hc, Bool.false_eq_true, if_false] <;> assumption
theorem QLogic.hintNew (B : Nat) (last now qt : Int) : QLogic (callL ([] ++ [newDev nameA B]) 0 now qt) (callR ([] ++ [newDev nameA B]) [] 0 now qt) false last now qt := by
  have hcb : callsB (newDev nameA B) now qt = true := by simp [callsB, loudB, newDev]
  simp only [callL, callR, List.nil_append, List.getElem?_cons_zero, hcb, if_true]
  exact .inr ⟨_, rfl, rfl, by simp [newDev], rfl, fun h => by simp at h, .inl ⟨rfl, rfl, fun h => by simp at h⟩⟩
theorem callL_one (d : Dev) (now qt : Int) (R : List ByteArray) : callL [d] 0 now qt = [tickD now qt d] ∧ callR [d] R 0 now qt = if callsB d now qt then R ++ [d.name] else R := by
  simp only [callL, callR, List.getElem?_cons_zero, tickD]
  cases callsB d now qt <;> simp
theorem QLogic.hintKnown {d : Dev} {R : List ByteArray} {called : Bool} {last now qt : Int} (h : QLogic [d] R called last now qt) : QLogic (callL (incL [d] 0) 0 now qt) (callR (incL [d] 0) R 0 now qt) called last now qt := by
  rcases h with ⟨h1, _⟩ | ⟨d', h1, h2, h3, h4, h5, h6⟩
  · simp at h1
  · obtain rfl : d = d' := by simpa using h1
    have hinc : incL [d] 0 = [{ d with waits := d.waits + 1 }] := rfl
    rw [hinc, (callL_one _ now qt R).1, (callL_one _ now qt R).2]
    exact QLogic.call1 (d := { d with waits := d.waits + 1 }) h2 (by simp; omega) h4 h5 h6
/-- What is in the row behind a tick. -/
theorem QLogic.tick {L : List Dev} {R N : List ByteArray} {called : Bool} {last now qt : Int} (h : QLogic L R called last now qt) (hN : N.Perm (L.map Dev.name)) :
    QLogic (L.map (tickD now qt)) (R ++ N.filter (callsN L now qt)) called last now qt ∧
      ∀ d, L.map (tickD now qt) = [d] → 0 < d.waits → (called = false ∨ qt ≤ now - last) → (R ++ N.filter (callsN L now qt)).length = 1 := by
  rcases h with ⟨rfl, rfl, h3⟩ | ⟨d, rfl, h2, h3, h4, h5, h6⟩
  · obtain rfl : N = [] := by simpa using hN
    exact ⟨.inl ⟨rfl, rfl, h3⟩, fun d hd => by simp at hd⟩
  · have hN' : N = [d.name] := by simpa using hN
    subst hN'
    have hcn : callsN [d] now qt d.name = callsB d now qt := by simp [callsN]
    have hR : R ++ [d.name].filter (callsN [d] now qt) = if callsB d now qt then R ++ [d.name] else R := by
      rw [List.filter_cons, hcn, List.filter_nil]
      cases callsB d now qt <;> simp
    rw [hR]
    refine ⟨QLogic.call1 h2 h3 h4 h5 h6, fun d1 hd1 hw hl => ?_⟩
    obtain rfl : tickD now qt d = d1 := by simpa using hd1
    have hw' : 0 < d.waits := by
      unfold tickD at hw
      split at hw <;> exact hw
    rcases h6 with ⟨h7, rfl, h8⟩ | ⟨h7, rfl⟩
    · have hcf : callsB d now qt = false := by simp [callsB, h7]
      rw [hcf]; rfl
    · have hct : callsB d now qt = true := by
        have hld : loudB d now qt = true := by
          unfold loudB
          rw [h4]
          rcases hl with h9 | h9
          · rw [h9]; rfl
          · cases hcl : called with
            | false => rfl
            | true => rw [h5 hcl]; simpa using h9
        simp [callsB, h7, hld, hw']
      rw [hct]; rfl
theorem QLogic.row {L : List Dev} {R : List ByteArray} {called : Bool} {last now qt : Int} (h : QLogic L R called last now qt) : R.Nodup ∧ (∀ r ∈ R, r ∈ L.map Dev.name) ∧ R.length ≤ 1 := by
  rcases h with ⟨rfl, rfl, _⟩ | ⟨d, rfl, hn, _, _, _, ⟨_, rfl, _⟩ | ⟨_, rfl⟩⟩
  · exact ⟨by simp, by simp, by simp⟩
  · exact ⟨by simp, by simp [hn], by simp⟩
  · exact ⟨by simp, by simp, by simp⟩
theorem QLogic.fetch {L : List Dev} {R : List ByteArray} {called : Bool} {last now qt : Int} (h : QLogic L R called last now qt) (h0 : 0 ≤ now) :
    (R = [] → QLogic (fetchL L R now) [] called last now qt) ∧ (R ≠ [] → QLogic (fetchL L R now) [] true now now qt ∧ (called = true → qt ≤ now - last)) := by
  rcases h with ⟨rfl, rfl, h3⟩ | ⟨d, rfl, h2, h3, h4, h5, ⟨h6, rfl, h7⟩ | ⟨h6, rfl⟩⟩
  · exact ⟨fun _ => .inl ⟨rfl, rfl, h3⟩, fun h => absurd rfl h⟩
  · refine ⟨fun h => by simp at h, fun _ => ⟨.inr ⟨resetD now d, ?_, h2, ?_, rfl, fun _ => ?_, .inr ⟨rfl, rfl⟩⟩, h7⟩⟩
    · simp [fetchL, inR, h2]
    · simp [resetD]
    · simp only [resetD]; omega
  · exact ⟨fun _ => by rw [fetchL_nil]; exact .inr ⟨d, rfl, h2, h3, h4, h5, .inr ⟨h6, rfl⟩⟩, fun h => absurd rfl h⟩


set_option maxRecDepth 100000 in
set_option maxHeartbeats 8000000 in
theorem wakequiet_any (quiet : Int) (a : Option Addr) (rs : List WakeOp) (c : Nat) (w : World) (_w0 : (Lit.int .i64 quiet).wf = true) (hlc : rs.length ≤ c) (hcm : c ≤ maxLen) (ht : Recs WakeOp.cells 3 w a rs) (_hs : ∀ r ∈ rs, r.Good) :
    Calls Try.prog 5 #[.int .i64 quiet, .slice a rs.length c] w fun e w' => e = .returned (.bool true) ∧ Below w.heap.size w w' := by
  have hc9 : (c : Int) ≤ 9223372036854775807 := by unfold maxLen at hcm; omega
  obtain ⟨qn, hqn, heq⟩ := umod quiet 40 (by omega) (by omega)
  have Eq : Hid (wrap64 ((IntKind.u64.wrap quiet).tmod 40) = (qn : Int)) := heq
  clear _w0 hcm _hs heq
  go_enter Try.func5, Try.ntmps5
  go_wp2_with (fail)
  refine (wake_lives _).mono ?_
  rintro e w1 ⟨rfl, f0⟩
  go_upto_region 3 with (fail)
  go_cut [0] (fun s wx => s = .int .i64 qn ∧ w1 = wx)
  case first =>
    go_wp2_with (fail)
    go_meet
    case rel => exact ⟨congrArg _ Eq.out, rfl⟩
  case rest =>
    obtain ⟨rfl, rfl⟩ := hcut
    go_wp2_with (fail)
    refine (box_new qn qn _ (by omega)).mono ?_
    rintro e w2 ⟨p, S, rfl, h1, hS, f1⟩
    have inv : WInv S p qn 0 w [] [] w2 := ⟨h1, fun k hk => Nat.le_trans f0.size (hS k hk), f0.fromN.trans' f1.fromN⟩
    clear h1 hS f0 f1 Eq
    go_wp2_with (fail)
    refine (wakeop_early a rs.length c _ hlc hc9).mono ?_
    rintro e w4 ⟨rfl, rfl⟩
    obtain ⟨Q, hQ⟩ : ∃ Q, Q = rs.take 150 := ⟨_, rfl⟩
    have htQ : Recs WakeOp.cells 3 w a Q := by rw [hQ]; exact ht.take 150
    have hQl : min rs.length 150 = Q.length := by rw [hQ]; simp; omega
    have hQ2 : Q.length ≤ 150 := by rw [hQ]; simp; omega
    rw [hQl]
    clear hQ hQl ht hlc hc9
    go_wp2_with (fail)
    go_loopg [6, 7, 8, 9] Q.length (fun g n l cd i wr => ∃ (k : Nat) (nw la : Int) (cl : Bool) (L : List Dev) (R : List ByteArray) (S : Nat → Prop), k ≤ Q.length ∧ g = Q.length - k ∧ i = .int .i64 k ∧ n = .int .i64 nw ∧ 0 ≤ nw ∧ nw ≤ 10 * k ∧ l = .int .i64 la ∧ 0 ≤ la ∧ la ≤ nw ∧ cd = .bool cl ∧ WInv S p qn (66 * k) w L R wr ∧ Hid (QLogic L R cl la nw qn))
    case atStart => exact ⟨0, 0, 0, false, [], [], S, Nat.zero_le _, rfl, rfl, rfl, by omega, by omega, rfl, by omega, by omega, rfl, inv, .inl ⟨rfl, rfl, rfl⟩⟩
    case round =>
      clear inv S
      obtain ⟨k, nw, la, cl, L, R, S, hk, rfl, rfl, rfl, hn0, hn1, rfl, hl0, hl1, rfl, inv, HL⟩ := hrel
      by_cases hlt : k < Q.length
      · obtain ⟨b, o, rfl, hc⟩ := (htQ.kept inv.fr).at_ hlt
        have c0 := hc 0 _ rfl
        rw [Nat.add_zero] at c0
        have c1 := hc 1 _ rfl
        have c2 := hc 2 _ rfl
        have hblt : b < w.heap.size := by
          obtain ⟨b', o', hbo, hc'⟩ := htQ.at_ hlt
          obtain ⟨rfl, rfl⟩ : b = b' ∧ o = o' := by simpa using hbo
          exact World.block_lt_of_cell? w _ (hc' 0 _ rfl)
        obtain ⟨x, hx⟩ : ∃ x, x = Q[k] := ⟨_, rfl⟩
        rw [← hx] at c0 c1 c2
        clear hc hx
        obtain ⟨q, hq, he⟩ := umod x.by_ 10 (by omega) (by omega)
        have E : Hid (wrap64 ((IntKind.u64.wrap x.by_).tmod 10) = (q : Int)) := he
        clear he
        go_upto_region 10 with (fail)
        go_cut [6] (fun s wx => s = .int .i64 (nw + q) ∧ wr = wx)
        case first =>
          go_wp2_with (fail)
          go_meet
          case rel =>
            refine ⟨?_, rfl⟩
            rw [E.out, IntWalk.wrap64_in _ (by omega)]
        case rest =>
          obtain ⟨rfl, rfl⟩ := hcut
          have hnw0 : 0 ≤ nw + q := by omega
          have hnw1 : nw + q ≤ 10 * (k + 1) := by omega
          have hnw9 : nw + q ≤ 9223372036854775807 := by omega
          have hla1 : la ≤ nw + q := by omega
          obtain ⟨nw', hnw'⟩ : ∃ nw' : Int, nw' = nw + q := ⟨_, rfl⟩
          have HL1 : Hid (QLogic L R cl la nw' qn) := (show QLogic _ _ _ _ _ _ from HL.out.later (by omega))
          rw [← hnw'] at hnw0 hnw1 hnw9 hla1
          rw [← hnw']
          have hsub : IntKind.i64.wrap (nw' - la) = nw' - la := IntWalk.i64_in _ (by omega)
          clear hnw' hn0 hn1 E hq hl1 HL
          have hz4 := (kindN_lt x).1
          obtain ⟨z, hz⟩ : ∃ z, kindN x = z := ⟨_, rfl⟩
          rw [hz] at hz4
          have Hz := Lib.hid hz
          clear hz
          obtain rfl | rfl | rfl | rfl : z = 0 ∨ z = 1 ∨ z = 2 ∨ z = 3 := by omega
          · go_wp2_with (fail)
            refine (wakeop_kindN x _ Hz.out _).mono ?_
            rintro e w5 ⟨rfl, f5⟩
            have inv5 := inv.quiet f5
            have hal := HL1.out
            have d0 := cell_fr c0 f5 (fun h => h)
            have d1 := cell_fr c1 f5 (fun h => h)
            have d2 := cell_fr c2 f5 (fun h => h)
            clear inv f5 c0 c1 c2
            rcases hal with ⟨rfl, rfl, rfl⟩ | ⟨d, rfl, hdn, hrr⟩
            · have hh2 := box_hint_new nameA nw' (by decide) (by decide) hnw0 hnw9 inv5.box (by omega) (by simp) (by decide)
              go_wp2_with (fail)
              refine hh2.mono ?_
              rintro e w6 ⟨B, hB, rfl, g6⟩
              obtain ⟨S6, i6, _⟩ := inv5.gone g6
              have f6 := g6.choose_spec.2.2
              have e0 := cell_kept d0 hblt f6 inv5.new
              have e1 := cell_kept d1 hblt f6 inv5.new
              have e2 := cell_kept d2 hblt f6 inv5.new
              clear inv5 g6 hh2 f6 d0 d1 d2
              go_wp2_with (fail)
              refine (wakeop_kindN x _ Hz.out _).mono ?_
              rintro e w7 ⟨rfl, f7⟩
              have i7 := i6.quiet f7
              have g0 := cell_fr e0 f7 (fun h => h)
              have g1 := cell_fr e1 f7 (fun h => h)
              have g2 := cell_fr e2 f7 (fun h => h)
              clear i6 f7 e0 e1 e2
              go_wp2_with (fail)
              refine (wakeop_kindN x _ Hz.out _).mono ?_
              rintro e w8 ⟨rfl, f8⟩
              have i8 := i7.quiet f8
              clear i7 f8 g0 g1 g2
              go_wp2_with (fail)
              go_roundg (Q.length - (k + 1))
              case measure => omega
              case rel => exact ⟨k + 1, nw', la, false, _, _, S6, by omega, rfl, by go_num, rfl, hnw0, by omega, rfl, hl0, hla1, rfl, ⟨i8.box.more (by omega), i8.new, i8.fr⟩, QLogic.hintNew B la nw' qn⟩
            · have hh2 := box_hint_known 0 (by simp) nw' (by rw [show [d][0].name = d.name from rfl, hdn]; decide) hnw0 hnw9 inv5.box (by omega)
              rw [show [d][0].name = nameA from hdn] at hh2
              clear hrr hdn
              go_wp2_with (fail)
              refine hh2.mono ?_
              rintro e w6 ⟨rfl, g6⟩
              obtain ⟨S6, i6, _⟩ := inv5.gone g6
              have f6 := g6.choose_spec.2.2
              have e0 := cell_kept d0 hblt f6 inv5.new
              have e1 := cell_kept d1 hblt f6 inv5.new
              have e2 := cell_kept d2 hblt f6 inv5.new
              clear inv5 g6 hh2 f6 d0 d1 d2
              go_wp2_with (fail)
              refine (wakeop_kindN x _ Hz.out _).mono ?_
              rintro e w7 ⟨rfl, f7⟩
              have i7 := i6.quiet f7
              have g0 := cell_fr e0 f7 (fun h => h)
              have g1 := cell_fr e1 f7 (fun h => h)
              have g2 := cell_fr e2 f7 (fun h => h)
              clear i6 f7 e0 e1 e2
              go_wp2_with (fail)
              refine (wakeop_kindN x _ Hz.out _).mono ?_
              rintro e w8 ⟨rfl, f8⟩
              have i8 := i7.quiet f8
              clear i7 f8 g0 g1 g2
              go_wp2_with (fail)
              go_roundg (Q.length - (k + 1))
              case measure => omega
              case rel => exact ⟨k + 1, nw', la, cl, _, _, S6, by omega, rfl, by go_num, rfl, hnw0, by omega, rfl, hl0, hla1, rfl, ⟨i8.box.more (by omega), i8.new, i8.fr⟩, HL1.out.hintKnown⟩
          · go_wp2_with (fail)
            refine (wakeop_kindN x _ Hz.out _).mono ?_
            rintro e w5 ⟨rfl, f5⟩
            have inv5 := inv.quiet f5
            have d0 := cell_fr c0 f5 (fun h => h)
            have d1 := cell_fr c1 f5 (fun h => h)
            have d2 := cell_fr c2 f5 (fun h => h)
            clear inv f5 c0 c1 c2
            go_wp2_with (fail)
            refine (wakeop_kindN x _ Hz.out _).mono ?_
            rintro e w6 ⟨rfl, f6⟩
            have inv6 := inv5.quiet f6
            have e0 := cell_fr d0 f6 (fun h => h)
            have e1 := cell_fr d1 f6 (fun h => h)
            have e2 := cell_fr d2 f6 (fun h => h)
            clear inv5 f6 d0 d1 d2
            go_wp2_with (fail)
            refine (box_tick nw' hnw0 hnw9 inv6.box (by omega)).mono ?_
            rintro e w7 ⟨N, rfl, hN, hA, g7⟩
            obtain ⟨S7, i7, _⟩ := inv6.gone g7
            obtain ⟨hq1, hq2⟩ := HL1.out.tick hN
            have f7 := g7.choose_spec.2.2
            have g0 := cell_kept e0 hblt f7 inv6.new
            have g1 := cell_kept e1 hblt f7 inv6.new
            have g2 := cell_kept e2 hblt f7 inv6.new
            obtain ⟨L', hL'⟩ : ∃ L', L' = L.map (tickD nw' qn) := ⟨_, rfl⟩
            obtain ⟨R', hR'⟩ : ∃ R', R' = R ++ N.filter (callsN L nw' qn) := ⟨_, rfl⟩
            rw [← hL', ← hR'] at hq1 hq2 i7
            have Hq1 := Lib.hid hq1
            have Hq2 := Lib.hid hq2
            clear inv6 g7 f7 e0 e1 e2 hN hA hq1 hq2 hL' hR' HL1
            rcases Hq1.out with ⟨hL1, hR1, hcl⟩ | ⟨d, hL1, hdn, hd0, _, _, _⟩
            · have hw := box_waits_no nameA (by decide) i7.box (by rw [hL1]; simp)
              clear hL1 hR1 hcl
              go_wp2_with (fail)
              refine hw.mono ?_
              rintro e w71 ⟨rfl, rfl⟩
              clear hw
              go_wp2_with (fail)
              refine (wakeop_kindN x _ Hz.out _).mono ?_
              rintro e w8 ⟨rfl, f8⟩
              have i8 := i7.quiet f8
              clear i7 f8 g0 g1 g2
              go_wp2_with (fail)
              go_roundg (Q.length - (k + 1))
              case measure => omega
              case rel => exact ⟨k + 1, nw', la, cl, _, R', S7, by omega, rfl, by go_num, rfl, hnw0, by omega, rfl, hl0, hla1, rfl, ⟨i8.box.more (by omega), i8.new, i8.fr⟩, Hq1.out⟩
            · subst hL1
              have hw := box_waits 0 (by simp) i7.box
              rw [show [d][0].name = nameA from hdn, show [d][0].waits = d.waits from rfl] at hw
              clear hdn
              by_cases hdw : 0 < d.waits
              · cases cl with
                | false =>
                  have hlen := box_len i7.box
                  rw [Hq2.out d rfl hdw (.inl rfl)] at hlen
                  go_wp2_with (fail)
                  refine hw.mono ?_
                  rintro e w71 ⟨rfl, rfl⟩
                  go_wp2_with (fail)
                  refine hlen.mono ?_
                  rintro e w72 ⟨rfl, rfl⟩
                  clear hw hlen
                  go_wp2_with (fail)
                  refine (wakeop_kindN x _ Hz.out _).mono ?_
                  rintro e w8 ⟨rfl, f8⟩
                  have i8 := i7.quiet f8
                  clear i7 f8 g0 g1 g2
                  go_wp2_with (fail)
                  go_roundg (Q.length - (k + 1))
                  case measure => omega
                  case rel => exact ⟨k + 1, nw', la, false, _, R', S7, by omega, rfl, by go_num, rfl, hnw0, by omega, rfl, hl0, hla1, rfl, ⟨i8.box.more (by omega), i8.new, i8.fr⟩, Hq1.out⟩
                | true =>
                  by_cases hqq : (qn : Int) ≤ nw' - la
                  · have hlen := box_len i7.box
                    rw [Hq2.out d rfl hdw (.inr hqq)] at hlen
                    go_wp2_with (fail)
                    refine hw.mono ?_
                    rintro e w71 ⟨rfl, rfl⟩
                    go_wp2_with (fail)
                    refine hlen.mono ?_
                    rintro e w72 ⟨rfl, rfl⟩
                    clear hw hlen
                    go_wp2_with (fail)
                    refine (wakeop_kindN x _ Hz.out _).mono ?_
                    rintro e w8 ⟨rfl, f8⟩
                    have i8 := i7.quiet f8
                    clear i7 f8 g0 g1 g2
                    go_wp2_with (fail)
                    go_roundg (Q.length - (k + 1))
                    case measure => omega
                    case rel => exact ⟨k + 1, nw', la, true, _, R', S7, by omega, rfl, by go_num, rfl, hnw0, by omega, rfl, hl0, hla1, rfl, ⟨i8.box.more (by omega), i8.new, i8.fr⟩, Hq1.out⟩
                  · go_wp2_with (fail)
                    refine hw.mono ?_
                    rintro e w71 ⟨rfl, rfl⟩
                    clear hw
                    go_wp2_with (fail)
                    refine (wakeop_kindN x _ Hz.out _).mono ?_
                    rintro e w8 ⟨rfl, f8⟩
                    have i8 := i7.quiet f8
                    clear i7 f8 g0 g1 g2
                    go_wp2_with (fail)
                    go_roundg (Q.length - (k + 1))
                    case measure => omega
                    case rel => exact ⟨k + 1, nw', la, true, _, R', S7, by omega, rfl, by go_num, rfl, hnw0, by omega, rfl, hl0, hla1, rfl, ⟨i8.box.more (by omega), i8.new, i8.fr⟩, Hq1.out⟩
              · go_wp2_with (fail)
                refine hw.mono ?_
                rintro e w71 ⟨rfl, rfl⟩
                clear hw
                go_wp2_with (fail)
                refine (wakeop_kindN x _ Hz.out _).mono ?_
                rintro e w8 ⟨rfl, f8⟩
                have i8 := i7.quiet f8
                clear i7 f8 g0 g1 g2
                go_wp2_with (fail)
                go_roundg (Q.length - (k + 1))
                case measure => omega
                case rel => exact ⟨k + 1, nw', la, cl, _, R', S7, by omega, rfl, by go_num, rfl, hnw0, by omega, rfl, hl0, hla1, rfl, ⟨i8.box.more (by omega), i8.new, i8.fr⟩, Hq1.out⟩
          · go_wp2_with (fail)
            refine (wakeop_kindN x _ Hz.out _).mono ?_
            rintro e w5 ⟨rfl, f5⟩
            have inv5 := inv.quiet f5
            have d0 := cell_fr c0 f5 (fun h => h)
            have d1 := cell_fr c1 f5 (fun h => h)
            have d2 := cell_fr c2 f5 (fun h => h)
            clear inv f5 c0 c1 c2
            go_wp2_with (fail)
            refine (wakeop_kindN x _ Hz.out _).mono ?_
            rintro e w6 ⟨rfl, f6⟩
            have inv6 := inv5.quiet f6
            have e0 := cell_fr d0 f6 (fun h => h)
            have e1 := cell_fr d1 f6 (fun h => h)
            have e2 := cell_fr d2 f6 (fun h => h)
            clear inv5 f6 d0 d1 d2
            go_wp2_with (fail)
            refine (wakeop_kindN x _ Hz.out _).mono ?_
            rintro e w7 ⟨rfl, f7⟩
            have inv7 := inv6.quiet f7
            clear inv6 f7 e0 e1 e2
            obtain ⟨hrn, hrs, hr1⟩ := HL1.out.row
            obtain ⟨hf1, hf2⟩ := HL1.out.fetch hnw0
            go_wp2_with (fail)
            refine (box_fetch nw' hnw9 inv7.box (by omega) hrn hrs).mono ?_
            rintro e w8 ⟨a8, c8, rfl, t8, b8, S8, x8, hs8, f8⟩
            have i8 := inv7.fetched x8 hs8 f8
            by_cases hR : R = []
            · have Hf1 := Lib.hid (hf1 hR)
              subst hR
              clear inv7 x8 f8 hs8 hf1 hf2 hrn hrs b8 t8 HL1
              go_wp2_with (fail)
              go_roundg (Q.length - (k + 1))
              case measure => omega
              case rel => exact ⟨k + 1, nw', la, cl, _, [], S8, by omega, rfl, by go_num, rfl, hnw0, by omega, rfl, hl0, hla1, rfl, ⟨i8.box.more (by omega), i8.new, i8.fr⟩, Hf1.out⟩
            · obtain ⟨hf3, hf4⟩ := hf2 hR
              have hRl : 0 < R.length := List.length_pos_iff.2 hR
              have Hf3 := Lib.hid hf3
              clear inv7 x8 f8 hs8 hf1 hf2 hf3 hrn hrs b8 t8 HL1 hR
              cases cl with
              | false =>
                clear hf4
                go_wp2_with (fail)
                go_roundg (Q.length - (k + 1))
                case measure => omega
                case rel => exact ⟨k + 1, nw', nw', true, _, [], S8, by omega, rfl, by go_num, rfl, hnw0, by omega, rfl, hnw0, Int.le_refl _, rfl, ⟨i8.box.more (by omega), i8.new, i8.fr⟩, Hf3.out⟩
              | true =>
                have hq5 := hf4 rfl
                clear hf4
                go_wp2_with (fail)
                go_roundg (Q.length - (k + 1))
                case measure => omega
                case rel => exact ⟨k + 1, nw', nw', true, _, [], S8, by omega, rfl, by go_num, rfl, hnw0, by omega, rfl, hnw0, Int.le_refl _, rfl, ⟨i8.box.more (by omega), i8.new, i8.fr⟩, Hf3.out⟩
          · go_wp2_with (fail)
            refine (wakeop_kindN x _ Hz.out _).mono ?_
            rintro e w5 ⟨rfl, f5⟩
            have inv5 := inv.quiet f5
            have d0 := cell_fr c0 f5 (fun h => h)
            have d1 := cell_fr c1 f5 (fun h => h)
            have d2 := cell_fr c2 f5 (fun h => h)
            clear inv f5 c0 c1 c2
            go_wp2_with (fail)
            refine (wakeop_kindN x _ Hz.out _).mono ?_
            rintro e w6 ⟨rfl, f6⟩
            have inv6 := inv5.quiet f6
            have e0 := cell_fr d0 f6 (fun h => h)
            have e1 := cell_fr d1 f6 (fun h => h)
            have e2 := cell_fr d2 f6 (fun h => h)
            clear inv5 f6 d0 d1 d2
            go_wp2_with (fail)
            refine (wakeop_kindN x _ Hz.out _).mono ?_
            rintro e w7 ⟨rfl, f7⟩
            have inv7 := inv6.quiet f7
            clear inv6 f7 e0 e1 e2
            go_wp2_with (fail)
            go_roundg (Q.length - (k + 1))
            case measure => omega
            case rel => exact ⟨k + 1, nw', la, cl, L, R, S, by omega, rfl, by go_num, rfl, hnw0, by omega, rfl, hl0, hla1, rfl, ⟨inv7.box.more (by omega), inv7.new, inv7.fr⟩, HL1.out⟩
      · go_wp2_with (fail)
        go_ret
        exact ⟨rfl, inv.fr.belowB⟩

end Go.Proofs.Ytipkkhigcnhjdaa
