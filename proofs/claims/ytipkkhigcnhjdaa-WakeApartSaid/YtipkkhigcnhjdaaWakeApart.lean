/- WakeApart answers true for every input and changes no memory that was there. No condition. -/
import Derived.Test.YtipkkhigcnhjdaaWakeAp
namespace Go.Proofs.Ytipkkhigcnhjdaa
open Go.RowKit

/-- What was gathered so far. -/
structure OInv (w0 : World) (v : Value) (X : List Told1) (w : World) : Prop where
  own : Owns w 31 2 v X.length (X.flatMap Told1.cells)
  new : ∀ k, InBlock v k → w0.heap.size ≤ k
  fr : Fr (FromB w0.heap.size) w0 w
theorem OInv.start (w : World) : OInv w (.slice none 0 0) [] w := ⟨Owns.nil _ _ _, fun k hk => by simp [InBlock, Value.ownBlock] at hk, Fr.refl _ _⟩
theorem AP.short {Lb Lo : List Dev} {Rb Ro : List ByteArray} (h : AP Lb Rb Lo Ro) : Rb.length ≤ 2 :=
  nodup_two h.rb.rn (x := nameA) (y := nameB) fun z hz => by obtain ⟨d, hd, rfl⟩ := List.mem_map.1 (h.rb.rs z hz); exact h.nb d hd
theorem wakeL_le (L : List Dev) (k : ByteArray) : (wakeL L k).length ≤ L.length := by unfold wakeL; exact List.length_filter_le _ _
theorem fresh_after {L L' : List Dev} {R' : List ByteArray} {now qt : Int} (r : RL L' R') (e : devOf L' nameA = some (tickD now qt (hintC (devOf (wakeL L nameA) nameA) nameA))) : waitsOf L' nameA = 1 ∧ 1 ≤ R'.length := by
  have hn : devOf (wakeL L nameA) nameA = none := devOf_none fun hm => by
    obtain ⟨d, hd, h1⟩ := List.mem_map.1 hm
    unfold wakeL at hd
    have := (List.mem_filter.1 hd).2
    simp [h1] at this
  rw [hn] at e
  have e1 : tickD now qt (hintC none nameA) = { newDev nameA 0 with rowed := true } := rfl
  rw [e1] at e
  refine ⟨by rw [waitsOf_devOf, e]; rfl, ?_⟩
  have h2 : inR R' nameA = true := by rw [inR_devOf r, e]; rfl
  have := List.length_pos_of_mem (inR_iff.1 h2)
  omega

set_option maxRecDepth 100000 in
set_option maxHeartbeats 8000000 in
theorem wakeapart_any (quiet : Int) (a : Option Addr) (rs : List WakeOp) (c : Nat) (w : World) (_w0 : (Lit.int .i64 quiet).wf = true) (hlc : rs.length ≤ c) (hcm : c ≤ maxLen) (ht : Recs WakeOp.cells 3 w a rs) (_hs : ∀ r ∈ rs, r.Good) :
    Calls Try.prog 8 #[.int .i64 quiet, .slice a rs.length c] w fun e w' => e = .returned (.bool true) ∧ Below w.heap.size w w' := by
  obtain ⟨i0, hi, hz0, hz1, hz2⟩ := info_parts Try.infoCall
  have Hz2 := Lib.hid hz2
  have Hz1 := Lib.hid hz1
  have Hz0 := Lib.hid hz0
  have Hi := Lib.hid hi
  obtain ⟨qt, hqt⟩ : ∃ qt : Int, qt = min (max quiet 0) 1000 := ⟨_, rfl⟩
  have Hqt := Lib.hid hqt
  have hc9 : (c : Int) ≤ 9223372036854775807 := by unfold maxLen at hcm; omega
  clear hz2 hz1 hz0 hi hqt _w0 hcm _hs
  go_enter Try.func8, Try.ntmps8
  go_wp2_with (fail)
  refine (wake_lives _).mono ?_
  rintro e w1 ⟨rfl, f0⟩
  go_wp2_with (fail)
  refine (box_new quiet qt _ Hqt.out).mono ?_
  rintro e w2 ⟨p, S, rfl, h1, hS, f1⟩
  go_wp2_with (fail)
  refine (box_new quiet qt _ Hqt.out).mono ?_
  rintro e w3 ⟨q, T, rfl, h2, hT, f2⟩
  have inv : WTwo S T p q qt 0 w [] [] [] [] w3 :=
    ⟨h1.fr f2 (fun _ _ h => h), h2, fun k hk => Nat.le_trans f0.size (hS k hk), fun k hk => Nat.le_trans f0.size (Nat.le_trans f1.size (hT k hk)), fun k h3 h4 => by have := h1.lt h3; have := hT k h4; omega, (f0.fromN.trans' f1.fromN).trans' f2.fromN⟩
  clear h1 h2 hS hT f0 f1 f2
  go_wp2_with (fail)
  refine (wakeop_early a rs.length c _ hlc hc9).mono ?_
  rintro e w4 ⟨rfl, rfl⟩
  obtain ⟨Q, hQ⟩ : ∃ Q, Q = rs.take 150 := ⟨_, rfl⟩
  have htQ : Recs WakeOp.cells 3 w a Q := by rw [hQ]; exact ht.take 150
  have hQl : min rs.length 150 = Q.length := by rw [hQ]; simp; omega
  have hQ2 : Q.length ≤ 150 := by rw [hQ]; simp; omega
  rw [hQl]
  clear hQ hQl ht hlc hc9
  go_wp2_with (fail)
  go_loopg [7, 8] Q.length (fun g n i wr => ∃ (k : Nat) (nw : Int) (Lb Lo : List Dev) (Rb Ro : List ByteArray) (S T : Nat → Prop), k ≤ Q.length ∧ g = Q.length - k ∧ i = .int .i64 k ∧ n = .int .i64 nw ∧ 0 ≤ nw ∧ nw ≤ 10 * k ∧ WTwo S T p q qt (140 * k) w Lb Rb Lo Ro wr ∧ Hid (AP Lb Rb Lo Ro))
  case atStart => exact ⟨0, 0, [], [], [], [], S, T, Nat.zero_le _, rfl, rfl, rfl, by omega, by omega, inv, ⟨RL.start, RL.start, rfl, by simp, by simp⟩⟩
  case round =>
    clear inv S T
    obtain ⟨k, nw, Lb, Lo, Rb, Ro, S, T, hk, rfl, rfl, rfl, hn0, hn1, inv, HL⟩ := hrel
    by_cases hlt : k < Q.length
    · obtain ⟨b, o, rfl, hc⟩ := (htQ.kept inv.fr).at_ hlt
      have c0 := hc 0 _ rfl
      rw [Nat.add_zero] at c0
      have c1 := hc 1 _ rfl
      have c2 := hc 2 _ rfl
      obtain ⟨x, hx⟩ : ∃ x, x = Q[k] := ⟨_, rfl⟩
      rw [← hx] at c0 c1 c2
      clear hc hx
      obtain ⟨m, hm, he⟩ := umod x.by_ 10 (by omega) (by omega)
      have E : Hid (wrap64 ((IntKind.u64.wrap x.by_).tmod 10) = (m : Int)) := he
      clear he
      have r0 := Row.allocNew wr x.cells 37
      have fa : Fr Nothing wr (wr.alloc (.cells x.cells.toArray 37)) := Fr.alloc _ _ _
      go_upto_region 10 with (fail)
      go_cut [7] (fun s wx => s = .int .i64 (nw + m) ∧ wr.alloc (.cells x.cells.toArray 37) = wx)
      case first =>
        go_wp2_with (fail)
        go_meet
        case rel =>
          refine ⟨?_, rfl⟩
          rw [E.out, IntWalk.wrap64_in _ (by omega)]
      case rest =>
        obtain ⟨rfl, hw⟩ := hcut
        rw [hw] at r0 fa
        clear hw c0 c1 c2
        have inv1 := inv.quiet fa
        have d0 := r0.cell 0 rfl
        have d1 := r0.cell 1 rfl
        have d2 := r0.cell 2 rfl
        have hnw0 : 0 ≤ nw + m := by omega
        have hnw1 : nw + m ≤ 10 * (k + 1) := by omega
        have hnw9 : nw + m ≤ 9223372036854775807 := by omega
        obtain ⟨nw', hnw'⟩ : ∃ nw' : Int, nw' = nw + m := ⟨_, rfl⟩
        rw [← hnw'] at hnw0 hnw1 hnw9
        rw [← hnw']
        clear inv r0 fa hnw' hn0 hn1 E hm
        go_upto_block 2 with (go_at_call 15; refine (wakeop_kind x _).mono ?_; rintro e w5 ⟨z, hz, rfl, f5⟩)
        have inv5 := inv1.quiet f5
        clear d0 d1 d2 inv1 f5
        go_cut [] (fun wx => ∃ (Lb' Lo' : List Dev) (Rb' Ro' : List ByteArray) (S' T' : Nat → Prop), WTwo S' T' p q qt (140 * (k + 1)) w Lb' Rb' Lo' Ro' wx ∧ Hid (AP Lb' Rb' Lo' Ro'))
        case first =>
          have lb := HL.out.lenB
          have lo := HL.out.lenO
          obtain rfl | rfl | rfl | rfl : z = 0 ∨ z = 1 ∨ z = 2 ∨ z = 3 := by omega
          · go_wp2_with (fail)
            refine (box_hint_ok nameA nw' (by decide) (by decide) hnw0 hnw9 inv5.both (by omega) HL.out.rb lb).mono ?_
            rintro e w6 ⟨rfl, Lb', Rb', g6, r6, e6, _, n6⟩
            obtain ⟨S6, i6, _⟩ := inv5.bothGone g6 (by omega)
            have H6 := Lib.hid (And.intro r6 (And.intro e6 n6))
            clear inv5 g6 r6 e6 n6
            go_wp2_with (fail)
            refine (box_hint_ok nameA nw' (by decide) (by decide) hnw0 hnw9 i6.one (by omega) HL.out.ro lo).mono ?_
            rintro e w7 ⟨rfl, Lo', Ro', g7, r7, e7, _, n7⟩
            obtain ⟨T7, i7, _⟩ := i6.oneGone g7 (by omega)
            have H7 := Lib.hid (HL.out.hintA H6.out.1 r7 H6.out.2.1 e7 H6.out.2.2 n7)
            clear i6 g7 r7 e7 n7
            go_wp2_with (fail)
            go_meet
            case rel => exact ⟨_, _, _, _, S6, T7, i7.more (by omega), H7.out⟩
          · go_wp2_with (fail)
            refine (box_tick nw' hnw0 hnw9 inv5.both (by omega)).mono ?_
            rintro e w6 ⟨Nb, rfl, hNb, _, g6⟩
            obtain ⟨S6, i6, _⟩ := inv5.bothGone g6 (by omega)
            have H6 := Lib.hid hNb
            clear inv5 g6 hNb
            go_wp2_with (fail)
            refine (box_tick nw' hnw0 hnw9 (i6.one) (by omega)).mono ?_
            rintro e w7 ⟨No, rfl, hNo, _, g7⟩
            obtain ⟨T7, i7, _⟩ := i6.oneGone g7 (by omega)
            have H7 := Lib.hid (HL.out.tick (now := nw') (qt := qt) H6.out hNo)
            clear i6 g7 hNo
            go_wp2_with (fail)
            go_meet
            case rel => exact ⟨_, _, _, _, S6, T7, i7.more (by omega), H7.out⟩
          · go_wp2_with (fail)
            refine (box_fetch nw' hnw9 inv5.both (by omega) HL.out.rb.rn HL.out.rb.rs).mono ?_
            rintro e w6 ⟨a6, c6, rfl, t6, b6, S6, x6, hs6, f6⟩
            obtain ⟨S7, i6, _⟩ := inv5.bothGone ⟨S6, x6, fun k hk => .inl (hs6 k hk), f6⟩ (Nat.le_refl _)
            have n6 : ∀ ad, a6 = some ad → ¬ T ad.block := fun ad h hT => by
              have h1 := b6 ad.block (by rw [h]; rfl)
              have h2 := inv5.one.lt hT
              omega
            clear inv5 x6 hs6 f6 b6
            go_wp2_with (fail)
            refine (box_fetch nw' hnw9 i6.one (by omega) HL.out.ro.rn HL.out.ro.rs).mono ?_
            rintro e w7 ⟨a7, c7, rfl, t7, b7, T6, x7, hs7, f7⟩
            obtain ⟨T7, i7, _⟩ := i6.oneGone ⟨T6, x7, fun k hk => .inl (hs7 k hk), f7⟩ (Nat.le_refl _)
            have t6' : Recs Told1.cells 2 w7 a6 (toldOf Lb Rb) := ⟨t6.1, t6.2.1, t6.2.2.fr f7 n6⟩
            have HA := Lib.hid HL.out.told
            have HF := Lib.hid (HL.out.fetch (now := nw'))
            have i7' := i7.more (M' := 140 * (k + 1)) (by omega)
            have hlen : (toldOf Lb Rb).length = Rb.length := by simp [toldOf]
            have hRb2 := HL.out.short
            have hlen7 : (toldOf Lo Ro).length = Ro.length := by simp [toldOf]
            clear i6 x7 hs7 f7 b7 t6 n6 i7 lb lo
            go_wp2_with (fail)
            go_loopg [12, 13] Rb.length (fun g v i wr => ∃ (j : Nat), j ≤ Rb.length ∧ g = Rb.length - j ∧ i = .int .i64 j ∧ OInv w7 v (((toldOf Lb Rb).take j).filter (fun c => decide (c.name = nameA))) wr)
            case atStart => exact ⟨0, Nat.zero_le _, rfl, rfl, OInv.start _⟩
            case round =>
              obtain ⟨j, hj, rfl, rfl, oi⟩ := hrel
              by_cases hlj : j < Rb.length
              · have hlt6 : j < (toldOf Lb Rb).length := by omega
                obtain ⟨b8, o8, rfl, hcT⟩ := (t6'.kept oi.fr).at_ hlt6
                have g0 := hcT 0 _ rfl
                have g1 := hcT 1 _ rfl
                obtain ⟨x, hx⟩ : ∃ x, x = (toldOf Lb Rb)[j] := ⟨_, rfl⟩
                rw [← hx] at g0 g1
                rw [Nat.add_zero] at g0
                have hstep := List.take_succ_eq_append_getElem hlt6
                rw [← hx] at hstep
                clear hx hcT
                by_cases hnm : x.name = nameA
                · rw [hnm] at g0
                  obtain ⟨X, hX⟩ : ∃ X, X = ((toldOf Lb Rb).take j).filter (fun c => decide (c.name = nameA)) := ⟨_, rfl⟩
                  have hXl : X.length ≤ 2 := by
                    have h1 := List.length_filter_le (fun c : Told1 => decide (c.name = nameA)) ((toldOf Lb Rb).take j)
                    rw [← hX, List.length_take] at h1
                    have h2 := HA.out
                    have h3 := HL.out.short
                    omega
                  have hX1 : ((toldOf Lb Rb).take (j + 1)).filter (fun c => decide (c.name = nameA)) = X ++ [x] := by
                    rw [hstep, List.filter_append, List.filter_cons_of_pos (by simp [hnm]), List.filter_nil, ← hX]
                  rw [← hX] at oi
                  have fa := Fr.alloc Nothing wr (.cells #[Value.string nameA, Value.int .i64 x.count] 31)
                  have hrow : Row (wr.alloc (.cells #[Value.string nameA, Value.int .i64 x.count] 31)) wr.heap.size [Value.string nameA, Value.int .i64 x.count] 31 := Row.allocNew wr _ _
                  have hsl1 : Sl (wr.alloc (.cells #[Value.string nameA, Value.int .i64 x.count] 31)) (some ⟨wr.heap.size, 0, none⟩) [Value.string nameA, Value.int .i64 x.count] := Sl.ofRow hrow
                  have own1 := oi.own.fr fa (fun _ _ h => h)
                  have hws := oi.fr.size
                  have Hnm := Lib.hid hnm
                  have Hoi := Lib.hid oi
                  clear hrow hstep hX hnm oi
                  go_wp2_with (at_builtin; go_must (refine wpList_append_fp rfl (.tmp 78) (.tmp 83) 28 rfl 31 i0 (.agg #[.string ByteArray.empty, .int .i64 0]) 2 24 Try.underlying28 Hi.out Hz0.out Hz1.out Hz2.out rfl (by decide) _ _ _ rfl own1 _ 1 1 [Value.string nameA, Value.int .i64 x.count] rfl rfl (by simp) hsl1 (by simp [Value.oneCell']) (by unfold maxLen; omega) (by omega) ?_))
                  intro v8 w8 o8' f8 n8 s8 _
                  have oi' : OInv w7 v8 (X ++ [x]) w8 := by
                    have hv8 : ∀ q, InBlock v8 q → w7.heap.size ≤ q := fun q hq => by
                      rcases n8 q hq with h1 | h1
                      · exact Hoi.out.new q h1
                      · simp at h1; omega
                    refine ⟨?_, hv8, Hoi.out.fr.trans' ((fa.mono fun _ _ h => h.elim).trans' (f8.mono fun q _ hq => Hoi.out.new q hq))⟩
                    rw [List.length_append, List.flatMap_append, List.flatMap_singleton, show x.cells = [Value.string nameA, Value.int .i64 x.count] by unfold Told1.cells; rw [Hnm.out]]
                    exact o8'
                  rw [← hX1] at oi'
                  clear own1 hsl1 fa f8 n8 o8' g0 g1
                  go_wp2_with (fail)
                  go_roundg (Rb.length - (j + 1))
                  case measure => omega
                  case rel => exact ⟨j + 1, by omega, rfl, by go_num, oi'⟩
                · have hd : (x.name.toList == (⟨#[97]⟩ : ByteArray).toList) = false := by rw [same_text, decide_eq_false hnm]
                  have hd2 : (x.name.toList == [97]) = false := by rw [← hd, ByteArray.toList_eq ⟨#[97]⟩]
                  clear hd
                  have hX1 : ((toldOf Lb Rb).take (j + 1)).filter (fun c => decide (c.name = nameA)) = ((toldOf Lb Rb).take j).filter (fun c => decide (c.name = nameA)) := by
                    rw [hstep, List.filter_append, List.filter_cons_of_neg (by simp [hnm]), List.filter_nil, List.append_nil]
                  have oi' := oi
                  rw [← hX1] at oi'
                  clear hX1
                  clear oi hstep
                  go_wp2_with (fail)
                  go_roundg (Rb.length - (j + 1))
                  case measure => omega
                  case rel => exact ⟨j + 1, by omega, rfl, by go_num, oi'⟩
              · obtain rfl : j = Rb.length := by omega
                obtain ⟨hA1, hA2, _⟩ := HA.out
                rw [List.take_of_length_le (by omega), hA1] at oi
                have sh := oi.own.shape
                rw [hlen7] at sh
                obtain ⟨av, cv, rfl, hq1, hq2⟩ := sh
                have slv : Recs Told1.cells 2 wr av (toldOf Lo Ro) := ⟨t7.1, t7.2.1, oi.own.sl.2⟩
                have sl7 := t7.kept oi.fr
                have i8 : WTwo S7 T7 p q qt (140 * (k + 1)) w (fetchL Lb Rb nw') [] (fetchL Lo Ro nw') [] wr :=
                  ⟨i7'.both.fr oi.fr (fun k hk h => by have h1 := i7'.both.lt hk; have h2 : w7.heap.size ≤ k := h; omega), i7'.one.fr oi.fr (fun k hk h => by have h1 := i7'.one.lt hk; have h2 : w7.heap.size ≤ k := h; omega), i7'.newS, i7'.newT, i7'.apart, i7'.fr.trans' (oi.fr.mono fun _ _ h => Nat.le_trans i7'.fr.size h)⟩
                clear oi t6' t7 i7' hq1 hq2
                by_cases hz : Ro.length = 0
                · rw [hz]
                  clear slv sl7
                  go_wp2_with (fail)
                  go_quiet (fail)
                  go_wp2_with (fail)
                  go_meet
                  case rel => exact ⟨_, _, _, _, S7, T7, i8.quiet (Fr.drewN Nothing _ _), HF.out⟩
                · have hz1 : Ro.length = 1 := by omega
                  obtain ⟨b9, o9, rfl, hcT⟩ := slv.at_ (i := 0) (by omega)
                  obtain ⟨b10, o10, rfl, hcU⟩ := sl7.at_ (i := 0) (by omega)
                  have g0 := hcT 0 _ rfl
                  have g1 := hcT 1 _ rfl
                  have k0 := hcU 0 _ rfl
                  have k1 := hcU 1 _ rfl
                  obtain ⟨x, hx⟩ : ∃ x, x = (toldOf Lo Ro)[0]'(by omega) := ⟨_, rfl⟩
                  rw [← hx] at g0 g1 k0 k1
                  simp only [Nat.zero_mul, Nat.add_zero] at g0 g1 k0 k1
                  rw [hz1]
                  clear slv sl7 hcT hcU hx
                  go_wp2_with (fail)
                  go_quiet (fail)
                  go_wp2_with (fail)
                  go_meet
                  case rel => exact ⟨_, _, _, _, S7, T7, i8.quiet (Fr.drewN Nothing _ _), HF.out⟩
          · go_wp2_with (fail)
            refine (box_hint_ok nameB nw' (by decide) (by decide) hnw0 hnw9 inv5.both (by omega) HL.out.rb lb).mono ?_
            rintro e w6 ⟨rfl, Lb', Rb', g6, r6, _, e6, n6⟩
            obtain ⟨S6, i6, _⟩ := inv5.bothGone g6 (by omega)
            have H6 := Lib.hid (HL.out.hintB r6 e6 n6)
            clear inv5 g6 r6 e6 n6
            go_wp2_with (fail)
            go_meet
            case rel => exact ⟨_, _, _, _, S6, T, i6.more (by omega), H6.out⟩
        case rest =>
          clear inv5 HL hz
          obtain ⟨Lb', Lo', Rb', Ro', S', T', inv', HL'⟩ := hcut
          have hwt := box_waitsOf nameA (by decide) inv'.both HL'.out.rb
          rw [HL'.out.waits] at hwt
          have hwo := box_waitsOf nameA (by decide) inv'.one HL'.out.ro
          go_wp2_with (fail)
          refine hwt.mono ?_
          rintro e w8 ⟨rfl, rfl⟩
          go_wp2_with (fail)
          refine hwo.mono ?_
          rintro e w9 ⟨rfl, rfl⟩
          clear hwt hwo
          go_wp2_with (fail)
          go_roundg (Q.length - (k + 1))
          case measure => omega
          case rel => exact ⟨k + 1, nw', Lb', Lo', Rb', Ro', S', T', by omega, rfl, by go_num, rfl, hnw0, by omega, inv', HL'⟩
    · obtain rfl : k = Q.length := by omega
      have lb := HL.out.lenB
      have lr := HL.out.short
      go_wp2_with (fail)
      refine (box_awake nameA (by decide) inv.both (by omega)).mono ?_
      rintro e w5 ⟨rfl, g5⟩
      obtain ⟨S5, i5, _⟩ := inv.bothGone g5 (Nat.le_refl _)
      have lw := wakeL_le Lb nameA
      clear inv g5
      go_wp2_with (fail)
      refine (box_hint_ok nameA nw (by decide) (by decide) hn0 (by omega) i5.both (by omega) (HL.out.rb.awake nameA) (by omega)).mono ?_
      rintro e w6 ⟨rfl, Lb', Rb', g6, r6, e6, _, _⟩
      obtain ⟨S6, i6, _⟩ := i5.bothGone g6 (by omega)
      obtain ⟨hw1, hl1⟩ := fresh_after r6 e6
      clear i5 g6 e6
      have hwt := box_waitsOf nameA (by decide) i6.both r6
      rw [hw1] at hwt
      have hln := box_len i6.both
      clear hw1 r6
      go_wp2_with (fail)
      refine hwt.mono ?_
      rintro e w8 ⟨rfl, rfl⟩
      go_wp2_with (fail)
      refine hln.mono ?_
      rintro e w9 ⟨rfl, rfl⟩
      clear hwt hln
      have hl2 : decide (1 ≤ (Rb'.length : Int)) = true := by simp; omega
      go_wp2_with (fail)
      go_ret
      exact ⟨rfl, i6.fr.belowB⟩

end Go.Proofs.Ytipkkhigcnhjdaa
