/- FrontIdle answers true of every input, and changes no argument. No condition. -/
import Derived.Test.YtklpjnjhaodpkaaFrontF
import Derived.Test.YtklpjnjhaodpkaaOpen
namespace Go.Proofs.Ytklpjnjhaodpkaa
open Go.RowKit

structure LineR where
  from_ : ByteArray
  text : ByteArray
  waits : Bool
  idle : Bool
  lost : Int
  break_ : Bool
  agree : Bool
def LineR.cells (x : LineR) : List Value := [.string x.from_, .string x.text, .bool x.waits, .bool x.idle, .int .i64 x.lost, .bool x.break_, .bool x.agree]
def LineR.Good (x : LineR) : Prop := x.from_.size ≤ maxLen ∧ x.text.size ≤ maxLen ∧ (Lit.int .i64 x.lost).wf = true
theorem LineR.len (x : LineR) : x.cells.length = 7 := rfl
set_option maxRecDepth 100000 in
theorem line_dec {H : Type} {enc : TypeId × Value → H} {w : World} (n : Nat) (cs : List Value) (y : DataW H × List MemPlace)
    (h : DataW.trod enc Try.prog w 0 (fun _ => true) true n 27 cs = some y) : ∃ r : LineR, cs = r.cells ∧ r.Good := by
  obtain ⟨xs, m, _, _, hl, hlen, hf⟩ := DataW.trod_struct Try.underlying27 h
  have hl' : cs.length = 7 := hl.trans (by kernel_rfl)
  have hx : xs.length = 7 := hlen
  match cs, hl', xs, hx with
  | [c0, c1, c2, c3, c4, c5, c6], _, [y0, y1, y2, y3, y4, y5, y6], _ =>
    obtain ⟨s, e0, _, ws⟩ := DataW.trod_string Try.underlying9 (hf 0 _ rfl)
    obtain ⟨t, e1, _, wt⟩ := DataW.trod_string Try.underlying9 (hf 1 _ rfl)
    obtain ⟨b2, e2, _⟩ := DataW.trod_bool Try.underlying4 (hf 2 _ rfl)
    obtain ⟨b3, e3, _⟩ := DataW.trod_bool Try.underlying4 (hf 3 _ rfl)
    obtain ⟨a, e4, _, wa⟩ := DataW.trod_int Try.underlying3 (hf 4 _ rfl)
    obtain ⟨b5, e5, _⟩ := DataW.trod_bool Try.underlying4 (hf 5 _ rfl)
    obtain ⟨b6, e6, _⟩ := DataW.trod_bool Try.underlying4 (hf 6 _ rfl)
    have k0 : Try.prog.cellsOf 3 = 1 := by kernel_rfl
    have k3 : Try.prog.cellsOf 9 = 1 := by kernel_rfl
    have k4 : Try.prog.cellsOf 4 = 1 := by kernel_rfl
    simp [k0, k3, k4] at e0 e1 e2 e3 e4 e5 e6
    subst e0 e1 e2 e3 e4 e5 e6
    exact ⟨⟨s, t, b2, b3, a, b5, b6⟩, rfl, ws, wt, wa⟩

/-- A front without a ledger. -/
def idleS (C : List (ByteArray × ByteArray)) (b : Bool) : FS := ⟨none, C, b, false, false⟩
theorem idle_on (C : List (ByteArray × ByteArray)) (b : Bool) : (idleS C b).setIdle true = ([], 0, idleS C true) := rfl
theorem idle_flush (C : List (ByteArray × ByteArray)) (b : Bool) (more : List ByteArray) : (idleS C b).flush more = (C.map Prod.snd ++ more, 0, idleS [] b) := by
  have h : ∀ l : List ByteArray, FS.room { idleS C b with calm := [] } l.length = l.length := fun l => rfl
  simp only [FS.flush, FS.told, FS.err, FS.given]
  have e : (idleS C b).calm = C := rfl
  rw [e, h]
  simp [idleS]
  exact List.take_of_length_le (by simp)
theorem idle_off (C : List (ByteArray × ByteArray)) (b : Bool) : (idleS C b).setIdle false = (C.map Prod.snd, 0, idleS [] false) := by
  have h : (idleS C b).setIdle false = (idleS C false).flush [] := rfl
  rw [h, idle_flush, List.append_nil]
theorem put_busy (k t : ByteArray) (w : Bool) : (idleS [] false).put k t w = ([t], 0, idleS [] false) := by
  have h : (idleS [] false).put k t w = (idleS [] false).flush [t] := by cases w <;> rfl
  rw [h, idle_flush]; rfl
theorem put_now (C : List (ByteArray × ByteArray)) (k t : ByteArray) : (idleS C true).put k t false = (C.map Prod.snd ++ [t], 0, idleS [] true) := by
  have h : (idleS C true).put k t false = (idleS C true).flush [t] := rfl
  rw [h, idle_flush]
theorem put_wait (C : List (ByteArray × ByteArray)) (k t : ByteArray) (h : (findT C k).isSome ∨ C.length < 6) : (idleS C true).put k t true = ([], 0, idleS (strike C k ++ [(k, t)]) true) := by
  have e : (idleS C true).calm = C := rfl
  simp only [FS.put, e]
  rw [if_neg (by simp [idleS]), if_pos (by simp [idleS]), if_pos h]
  rfl
theorem put_full (C : List (ByteArray × ByteArray)) (k t : ByteArray) (h : ¬ ((findT C k).isSome ∨ C.length < 6)) : (idleS C true).put k t true = (C.map Prod.snd, 0, idleS [(k, t)] true) := by
  have e : (idleS C true).calm = C := rfl
  simp only [FS.put, e]
  rw [if_neg (by simp [idleS]), if_pos (by simp [idleS]), if_neg h, idle_flush]
  simp [idleS]

set_option maxRecDepth 100000 in
set_option maxHeartbeats 4000000 in
theorem frontidle_any (a : Option Addr) (D : List LineR) (ca : Nat) (w : World) (ha : D.length ≤ ca) (hca : ca ≤ maxLen) (ta : Recs LineR.cells 7 w a D) (za : ∀ x ∈ D, x.Good) :
    Calls Try.prog 3 #[.slice a D.length ca] w fun e w' => e = .returned (.bool true) ∧ Below w.heap.size w w' := by
  have hD9 : (D.length : Int) ≤ 9223372036854775807 := by unfold maxLen at hca; omega
  have Ht := Lib.hid ta
  have Hz := Lib.hid za
  clear ta za hca ha
  go_enter Try.func3, Try.ntmps3
  go_wp2_with (fail)
  refine (front_lives _).mono ?_
  rintro e w1 ⟨rfl, f1⟩
  go_wp2_with (fail)
  refine (front_new _).mono ?_
  rintro e w2 ⟨p, S, rfl, h2, hS, f2⟩
  have i2 : FInv S p w (idleS [] false) w2 := ⟨h2, fun k hk => Nat.le_trans f1.size (hS k hk), f1.fromN.trans' f2.fromN⟩
  have I2 := Lib.hid i2
  clear h2 hS f1 f2 i2
  go_wp2_with (fail)
  go_loopg [4] 60 (fun g i wr => ∃ k : Nat, k ≤ D.length ∧ k ≤ 60 ∧ g = 60 - k ∧ i = .int .i64 k ∧ ∃ C b S', FInv S' p w (idleS C b) wr)
  case atStart => exact ⟨0, Nat.zero_le _, by omega, rfl, rfl, [], false, S, I2.out⟩
  case round =>
    clear I2
    obtain ⟨k, hkD, hk60, rfl, rfl, C, b, S3, i3⟩ := hrel
    have kI : (k : Int) ≤ D.length := by omega
    by_cases hlt : k < D.length
    · by_cases h60 : k < 60
      · obtain ⟨b1, o1, rfl, hc⟩ := Recs.at_ (Ht.out.kept i3.fr) hlt
        have hg := Hz.out D[k] (List.getElem_mem hlt)
        obtain ⟨x, hx⟩ : ∃ x, x = D[k] := ⟨_, rfl⟩
        rw [← hx] at hc hg
        have c0 : wr.cell? ⟨b1, o1 + k * 7, none⟩ = some (.string x.from_) := hc 0 _ rfl
        have c1 : wr.cell? ⟨b1, o1 + k * 7 + 1, none⟩ = some (.string x.text) := hc 1 _ rfl
        have c2 : wr.cell? ⟨b1, o1 + k * 7 + 2, none⟩ = some (.bool x.waits) := hc 2 _ rfl
        have c3 : wr.cell? ⟨b1, o1 + k * 7 + 3, none⟩ = some (.bool x.idle) := hc 3 _ rfl
        have c4 : wr.cell? ⟨b1, o1 + k * 7 + 4, none⟩ = some (.int .i64 x.lost) := hc 4 _ rfl
        have c5 : wr.cell? ⟨b1, o1 + k * 7 + 5, none⟩ = some (.bool x.break_) := hc 5 _ rfl
        have c6 : wr.cell? ⟨b1, o1 + k * 7 + 6, none⟩ = some (.bool x.agree) := hc 6 _ rfl
        have I3 := Lib.hid i3
        have Hg := Lib.hid hg
        clear hc hg i3 hx
        have i3 := I3.out
        have hgf := Hg.out.1
        have hgt := Hg.out.2.1
        clear I3
        cases hid : x.idle with
        | false =>
          rw [hid] at c3
          have hidle := front_idle false (i3.front.quiet (Fr.alloc Nothing _ (.cells #[Value.string x.from_, Value.string x.text, Value.bool x.waits, Value.bool false, Value.int .i64 x.lost, Value.bool x.break_, Value.bool x.agree] 27)))
          rw [idle_off] at hidle
          have i3' : FInv S3 p w (idleS C b) (wr.alloc (.cells #[Value.string x.from_, Value.string x.text, Value.bool x.waits, Value.bool false, Value.int .i64 x.lost, Value.bool x.break_, Value.bool x.agree] 27)) := i3.quiet (Fr.alloc Nothing _ _)
          have hrow := Row.allocNew wr [Value.string x.from_, Value.string x.text, Value.bool x.waits, Value.bool false, Value.int .i64 x.lost, Value.bool x.break_, Value.bool x.agree] 27
          have hobn : ¬ S3 wr.heap.size := fun h => by have := i3.front.lt h; omega
          have I3 := Lib.hid i3'
          have Hrow := Lib.hid hrow
          clear i3 i3' hrow
          go_wp2_with (fail)
          refine hidle.mono ?_
          intro e w5 g
          obtain ⟨a5, c5, S5, rfl, own5, new5, dj5, i5, hS5, f5⟩ := FTold.own I3.out g
          have r5 := Hrow.out.fr f5 hobn
          have hob5 : ¬ S5 wr.heap.size := fun h => by
            rcases hS5 _ h with h1 | h1
            · exact hobn h1
            · simp at h1; omega
          have r5lt := r5.lt
          have d0 := r5.cell 0 rfl
          have d1 := r5.cell 1 rfl
          have d2 := r5.cell 2 rfl
          have d3 := r5.cell 3 rfl
          have R5 := Lib.hid r5
          have hws := front_waits i5.front
          have I5 := Lib.hid i5
          clear own5 new5 dj5 hS5 f5 r5 g hidle i5 I3 Hrow hobn
          have hws : Calls Try.prog 10 #[.pointer (some ⟨p, 0, none⟩)] w5 fun e w' => e = .returned (.int .i64 0) ∧ w5 = w' := hws
          have hput := front_put x.from_ x.text x.waits I5.out.front hgf hgt
          rw [put_busy] at hput
          go_wp2_with (fail)
          refine hws.mono ?_
          rintro e w6 ⟨rfl, rfl⟩
          go_wp2_with (fail)
          refine hws.mono ?_
          rintro e w6 ⟨rfl, rfl⟩
          go_wp2_with (fail)
          refine hput.mono ?_
          intro e w6 g
          obtain ⟨a6, c6', S6, rfl, own6, new6, dj6, i6, hS6, f6⟩ := FTold.own I5.out g
          have r6 := R5.out.fr f6 hob5
          have r6' := r6.allocOld (.cells #[.string x.text] 9)
          have e2 := r6.cell 2 rfl
          have e3 := r6.cell 3 rfl
          have e1 := r6.cell 1 rfl
          have fa := Fr.alloc Nothing w6 (.cells #[Value.string x.text] 9)
          have hsame := same_yes a6 (some ⟨w6.heap.size, 0, none⟩) [x.text] c6' 1 (w6.alloc (.cells #[Value.string x.text] 9)) (Sl.fr own6.sl.2 fa (fun _ _ h => h)) (Sl.ofRow (Row.allocNew w6 [.string x.text] 9)) (by simp [maxLen])
          have k3 := r6'.cell 3 rfl
          have I6 := Lib.hid (i6.quiet fa)
          clear own6 new6 dj6 hS6 f6 r6 r6' g hput i6 I5 R5 hob5 fa hws d0 d1 d2 d3
          go_wp2_with (fail)
          refine hsame.mono ?_
          rintro e w7 ⟨rfl, n7, rfl⟩
          clear e1 e2 e3 hsame
          go_wp2_with (fail)
          go_quiet (fail)
          go_wp2_with (fail)
          go_roundg (60 - (k + 1))
          case measure => omega
          case rel => exact ⟨k + 1, by omega, by omega, rfl, by go_num, _, _, _, I6.out.quiet (Fr.drewN _ _ _)⟩
        | true =>
          rw [hid] at c3
          have hidle := front_idle true (i3.front.quiet (Fr.alloc Nothing _ (.cells #[Value.string x.from_, Value.string x.text, Value.bool x.waits, Value.bool true, Value.int .i64 x.lost, Value.bool x.break_, Value.bool x.agree] 27)))
          rw [idle_on] at hidle
          have i3' : FInv S3 p w (idleS C b) (wr.alloc (.cells #[Value.string x.from_, Value.string x.text, Value.bool x.waits, Value.bool true, Value.int .i64 x.lost, Value.bool x.break_, Value.bool x.agree] 27)) := i3.quiet (Fr.alloc Nothing _ _)
          have hrow := Row.allocNew wr [Value.string x.from_, Value.string x.text, Value.bool x.waits, Value.bool true, Value.int .i64 x.lost, Value.bool x.break_, Value.bool x.agree] 27
          have hobn : ¬ S3 wr.heap.size := fun h => by have := i3.front.lt h; omega
          have I3 := Lib.hid i3'
          have Hrow := Lib.hid hrow
          clear i3 i3' hrow
          go_wp2_with (fail)
          refine hidle.mono ?_
          intro e w5 g
          obtain ⟨a5, c5, S5, rfl, own5, new5, dj5, i5, hS5, f5⟩ := FTold.own I3.out g
          have r5 := Hrow.out.fr f5 hobn
          have hob5 : ¬ S5 wr.heap.size := fun h => by
            rcases hS5 _ h with h1 | h1
            · exact hobn h1
            · simp at h1; omega
          have d0 := r5.cell 0 rfl
          have d1 := r5.cell 1 rfl
          have d2 := r5.cell 2 rfl
          have d3 := r5.cell 3 rfl
          have R5 := Lib.hid r5
          have hws : Calls Try.prog 10 #[.pointer (some ⟨p, 0, none⟩)] w5 fun e w' => e = .returned (.int .i64 C.length) ∧ w5 = w' := front_waits i5.front
          have hC6 : C.length ≤ 6 := i5.front.calmLe
          have I5 := Lib.hid i5
          clear own5 new5 dj5 hS5 f5 r5 g hidle i5 I3 Hrow hobn
          cases hwt : x.waits with
          | false =>
            rw [hwt] at d2 R5
            have hput := front_put x.from_ x.text false I5.out.front hgf hgt
            rw [put_now] at hput
            go_wp2_with (fail)
            refine hws.mono ?_
            rintro e w6 ⟨rfl, rfl⟩
            go_wp2_with (fail)
            refine hput.mono ?_
            intro e w6 g
            obtain ⟨a6, c6', S6, rfl, own6, new6, dj6, i6, hS6, f6⟩ := FTold.own I5.out g
            have r6 := R5.out.fr f6 hob5
            have e1 := r6.cell 1 rfl
            have e2 := r6.cell 2 rfl
            have e3 := r6.cell 3 rfl
            have hws6 : ∀ n, Calls Try.prog 10 #[.pointer (some ⟨p, 0, none⟩)] (w6.drewN n) fun e w' => e = .returned (.int .i64 0) ∧ w6.drewN n = w' := fun n => front_waits (i6.front.drewN n)
            have hol : (C.map Prod.snd ++ [x.text]).length = C.length + 1 := by simp
            have hsl6 := (Owns.sl own6).2
            obtain ⟨b6, o6, rfl, hy6⟩ := Sl.oneCell (j := C.length) (v := .string x.text) hsl6 (by simp)
            rw [hol]
            have I6 := Lib.hid i6
            have Hws6 := Lib.hid hws6
            clear own6 new6 dj6 hS6 f6 r6 g hput i6 I5 R5 hob5 hws d0 d1 d2 d3 hsl6 hol hws6
            have v1 : IntKind.i64.wrap ((C.length : Int) + 1 - 1) = (C.length : Int) := by rw [show (C.length : Int) + 1 - 1 = C.length by omega]; exact IntWalk.i64_in _ (by omega)
            have v2 : IntKind.i64.wrap (C.length : Int) = (C.length : Int) := IntWalk.i64_in _ (by omega)
            have v3 : IntKind.i64.wrap ((C.length : Int) + 1) = (C.length : Int) + 1 := IntWalk.i64_in _ (by omega)
            have v4 : (C.length : Int) < (C.length : Int) + 1 := by omega
            have v5 : C.length < C.length + 1 := by omega
            go_wp2_with (fail)
            go_quiet ((go_at_call 10; exact quiet_eq (Hws6.out _)))
            go_wp2_with (fail)
            go_roundg (60 - (k + 1))
            case measure => omega
            case rel => exact ⟨k + 1, by omega, by omega, rfl, by go_num, _, _, _, I6.out.quiet (Fr.drewN _ _ _)⟩
          | true =>
            rw [hwt] at d2 R5
            by_cases hroom : (findT C x.from_).isSome ∨ C.length < 6
            · have hput := front_put x.from_ x.text true I5.out.front hgf hgt
              rw [put_wait _ _ _ hroom] at hput
              go_wp2_with (fail)
              refine hws.mono ?_
              rintro e w6 ⟨rfl, rfl⟩
              go_wp2_with (fail)
              refine hput.mono ?_
              intro e w6 g
              obtain ⟨a6, c6', S6, rfl, own6, new6, dj6, i6, hS6, f6⟩ := FTold.own I5.out g
              have r6 := R5.out.fr f6 hob5
              have e1 := r6.cell 1 rfl
              have e2 := r6.cell 2 rfl
              have e3 := r6.cell 3 rfl
              obtain ⟨n, hn⟩ : ∃ n, n = (strike C x.from_ ++ [(x.from_, x.text)]).length := ⟨_, rfl⟩
              have hws6 : ∀ m, Calls Try.prog 10 #[.pointer (some ⟨p, 0, none⟩)] (w6.drewN m) fun e w' => e = .returned (.int .i64 n) ∧ w6.drewN m = w' := fun m => by rw [hn]; exact front_waits (i6.front.drewN m)
              have hn6 : n ≤ 6 := by rw [hn]; exact i6.front.calmLe
              have hn1 : 1 ≤ n := by rw [hn]; simp
              have hnI : (n : Int) ≤ 6 := by omega
              have hnJ : 1 ≤ (n : Int) := by omega
              have I6 := Lib.hid i6
              clear own6 new6 dj6 hS6 f6 r6 g hput i6 I5 R5 hob5 hws d0 d1 d2 d3 hn hroom
              go_wp2_with (fail)
              go_quiet (fail)
              go_wp2_with (fail)
              refine (hws6 _).mono ?_
              rintro e w7 ⟨rfl, rfl⟩
              go_wp2_with (fail)
              refine (hws6 _).mono ?_
              rintro e w7 ⟨rfl, rfl⟩
              go_wp2_with (fail)
              go_roundg (60 - (k + 1))
              case measure => omega
              case rel => exact ⟨k + 1, by omega, by omega, rfl, by go_num, _, _, _, I6.out.quiet (Fr.drewN _ _ _)⟩
            · have hput := front_put x.from_ x.text true I5.out.front hgf hgt
              rw [put_full _ _ _ hroom] at hput
              go_wp2_with (fail)
              refine hws.mono ?_
              rintro e w6 ⟨rfl, rfl⟩
              go_wp2_with (fail)
              refine hput.mono ?_
              intro e w6 g
              obtain ⟨a6, c6', S6, rfl, own6, new6, dj6, i6, hS6, f6⟩ := FTold.own I5.out g
              have r6 := R5.out.fr f6 hob5
              have e1 := r6.cell 1 rfl
              have e2 := r6.cell 2 rfl
              have e3 := r6.cell 3 rfl
              have hws6 : ∀ m, Calls Try.prog 10 #[.pointer (some ⟨p, 0, none⟩)] (w6.drewN m) fun e w' => e = .returned (.int .i64 1) ∧ w6.drewN m = w' := fun m => front_waits (i6.front.drewN m)
              have hc6 : (C.map Prod.snd).length = 6 := by rw [List.length_map]; rcases Nat.lt_or_ge C.length 6 with h | h; exact absurd (.inr h) hroom; omega
              rw [hc6]
              have I6 := Lib.hid i6
              clear own6 new6 dj6 hS6 f6 r6 g hput i6 I5 R5 hob5 hws d0 d1 d2 d3 hroom hc6
              go_wp2_with (fail)
              go_quiet (fail)
              go_wp2_with (fail)
              refine (hws6 _).mono ?_
              rintro e w7 ⟨rfl, rfl⟩
              go_wp2_with (fail)
              refine (hws6 _).mono ?_
              rintro e w7 ⟨rfl, rfl⟩
              go_wp2_with (fail)
              refine (hws6 _).mono ?_
              rintro e w7 ⟨rfl, rfl⟩
              go_wp2_with (fail)
              go_roundg (60 - (k + 1))
              case measure => omega
              case rel => exact ⟨k + 1, by omega, by omega, rfl, by go_num, _, _, _, I6.out.quiet (Fr.drewN _ _ _)⟩
      · obtain rfl : k = 60 := by omega
        have I3 := Lib.hid i3
        clear i3
        go_wp2_with (fail)
        go_ret
        exact ⟨rfl, I3.out.fr.belowB⟩
    · obtain rfl : k = D.length := by omega
      have I3 := Lib.hid i3
      clear i3
      go_wp2_with (fail)
      go_ret
      exact ⟨rfl, I3.out.fr.belowB⟩
end Go.Proofs.Ytklpjnjhaodpkaa
