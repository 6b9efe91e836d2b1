/- FrontAway answers true of every input, and changes no argument. No condition. -/
import Derived.Test.YtklpjnjhaodpkaaFrontF
namespace Go.Proofs.Ytklpjnjhaodpkaa
open Go.RowKit

/-- A front that keeps a ledger, not idle. -/
def kept (L : List ByteArray) (away : Bool) : FS := ⟨some (0, 0, L), [], false, away, false⟩
theorem kept_put {L : List ByteArray} (away : Bool) (k t : ByteArray) (h : L.length < 12) : (kept L away).put k t false = (if away then [] else [t], 0, kept (L ++ [t]) away) := by
  have hr : FS.room { kept L away with calm := [] } 1 = 1 := by simp only [FS.room, kept]; omega
  have h1 : (kept L away).put k t false = (kept L away).flush [t] := by simp [FS.put, kept]
  rw [h1]
  have e : ((kept L away).calm.map Prod.snd ++ [t]) = [t] := rfl
  simp only [FS.flush, e, FS.told, FS.err, FS.given, List.length_singleton, hr]
  simp [kept]
theorem kept_keep : FS.keep ⟨none, [], false, false, false⟩ = (0, kept [] false) := rfl
theorem kept_leave (L : List ByteArray) : FS.leave (kept L false) = (0, kept L true) := rfl

set_option maxRecDepth 100000 in
set_option maxHeartbeats 4000000 in
theorem frontaway_any (a : Option Addr) (A : List ByteArray) (ca : Nat) (b : Option Addr) (B : List ByteArray) (cb : Nat) (w : World) (ha : A.length ≤ ca) (hca : ca ≤ maxLen) (ta : Txt w a A) (za : ∀ s ∈ A, s.size ≤ maxLen)
    (hb : B.length ≤ cb) (hcb : cb ≤ maxLen) (tb : Txt w b B) (zb : ∀ s ∈ B, s.size ≤ maxLen) :
    Calls Try.prog 5 #[.slice a A.length ca, .slice b B.length cb] w fun e w' => e = .returned (.bool true) ∧ Below w.heap.size w w' := by
  have hca9 : (ca : Int) ≤ 9223372036854775807 := by unfold maxLen at hca; omega
  have hcb9 : (cb : Int) ≤ 9223372036854775807 := by unfold maxLen at hcb; omega
  obtain ⟨X, hX⟩ : ∃ X, X = A.take 5 := ⟨_, rfl⟩
  obtain ⟨Y, hY⟩ : ∃ Y, Y = B.take 7 := ⟨_, rfl⟩
  have hXl : X.length = min A.length 5 := by rw [hX, List.length_take]; omega
  have hYl : Y.length = min B.length 7 := by rw [hY, List.length_take]; omega
  have hX5 : X.length ≤ 5 := by omega
  have hY7 : Y.length ≤ 7 := by omega
  have htX : Txt w a X := by rw [hX]; unfold Txt; rw [List.map_take]; exact Sl.take ta 5
  have htY : Txt w b Y := by rw [hY]; unfold Txt; rw [List.map_take]; exact Sl.take tb 7
  have hzX : ∀ s ∈ X, s.size ≤ maxLen := fun s hs => za s (by rw [hX] at hs; exact List.mem_of_mem_take hs)
  have hzY : ∀ s ∈ Y, s.size ≤ maxLen := fun s hs => zb s (by rw [hY] at hs; exact List.mem_of_mem_take hs)
  have eX : (min (A.length : Int) 5).toNat = X.length := by omega
  have eY : (min (B.length : Int) 7).toNat = Y.length := by omega
  have aI : (A.length : Int) ≤ ca := by omega
  have bI : (B.length : Int) ≤ cb := by omega
  have HtX := Lib.hid htX
  have HtY := Lib.hid htY
  have HzX := Lib.hid hzX
  have HzY := Lib.hid hzY
  have HeX := Lib.hid eX
  have HeY := Lib.hid eY
  clear hX hY hXl hYl htX htY hzX hzY ta za tb zb hca hcb eX eY
  go_enter Try.func5, Try.ntmps5
  go_wp2_with (fail)
  refine (front_lives _).mono ?_
  rintro e w1 ⟨rfl, f1⟩
  go_wp2_with (fail)
  go_quiet (fail)
  go_wp2_with (fail)
  rw [HeX.out, HeY.out]
  refine (front_new _).mono ?_
  rintro e w2 ⟨p, S, rfl, h2, hS, f2⟩
  have i2 : FInv S p w ⟨none, [], false, false, false⟩ w2 := ⟨h2, fun k hk => Nat.le_trans f1.size (hS k hk), (f1.fromN.trans' (Fr.drewN _ _ _)).trans' f2.fromN⟩
  clear h2 hS f1 f2
  go_wp2_with (fail)
  refine (front_keep i2.front).mono ?_
  rintro e w3 ⟨rfl, g3⟩
  rw [kept_keep] at g3 ⊢
  obtain ⟨S3, i3, _⟩ := i2.gone g3
  have i3 : FInv S3 p w (kept [] false) w3 := i3
  have I3 := Lib.hid i3
  clear g3 i2 i3 aI bI
  go_wp2_with (fail)
  go_loopg [6] X.length (fun g i wr => ∃ k : Nat, k ≤ X.length ∧ g = X.length - k ∧ i = .int .i64 k ∧ ∃ S', FInv S' p w (kept (X.take k) false) wr)
  case atStart => exact ⟨0, Nat.zero_le _, rfl, rfl, S3, I3.out⟩
  case round =>
    obtain ⟨k, hk, rfl, rfl, S4, i4⟩ := hrel
    clear I3
    have kI : (k : Int) ≤ X.length := by omega
    by_cases hlt : k < X.length
    · have hta := HtX.out.kept i4.fr
      obtain ⟨b1, o1, rfl, hx1⟩ := Txt.at_ hta hlt
      have hxz := HzX.out X[k] (List.getElem_mem hlt)
      obtain ⟨x, hx⟩ : ∃ x, x = X[k] := ⟨_, rfl⟩
      rw [← hx] at hx1 hxz
      have hput := front_put ⟨#[97]⟩ x false i4.front (by decide) hxz
      rw [kept_put false _ _ (by rw [List.length_take]; omega)] at hput
      have hnx : X.take k ++ [x] = X.take (k + 1) := by rw [List.take_succ_eq_append_getElem hlt, hx]
      rw [hnx] at hput
      have I4 := Lib.hid i4
      clear hta hx hxz hnx i4
      go_wp2_with (fail)
      refine hput.mono ?_
      intro e w5 g
      obtain ⟨a5, c5, S5, rfl, own5, new5, _, i5, _, fr5⟩ := FTold.own I4.out g
      have hx5 : w5.cell? ⟨b1, o1 + k, none⟩ = some (.string x) := cell_fr hx1 fr5 (fun h => by
        have h1 := I4.out.new b1 h
        obtain ⟨b1', o1', e1, hxw⟩ := Txt.at_ HtX.out hlt
        obtain ⟨rfl, rfl⟩ : b1 = b1' ∧ o1 = o1' := by simpa using e1
        have h2 : b1 < w.heap.size := World.block_lt_of_cell? w _ hxw
        omega)
      obtain ⟨b6, o6, rfl, hy6⟩ := Sl.oneCell (j := 0) (v := .string x) (Owns.sl own5).2 rfl
      have hy6 : w5.cell? ⟨b6, o6, none⟩ = some (.string x) := hy6
      have I5 := Lib.hid i5
      clear hput g own5 new5 i5 fr5 hx1
      go_wp2_with (fail)
      go_quiet (fail)
      go_wp2_with (fail)
      go_roundg (X.length - (k + 1))
      case measure => omega
      case rel => exact ⟨k + 1, by omega, rfl, by go_num, S5, I5.out.quiet (Fr.drewN _ _ _)⟩
    · obtain rfl : k = X.length := by omega
      rw [List.take_length] at i4
      have I4 := Lib.hid i4
      have hlv := front_leave i4.front
      rw [kept_leave] at hlv
      clear i4
      go_wp2_with (fail)
      refine hlv.mono ?_
      rintro e w5 ⟨rfl, g5⟩
      obtain ⟨S5, i5, _⟩ := I4.out.gone g5
      have I5 := Lib.hid i5
      clear g5 i5 hlv
      go_wp2_with (fail)
      go_loopg [9] Y.length (fun g i wr => ∃ k : Nat, k ≤ Y.length ∧ g = Y.length - k ∧ i = .int .i64 k ∧ ∃ S', FInv S' p w (kept (X ++ Y.take k) true) wr)
      case atStart => exact ⟨0, Nat.zero_le _, rfl, rfl, S5, by simpa using I5.out⟩
      case round =>
        clear I5 kI hlt I4 hk
        obtain ⟨k, hk, rfl, rfl, S4, i4⟩ := hrel
        have kI : (k : Int) ≤ Y.length := by omega
        by_cases hlt : k < Y.length
        · have hta := HtY.out.kept i4.fr
          obtain ⟨b1, o1, rfl, hx1⟩ := Txt.at_ hta hlt
          have hxz := HzY.out Y[k] (List.getElem_mem hlt)
          obtain ⟨x, hx⟩ : ∃ x, x = Y[k] := ⟨_, rfl⟩
          rw [← hx] at hx1 hxz
          have hput := front_put ⟨#[98]⟩ x false i4.front (by decide) hxz
          rw [kept_put true _ _ (by rw [List.length_append, List.length_take]; omega)] at hput
          have hnx : X ++ Y.take k ++ [x] = X ++ Y.take (k + 1) := by rw [List.take_succ_eq_append_getElem hlt, hx, List.append_assoc]
          rw [hnx] at hput
          have I4 := Lib.hid i4
          clear hta hx hxz hnx i4
          go_wp2_with (fail)
          refine hput.mono ?_
          intro e w5 g
          obtain ⟨a5, c5, S5, rfl, own5, new5, _, i5, _, fr5⟩ := FTold.own I4.out g
          have I5 := Lib.hid i5
          clear hput g own5 new5 i5 fr5 hx1
          go_wp2_with (fail)
          go_roundg (Y.length - (k + 1))
          case measure => omega
          case rel => exact ⟨k + 1, by omega, rfl, by go_num, S5, I5.out⟩
        · obtain rfl : k = Y.length := by omega
          rw [List.take_length] at i4
          have I4 := Lib.hid i4
          have hfar : FS.back (kept (X ++ Y) true) ((X.length : Int) + Y.length + 1) = ([], 10, kept (X ++ Y) true) := by
            have hw : w32 ((X.length : Int) + Y.length + 1 - 0) = X.length + Y.length + 1 := by unfold w32; omega
            simp only [FS.back, FS.keeps, kept, hw, List.length_append]
            simp
            omega
          have hnear : FS.back (kept (X ++ Y) true) (X.length : Int) = (Y, 0, { kept (X ++ Y) true with led := some ((X.length : Int), 0, Y), away := false }) := by
            have hw : w32 ((X.length : Int) - 0) = X.length := by unfold w32; omega
            simp only [FS.back, FS.keeps, kept, hw, List.length_append]
            simp
            omega
          have hb1 := front_back ((X.length : Int) + Y.length + 1) ⟨by omega, by omega⟩ i4.front
          rw [hfar] at hb1
          clear i4 hfar
          go_wp2_with (fail)
          refine hb1.mono ?_
          rintro e w6 ⟨a6, c6, S6, rfl, _, _, _, hf6, hS6, _, f6⟩
          have i6 : FInv S6 p w (kept (X ++ Y) true) w6 := ⟨hf6, fun k hk => by
            rcases hS6 k hk with h | h
            · exact I4.out.new k h
            · exact Nat.le_trans I4.out.fr.size h, I4.out.fr.trans' (f6.from_ I4.out.new)⟩
          have hb2 := front_back (X.length : Int) ⟨by omega, by omega⟩ i6.front
          rw [hnear] at hb2
          have I6 := Lib.hid i6
          clear i6 hf6 hS6 f6 hb1 hnear
          go_wp2_with (fail)
          refine hb2.mono ?_
          rintro e w7 ⟨a7, c7, S7, rfl, ht7, hz7, hn7, hf7, hS7, hd7, f7⟩
          have i7 : FInv S7 p w { kept (X ++ Y) true with led := some ((X.length : Int), 0, Y), away := false } w7 := ⟨hf7, fun k hk => by
            rcases hS7 k hk with h | h
            · exact I6.out.new k h
            · exact Nat.le_trans I6.out.fr.size h, I6.out.fr.trans' (f7.from_ I6.out.new)⟩
          have hsm := same_yes a7 b Y c7 cb w7 ht7 (HtY.out.kept i7.fr) (by unfold maxLen; omega)
          have hop := fun m => front_open (i7.front.drewN m)
          have hop' : ∀ m, Calls Try.prog 15 #[.pointer (some ⟨p, 0, none⟩)] (w7.drewN m) fun e w' => e = .returned (.int .i64 Y.length) ∧ w7.drewN m = w' := hop
          have I7 := Lib.hid i7
          clear hop ht7 hz7 hn7 hf7 hS7 hd7 f7 i7 hb2
          go_wp2_with (fail)
          refine hsm.mono ?_
          rintro e w8 ⟨rfl, m8, rfl⟩
          go_wp2_with (fail)
          refine (hop' _).mono ?_
          rintro e w9 ⟨rfl, rfl⟩
          go_wp2_with (fail)
          go_ret
          exact ⟨rfl, (I7.out.fr.trans' (Fr.drewN _ _ _)).belowB⟩
end Go.Proofs.Ytklpjnjhaodpkaa
