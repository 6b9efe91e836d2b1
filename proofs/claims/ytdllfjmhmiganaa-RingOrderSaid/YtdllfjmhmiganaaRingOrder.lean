/- RingOrder answers true for every input and changes no memory that was there. No condition. -/
import Derived.Test.YtdllfjmhmiganaaRingLives
namespace Go.Proofs.Ytdllfjmhmiganaa
open Go.RowKit

/-- What holds while texts are pushed: what is out, and what the ring holds behind it, are the texts so far. -/
structure OrdInv (S : Nat → Prop) (p m B : Nat) (w : World) (D : List ByteArray) (v : Value) (O M : List ByteArray) (wr : World) : Prop where
  own : Owns wr 9 1 v O.length (O.map Value.string)
  inB : ∀ b, InBlock v b → B ≤ b
  apart : ∀ b, InBlock v b → ¬ S b
  ring : IsRing S wr p m M
  all : O ++ M = D
  fr : Fr (FromB B) w wr

section
variable {S : Nat → Prop} {p m B : Nat} {w wr w' : World} {D O M : List ByteArray} {v : Value}
theorem OrdInv.quiet (h : OrdInv S p m B w D v O M wr) (n : Nat) : OrdInv S p m B w D v O M (wr.drewN n) :=
  ⟨h.own, h.inB, h.apart, h.ring.drewN n, h.all, h.fr.trans' (Fr.drewN _ _ _)⟩
theorem OrdInv.ringed {M' D' : List ByteArray} (h : OrdInv S p m B w D v O M wr) (hS : ∀ k, S k → B ≤ k) (r : IsRing S w' p m M') (f : Fr S wr w') (ha : O ++ M' = D') : OrdInv S p m B w D' v O M' w' :=
  ⟨h.own.fr f (fun k hk => h.apart k hk), h.inB, h.apart, r, ha, h.fr.trans' (f.from_ hS)⟩
theorem OrdInv.appended {O' M' D' : List ByteArray} {v' : Value} (h : OrdInv S p m B w D v O M wr) (hB : B ≤ wr.heap.size) (r : IsRing S wr p m M') (o : Owns w' 9 1 v' O'.length (O'.map Value.string)) (f : Fr (InBlock v) wr w') (n : NewOr wr v v') (ha : O' ++ M' = D') : OrdInv S p m B w D' v' O' M' w' := by
  refine ⟨o, fun b hb => ?_, fun b hb hS => ?_, r.fr f (fun k hk hk' => h.apart k hk' hk), ha, h.fr.trans' (f.from_ fun k hk => h.inB k hk)⟩
  · rcases n b hb with h1 | h1
    · exact h.inB b h1
    · omega
  · rcases n b hb with h1 | h1
    · exact h.apart b h1 hS
    · have := r.lt hS; omega
theorem OrdInv.appended' {O' M' D' : List ByteArray} {v' : Value} {w0 : World} (h : OrdInv S p m B w D v O M wr) (hB : B ≤ wr.heap.size) (r : IsRing S wr p m M') (g : Fr Nothing wr w0) (o : Owns w' 9 1 v' O'.length (O'.map Value.string)) (f : Fr (InBlock v) w0 w') (n : NewOr w0 v v') (ha : O' ++ M' = D') : OrdInv S p m B w D' v' O' M' w' := by
  have f' : Fr (InBlock v) wr w' := (g.mono fun _ _ h => h.elim).trans' f
  have n' : NewOr wr v v' := fun k hk => (n k hk).imp id (fun h => Nat.le_trans g.size h)
  exact h.appended hB r o f' n' ha
end

set_option maxRecDepth 100000 in
set_option maxHeartbeats 2000000 in
theorem ringorder_any (places : Int) (a : Option Addr) (L : List ByteArray) (c : Nat) (a2 : Option Addr) (Z : List Int) (c2 : Nat) (w : World) (_w0 : (Lit.int .i64 places).wf = true)
    (_hlc : L.length ≤ c) (_hcm : c ≤ maxLen) (ht : Txt w a L) (_hs : ∀ s ∈ L, s.size ≤ maxLen) (_hlz : Z.length ≤ c2) (_hcz : c2 ≤ maxLen) (hz : Ints w a2 Z) (_hzs : ∀ n ∈ Z, (Lit.int .i64 n).wf = true) :
    Calls Try.prog 6 #[.int .i64 places, .slice a L.length c, .slice a2 Z.length c2] w fun e w' => e = .returned (.bool true) ∧ Below w.heap.size w w' := by
  obtain ⟨i0, hi, hz0, hz1, hz2⟩ := info_parts Try.infoString
  have Hz2 := Lib.hid hz2
  have Hz1 := Lib.hid hz1
  have Hz0 := Lib.hid hz0
  have Hi := Lib.hid hi
  clear hz2 hz1 hz0 hi
  obtain ⟨m, hm⟩ : ∃ m : Nat, (m : Int) = min (max places 1) 64 := ⟨(min (max places 1) 64).toNat, by omega⟩
  have Hm := Lib.hid hm
  have hl9 : (c : Int) ≤ 9223372036854775807 := by unfold maxLen at _hcm; omega
  have hlci : (L.length : Int) ≤ c := by omega
  have hz9 : (Z.length : Int) ≤ 9223372036854775807 := by unfold maxLen at _hcz; omega
  clear hm _w0 _hs _hzs _hlz _hcz _hlc _hcm
  go_enter Try.func6, Try.ntmps6
  go_wp2_with (fail)
  refine (ring_lives _).mono ?_
  rintro e w1 ⟨rfl, f0⟩
  go_upto_region 3 with (fail)
  go_cut [1] (fun s wx => ∃ T : List ByteArray, s = .slice a T.length c ∧ T.length ≤ 200 ∧ Txt w a T ∧ w1 = wx)
  case first =>
    by_cases h2 : (200 : Int) < L.length
    · have h3 : (200 : Int) ≤ c := by omega
      go_wp2_with (fail)
      go_meet
      case rel => exact ⟨L.take 200, by simp; omega, by simp; omega, (by have := Sl.take ht 200; rw [← List.map_take] at this; exact this), rfl⟩
    · go_wp2_with (fail)
      go_meet
      case rel => exact ⟨L, rfl, by omega, ht, rfl⟩
  case rest =>
    obtain ⟨T, rfl, hT, htT, rfl⟩ := hcut
    go_wp2_with (fail)
    refine (ring_new places m _ Hm.out).mono ?_
    rintro e w2 ⟨p, S, rfl, r1, hS, f1⟩
    have hS' : ∀ k, S k → w.heap.size ≤ k := fun k hk => Nat.le_trans f0.size (hS k hk)
    have F : Fr (FromB w.heap.size) w w2 := f0.fromN.trans' f1.fromN
    have inv : OrdInv S p m w.heap.size w (T.take 0) (.slice none 0 0) [] [] w2 :=
      ⟨Owns.nil _ _ _, fun b hb => by simp [InBlock, Value.ownBlock] at hb, fun b hb => by simp [InBlock, Value.ownBlock] at hb, r1, rfl, F⟩
    clear hS f0 f1 r1 F
    go_wp2_with (fail)
    go_loopg [8, 9] T.length (fun g v i wr => ∃ (k : Nat) (O M : List ByteArray), k ≤ T.length ∧ g = T.length - k ∧ i = .int .i64 k ∧ OrdInv S p m w.heap.size w (T.take k) v O M wr)
    case atStart => exact ⟨0, [], [], Nat.zero_le _, rfl, rfl, inv⟩
    case round =>
      clear inv
      obtain ⟨k, O, M, hk, rfl, rfl, inv⟩ := hrel
      have hBs := inv.fr.size
      by_cases hlt : k < T.length
      · go_wp2_with (fail)
        go_loopg [8] 1 (fun g v wr => ∃ O M : List ByteArray, (M.length < m ∨ 1 ≤ g) ∧ OrdInv S p m w.heap.size w (T.take k) v O M wr)
        case atStart => exact ⟨O, M, .inr (Nat.le_refl _), inv⟩
        case round =>
          clear inv hBs O M
          obtain ⟨O, M, hg, inv⟩ := hrel
          have hBs := inv.fr.size
          obtain ⟨b, o, rfl, hc⟩ := (htT.kept inv.fr).at_ hlt
          by_cases hM : M.length < m
          · clear hg
            have hD : T.take (k + 1) = T.take k ++ [T[k]] := by rw [List.take_succ_eq_append_getElem hlt]
            go_wp2_with (fail)
            refine (ring_push_ok _ inv.ring hM).mono ?_
            rintro e w4 ⟨rfl, r4, f4⟩
            have inv4 : OrdInv S p m w.heap.size w (T.take (k + 1)) u8 O (M ++ [T[k]]) w4 := inv.ringed hS' r4 f4 (by rw [hD, ← List.append_assoc, inv.all])
            obtain ⟨M4, hM4⟩ : ∃ M4, M4 = M ++ [T[k]] := ⟨_, rfl⟩
            rw [← hM4] at inv4
            clear inv r4 f4 hM hc hD hM4 M
            have hBs4 := inv4.fr.size
            by_cases hd : k < Z.length
            · obtain ⟨b2, o2, rfl, hc2⟩ := (hz.kept inv4.fr).at_ hd
              have hdi : (k : Int) < Z.length := by omega
              go_upto_region 15 with (fail)
              go_cut [12] (fun s wx => ∃ q : Nat, q ≤ M4.length ∧ s = .int .i64 q ∧ ∃ n, wx = w4.drewN n)
              case first =>
                have hle := inv4.ring.le
                have hmo := inv4.ring.most
                have e1 : IntKind.i64.wrap ((M4.length : Int) + 1) = (M4.length : Int) + 1 := IntWalk.i64_in _ (by omega)
                have e2 : IntKind.u64.wrap ((M4.length : Int) + 1) = (M4.length : Int) + 1 := IntWalk.u64_in _ (by omega)
                have e3 : ¬ ((M4.length : Int) + 1 = 0) := by omega
                obtain ⟨q, hq, e4⟩ := umod Z[k] (M4.length + 1) (by omega) (by omega)
                have e5 : wrap64 ((IntKind.u64.wrap Z[k]).tmod ((M4.length : Int) + 1)) = (q : Int) := e4
                go_wp2_with (fail)
                go_quiet ((go_at_call 15; exact Calls.quiet_of_same ((ring_len (inv4.ring.drewN _)).mono fun e w' ⟨h1, h2⟩ => ⟨h1, h2.symm⟩)))
                go_wp2_with (fail)
                go_meet
                case rel => exact ⟨q, by omega, congrArg _ e5, nq, rfl⟩
              case rest =>
                obtain ⟨q, hq, rfl, n4, rfl⟩ := hcut
                have hO : O.length + M4.length ≤ 200 := by have := congrArg List.length inv4.all; simp at this; omega
                go_wp2_with (fail)
                refine (ring_list (inv4.ring.drewN n4)).mono ?_
                rintro e w5 ⟨a5, rfl, t5, b5, b5', f5⟩
                have inv5 : OrdInv S p m w.heap.size w (T.take (k + 1)) u8 O M4 w5 := (inv4.quiet n4).ringed hS' ((inv4.ring.drewN n4).fr f5 fun _ _ h => h) (f5.mono fun _ _ h => h.elim) inv4.all
                go_wp2_with (fail)
                refine (ring_drop_ok q inv5.ring (by omega) (by omega)).mono ?_
                rintro e w6 ⟨rfl, r6', f6⟩
                obtain ⟨X, hX⟩ : ∃ X, X = M4.take q := ⟨_, rfl⟩
                obtain ⟨Y, hY⟩ : ∃ Y, Y = M4.drop q := ⟨_, rfl⟩
                have r6 : IsRing S w6 p m Y := by rw [hY]; exact r6'
                have hXq : X.length = q := by rw [hX]; simp; omega
                have hXY : X ++ Y = M4 := by rw [hX, hY]; exact List.take_append_drop q M4
                have inv6 : OrdInv S p m w.heap.size w (O ++ Y) u8 O Y w6 := inv5.ringed hS' r6 f6 rfl
                have hbS : ∀ ad, a5 = some ad → ¬ S ad.block := fun ad had hk => by
                  have h1 := (b5 ad had).1
                  have := (inv4.ring.drewN n4).lt hk
                  rw [h1] at this; simp at this
                have t6 : Txt w6 a5 X := by
                  have := (Sl.fr t5 f6 hbS).take q
                  rw [← List.map_take, ← hX] at this; exact this
                have hall : (O ++ X) ++ Y = T.take (k + 1) := by rw [List.append_assoc, hXY, inv4.all]
                have hqi : (q : Int) ≤ M4.length := by omega
                have hOX : O.length + X.length ≤ 200 := by omega
                have HX := Lib.hid hXq
                have Hall := Lib.hid hall
                have own6 := inv6.own
                clear inv4 inv5 r6' hX hY hXY hXq hall t5 f5 f6 hbS r6
                go_wp2_with (at_builtin; go_must (refine wpList_append_fp rfl (.tmp 73) (.tmp 76) 22 rfl 9 i0 (.string ByteArray.empty) 1 16 Try.underlying22 Hi.out Hz0.out Hz1.out Hz2.out rfl (by decide) _ _ _ rfl own6 a5 q M4.length (X.map Value.string) rfl (by rw [List.length_map, HX.out, Nat.mul_one]) ?_ t6 (one_texts X) (by have := HX.out; unfold maxLen; omega) (by have := HX.out; omega) ?_))
                · intro h5
                  obtain rfl := b5' h5
                  simp at hq; simp [hq]
                intro v7 w7 o7 f7 n7 s7 _
                have inv7 : OrdInv S p m w.heap.size w (T.take (k + 1)) v7 (O ++ X) Y w7 := by
                  refine inv6.appended' inv6.fr.size inv6.ring (Fr.refl _ _) ?_ f7 n7 Hall.out
                  rw [HX.out.symm] at o7
                  simpa using o7
                clear inv6 own6 t6 o7 f7 n7 s7
                go_wp2_with (fail)
                go_roundg (T.length - (k + 1))
                case measure => omega
                case rel => exact ⟨k + 1, O ++ X, Y, by omega, rfl, by go_num, inv7⟩
            · go_wp2_with (fail)
              go_roundg (T.length - (k + 1))
              case measure => omega
              case rel => exact ⟨k + 1, O, M4, by omega, rfl, by go_num, inv4⟩
          · have hle := inv.ring.le
            have hone := inv.ring.one
            obtain ⟨x, N, rfl⟩ : ∃ x N, M = x :: N := by
              cases M with
              | nil => simp at hM; omega
              | cons x N => exact ⟨x, N, rfl⟩
            go_wp2_with (fail)
            refine (ring_push_no _ inv.ring (by omega)).mono ?_
            rintro e w4 ⟨rfl, m4, rfl⟩
            go_wp2_with (fail)
            refine (ring_at_ok 0 x (inv.ring.drewN m4) (by decide) rfl).mono ?_
            rintro e w5 ⟨rfl, m5, rfl⟩
            go_wp2_with (fail)
            refine (ring_drop_ok 1 (inv.ring.drewN _) (by decide) (by simp; omega)).mono ?_
            rintro e w6 ⟨rfl, r6', f6'⟩
            have r6 : IsRing S w6 p m N := r6'
            have f6 := (Fr.drewN S _ (m4 + m5)).trans' f6'
            have inv6 : OrdInv S p m w.heap.size w (O ++ N) u8 O N w6 := inv.ringed hS' r6 f6 rfl
            have hall := Lib.hid inv.all
            have hO : O.length ≤ 200 := by have := congrArg List.length inv.all; simp at this; omega
            have own7 := inv6.own.fr (Fr.alloc Nothing w6 (.cells #[Value.string x] 9)) (fun _ _ h => h)
            have hsl7 : Sl (w6.alloc (.cells #[Value.string x] 9)) (some ⟨w6.heap.size, 0, none⟩) [Value.string x] := Sl.ofRow (Row.allocNew w6 [Value.string x] 9)
            clear inv r6' r6 f6 f6' hc
            go_wp2_with (at_builtin; go_must (refine wpList_append_fp rfl (.tmp 48) (.tmp 50) 22 rfl 9 i0 (.string ByteArray.empty) 1 16 Try.underlying22 Hi.out Hz0.out Hz1.out Hz2.out rfl (by decide) _ _ _ rfl own7 _ 1 1 [Value.string x] rfl rfl (by simp) hsl7 (by simp [Value.oneCell']) (by unfold maxLen; omega) (by omega) ?_))
            intro v7 w7 o7 f7 n7 s7 _
            have inv7 : OrdInv S p m w.heap.size w (T.take k) v7 (O ++ [x]) N w7 := by
              refine inv6.appended' inv6.fr.size inv6.ring (Fr.alloc Nothing w6 _) ?_ f7 n7 ?_
              · simpa using o7
              · have := hall.out; rw [← this]; simp
            clear inv6 own7 hsl7 o7 f7 n7 s7 hall
            go_wp2_with (fail)
            go_roundg 0
            case measure => rcases hg with h | h
                            · exact absurd h hM
                            · exact h
            case rel => exact ⟨O ++ [x], N, .inl (by simp at hle; omega), inv7⟩
      · obtain rfl : k = T.length := by omega
        go_wp2_with (fail)
        refine (ring_cut 0 0 inv.ring (by omega)).mono ?_
        rintro e w4 ⟨a4, X, Y, rfl, Hxy, Hx, t4, b4, r4, f4⟩
        obtain rfl : X = [] := List.eq_nil_of_length_eq_zero Hx.out
        obtain rfl : Y = M := by simpa using Hxy.out
        have inv4 : OrdInv S p m w.heap.size w (O ++ []) u8 O [] w4 := inv.ringed hS' r4 f4 rfl
        have hO : O.length + Y.length ≤ 200 := by have := congrArg List.length inv.all; simp at this; omega
        have hall : O ++ Y = T := by rw [inv.all]; simp
        have hn : a4 = none → Y.length = 0 ∧ Y.length = 0 := fun h => by
          subst h
          have := Sl.of_none t4
          simp at this; simp [this]
        have Hall := Lib.hid hall
        have own4 := inv4.own
        clear inv r4 f4 hall Hxy Hx
        go_wp2_with (at_builtin; go_must (refine wpList_append_fp rfl (.tmp 78) (.tmp 80) 22 rfl 9 i0 (.string ByteArray.empty) 1 16 Try.underlying22 Hi.out Hz0.out Hz1.out Hz2.out rfl (by decide) _ _ _ rfl own4 a4 Y.length Y.length (Y.map Value.string) rfl (by simp) hn t4 (one_texts Y) (by unfold maxLen; omega) (by omega) ?_))
        intro v7 w7 o7 f7 n7 s7 _
        have inv7 : OrdInv S p m w.heap.size w T v7 T [] w7 := by
          refine inv4.appended' inv4.fr.size inv4.ring (Fr.refl _ _) ?_ f7 n7 (by simp)
          have e := Hall.out
          have e2 : O.length + Y.length = T.length := by rw [← e]; simp
          rw [e2, ← List.map_append, e] at o7
          exact o7
        obtain ⟨a7, c7, rfl, _, _⟩ := inv7.own.shape
        have t7 := inv7.own.sl.2
        have htT' := htT.kept inv7.fr
        clear inv4 own4 t4 o7 f7 n7 s7 hO b4 Hall
        go_wp2_with (fail)
        refine (same_yes a7 a T _ _ _ t7 htT' (by unfold maxLen; omega)).mono ?_
        rintro e w8 ⟨rfl, m8, rfl⟩
        go_wp2_with (fail)
        refine (ring_len (inv7.ring.drewN m8)).mono ?_
        rintro e w9 ⟨rfl, rfl⟩
        go_wp2_with (fail)
        go_ret
        exact ⟨rfl, (inv7.fr.trans' (Fr.drewN _ _ _)).belowB⟩

end Go.Proofs.Ytdllfjmhmiganaa
