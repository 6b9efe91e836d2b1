/- LedgerLine answers true for every input and changes no memory that was there. No condition. -/
import Derived.Test.YtgeibjmpcgkagaaLedLives
import Derived.Test.YtgeibjmpcgkagaaAppend
namespace Go.Proofs.Ytgeibjmpcgkagaa
open Go.RowKit

/-- How far the line is behind: k texts are sent, g have come, d are confirmed. -/
structure Behind (k g d : Nat) : Prop where
  dg : d ≤ g
  gk : g ≤ k
  a1 : k % 3 = 1 → k - g ≤ 3 ∧ k - d ≤ 6
  a2 : k % 3 = 2 → k - g ≤ 4 ∧ k - d ≤ 7
  a0 : k % 3 = 0 → k - g ≤ 5 ∧ k - d ≤ 8
theorem Behind.open8 {k g d : Nat} (h : Behind k g d) : k - d ≤ 8 := by have := h.a0; have := h.a1; have := h.a2; omega
theorem Behind.got5 {k g d : Nat} (h : Behind k g d) : k - g ≤ 5 := by have := h.a0; have := h.a1; have := h.a2; omega
theorem Behind.skip {k g d : Nat} (h : Behind k g d) (_ : 0 < k % 3) : Behind (k + 1) g d := by
  obtain ⟨h1, h2, a1, a2, a0⟩ := h
  constructor <;> omega
theorem Behind.again {k g d x : Nat} (h : Behind k g d) (_ : x ≤ 3) (_ : x = 0 ∨ k % 3 = 0) : Behind (k + 1) (g + (k + 1 - g - x)) g := by
  have h5 := h.got5
  obtain ⟨h1, h2, a1, a2, a0⟩ := h
  constructor <;> omega

/-- The line, k texts on: what has come is the beginning of what is sent, and the ledger holds what is not confirmed. -/
structure LineInv (S : Nat → Prop) (p B : Nat) (start : Int) (Q : List ByteArray) (w wr : World) (k g d : Nat) (v : Value) : Prop where
  led : IsLed S wr p 12 (w32 (start + d)) start ((Q.take k).drop d)
  own : Owns wr 9 1 v g ((Q.take g).map Value.string)
  apart : ∀ x, InBlock v x → ¬ S x
  inB : ∀ x, InBlock v x → B ≤ x
  fr : Fr (FromB B) w wr
  be : Behind k g d

set_option maxRecDepth 100000 in
set_option maxHeartbeats 4000000 in
theorem ledline_any (start : Int) (a : Option Addr) (ss : List ByteArray) (c : Nat) (b : Option Addr) (bs : List Int) (c2 : Nat) (w : World) (_w0 : (Lit.int .u32 start).wf = true)
    (n1 : ss.length ≤ c) (m1 : c ≤ maxLen) (t1 : Txt w a ss) (_z1 : ∀ s ∈ ss, s.size ≤ maxLen) (n2 : bs.length ≤ c2) (m2 : c2 ≤ maxLen) (t2 : Ints w b bs) (_z2 : ∀ n ∈ bs, (Lit.int .i64 n).wf = true) :
    Calls Try.prog 4 #[.int .u32 start, .slice a ss.length c, .slice b bs.length c2] w fun e w' => e = .returned (.bool true) ∧ Below w.heap.size w w' := by
  obtain ⟨i0, hi, hz0, hz1, hz2⟩ := info_parts Try.infoString
  have Hz2 := Lib.hid hz2
  have Hz1 := Lib.hid hz1
  have Hz0 := Lib.hid hz0
  have Hi := Lib.hid hi
  clear hz2 hz1 hz0 hi _z1 _z2
  have hd := U32.of_wf _w0
  have hc9 : (c : Int) ≤ 9223372036854775807 := by unfold maxLen at m1; omega
  have hn1 : (ss.length : Int) ≤ c := by omega
  have hb9 : bs.length ≤ 9223372036854775807 := by unfold maxLen at m2; omega
  clear _w0 m1 m2 n2
  obtain ⟨Q, hQ⟩ : ∃ Q, Q = ss.take 100 := ⟨_, rfl⟩
  have HQ := Lib.hid hQ
  have htQ : Txt w a Q := by have := Sl.take t1 100; rw [← List.map_take, ← hQ] at this; exact this
  have hQl : Q.length = min ss.length 100 := by rw [hQ]; simp; omega
  have HQl := Lib.hid hQl
  clear hQ hQl t1 n1
  go_enter Try.func4, Try.ntmps4
  go_wp2_with (fail)
  refine (led_lives _).mono ?_
  rintro e w1 ⟨rfl, f0⟩
  go_upto_region 3 with (fail)
  go_cut [1] (fun s wx => s = .slice a Q.length c ∧ w1 = wx)
  case first =>
    have hQl := HQl.out
    by_cases h2 : (100 : Int) < ss.length
    · have h3 : (100 : Int) ≤ c := by omega
      rw [show min ss.length 100 = 100 by omega] at hQl
      have HL := Lib.hid hQl
      clear hQl HQl
      go_wp2_with (fail)
      go_meet
      case rel => exact ⟨by rw [HL.out], rfl⟩
    · rw [show min ss.length 100 = ss.length by omega] at hQl
      have HL := Lib.hid hQl
      clear hQl HQl
      go_wp2_with (fail)
      go_meet
      case rel => exact ⟨by rw [HL.out], rfl⟩
  case rest =>
    obtain ⟨rfl, rfl⟩ := hcut
    have hQ1 : Q.length ≤ 100 := by rw [HQl.out]; omega
    go_wp2_with (fail)
    refine (led_new 12 12 start _ (by decide) hd).mono ?_
    rintro e w2 ⟨p, S, rfl, h1, hS, f1⟩
    have hS' : ∀ k, S k → w.heap.size ≤ k := fun k hk => Nat.le_trans f0.size (hS k hk)
    have e0 : w32 (start + ((0 : Nat) : Int)) = start := by rw [show start + ((0 : Nat) : Int) = start by omega]; exact hd.eq
    have inv : LineInv S p w.heap.size start Q w w2 0 0 0 (.slice none 0 0) :=
      ⟨by rw [e0]; exact h1, Owns.nil _ _ _, fun x hx => by simp [InBlock, Value.ownBlock] at hx, fun x hx => by simp [InBlock, Value.ownBlock] at hx, f0.fromN.trans' f1.fromN, by constructor <;> omega⟩
    clear h1 hS f0 f1 e0 hc9 hn1 HQ HQl
    go_wp2_with (fail)
    go_loopg [8, 9] Q.length (fun g s i wr => ∃ (k n d : Nat), k ≤ Q.length ∧ g = Q.length - k ∧ i = .int .i64 k ∧ LineInv S p w.heap.size start Q w wr k n d s)
    case atStart => exact ⟨0, 0, 0, Nat.zero_le _, rfl, rfl, inv⟩
    case round =>
      clear inv
      obtain ⟨k, n, d, hk, rfl, rfl, inv⟩ := hrel
      have hbe := inv.be
      have h8 := hbe.open8
      have h5 := hbe.got5
      have hBs := inv.fr.size
      obtain ⟨av, cv, rfl, hnc, hcm⟩ := inv.own.shape
      by_cases hlt : k < Q.length
      · obtain ⟨ba, oa, rfl, c0⟩ := Txt.at_ (Txt.kept htQ inv.fr) hlt
        obtain ⟨x, hx⟩ : ∃ x, x = Q[k] := ⟨_, rfl⟩
        rw [← hx] at c0
        have hkd : ((Q.take k).drop d).length < 12 := by simp; omega
        have htk : (Q.take k).drop d ++ [x] = (Q.take (k + 1)).drop d := by
          have h1 := hbe.dg; have h2 := hbe.gk
          rw [hx, List.take_succ_eq_append_getElem hlt, List.drop_append_of_le_length (by simp; omega)]
        have Htk := Lib.hid htk
        clear hx htk
        go_wp2_with (fail)
        refine (led_send_ok _ inv.led hkd).mono ?_
        rw [Htk.out]
        rintro e w3 ⟨rfl, g3, f3⟩
        have F3 : Fr (FromB w.heap.size) w w3 := inv.fr.trans' (f3.from_ hS')
        have own3 := inv.own.fr f3 inv.apart
        have hdg := hbe.dg
        have hgk := hbe.gk
        go_upto_if 40 with (fail)
        go_cut [10] (fun s wx => ∃ q : Nat, q ≤ 3 ∧ s = .int .i64 q ∧ w3 = wx)
        case first =>
          by_cases hb : k < bs.length
          · obtain ⟨bb, ob, rfl, c1⟩ := Ints.at_ (Ints.kept t2 F3) hb
            obtain ⟨q, hq, e⟩ := umod bs[k] 4 (by omega) (by omega)
            have e' : wrap64 ((IntKind.u64.wrap bs[k]).tmod 4) = (q : Int) := e
            clear e
            go_wp2_with (fail)
            go_meet
            case rel => exact ⟨q, by omega, congrArg _ e', rfl⟩
          · go_wp2_with (fail)
            go_meet
            case rel => exact ⟨0, by omega, rfl, rfl⟩
        case rest =>
          obtain ⟨q, hq, rfl, rfl⟩ := hcut
          go_upto_region 14 with (fail)
          go_cut [54] (fun s wx => s = .bool (decide (0 < q ∧ 0 < k % 3)) ∧ w3 = wx)
          case first =>
            have q3 : ((k : Int).tmod 3) = ((k % 3 : Nat) : Int) := rfl
            by_cases hq0 : 0 < q
            · have q1 : (0 : Int) < q := by omega
              by_cases hk3 : 0 < k % 3
              · go_wp2_with (fail)
                go_meet
                case rel => exact ⟨by simp [hq0, hk3]; omega, rfl⟩
              · go_wp2_with (fail)
                go_meet
                case rel => exact ⟨by simp [hq0, hk3]; omega, rfl⟩
            · have q1 : ¬ (0 : Int) < q := by omega
              go_wp2_with (fail)
              go_meet
              case rel => exact ⟨by simp [hq0], rfl⟩
          case rest =>
            obtain ⟨rfl, rfl⟩ := hcut
            by_cases hsk : 0 < q ∧ 0 < k % 3
            · rw [decide_eq_true hsk]
              go_wp2_with (fail)
              go_roundg (Q.length - (k + 1))
              case measure => omega
              case rel => exact ⟨k + 1, n, d, by omega, rfl, by go_num, ⟨g3, own3, inv.apart, inv.inB, F3, hbe.skip hsk.2⟩⟩
            · rw [decide_eq_false hsk]
              obtain ⟨M, hM⟩ : ∃ M, M = (Q.take (k + 1)).drop n := ⟨_, rfl⟩
              have HM := Lib.hid hM
              have hMl : M.length = k + 1 - n := by rw [hM]; simp; omega
              have HMl := Lib.hid hMl
              have hM2 : M = ((Q.take (k + 1)).drop d).drop (n - d) := by rw [hM, List.drop_drop]; congr 1; omega
              have hj : w32 (w32 (start + n) - w32 (start + d)) = ((n - d : Nat) : Int) := by
                rw [w32_sub, w32_sub', show start + (n : Int) - (start + d) = ((n - d : Nat) : Int) by omega]; exact w32_of (by omega) (by omega)
              have hle : n - d ≤ ((Q.take (k + 1)).drop d).length := by simp; omega
              obtain ⟨j, hjm⟩ : ∃ j, j = M.length - q := ⟨_, rfl⟩
              have hjM : j ≤ M.length := by omega
              have hM6 : M.length ≤ 6 := by omega
              have e1 : IntKind.i64.wrap ((M.length : Int) - q) = (M.length : Int) - q := IntWalk.i64_in _ (by omega)
              have e2 : (if (M.length : Int) - q < 0 then 0 else (M.length : Int) - q) = (j : Int) := by split <;> omega
              have e3 : ¬ ((9 : Int) < M.length) := by omega
              have Hjm := Lib.hid hjm
              have Hj := Lib.hid hj
              have HM2 := Lib.hid hM2
              clear hjm hj hM2 hM hMl
              go_wp2_with (fail)
              refine (ref_add start n _ hd).mono ?_
              rintro e w4 ⟨rfl, rfl⟩
              go_wp2_with (fail)
              refine (led_again_ok (w32 (start + n)) (n - d) M g3 (U32.w _) Hj.out hle HM2.out).mono ?_
              rintro e w5 ⟨a5, rfl, t5, b5, z5, g5, f5⟩
              have own5 := own3.fr f5 inv.apart
              have hsl : Sl w5 a5 ((M.take j).map Value.string) := by have := Sl.take t5 j; rw [← List.map_take] at this; exact this
              have hno : a5 = none → j = 0 ∧ M.length = 0 := fun h => by have := z5 h; subst this; simp at hjM; simp; omega
              have hml : ((M.take j).map Value.string).length = j * 1 := by simp; omega
              go_wp2_with (at_builtin; go_must (refine wpList_append_fp rfl (.tmp 66) (.tmp 73) 33 rfl 9 i0 (.string ByteArray.empty) 1 16 Try.underlying33 Hi.out Hz0.out Hz1.out Hz2.out rfl (by decide) _ _ _ rfl own5 _ j M.length ((M.take j).map Value.string) rfl hml hno hsl (one_texts _) (by unfold maxLen; omega) (by omega) ?_))
              intro v7 w7 o7 f7 n7 s7 _
              obtain ⟨a7, c7, rfl, _, _⟩ := o7.shape
              go_wp2_with (fail)
              go_roundg (Q.length - (k + 1))
              case measure => omega
              case rel =>
                have hB5 : ∀ x, S x → x < w5.heap.size := fun x h => g5.lt h
                have hMl := HMl.out
                have hjm := Hjm.out
                refine ⟨k + 1, n + j, n, by omega, rfl, by go_num, ⟨(HM.out ▸ g5).fr f7 (fun x h1 h2 => inv.apart x h2 h1), ?_, fun x hx hs => ?_, fun x hx => ?_, (F3.trans' (f5.from_ hS')).trans' (f7.from_ inv.inB), ?_⟩⟩
                · have e : (Q.take n).map Value.string ++ (M.take j).map Value.string = (Q.take (n + j)).map Value.string := by
                    rw [← List.map_append, HM.out, List.drop_take, List.take_take, List.take_add, show min j (k + 1 - n) = j by omega]
                  rw [← e, List.map_take, List.map_take]; exact o7
                · rcases n7 x hx with h1 | h1
                  · exact inv.apart x h1 hs
                  · have := hB5 x hs; omega
                · rcases n7 x hx with h1 | h1
                  · exact inv.inB x h1
                  · have := (F3.trans' (f5.from_ hS')).size; omega
                · have := hbe.again (x := q) hq (by omega)
                  rw [hjm, hMl]; exact this
      · obtain rfl : k = Q.length := by omega
        have hdg := hbe.dg
        have hgk := hbe.gk
        obtain ⟨M, hM⟩ : ∃ M, M = Q.drop n := ⟨_, rfl⟩
        have HM := Lib.hid hM
        have hMl : M.length = Q.length - n := by rw [hM]; simp
        have led : IsLed S wr p 12 (w32 (start + d)) start (Q.drop d) := by have := inv.led; rwa [List.take_length] at this
        have hM2 : M = (Q.drop d).drop (n - d) := by rw [hM, List.drop_drop]; congr 1; omega
        have hj : w32 (w32 (start + n) - w32 (start + d)) = ((n - d : Nat) : Int) := by
          rw [w32_sub, w32_sub', show start + (n : Int) - (start + d) = ((n - d : Nat) : Int) by omega]; exact w32_of (by omega) (by omega)
        have hle : n - d ≤ (Q.drop d).length := by simp; omega
        have Hj := Lib.hid hj
        have HM2 := Lib.hid hM2
        have hQM : n + M.length = Q.length := by omega
        have HQM := Lib.hid hQM
        have hM9 : n + M.length ≤ 100 := by omega
        clear hj hM2 hM hMl hQM
        go_wp2_with (fail)
        refine (ref_add start n _ hd).mono ?_
        rintro e w4 ⟨rfl, rfl⟩
        go_wp2_with (fail)
        refine (led_again_ok (w32 (start + n)) (n - d) M led (U32.w _) Hj.out hle HM2.out).mono ?_
        rintro e w5 ⟨a5, rfl, t5, b5, z5, g5, f5⟩
        have own5 := inv.own.fr f5 inv.apart
        have hsl : Sl w5 a5 (M.map Value.string) := t5
        have hno : a5 = none → M.length = 0 ∧ M.length = 0 := fun h => by have := z5 h; subst this; simp
        have hml : (M.map Value.string).length = M.length * 1 := by simp
        go_wp2_with (at_builtin; go_must (refine wpList_append_fp rfl (.tmp 96) (.tmp 97) 33 rfl 9 i0 (.string ByteArray.empty) 1 16 Try.underlying33 Hi.out Hz0.out Hz1.out Hz2.out rfl (by decide) _ _ _ rfl own5 _ M.length M.length (M.map Value.string) rfl hml hno hsl (one_texts _) (by unfold maxLen; omega) (by omega) ?_))
        intro v7 w7 o7 f7 n7 s7 _
        obtain ⟨a7, c7, rfl, _, _⟩ := o7.shape
        have F7 : Fr (FromB w.heap.size) w w7 := (inv.fr.trans' (f5.from_ hS')).trans' (f7.from_ inv.inB)
        have t7 : Txt w7 a7 Q := by
          have := o7.sl.2
          rw [← List.map_take, ← List.map_append, HM.out, List.take_append_drop] at this
          exact this
        have tq7 := Txt.kept htQ F7
        have hQM := HQM.out
        rw [hQM]
        clear HQM hQM o7
        go_wp2_with (fail)
        refine (same_yes a7 a Q _ _ _ (by exact t7) (by exact tq7) (by unfold maxLen; omega)).mono ?_
        rintro e w8 ⟨rfl, m8, rfl⟩
        go_wp2_with (fail)
        go_ret
        exact ⟨rfl, (F7.trans' (Fr.drewN _ _ _)).belowB⟩

end Go.Proofs.Ytgeibjmpcgkagaa
