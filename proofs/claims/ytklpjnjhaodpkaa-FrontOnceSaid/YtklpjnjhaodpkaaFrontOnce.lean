/- FrontOnce answers true of every input, and changes no argument. No condition. -/
import Derived.Test.YtklpjnjhaodpkaaFrontQ
namespace Go.Proofs.Ytklpjnjhaodpkaa
open Go.RowKit

/-- A step's cells. -/
abbrev lineCells (x : LineR) : List Value := [.string x.from_, .string x.text, .bool x.waits, .bool x.idle, .int .i64 x.lost, .bool x.break_, .bool x.agree]

/-- A step's middle: the same list of all in both, and with who has it. -/
def OnceMid (w : World) (p q k ob : Nat) (cs : List Value) (u : Value) (O : List ByteArray) (v : Value) (wx : World) : Prop :=
  ∃ (r : RS) (Sf Sr : Nat → Prop) (t : Nat → Nat), (r.keeps = true ∧ r.over = false ∧ r.A.length + r.C.length ≤ k + 1) ∧ QI w Sf Sr p q (J r) r v u r.A O (some (ob, cs)) t wx

set_option maxRecDepth 100000 in
set_option maxHeartbeats 8000000 in
theorem frontonce_any (a : Option Addr) (D : List LineR) (ca : Nat) (w : World) (ha : D.length ≤ ca) (hca : ca ≤ maxLen) (ta : Recs LineR.cells 7 w a D) (za : ∀ x ∈ D, x.Good) :
    Calls Try.prog 6 #[.slice a D.length ca] w fun e w' => e = .returned (.bool true) ∧ Below w.heap.size w w' := by
  have hD9 : (D.length : Int) ≤ 9223372036854775807 := by unfold maxLen at hca; omega
  obtain ⟨i0, hi, hz0, hz1, hz2⟩ := info_parts Try.infoText
  have Hz2 := Lib.hid hz2
  have Hz1 := Lib.hid hz1
  have Hz0 := Lib.hid hz0
  have Hi := Lib.hid hi
  have Ht := Lib.hid ta
  have Hz := Lib.hid za
  clear ta za hca ha hz2 hz1 hz0 hi
  go_enter Try.func6, Try.ntmps6
  go_wp2_with (fail)
  refine (front_lives _).mono ?_
  rintro e w1 ⟨rfl, f1⟩
  go_wp2_with (fail)
  refine (front_new _).mono ?_
  rintro e w2 ⟨p, S, rfl, h2, hS, f2⟩
  go_wp2_with (fail)
  refine (rf_new _).mono ?_
  rintro e w3 ⟨q, T, rfl, h3, hT, f3⟩
  have q3 : QI w S T p q ⟨none, [], false, false, false⟩ ⟨false, [], 0, [], false, false⟩ (.slice none 0 0) (.slice none 0 0) [] [] none (fun k => if k < w2.heap.size then 1 else 2) w3 := by
    have no : ∀ k, ¬ InBlock (.slice none 0 0) k := fun k hk => by simp [InBlock, Value.ownBlock] at hk
    refine ⟨h2.quiet f3, h3, Owns.nil _ _ _, Owns.nil _ _ _, fun x hx => by simp at hx, fun k hk => ⟨if_pos (h2.lt hk), Nat.le_trans f1.size (hS k hk)⟩, fun k hk => ⟨if_neg (by have := hT k hk; omega), Nat.le_trans (Nat.le_trans f1.size f2.size) (hT k hk)⟩, fun k hk => absurd hk (no k), fun k hk => absurd hk (no k), (f1.fromN.trans' f2.fromN).trans' f3.fromN⟩
  clear h2 hS h3 hT f1 f2 f3
  go_wp2_with (fail)
  refine (front_keep q3.f).mono ?_
  rintro e w4 ⟨rfl, S4, g4, gs4, gf4⟩
  rw [kept_keep] at g4 ⊢
  have q4 := q3.onF g4 gs4 gf4
  clear q3 g4 gs4 gf4
  go_wp2_with (fail)
  refine (rf_keep q4.r).mono ?_
  rintro e w5 ⟨rfl, g5⟩
  obtain ⟨T5, q5⟩ := q4.onR g5
  clear g5 q4
  obtain ⟨tag5, htag⟩ : ∃ t, t = retag w4 (retag w3 (fun k => if k < w2.heap.size then 1 else 2) 1) 2 := ⟨_, rfl⟩
  rw [← htag] at q5
  have q5 : QI w S4 T5 p q (J ⟨true, [], 0, [], false, false⟩) ⟨true, [], 0, [], false, false⟩ (.slice none 0 0) (.slice none 0 0) [] [] none tag5 w5 := q5
  have Q5 := Lib.hid q5
  clear q5 htag
  go_wp2_with (fail)
  go_loopg [5, 6] 80 (fun g v i wr => ∃ (k : Nat) (r : RS) (Sf Sr : Nat → Prop) (tag : Nat → Nat), k ≤ D.length ∧ k ≤ 80 ∧ g = 80 - k ∧ i = .int .i64 k ∧ Hid (r.keeps = true ∧ r.over = false ∧ r.A.length + r.C.length ≤ k) ∧ QI w Sf Sr p q (J r) r v (.slice none 0 0) r.A [] none tag wr)
  case atStart => exact ⟨0, _, S4, T5, tag5, Nat.zero_le _, by omega, rfl, rfl, ⟨rfl, rfl, by decide⟩, Q5.out⟩
  case round =>
    clear Q5
    obtain ⟨k, r, Sf, Sr, tag, hkD, hk80, rfl, rfl, Hr, q0⟩ := hrel
    have kI : (k : Int) ≤ D.length := by omega
    by_cases hlt : k < D.length
    · by_cases h80 : k < 80
      · obtain ⟨b1, o1, rfl, hc⟩ := Recs.at_ (Ht.out.kept q0.fr) hlt
        have hg := Hz.out D[k] (List.getElem_mem hlt)
        obtain ⟨x, hx⟩ : ∃ x, x = D[k] := ⟨_, rfl⟩
        rw [← hx] at hc hg
        have c0 : wr.cell? ⟨b1, o1 + k * 7, none⟩ = some (.string x.from_) := hc 0 _ rfl
        have c1 : wr.cell? ⟨b1, o1 + k * 7 + 1, none⟩ = some (.string x.text) := hc 1 _ rfl
        have c2 : wr.cell? ⟨b1, o1 + k * 7 + 2, none⟩ = some (.bool x.waits) := hc 2 _ rfl
        have c3 : wr.cell? ⟨b1, o1 + k * 7 + 3, none⟩ = some (.bool x.idle) := hc 3 _ rfl
        have c4 : wr.cell? ⟨b1, o1 + k * 7 + 4, none⟩ = some (.int .i64 x.lost) := hc 4 _ rfl
        have c5 : wr.cell? ⟨b1, o1 + k * 7 + 5, none⟩ = some (.bool x.break_) := hc 5 _ rfl
        have c6 : wr.cell? ⟨b1, o1 + k * 7 + 6, none⟩ = some (.bool x.agree) := hc 6 _ rfl
        have q1 := q0.withRow (lineCells x)
        have Hg := Lib.hid hg
        obtain ⟨ob, hob⟩ : ∃ ob, ob = wr.heap.size := ⟨_, rfl⟩
        have Q1 := Lib.hid q1
        clear hc hg hx q0 q1
        go_wp2_with (fail)
        rw [← hob]
        have hkp := Hr.out.1
        have hov := Hr.out.2.1
        have htot := Hr.out.2.2
        have q1 := Q1.out
        have hdone : r.done ≤ r.A.length := q1.r.doneLe
        rw [← hob] at q1
        clear hob
        have hri := rf_idle x.idle q1.r hkp (by omega)
        obtain ⟨hB1, ht1⟩ := both_idle hdone hov x.idle
        obtain ⟨y1, hy1⟩ : ∃ y1, y1 = r.setIdle x.idle := ⟨_, rfl⟩
        obtain ⟨o1', ho1⟩ : ∃ o1', o1' = ((J r).setIdle x.idle).1 := ⟨_, rfl⟩
        rw [← hy1] at hB1 ht1 hri
        have hfi : ∀ w7 Sf', IsFront Sf' w7 p (J r) → Calls Try.prog 9 #[.pointer (some ⟨p, 0, none⟩), .bool x.idle] w7 (FTold Sf' p w7 o1' y1.1 (J y1.2)) := fun w7 Sf' h => by
          have := front_idle x.idle h
          unfold FSaid at this
          rw [hB1.num, hB1.st, ← ho1] at this
          exact this
        have hA1 : y1.2.A = r.A ++ o1' := by rw [ho1]; exact hB1.all
        have hd1 : y1.2.done = r.done := hB1.done
        have hk1 : y1.2.keeps = true := hB1.keeps.trans hkp
        have hc1 := hB1.over
        clear hB1 ho1 hy1 Q1
        obtain ⟨e1, r1⟩ := y1
        simp only at hri hfi hA1 hd1 hk1 ht1 hc1
        have Q1 := Lib.hid q1
        have Hfi := Lib.hid hfi
        have HA1 := Lib.hid hA1
        have Hd1 := Lib.hid hd1
        have Hk1 := Lib.hid hk1
        have Hdone := Lib.hid hdone
        have Htot := Lib.hid (And.intro htot ht1)
        clear q1 hfi hA1 hd1 hk1 hkp hov hdone htot ht1
        refine hri.mono ?_
        rintro e w7 ⟨v7, rfl, g7⟩
        obtain ⟨Sr7, q7⟩ := Q1.out.onR g7
        have Q7 := Lib.hid q7
        clear g7 q7 hri
        have d3 := (Q7.out.row _ rfl).1.cell 3 rfl
        go_wp2_with (fail)
        refine (Hfi.out w7 Sf Q7.out.f).mono ?_
        intro e w8 g8
        obtain ⟨a8, ca8, Sf8, tag8, rfl, q8⟩ := Q7.out.told g8
        have Q8 := Lib.hid q8
        clear g8 q8 d3
        rcases hc1 with ⟨rfl, hov1⟩ | ⟨rfl, hov1⟩
        · have hrow8 := (Q8.out.row _ rfl).1
          have e0 := hrow8.cell 0 rfl
          have e1 := hrow8.cell 1 rfl
          have e2 := hrow8.cell 2 rfl
          have hgx := Hg.out
          have hnd : (r1.C.map Prod.fst).Nodup := Q8.out.f.calmNd
          have hdone1 : r1.done ≤ r1.A.length := Q8.out.r.doneLe
          have hrp := rf_put x.from_ x.text x.waits Q8.out.r Hk1.out hnd (by have := Htot.out; omega)
          obtain ⟨hB2, ht2⟩ := both_put hdone1 hov1 x.from_ x.text x.waits
          obtain ⟨y2, hy2⟩ : ∃ y2, y2 = r1.put x.from_ x.text x.waits := ⟨_, rfl⟩
          obtain ⟨o2', ho2⟩ : ∃ o2', o2' = ((J r1).put x.from_ x.text x.waits).1 := ⟨_, rfl⟩
          rw [← hy2] at hB2 ht2 hrp
          have hfp : ∀ w7 Sf', IsFront Sf' w7 p (J r1) → Calls Try.prog 11 #[.pointer (some ⟨p, 0, none⟩), .string x.from_, .string x.text, .bool x.waits] w7 (FTold Sf' p w7 o2' y2.1 (J y2.2)) := fun w7 Sf' h => by
            have := front_put x.from_ x.text x.waits h hgx.1 hgx.2.1
            unfold FSaid at this
            rw [hB2.num, hB2.st, ← ho2] at this
            exact this
          have hA2 : y2.2.A = r1.A ++ o2' := by rw [ho2]; exact hB2.all
          have hd2 : y2.2.done = r1.done := hB2.done
          have hk2 : y2.2.keeps = true := hB2.keeps.trans Hk1.out
          have hc2 := hB2.over
          clear hB2 ho2 hy2
          obtain ⟨en2, r2⟩ := y2
          simp only at hrp hfp hA2 hd2 hk2 ht2 hc2
          have Hfp := Lib.hid hfp
          have HA2 := Lib.hid hA2
          have Hd2 := Lib.hid hd2
          have Hk2 := Lib.hid hk2
          have Ht2 := Lib.hid ht2
          clear hrow8 hfp hA2 hd2 hk2 ht2 hdone1 hnd hgx
          go_wp2_with (fail)
          refine hrp.mono ?_
          rintro e w9 ⟨v9, rfl, g9⟩
          obtain ⟨Sr9, q9⟩ := Q8.out.onR g9
          have Q9 := Lib.hid q9
          clear g9 q9 hrp e0 e1 e2
          have hrow9 := (Q9.out.row _ rfl).1
          have e0 := hrow9.cell 0 rfl
          have e1 := hrow9.cell 1 rfl
          have e2 := hrow9.cell 2 rfl
          clear hrow9
          go_wp2_with (fail)
          refine (Hfp.out w9 Sf8 Q9.out.f).mono ?_
          rintro e w10 ⟨a10, ca10, Sf10, rfl, own10, new10, hf10, hS10, hd10, F10⟩
          have q10 := Q9.out.onF hf10 hS10 F10
          have hsl10 := own10.sl.2
          have hLA : r2.A.length ≤ 90 := by have := Ht2.out; have := Htot.out; omega
          have hA12 : r2.A = r.A ++ (o1' ++ o2') := by rw [HA2.out, HA1.out, List.append_assoc]
          have hlen12 : r2.A.length = r.A.length + (o1'.length + o2'.length) := by rw [hA12]; simp
          have hz10 : a10 = none → o2'.length = 0 ∧ ca10 = 0 := fun e => by
            subst e
            rcases own10.2 with ⟨h2, h3⟩ | ⟨g, cap, cur, h2, _⟩
            · simp only [Value.slice.injEq] at h2; exact ⟨h2.2.1, h2.2.2⟩
            · simp at h2
          have hou := q10.ou
          have Q10 := Lib.hid q10
          have HA12 := Lib.hid hA12
          have Hlen12 := Lib.hid hlen12
          have HLA := Lib.hid hLA
          have hb1 : o1'.length + o2'.length ≤ 90 := by omega
          clear q10 own10 new10 hf10 hS10 hd10 F10 e0 e1 e2 hA12 hlen12 hLA
          go_wp2_with (at_builtin; go_must (refine wpList_append_fp rfl (.tmp 81) (.tmp 82) 28 rfl 9 i0 (.string ByteArray.empty) 1 16 Try.underlying28 Hi.out Hz0.out Hz1.out Hz2.out rfl (by decide) _ o1'.length (o1'.map Value.string) rfl hou a10 o2'.length ca10 (o2'.map Value.string) rfl (by simp) hz10 hsl10 (one_texts _) (by unfold maxLen; omega) (by omega) ?_))
          intro v11 w11 o11' f11 n11 s11 _
          obtain ⟨O, hO⟩ : ∃ O, O = o1' ++ o2' := ⟨_, rfl⟩
          have hOl : O.length = o1'.length + o2'.length := by rw [hO]; simp
          have o11 : Owns w11 9 1 v11 O.length (O.map Value.string) := by rw [hOl, hO]; simpa using o11'
          have q11 := Q10.out.onU o11 f11 n11
          obtain ⟨a11, c11, rfl, _, _⟩ := o11.shape
          obtain ⟨tag11, hq11⟩ : ∃ t, QI w Sf10 Sr9 p q (J r2) r2 u5 (.slice a11 O.length c11) r.A O (some (ob, lineCells x)) t w11 := ⟨_, q11⟩
          have hA : r2.A = r.A ++ O := by rw [hO]; exact HA12.out
          have Q11 := Lib.hid hq11
          have HA := Lib.hid hA
          have HOl := Lib.hid hOl
          have hO90 : O.length ≤ 90 := by omega
          clear hO hOl o11' o11 f11 n11 s11 q11 hq11 hA hou hsl10 hz10 hb1
          rcases hc2 with ⟨rfl, hov2⟩ | ⟨rfl, hov2⟩
          · have hrow11 := (Q11.out.row _ rfl).1
            have d4 := hrow11.cell 4 rfl
            obtain ⟨n4, hn4, en4'⟩ := umod x.lost 4 (by omega) (by omega)
            have en4 : wrap64 ((IntKind.u64.wrap x.lost).tmod 4) = (n4 : Int) := en4'
            obtain ⟨ls, hls⟩ : ∃ ls, ls = min n4 O.length := ⟨_, rfl⟩
            have hmin : min (n4 : Int) (O.length : Int) = (ls : Int) := by omega
            have hlsO : ls ≤ O.length := by omega
            have hlsI : (ls : Int) ≤ (O.length : Int) := by omega
            have hto : ((O.length : Int) - (ls : Int)).toNat = O.length - ls := by omega
            have hrA : r.A.length ≤ 90 := by have := Htot.out; omega
            have hov := Q11.out.ov
            have hsu : Sl w11 a11 ((O.take (O.length - ls)).map Value.string) := by rw [List.map_take]; exact Sl.take (Owns.sl Q11.out.ou).2 _
            have hzu : a11 = none → O.length - ls = 0 ∧ c11 = 0 := fun e => by
              subst e
              rcases Q11.out.ou.2 with ⟨h2, h3⟩ | ⟨g, cap, cur, h2, _⟩
              · simp only [Value.slice.injEq] at h2; exact ⟨by omega, h2.2.2⟩
              · simp at h2
            have hoc : O.length ≤ c11 := by
              obtain ⟨a', c', e', h1, _⟩ := Owns.shape Q11.out.ou
              simp only [Value.slice.injEq] at e'
              omega
            clear en4' hls hrow11
            go_upto_region 24 with (at_builtin; go_must (refine wpList_append_fp rfl (.tmp 102) (.tmp 108) 28 rfl 9 i0 (.string ByteArray.empty) 1 16 Try.underlying28 Hi.out Hz0.out Hz1.out Hz2.out rfl (by decide) _ r.A.length (r.A.map Value.string) rfl hov a11 (O.length - ls) c11 ((O.take (O.length - ls)).map Value.string) rfl (by simp) hzu hsu (one_texts _) (by unfold maxLen; omega) (by omega) ?_))
            intro v12 w12 o12' f12 n12 s12 _
            have hA12 : (r.A ++ O.take (O.length - ls)).length = r.A.length + (O.length - ls) := by simp
            have o12 : Owns w12 9 1 v12 (r.A ++ O.take (O.length - ls)).length ((r.A ++ O.take (O.length - ls)).map Value.string) := by rw [hA12, List.map_append, List.map_take]; exact o12'
            have q12 := Q11.out.onV o12 f12 n12
            obtain ⟨A', hA'⟩ : ∃ A', A' = r.A ++ O.take (O.length - ls) := ⟨_, rfl⟩
            rw [← hA'] at o12 q12 hA12
            obtain ⟨a12, c12, rfl, _, _⟩ := o12.shape
            obtain ⟨tag12, hq12⟩ : ∃ t, QI w Sf10 Sr9 p q (J r2) r2 (.slice a12 A'.length c12) (.slice a11 O.length c11) A' O (some (ob, lineCells x)) t w12 := ⟨_, q12⟩
            have hA2 : r2.A = A' ++ O.drop (O.length - ls) := by rw [HA.out, hA', List.append_assoc, List.take_append_drop]
            have hd2' : r2.done ≤ A'.length := by rw [hA12, Hd2.out, Hd1.out]; have := Hdone.out; omega
            have hl2 : r2.A.length = A'.length + (O.length - (O.length - ls)) := by rw [hA2]; simp
            have Q12 := Lib.hid hq12
            have HA2' := Lib.hid hA2
            have Hd2' := Lib.hid hd2'
            have Hl2 := Lib.hid hl2
            have HA'l := Lib.hid hA12
            obtain ⟨bb, hbb⟩ : ∃ bb, bb = (decide (0 < ls) || x.break_) := ⟨_, rfl⟩
            have d5 := (hq12.row _ rfl).1.cell 5 rfl
            clear o12' o12 f12 n12 s12 q12 hq12 hov hsu hzu hA12 d4 en4 hmin hto hA2 hd2' hl2 hA'
            go_upto_region 24 with (fail)
            go_cut [115] (fun t wx => t = .bool bb ∧ w12 = wx)
            case first =>
              by_cases h0 : 0 < ls
              · have h1 : bb = true := by rw [hbb, decide_eq_true h0]; rfl
                have h0I : (0 : Int) < (ls : Int) := by omega
                subst h1
                clear hbb
                go_wp2_with (fail)
                go_meet
                case rel => exact ⟨rfl, rfl⟩
              · have h1 : bb = x.break_ := by rw [hbb, decide_eq_false h0]; rfl
                have h0I : ¬ ((0 : Int) < (ls : Int)) := by omega
                subst h1
                clear hbb
                go_wp2_with (fail)
                go_meet
                case rel => exact ⟨rfl, rfl⟩
            case rest =>
              obtain ⟨rfl, rfl⟩ := hcut
              have Hbb := Lib.hid hbb
              clear hbb d5
              go_upto_if 115 with (fail)
              go_cut [5] (fun v wx => OnceMid w p q k ob (lineCells x) (.slice a11 O.length c11) O v wx)
              case first =>
                cases bb with
                | false =>
                  have hls0 : ls = 0 := by
                    rcases Nat.eq_zero_or_pos ls with h | h
                    · exact h
                    · have := Hbb.out; rw [decide_eq_true h] at this; simp at this
                  have hAA : A' = r2.A := by rw [HA2'.out, hls0]; simp
                  have rel : OnceMid w p q k ob (lineCells x) (.slice a11 O.length c11) O (.slice a12 A'.length c12) w12 :=
                    ⟨r2, Sf10, Sr9, tag12, ⟨Hk2.out, hov2, by have := Ht2.out; have := Htot.out; omega⟩, by rw [← hAA] at *; exact Q12.out⟩
                  have Rel := Lib.hid rel
                  clear rel hAA hls0
                  go_wp2_with (fail)
                  go_meet
                  case rel => exact Rel.out
                | true =>
                  have hlv := front_leave Q12.out.f
                  rw [J_leave hov2] at hlv
                  go_wp2_with (fail)
                  refine hlv.mono ?_
                  rintro e w13 ⟨rfl, S13, h13, hS13, f13⟩
                  have q13 := Q12.out.onF h13 hS13 f13
                  have Q13 := Lib.hid q13
                  have hth : Calls Try.prog 22 #[.pointer (some ⟨p, 0, none⟩)] w13 fun e w' => e = .returned (.bool false) ∧ w13 = w' := by
                    have h := front_there q13.f
                    have e : (!({ J r2 with away := true } : FS).over && !({ J r2 with away := true } : FS).away) = false := by simp
                    rw [e] at h; exact h
                  clear q13 hlv h13 hS13 f13
                  go_wp2_with (fail)
                  refine hth.mono ?_
                  rintro e w13' ⟨rfl, rfl⟩
                  have hAr : A'.length ≤ r2.A.length := by rw [Hl2.out]; omega
                  have hA90 : r2.A.length ≤ 90 := by have := Ht2.out; have := Htot.out; omega
                  have hAI : (A'.length : Int) ≤ 90 := by omega
                  have hbk := front_back (A'.length : Int) ⟨by omega, by omega⟩ Q13.out.f
                  rw [J_back hov2 Hd2'.out hAr (by omega)] at hbk
                  clear hth
                  go_wp2_with (fail)
                  refine hbk.mono ?_
                  rintro e w14 ⟨a14, c14, S14, rfl, ht14, hz14, hn14, hf14, hS14, hd14, f14⟩
                  simp only at ht14 hz14 hn14 hf14 hd14 ⊢
                  have q14 := Q13.out.onF hf14 hS14 f14
                  have hth : Calls Try.prog 22 #[.pointer (some ⟨p, 0, none⟩)] w14 fun e w' => e = .returned (.bool true) ∧ w14 = w' := by
                    have h := front_there q14.f
                    have e : (!(J { r2 with done := A'.length }).over && !(J { r2 with done := A'.length }).away) = true := by
                      show (!r2.over && !false) = true
                      rw [hov2]; rfl
                    rw [e] at h; exact h
                  obtain ⟨B, hB⟩ : ∃ B, B = r2.A.drop A'.length := ⟨_, rfl⟩
                  rw [← hB] at ht14 hz14 ⊢
                  have hBl : r2.A.length = A'.length + B.length := by rw [hB, List.length_drop]; omega
                  have hAB : A' ++ B = r2.A := by rw [hB, HA2'.out, List.drop_left]
                  have hov14 := q14.ov
                  have hBI : (B.length : Int) ≤ 90 := by omega
                  have ht14 : Sl w14 a14 (B.map Value.string) := ht14
                  have Q14 := Lib.hid q14
                  have HBl := Lib.hid hBl
                  have HAB := Lib.hid hAB
                  have hBn : B.length ≤ 90 := by omega
                  clear hn14 hf14 hS14 hd14 f14 hB hbk q14 hBl hAB
                  go_wp2_with (fail)
                  refine hth.mono ?_
                  rintro e w14' ⟨rfl, rfl⟩
                  go_wp2_with (at_builtin; go_must (refine wpList_append_fp rfl (.tmp 138) (.tmp 139) 28 rfl 9 i0 (.string ByteArray.empty) 1 16 Try.underlying28 Hi.out Hz0.out Hz1.out Hz2.out rfl (by decide) _ A'.length (A'.map Value.string) rfl hov14 a14 B.length c14 (B.map Value.string) rfl (by simp) hz14 ht14 (one_texts _) (by unfold maxLen; omega) (by omega) ?_))
                  intro v15 w15 o15' f15 n15 s15 _
                  have o15 : Owns w15 9 1 v15 r2.A.length (r2.A.map Value.string) := by rw [HBl.out, ← HAB.out, List.map_append]; exact o15'
                  have q15 := Q14.out.onV o15 f15 n15
                  obtain ⟨a15, c15, rfl, _, _⟩ := o15.shape
                  have hsub : (r2.A.length : Int) - (B.length : Int) = (A'.length : Int) := by have := HBl.out; omega
                  have hcf := rf_confirm (A'.length : Int) (A'.length - r2.done) q15.r Hk2.out hov2 ⟨by omega, by omega⟩ (by have := Hd2'.out; unfold w32; omega) (by have := Hd2'.out; omega)
                  rw [show r2.done + (A'.length - r2.done) = A'.length from by have := Hd2'.out; omega] at hcf
                  have hrI : (r2.A.length : Int) ≤ 90 := by omega
                  have Q15 := Lib.hid q15
                  clear o15' o15 f15 n15 s15 q15 hov14 hth ht14 hz14
                  go_wp2_with (fail)
                  refine hcf.mono ?_
                  rintro e w16 ⟨rfl, g16⟩
                  obtain ⟨S16, q16⟩ := Q15.out.onR g16
                  have rel : OnceMid w p q k ob (lineCells x) (.slice a11 O.length c11) O (.slice a15 r2.A.length c15) w16 :=
                    ⟨{ r2 with done := A'.length }, S14, S16, _, ⟨Hk2.out, hov2, by have := Ht2.out; have := Htot.out; show r2.A.length + r2.C.length ≤ k + 1; omega⟩, q16⟩
                  have Rel := Lib.hid rel
                  clear rel g16 q16 hcf hsub
                  go_wp2_with (fail)
                  go_meet
                  case rel => exact Rel.out
              case rest =>
                obtain ⟨r3, S3, T3, t3, ⟨hk3, ho3, ht3⟩, q3⟩ := hcut
                obtain ⟨a3, c3', e3, _, _⟩ := q3.ov.shape
                subst e3
                have hrow3 := (q3.row _ rfl).1
                have d6 := hrow3.cell 6 rfl
                have hA3 : r3.A.length ≤ 90 := by omega
                have hd3 : r3.done ≤ r3.A.length := q3.r.doneLe
                have hA3I : (r3.A.length : Int) ≤ 90 := by omega
                have Q3 := Lib.hid q3
                have Hk3 := Lib.hid hk3
                have Ho3 := Lib.hid ho3
                have Ht3 := Lib.hid ht3
                clear hrow3 q3 hk3 ho3 ht3
                have fin : ∀ (r4 : RS) (S4 T4 : Nat → Prop) (t4 : Nat → Nat) (w4 : World), (r4.keeps = true ∧ r4.over = false ∧ r4.A.length + r4.C.length ≤ k + 1) → r4.A = r3.A →
                    QI w S4 T4 p q (J r4) r4 (.slice a3 r3.A.length c3') (.slice a11 O.length c11) r4.A O (some (ob, lineCells x)) t4 w4 →
                    ∃ aq cq, w4.cell? ⟨q, 6, none⟩ = some (.slice aq r3.A.length cq) ∧ (Calls Try.prog 12 #[.slice a3 r3.A.length c3', .slice aq r3.A.length cq] w4 fun e w' => e = .returned (.bool true) ∧ ∃ m, w' = w4.drewN m) := fun r4 S4 T4 t4 w4 _ hA q4 => by
                  obtain ⟨aq, cq, hc6, ht6⟩ := q4.allOf
                  have hs := Owns.sl q4.ov
                  rw [hA] at hc6 ht6 hs
                  exact ⟨aq, cq, hc6, same_yes a3 aq r3.A c3' cq w4 hs.2 ht6 (by unfold maxLen; omega)⟩
                have Fin := Lib.hid fin
                clear fin
                cases hag : x.agree with
                | false =>
                  rw [hag] at d6
                  obtain ⟨aq, cq, hc6, hsm⟩ := Fin.out r3 S3 T3 t3 _ ⟨Hk3.out, Ho3.out, Ht3.out⟩ rfl Q3.out
                  clear Fin
                  go_wp2_with (fail)
                  refine hsm.mono ?_
                  rintro e w4 ⟨rfl, n4', rfl⟩
                  go_wp2_with (fail)
                  go_roundg (80 - (k + 1))
                  case measure => omega
                  case rel => exact ⟨k + 1, r3, S3, T3, t3, by omega, by omega, rfl, by go_num, ⟨Hk3.out, Ho3.out, Ht3.out⟩, (Q3.out.drewN n4').drop⟩
                | true =>
                  rw [hag] at d6
                  have hcf := front_confirm (r3.A.length : Int) ⟨by omega, by omega⟩ Q3.out.f
                  rw [J_confirm Ho3.out hd3 (Nat.le_refl _) (by omega)] at hcf
                  go_wp2_with (fail)
                  refine hcf.mono ?_
                  rintro e w4 ⟨rfl, S4, h4, hS4, f4⟩
                  have q4 := Q3.out.onF h4 hS4 f4
                  have hcr := rf_confirm (r3.A.length : Int) (r3.A.length - r3.done) q4.r Hk3.out Ho3.out ⟨by omega, by omega⟩ (by unfold w32; omega) (by omega)
                  rw [show r3.done + (r3.A.length - r3.done) = r3.A.length from by omega] at hcr
                  have Q4 := Lib.hid q4
                  clear q4 h4 hS4 f4 hcf d6
                  go_wp2_with (fail)
                  refine hcr.mono ?_
                  rintro e w5 ⟨rfl, g5⟩
                  obtain ⟨T5, q5⟩ := Q4.out.onR g5
                  obtain ⟨aq, cq, hc6, hsm⟩ := Fin.out { r3 with done := r3.A.length } S4 T5 _ _ ⟨Hk3.out, Ho3.out, Ht3.out⟩ rfl q5
                  have Q5 := Lib.hid q5
                  clear Fin q5 g5 hcr
                  go_wp2_with (fail)
                  refine hsm.mono ?_
                  rintro e w6 ⟨rfl, n6, rfl⟩
                  go_wp2_with (fail)
                  go_roundg (80 - (k + 1))
                  case measure => omega
                  case rel => exact ⟨k + 1, { r3 with done := r3.A.length }, S4, T5, _, by omega, by omega, rfl, by go_num, ⟨Hk3.out, Ho3.out, Ht3.out⟩, (Q5.out.drewN n6).drop⟩
          · have hfo := front_over Q11.out.f
            rw [show (J r2).over = true from hov2] at hfo
            go_wp2_with (fail)
            refine hfo.mono ?_
            rintro e w12 ⟨rfl, rfl⟩
            go_wp2_with (fail)
            go_ret
            exact ⟨rfl, Q11.out.fr.belowB⟩
        · have hfo := front_over Q8.out.f
          rw [show (J r1).over = true from hov1] at hfo
          go_wp2_with (fail)
          refine hfo.mono ?_
          rintro e w9 ⟨rfl, rfl⟩
          go_wp2_with (fail)
          go_ret
          exact ⟨rfl, Q8.out.fr.belowB⟩
      · obtain rfl : k = 80 := by omega
        have Q0 := Lib.hid q0
        clear q0
        go_wp2_with (fail)
        go_ret
        exact ⟨rfl, Q0.out.fr.belowB⟩
    · obtain rfl : k = D.length := by omega
      have Q0 := Lib.hid q0
      clear q0
      go_wp2_with (fail)
      go_ret
      exact ⟨rfl, Q0.out.fr.belowB⟩
end Go.Proofs.Ytklpjnjhaodpkaa
