/- CalmLatest answers true for every input and changes no memory that was there. No condition. -/
import Derived.Test.YticklkjlccnedaaCalmOps
namespace Go.Proofs.Yticklkjlccnedaa
open Go.RowKit

/-- Of each name the last pair. -/
def lasts : List Pair → List Pair
  | [] => []
  | q :: r => if r.any (fun y => decide (y.1 = q.1)) = true then lasts r else q :: lasts r
theorem any_name (r : List Pair) (k : ByteArray) : (r.any (fun y => decide (y.1 = k)) = true) ↔ k ∈ r.map Prod.fst := by
  rw [List.any_eq_true]
  constructor
  · rintro ⟨y, hy, e⟩
    exact List.mem_map.2 ⟨y, hy, by simpa using e⟩
  · intro h
    obtain ⟨y, hy, e⟩ := List.mem_map.1 h
    exact ⟨y, hy, by simpa using e⟩
theorem lasts_len : ∀ l : List Pair, (lasts l).length ≤ l.length
  | [] => Nat.le_refl _
  | q :: r => by
    have := lasts_len r
    unfold lasts
    split <;> simp <;> omega
theorem lasts_cons_in {q : Pair} {r : List Pair} (h : q.1 ∈ r.map Prod.fst) : lasts (q :: r) = lasts r := by rw [lasts, if_pos ((any_name r q.1).2 h)]
theorem lasts_cons_out {q : Pair} {r : List Pair} (h : q.1 ∉ r.map Prod.fst) : lasts (q :: r) = q :: lasts r := by rw [lasts, if_neg (fun e => h ((any_name r q.1).1 e))]
theorem lasts_snoc (l : List Pair) (q : Pair) : lasts (l ++ [q]) = strike (lasts l) q.1 ++ [q] := by
  induction l with
  | nil => rfl
  | cons x l ih =>
    rw [List.cons_append]
    have hm : x.1 ∈ (l ++ [q]).map Prod.fst ↔ x.1 ∈ l.map Prod.fst ∨ x.1 = q.1 := by simp
    by_cases h1 : x.1 ∈ l.map Prod.fst
    · rw [lasts_cons_in (hm.2 (.inl h1)), lasts_cons_in h1, ih]
    · by_cases h2 : x.1 = q.1
      · rw [lasts_cons_in (hm.2 (.inr h2)), lasts_cons_out h1, ih, show strike (x :: lasts l) q.1 = strike (lasts l) q.1 from List.filter_cons_of_neg (by simp [h2])]
      · rw [lasts_cons_out (fun h => (hm.1 h).elim h1 h2), lasts_cons_out h1, ih, show strike (x :: lasts l) q.1 = x :: strike (lasts l) q.1 from List.filter_cons_of_pos (by simp [h2])]
        rfl
theorem lasts_yes {Q : List Pair} {k : Nat} (hk : k < Q.length) (h : ∀ i (hi : i < Q.length), k < i → Q[i].1 ≠ Q[k].1) : lasts (Q.drop k) = Q[k] :: lasts (Q.drop (k + 1)) := by
  rw [List.drop_eq_getElem_cons hk, lasts, if_neg]
  rw [any_name]
  intro hm
  obtain ⟨q, hq, hqe⟩ := List.mem_map.1 hm
  obtain ⟨i, hi, rfl⟩ := List.mem_iff_getElem.1 hq
  simp only [List.length_drop] at hi
  rw [List.getElem_drop] at hqe
  exact h (k + 1 + i) (by omega) (by omega) hqe
theorem lasts_no {Q : List Pair} {k i : Nat} (hk : k < Q.length) (hi : i < Q.length) (hki : k < i) (h : Q[i].1 = Q[k].1) : lasts (Q.drop k) = lasts (Q.drop (k + 1)) := by
  rw [List.drop_eq_getElem_cons hk, lasts, if_pos]
  rw [any_name, ← h]
  refine List.mem_map_of_mem (List.mem_iff_getElem.2 ⟨i - (k + 1), by simp; omega, ?_⟩)
  rw [List.getElem_drop]
  congr 1
  omega
/-- Whether no later one of the first j has its name. -/
def LastTo (Q : List Pair) (k j : Nat) (b : Bool) : Prop :=
  (b = true → ∀ i (hi : i < Q.length) (hk : k < Q.length), k < i → i < j → Q[i].1 ≠ Q[k].1) ∧ (b = false → ∃ i, ∃ (hi : i < Q.length) (hk : k < Q.length), k < i ∧ Q[i].1 = Q[k].1)

set_option maxRecDepth 100000 in
set_option maxHeartbeats 4000000 in
theorem calmlatest_any (a : Option Addr) (X : List Pair) (c : Nat) (w : World) (hlc : X.length ≤ c) (hcm : c ≤ maxLen) (ht : Recs Pair.cells 2 w a X) (hs : ∀ q ∈ X, Pair.Good q) :
    Calls Try.prog 3 #[.slice a X.length c] w fun e w' => e = .returned (.bool true) ∧ Below w.heap.size w w' := by
  obtain ⟨i0, hi, hz0, hz1, hz2⟩ := info_parts Try.infoText
  have Hz2 := Lib.hid hz2
  have Hz1 := Lib.hid hz1
  have Hz0 := Lib.hid hz0
  have Hi := Lib.hid hi
  clear hz2 hz1 hz0 hi
  have hl9 : (c : Int) ≤ 9223372036854775807 := by unfold maxLen at hcm; omega
  have hlci : (X.length : Int) ≤ c := by omega
  clear hcm
  go_enter Try.func3, Try.ntmps3
  go_wp2_with (fail)
  refine (calm_lives _).mono ?_
  rintro e w1 ⟨rfl, f0⟩
  go_upto_region 3 with (fail)
  go_cut [0] (fun s wx => ∃ Q : List Pair, s = .slice a Q.length c ∧ Q.length ≤ 60 ∧ Recs Pair.cells 2 w a Q ∧ (∀ q ∈ Q, Pair.Good q) ∧ w1 = wx)
  case first =>
    by_cases h2 : (60 : Int) < X.length
    · have h3 : (60 : Int) ≤ c := by omega
      have Hs := Lib.hid hs
      clear hs
      go_wp2_with (fail)
      go_meet
      case rel => exact ⟨X.take 60, by simp; omega, by simp; omega, ht.take 60, fun q hq => Hs.out q (List.mem_of_mem_take hq), rfl⟩
    · have Hs := Lib.hid hs
      clear hs
      go_wp2_with (fail)
      go_meet
      case rel => exact ⟨X, by congr 1; omega, by omega, ht, Hs.out, rfl⟩
  case rest =>
    clear hs ht hlc hlci
    obtain ⟨Q, rfl, hQ, htQ, hsQ, rfl⟩ := hcut
    have HsQ := Lib.hid hsQ
    clear hsQ
    go_wp2_with (fail)
    refine (calm_new 64 64 _ (by decide)).mono ?_
    rintro e w2 ⟨p, S, rfl, h1, hS, f1⟩
    have inv : CInv S p 64 w (lasts (Q.take 0)) w2 := ⟨h1, fun k hk => Nat.le_trans f0.size (hS k hk), f0.fromN.trans' f1.fromN⟩
    clear h1 hS f0 f1
    go_wp2_with (fail)
    go_loopg [4] Q.length (fun g i wr => ∃ (k : Nat) (S : Nat → Prop), k ≤ Q.length ∧ g = Q.length - k ∧ i = .int .i64 k ∧ CInv S p 64 w (lasts (Q.take k)) wr)
    case atStart => exact ⟨0, S, Nat.zero_le _, rfl, rfl, inv⟩
    case round =>
      clear inv S
      obtain ⟨k, S, hk, rfl, rfl, inv⟩ := hrel
      by_cases hlt : k < Q.length
      · obtain ⟨b, o, rfl, hc⟩ := (htQ.kept inv.fr).at_ hlt
        have hblt : b < w.heap.size := by
          obtain ⟨b', o', hbo, hc'⟩ := htQ.at_ hlt
          obtain ⟨rfl, rfl⟩ : b = b' ∧ o = o' := by simpa using hbo
          exact World.block_lt_of_cell? w _ (hc' 0 _ rfl)
        have hg := HsQ.out Q[k] (List.getElem_mem hlt)
        have hsn := lasts_snoc (Q.take k) Q[k]
        rw [← List.take_succ_eq_append_getElem hlt] at hsn
        have hll : (lasts (Q.take k)).length < 64 := by have := lasts_len (Q.take k); simp at this; omega
        obtain ⟨x, hx⟩ : ∃ x, x = Q[k] := ⟨_, rfl⟩
        rw [← hx] at hc hg hsn
        have c0 := hc 0 _ rfl
        rw [Nat.add_zero] at c0
        have c1 := hc 1 _ rfl
        have Hsn := Lib.hid hsn
        have Hg := Lib.hid hg
        clear hx hc hsn hg
        go_wp2_with (fail)
        go_region_held3 (fun w' => w'.cell? ⟨b, o + k * 2, none⟩ = some (.string x.1) ∧ w'.cell? ⟨b, o + k * 2 + 1, none⟩ = some (.string x.2)) (first | assumption | exact ⟨c0, c1⟩ | exact ⟨d0, d1⟩)
          ((go_at_call 10; refine (calm_put_ok _ _ Hg.out.1 Hg.out.2 inv.calm.drew (.inr hll)).mono ?_; rintro e w4 ⟨rfl, g4⟩; obtain ⟨S4, i4, hs4⟩ := inv.drew.gone g4; have d0 := cell_kept (w := wr.drew) (by exact c0) hblt g4.choose_spec.2.2 inv.new; have d1 := cell_kept (w := wr.drew) (by exact c1) hblt g4.choose_spec.2.2 inv.new; rw [← Hsn.out] at i4))
        clear g4
        go_wp2_with (fail)
        go_roundg (Q.length - (k + 1))
        case measure => omega
        case rel => exact ⟨k + 1, S4, by omega, rfl, by go_num, i4⟩
      · obtain rfl : k = Q.length := by omega
        rw [List.take_length] at inv
        obtain ⟨w2, rfl⟩ : ∃ wo : World, wo = wr := ⟨_, rfl⟩
        go_wp2_with (fail)
        go_loopg [5, 6] Q.length (fun g v i wr => ∃ (k : Nat) (O : List ByteArray), k ≤ Q.length ∧ g = Q.length - k ∧ i = .int .i64 k ∧ Hid (O ++ (lasts (Q.drop k)).map Prod.snd = (lasts Q).map Prod.snd) ∧ Coll w2 v O wr)
        case atStart => exact ⟨0, [], Nat.zero_le _, rfl, rfl, rfl, CollE.start _ _ _⟩
        case round =>
          obtain ⟨k, O, hk, rfl, rfl, HO, co⟩ := hrel
          have hOl : O.length ≤ 60 := by
            have h1 := congrArg List.length HO.out
            have h2 := lasts_len Q
            simp at h1; omega
          by_cases hlt : k < Q.length
          · go_wp2_with (fail)
            go_loopg [7, 8] (Q.length - (k + 1)) (fun g s i wr => ∃ (j : Nat) (b : Bool), k + 1 ≤ j ∧ j ≤ Q.length ∧ g = Q.length - j ∧ i = .int .i64 j ∧ s = .bool b ∧ Hid (LastTo Q k j b) ∧ Coll w2 u5 O wr)
            case atStart => exact ⟨k + 1, true, Nat.le_refl _, by omega, by omega, by go_num, rfl, (show LastTo _ _ _ _ from ⟨(fun _ i _ _ h1 h2 => by omega), (fun h => by cases h)⟩), co⟩
            case round =>
              clear co
              obtain ⟨j, bb, hkj, hj, rfl, rfl, rfl, HB, co⟩ := hrel
              obtain ⟨b, o, rfl, hc⟩ := (htQ.kept (inv.quiet co.fr).fr).at_ hlt
              have c0 := hc 0 _ rfl
              rw [Nat.add_zero] at c0
              have c1 := hc 1 _ rfl
              clear hc
              by_cases hlj : j < Q.length
              · obtain ⟨b', o', hbo, hc⟩ := (htQ.kept (inv.quiet co.fr).fr).at_ hlj
                obtain ⟨rfl, rfl⟩ : b = b' ∧ o = o' := by simpa using hbo
                have e0 := hc 0 _ rfl
                rw [Nat.add_zero] at e0
                have hne := same_text Q[j].1 Q[k].1
                clear hc hbo c1
                cases bb with
                | true =>
                  by_cases he : Q[j].1 = Q[k].1
                  · rw [decide_eq_true he] at hne
                    have He := Lib.hid he
                    clear he
                    go_wp2_with (fail)
                    go_quiet (fail)
                    go_wp2_with (fail)
                    go_roundg (Q.length - (j + 1))
                    case measure => omega
                    case rel => exact ⟨j + 1, false, by omega, by omega, rfl, by go_num, rfl, (show LastTo _ _ _ _ from ⟨(fun h => by cases h), (fun _ => ⟨j, hlj, hlt, by omega, He.out⟩)⟩), co.drewN _⟩
                  · rw [decide_eq_false he] at hne
                    have He := Lib.hid he
                    clear he
                    go_wp2_with (fail)
                    go_quiet (fail)
                    go_wp2_with (fail)
                    go_roundg (Q.length - (j + 1))
                    case measure => omega
                    case rel =>
                      refine ⟨j + 1, true, by omega, by omega, rfl, by go_num, rfl, (show LastTo _ _ _ _ from ⟨(fun _ i h1 h2 h3 h4 => ?_), (fun h => by cases h)⟩), co.drewN _⟩
                      by_cases e : i = j
                      · subst e; exact He.out
                      · exact HB.out.1 rfl i h1 h2 h3 (by omega)
                | false =>
                  go_wp2_with (fail)
                  go_quiet (fail)
                  go_wp2_with (fail)
                  go_roundg (Q.length - (j + 1))
                  case measure => omega
                  case rel => exact ⟨j + 1, false, by omega, by omega, rfl, by go_num, rfl, (show LastTo _ _ _ _ from ⟨(fun h => by cases h), HB.out.2⟩), co.drewN _⟩
              · obtain rfl : j = Q.length := by omega
                have hlj2 : ¬ ((Q.length : Int) < Q.length) := by omega
                clear hlj
                cases bb with
                | true =>
                  have hy := lasts_yes hlt (fun i hi hki => HB.out.1 rfl i hi hlt hki hi)
                  obtain ⟨x, hx⟩ : ∃ x, x = Q[k] := ⟨_, rfl⟩
                  rw [← hx] at hy c1
                  have Hy := Lib.hid hy
                  have hrow : Row (wr.alloc (.cells #[Value.string x.2] 9)) wr.heap.size [Value.string x.2] 9 := Row.allocNew wr [Value.string x.2] 9
                  have hsl1 : Sl (wr.alloc (.cells #[Value.string x.2] 9)) (some ⟨wr.heap.size, 0, none⟩) [Value.string x.2] := Sl.ofRow hrow
                  have own1 := (co.quiet (Fr.alloc Nothing wr (.cells #[Value.string x.2] 9))).own
                  clear hy hx hrow c0
                  go_wp2_with (at_builtin; go_must (refine wpList_append_fp rfl (.tmp 66) (.tmp 72) 28 rfl 9 i0 (.string ByteArray.empty) 1 16 Try.underlying28 Hi.out Hz0.out Hz1.out Hz2.out rfl (by decide) _ _ _ rfl own1 _ 1 1 [Value.string x.2] rfl rfl (by simp) hsl1 (by simp [Value.oneCell']) (by unfold maxLen; omega) (by omega) ?_))
                  intro v7 w7 o7 f7 n7 s7 _
                  have co7 := Coll.one co (Fr.alloc Nothing wr _) o7 f7 n7
                  have HO7 : Hid ((O ++ [x.2]) ++ (lasts (Q.drop (k + 1))).map Prod.snd = (lasts Q).map Prod.snd) := (show _ = _ by rw [← HO.out, Hy.out]; simp)
                  clear co own1 hsl1 o7 f7 n7 s7 c1
                  go_wp2_with (fail)
                  go_roundg (Q.length - (k + 1))
                  case measure => omega
                  case rel => exact ⟨k + 1, _, by omega, rfl, by go_num, HO7, co7⟩
                | false =>
                  obtain ⟨i, h1, h2, h3, h4⟩ := HB.out.2 rfl
                  have hn := lasts_no hlt h1 h3 h4
                  have HO7 : Hid (O ++ (lasts (Q.drop (k + 1))).map Prod.snd = (lasts Q).map Prod.snd) := (show _ = _ by rw [← HO.out, hn])
                  clear hn c0 c1 h4
                  go_wp2_with (fail)
                  go_roundg (Q.length - (k + 1))
                  case measure => omega
                  case rel => exact ⟨k + 1, _, by omega, rfl, by go_num, HO7, co⟩
          · obtain rfl : k = Q.length := by omega
            have hO : O = (lasts Q).map Prod.snd := by
              have := HO.out
              rw [List.drop_length] at this
              simpa [lasts] using this
            have inv2 := inv.quiet co.fr
            have hnw : ∀ q, InBlock u5 q → ¬ S q := fun q hq hS => by have := inv.calm.lt hS; have := co.new q hq; omega
            have hOe : O.length = (lasts Q).length := by rw [hO]; simp
            have own := co.own
            obtain ⟨a5, c5, rfl, _, _⟩ := own.shape
            have HO' := Lib.hid hO
            have HOe := Lib.hid hOe
            have hdec : (((lasts Q).length : Int) == (O.length : Int)) = true := by rw [beq_iff_eq]; omega
            clear co inv hO hOe
            go_wp2_with (fail)
            refine (calm_len inv2.calm).mono ?_
            rintro e w4 ⟨rfl, rfl⟩
            go_wp2_with (fail)
            refine (calm_flush inv2.calm).mono ?_
            rintro e w5 ⟨a6, c6, rfl, t6, b6, o6, g6⟩
            obtain ⟨S6, i6, _⟩ := inv2.gone g6
            have own6 := own.fr g6.choose_spec.2.2 hnw
            rw [← HOe.out]
            rw [← HO'.out] at t6
            clear g6 own inv2
            go_wp2_with (fail)
            refine (same_yes a6 a5 O _ _ _ t6 own6.sl.2 (by unfold maxLen; omega)).mono ?_
            rintro e w7 ⟨rfl, m7, rfl⟩
            have i7 := i6.drewN m7
            go_wp2_with (fail)
            refine (calm_len i7.calm).mono ?_
            rintro e w8 ⟨rfl, rfl⟩
            go_wp2_with (fail)
            refine (calm_flush i7.calm).mono ?_
            rintro e w9 ⟨a9, c9, rfl, t9, b9, o9, g9⟩
            obtain ⟨S9, i9, _⟩ := i7.gone g9
            go_wp2_with (fail)
            go_ret
            exact ⟨rfl, i9.fr.belowB⟩

end Go.Proofs.Yticklkjlccnedaa
