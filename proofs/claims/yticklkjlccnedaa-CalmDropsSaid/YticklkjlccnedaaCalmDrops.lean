/- CalmDrops answers true for every input and changes no memory that was there. No condition. -/
import Derived.Test.YticklkjlccnedaaCalmOps
namespace Go.Proofs.Yticklkjlccnedaa
open Go.RowKit

/-- Two calms, apart. -/
structure TwoCalm (S T : Nat → Prop) (p q : Nat) (w : World) (La Lb : List Pair) (wr : World) : Prop where
  one : IsCalm S wr p 64 La
  two : IsCalm T wr q 64 Lb
  newS : ∀ k, S k → w.heap.size ≤ k
  newT : ∀ k, T k → w.heap.size ≤ k
  apart : ∀ k, S k → ¬ T k
  fr : Fr (FromB w.heap.size) w wr

section
variable {S T : Nat → Prop} {w wr w' : World} {p q : Nat} {La Lb L' : List Pair}
theorem TwoCalm.quiet (h : TwoCalm S T p q w La Lb wr) (F : Fr Nothing wr w') : TwoCalm S T p q w La Lb w' :=
  ⟨h.one.fr F (fun _ _ h => h), h.two.fr F (fun _ _ h => h), h.newS, h.newT, h.apart, h.fr.trans' F.fromN⟩
theorem TwoCalm.drew (h : TwoCalm S T p q w La Lb wr) : TwoCalm S T p q w La Lb wr.drew := h.quiet (Fr.drew _ _)
theorem TwoCalm.drewN (h : TwoCalm S T p q w La Lb wr) (n : Nat) : TwoCalm S T p q w La Lb (wr.drewN n) := h.quiet (Fr.drewN _ _ _)
theorem TwoCalm.oneGone (h : TwoCalm S T p q w La Lb wr) (g : CalmGone S wr p 64 L' w') : ∃ S', TwoCalm S' T p q w L' Lb w' := by
  obtain ⟨S', h1, h2, f⟩ := g
  refine ⟨S', h1, h.two.fr f (fun k hT hS => h.apart k hS hT), fun k hk => ?_, h.newT, fun k hk hT => ?_, h.fr.trans' (f.from_ h.newS)⟩
  · rcases h2 k hk with h3 | h3
    · exact h.newS k h3
    · exact Nat.le_trans h.fr.size h3
  · rcases h2 k hk with h3 | h3
    · exact h.apart k h3 hT
    · have := h.two.lt hT; omega
theorem TwoCalm.twoGone (h : TwoCalm S T p q w La Lb wr) (g : CalmGone T wr q 64 L' w') : ∃ T', TwoCalm S T' p q w La L' w' := by
  obtain ⟨T', h1, h2, f⟩ := g
  refine ⟨T', h.one.fr f (fun k hS hT => h.apart k hS hT), h1, h.newS, fun k hk => ?_, fun k hS hk => ?_, h.fr.trans' (f.from_ h.newT)⟩
  · rcases h2 k hk with h3 | h3
    · exact h.newT k h3
    · exact Nat.le_trans h.fr.size h3
  · rcases h2 k hk with h3 | h3
    · exact h.apart k hS h3
    · have := h.one.lt hS; omega
theorem TwoCalm.oneDrop (h : TwoCalm S T p q w La Lb wr) (r : IsCalm S w' p 64 L') (f : Fr S wr w') : TwoCalm S T p q w L' Lb w' :=
  ⟨r, h.two.fr f (fun k hT hS => h.apart k hS hT), h.newS, h.newT, h.apart, h.fr.trans' (f.from_ h.newS)⟩
end

/-- Whether a name is among these. -/
def inL (D : List ByteArray) (k : ByteArray) : Bool := D.any fun y => decide (y = k)
theorem inL_snoc (D : List ByteArray) (y k : ByteArray) : inL (D ++ [y]) k = (inL D k || decide (y = k)) := by simp [inL]
theorem inL_take {D : List ByteArray} {j : Nat} (hj : j < D.length) (k : ByteArray) : inL (D.take (j + 1)) k = (inL (D.take j) k || decide (D[j] = k)) := by
  rw [List.take_succ_eq_append_getElem hj, inL_snoc]
/-- What isn't dropped. -/
abbrev keeps (D : List ByteArray) (L : List Pair) : List Pair := L.filter fun q => !inL D q.1
theorem keeps_put_in {D : List ByteArray} (L : List Pair) {q : Pair} (h : inL D q.1 = true) : keeps D (strike L q.1 ++ [q]) = keeps D L := by
  rw [keeps, List.filter_append, List.filter_cons_of_neg (by simp [h]), List.filter_nil, List.append_nil, List.filter_filter]
  refine List.filter_congr fun x _ => ?_
  by_cases e : x.1 = q.1 <;> simp [e, h]
theorem keeps_put_out {D : List ByteArray} (L : List Pair) {q : Pair} (h : inL D q.1 = false) : keeps D (strike L q.1 ++ [q]) = strike (keeps D L) q.1 ++ [q] := by
  rw [keeps, List.filter_append, List.filter_cons_of_pos (by simp [h]), List.filter_nil, List.filter_filter, strike, List.filter_filter]
  congr 1
  refine List.filter_congr fun x _ => ?_
  rw [Bool.and_comm]
theorem keeps_step {D : List ByteArray} (L : List Pair) {k : Nat} (hk : k < D.length) : strike (keeps (D.take k) L) D[k] = keeps (D.take (k + 1)) L := by
  rw [strike, List.filter_filter, keeps]
  refine List.filter_congr fun x _ => ?_
  rw [inL_take hk]
  by_cases e : x.1 = D[k]
  · simp [e]
  · have e' : ¬ D[k] = x.1 := fun h => e h.symm
    simp [e, e']

set_option maxRecDepth 100000 in
set_option maxHeartbeats 8000000 in
theorem calmdrops_any (a : Option Addr) (X : List Pair) (c : Nat) (a2 : Option Addr) (D0 : List ByteArray) (c2 : Nat) (w : World) (hlc : X.length ≤ c) (hcm : c ≤ maxLen) (ht : Recs Pair.cells 2 w a X) (hs : ∀ q ∈ X, Pair.Good q)
    (hlc2 : D0.length ≤ c2) (hcm2 : c2 ≤ maxLen) (ht2 : Txt w a2 D0) (hs2 : ∀ s ∈ D0, s.size ≤ maxLen) :
    Calls Try.prog 7 #[.slice a X.length c, .slice a2 D0.length c2] w fun e w' => e = .returned (.bool true) ∧ Below w.heap.size w w' := by
  have hl9 : (c : Int) ≤ 9223372036854775807 := by unfold maxLen at hcm; omega
  have hl92 : (c2 : Int) ≤ 9223372036854775807 := by unfold maxLen at hcm2; omega
  have hlci : (X.length : Int) ≤ c := by omega
  have hlci2 : (D0.length : Int) ≤ c2 := by omega
  have Hs := Lib.hid hs
  have Hs2 := Lib.hid hs2
  clear hcm hcm2 hs hs2
  go_enter Try.func7, Try.ntmps7
  go_wp2_with (fail)
  refine (calm_lives _).mono ?_
  rintro e w1 ⟨rfl, f0⟩
  go_upto_region 3 with (fail)
  go_cut [0, 1] (fun s t wx => ∃ (Q : List Pair) (D : List ByteArray), s = .slice a Q.length c ∧ t = .slice a2 D.length c2 ∧ Q.length ≤ 50 ∧ D.length ≤ 20 ∧ Recs Pair.cells 2 w a Q ∧ Txt w a2 D ∧ Hid (∀ q ∈ Q, Pair.Good q) ∧ Hid (∀ s ∈ D, s.size ≤ maxLen) ∧ ∃ n, wx = w1.drewN n)
  case first =>
    go_quiet (fail)
    go_wp2_with (fail)
    go_meet
    case rel => exact ⟨X.take 50, D0.take 20, by congr 1; simp; omega, by congr 1; simp; omega, by simp; omega, by simp; omega, ht.take 50, (by have := Sl.take ht2 20; rw [← List.map_take] at this; exact this), (show ∀ q ∈ X.take 50, Pair.Good q from fun q hq => Hs.out q (List.mem_of_mem_take hq)), (show ∀ q ∈ D0.take 20, q.size ≤ maxLen from fun q hq => Hs2.out q (List.mem_of_mem_take hq)), _, rfl⟩
  case rest =>
    clear Hs Hs2 ht ht2 hlc hlc2 hlci hlci2
    obtain ⟨Q, D, rfl, rfl, hQ, hD, htQ, htD, HsQ, HsD, n1, rfl⟩ := hcut
    go_wp2_with (fail)
    refine (calm_new 64 64 _ (by decide)).mono ?_
    rintro e w2 ⟨p, S, rfl, h1, hS, f1⟩
    go_wp2_with (fail)
    refine (calm_new 64 64 _ (by decide)).mono ?_
    rintro e w3 ⟨q, T, rfl, h2, hT, f2⟩
    have f01 : Fr (FromB w.heap.size) w w2 := (f0.fromN.trans' (Fr.drewN _ _ n1)).trans' f1.fromN
    have inv : TwoCalm S T p q w [] (keeps D []) w3 :=
      ⟨h1.fr f2 (fun _ _ h => h), h2, fun k hk => Nat.le_trans f0.size (hS k hk), fun k hk => Nat.le_trans f01.size (hT k hk), fun k h3 h4 => by have := h1.lt h3; have := hT k h4; omega, f01.trans' f2.fromN⟩
    clear h1 h2 hS hT f0 f1 f2 f01
    go_wp2_with (fail)
    go_loopg [7] Q.length (fun g i wr => ∃ (k : Nat) (L : List Pair) (S T : Nat → Prop), k ≤ Q.length ∧ g = Q.length - k ∧ i = .int .i64 k ∧ L.length ≤ k ∧ TwoCalm S T p q w L (keeps D L) wr)
    case atStart => exact ⟨0, [], S, T, Nat.zero_le _, rfl, rfl, Nat.le_refl _, inv⟩
    case round =>
      clear inv S T
      obtain ⟨k, L, S, T, hk, rfl, rfl, hL, inv⟩ := hrel
      by_cases hlt : k < Q.length
      · obtain ⟨b, o, rfl, hc⟩ := (htQ.kept inv.fr).at_ hlt
        have hblt : b < w.heap.size := by
          obtain ⟨b', o', hbo, hc'⟩ := htQ.at_ hlt
          obtain ⟨rfl, rfl⟩ : b = b' ∧ o = o' := by simpa using hbo
          exact World.block_lt_of_cell? w _ (hc' 0 _ rfl)
        have hg := HsQ.out Q[k] (List.getElem_mem hlt)
        obtain ⟨x, hx⟩ : ∃ x, x = Q[k] := ⟨_, rfl⟩
        rw [← hx] at hc hg
        have c0 := hc 0 _ rfl
        rw [Nat.add_zero] at c0
        have c1 := hc 1 _ rfl
        have hroom : L.length < 64 := by omega
        have Hg := Lib.hid hg
        have Hx := Lib.hid hx
        clear hc hg hx
        go_wp2_with (fail)
        go_region_held3 (fun w' => w'.cell? ⟨b, o + k * 2, none⟩ = some (.string x.1) ∧ w'.cell? ⟨b, o + k * 2 + 1, none⟩ = some (.string x.2)) (first | assumption | exact ⟨c0, c1⟩ | exact ⟨d0, d1⟩)
          ((go_at_call 10; refine (calm_put_ok _ _ Hg.out.1 Hg.out.2 inv.one.drew (.inr hroom)).mono ?_; rintro e w4 ⟨rfl, g4⟩; have d0 := cell_kept (w := wr.drew) (by exact c0) hblt g4.choose_spec.2.2 inv.newS; have d1 := cell_kept (w := wr.drew) (by exact c1) hblt g4.choose_spec.2.2 inv.newS))
        obtain ⟨S4, i4⟩ := inv.drew.oneGone g4
        have hstl : (strike L x.1).length ≤ L.length := List.length_filter_le _ _
        have hL4 : (strike L x.1 ++ [x]).length ≤ k + 1 := by simp; omega
        clear inv g4 c0 c1
        go_wp2_with (fail)
        go_loopg [8, 9] D.length (fun g s i wr => ∃ (j : Nat) (bb : Bool), j ≤ D.length ∧ g = D.length - j ∧ i = .int .i64 j ∧ s = .bool bb ∧ Hid (bb = inL (D.take j) x.1) ∧ TwoCalm S4 T p q w (strike L x.1 ++ [x]) (keeps D L) wr)
        case atStart => exact ⟨0, false, Nat.zero_le _, rfl, rfl, rfl, rfl, i4⟩
        case round =>
          clear i4 d0 d1
          obtain ⟨j, bb, hj, rfl, rfl, rfl, HB, i4⟩ := hrel
          obtain ⟨b', o', hbo, hc⟩ := (htQ.kept i4.fr).at_ hlt
          obtain ⟨rfl, rfl⟩ : b = b' ∧ o = o' := by simpa using hbo
          rw [← Hx.out] at hc
          have c0 := hc 0 _ rfl
          rw [Nat.add_zero] at c0
          have c1 := hc 1 _ rfl
          clear hc hbo
          by_cases hlj : j < D.length
          · obtain ⟨b2, o2, rfl, hc2⟩ := (htD.kept i4.fr).at_ hlj
            have hst := inL_take hlj x.1
            rw [← HB.out] at hst
            have Hst := Lib.hid hst
            clear hst c1
            cases bb with
            | true =>
              go_wp2_with (fail)
              go_quiet (fail)
              go_wp2_with (fail)
              go_roundg (D.length - (j + 1))
              case measure => omega
              case rel => exact ⟨j + 1, true, by omega, rfl, by go_num, rfl, (show true = _ by rw [Hst.out]; rfl), i4.drewN _⟩
            | false =>
              by_cases he : D[j] = x.1
              · have hd : (D[j].toList == x.1.toList) = true := by rw [same_text, decide_eq_true he]
                have He := Lib.hid he
                clear he
                go_wp2_with (fail)
                go_quiet (fail)
                go_wp2_with (fail)
                go_roundg (D.length - (j + 1))
                case measure => omega
                case rel => exact ⟨j + 1, true, by omega, rfl, by go_num, rfl, (show true = _ by rw [Hst.out, decide_eq_true He.out]; rfl), i4.drewN _⟩
              · have hd : (D[j].toList == x.1.toList) = false := by rw [same_text, decide_eq_false he]
                have He := Lib.hid he
                clear he
                go_wp2_with (fail)
                go_quiet (fail)
                go_wp2_with (fail)
                go_roundg (D.length - (j + 1))
                case measure => omega
                case rel => exact ⟨j + 1, false, by omega, rfl, by go_num, rfl, (show false = _ by rw [Hst.out, decide_eq_false He.out]; rfl), i4.drewN _⟩
          · obtain rfl : j = D.length := by omega
            have hB := HB.out
            rw [List.take_length] at hB
            cases bb with
            | true =>
              have hk2 := keeps_put_in L hB.symm
              rw [← hk2] at i4
              clear hB hk2 c0 c1
              go_wp2_with (fail)
              go_roundg (Q.length - (k + 1))
              case measure => omega
              case rel => exact ⟨k + 1, _, S4, T, by omega, rfl, by go_num, hL4, i4⟩
            | false =>
              have hk2 := keeps_put_out L hB.symm
              have hkl : (keeps D L).length ≤ L.length := List.length_filter_le _ _
              have Hk2 := Lib.hid hk2
              clear hB hk2
              go_wp2_with (fail)
              go_region_held3 (fun w' => w'.cell? ⟨b, o + k * 2, none⟩ = some (.string x.1) ∧ w'.cell? ⟨b, o + k * 2 + 1, none⟩ = some (.string x.2)) (first | assumption | exact ⟨c0, c1⟩ | exact ⟨d0, d1⟩)
                ((go_at_call 10; refine (calm_put_ok _ _ Hg.out.1 Hg.out.2 i4.two.drew (.inr (by omega))).mono ?_; rintro e w5 ⟨rfl, g5⟩; have d0 := cell_kept (w := wr.drew) (by exact c0) hblt g5.choose_spec.2.2 i4.newT; have d1 := cell_kept (w := wr.drew) (by exact c1) hblt g5.choose_spec.2.2 i4.newT))
              obtain ⟨T5, i5⟩ := i4.drew.twoGone g5
              have i6 : TwoCalm S4 T5 p q w (strike L x.1 ++ [x]) (keeps D (strike L x.1 ++ [x])) w5 := by rw [Hk2.out]; exact i5
              clear i4 i5 g5 c0 c1 d0 d1
              go_wp2_with (fail)
              go_roundg (Q.length - (k + 1))
              case measure => omega
              case rel => exact ⟨k + 1, _, S4, T5, by omega, rfl, by go_num, hL4, i6⟩
      · obtain rfl : k = Q.length := by omega
        go_wp2_with (fail)
        go_loopg [10] D.length (fun g i wr => ∃ (j : Nat) (S : Nat → Prop), j ≤ D.length ∧ g = D.length - j ∧ i = .int .i64 j ∧ TwoCalm S T p q w (keeps (D.take j) L) (keeps D L) wr)
        case atStart => exact ⟨0, S, Nat.zero_le _, rfl, rfl, by
          have e : keeps (D.take 0) L = L := List.filter_eq_self.2 fun x _ => rfl
          rw [e]; exact inv⟩
        case round =>
          clear inv S
          obtain ⟨j, S, hj, rfl, rfl, inv⟩ := hrel
          by_cases hlj : j < D.length
          · obtain ⟨b2, o2, rfl, hc2⟩ := (htD.kept inv.fr).at_ hlj
            have hst := keeps_step L hlj
            have hsz := HsD.out D[j] (List.getElem_mem hlj)
            obtain ⟨d, hd⟩ : ∃ d, d = D[j] := ⟨_, rfl⟩
            rw [← hd] at hc2 hst hsz
            have Hst := Lib.hid hst
            clear hst hd
            by_cases hf : (findT (keeps (D.take j) L) d).isSome
            · have Hf := Lib.hid hf
              clear hf
              go_wp2_with (fail)
              refine (calm_of d hsz inv.one).mono ?_
              rw [show (findT (keeps (D.take j) L) d).isSome = true from Hf.out]
              rintro e w4 ⟨rfl, rfl⟩
              go_wp2_with (fail)
              refine (calm_drop_yes d hsz inv.one Hf.out).mono ?_
              rw [Hst.out]
              rintro e w5 ⟨rfl, r5, f5⟩
              have i5 := inv.oneDrop r5 f5
              clear inv r5 f5 hc2
              go_wp2_with (fail)
              go_roundg (D.length - (j + 1))
              case measure => omega
              case rel => exact ⟨j + 1, S, by omega, rfl, by go_num, i5⟩
            · have hf' : findT (keeps (D.take j) L) d = none := by simpa using hf
              have hst2 := strike_none hf'
              have Hf := Lib.hid hf'
              have Hst2 := Lib.hid hst2
              clear hf hf' hst2
              go_wp2_with (fail)
              refine (calm_of d hsz inv.one).mono ?_
              rw [show (findT (keeps (D.take j) L) d).isSome = false from by rw [Hf.out]; rfl]
              rintro e w4 ⟨rfl, rfl⟩
              go_wp2_with (fail)
              refine (calm_drop_no d hsz inv.one Hf.out).mono ?_
              rintro e w5 ⟨rfl, f5⟩
              have i5 : TwoCalm S T p q w (keeps (D.take (j + 1)) L) (keeps D L) w5 := by
                rw [← Hst.out, Hst2.out]; exact inv.quiet f5
              clear inv f5 hc2
              go_wp2_with (fail)
              go_roundg (D.length - (j + 1))
              case measure => omega
              case rel => exact ⟨j + 1, S, by omega, rfl, by go_num, i5⟩
          · obtain rfl : j = D.length := by omega
            rw [List.take_length] at inv
            obtain ⟨M, hM⟩ : ∃ M, M = keeps D L := ⟨_, rfl⟩
            rw [← hM] at inv
            have hM0 : M.length ≤ 64 := by
              have h1 : (keeps D L).length ≤ L.length := List.length_filter_le _ _
              rw [← hM] at h1
              omega
            have hMl1 : (M.map Prod.fst).length ≤ maxLen := by rw [List.length_map]; unfold maxLen; omega
            have hMl2 : (M.map Prod.snd).length ≤ maxLen := by rw [List.length_map]; unfold maxLen; omega
            have HM1 := Lib.hid hMl1
            have HM2 := Lib.hid hMl2
            clear hMl1 hMl2
            clear hM
            go_wp2_with (fail)
            refine (calm_from inv.one).mono ?_
            rintro e w4 ⟨a4, c4, rfl, t4, b4, o4, f4⟩
            have i4 := inv.quiet f4
            go_wp2_with (fail)
            refine (calm_from i4.two).mono ?_
            rintro e w5 ⟨a5, c5, rfl, t5, b5, o5, f5⟩
            have i5 := i4.quiet f5
            have t45 := Sl.fr t4 f5 (fun _ _ h => h)
            go_wp2_with (fail)
            have hs6 := same_yes a4 a5 (M.map Prod.fst) c4 c5 _ t45 t5 HM1.out
            rw [List.length_map] at hs6
            refine hs6.mono ?_
            rintro e w6 ⟨rfl, m6, rfl⟩
            clear hs6
            have i6 := i5.drewN m6
            clear inv i4 i5 t4 t5 t45 b4 b5 o4 o5 f4 f5
            go_wp2_with (fail)
            refine (calm_flush i6.one).mono ?_
            rintro e w7 ⟨a7, c7, rfl, t7, b7, o7, g7⟩
            obtain ⟨S7, i7⟩ := i6.oneGone g7
            have hnT : ∀ k, InBlock (.slice a7 M.length c7) k → ¬ T k := fun k hk hT => by have := b7 k hk; have := i6.two.lt hT; omega
            clear i6 g7
            go_wp2_with (fail)
            refine (calm_flush i7.two).mono ?_
            rintro e w8 ⟨a8, c8, rfl, t8, b8, o8, g8⟩
            obtain ⟨T8, i8⟩ := i7.twoGone g8
            have o78 := o7.fr g8.choose_spec.2.2 hnT
            clear i7 g8 t7 o7
            go_wp2_with (fail)
            have hs9 := same_yes a7 a8 (M.map Prod.snd) c7 c8 _ o78.sl.2 t8 HM2.out
            rw [List.length_map] at hs9
            refine hs9.mono ?_
            rintro e w9 ⟨rfl, m9, rfl⟩
            go_wp2_with (fail)
            go_ret
            exact ⟨rfl, (i8.drewN m9).fr.belowB⟩

end Go.Proofs.Yticklkjlccnedaa
