/- The document's wheel: Set that is done. Condition: IsRefW. -/
import Derived.Test.YtgfphbehecpgpaaWRefC
namespace Go.Proofs.Ytgfphbehecpgpaa
open Go.RowKit
section
variable {S : Nat → Prop} {w : World} {q : Nat} {T : Int} {L : List Due}
set_option maxHeartbeats 4000000 in
set_option maxRecDepth 100000 in
theorem wref_set_ok (id t : Int) (h : IsRefW S w q T L) (hN : Neat L) (h1 : T < t) (h2 : t ≤ 1099511627776) (hl : L.length ≤ 256) (hf : id ∈ L.map Prod.fst ∨ L.length < 256) :
    Calls Try.prog 17 #[.pointer (some ⟨q, 0, none⟩), .int .i64 id, .int .i64 t] w fun e w' => e = .returned (.int .i64 0) ∧ RefGone S w q T (setL L id t) w' := by
  obtain ⟨i0, hi, hz0, hz1, hz2⟩ := info_parts infoRDue
  have Hz2 := Lib.hid hz2
  have Hz1 := Lib.hid hz1
  have Hz0 := Lib.hid hz0
  have Hi := Lib.hid hi
  have HN := Lib.hid hN
  have H := Lib.hid h
  have HF := Lib.hid hf
  clear hz2 hz1 hz0 hi hN hf
  obtain ⟨a, c, hr1, hS⟩ := h
  have c1 := hr1.head.cell 0 rfl
  have c2 := hr1.head.cell 1 rfl
  clear hr1 hS
  have g1 : decide (t ≤ T) = false := by rw [decide_eq_false_iff_not]; omega
  have g2 : decide (1099511627776 < t) = false := by rw [decide_eq_false_iff_not]; omega
  clear h1 h2
  go_enter Try.func17, Try.ntmps17
  go_upto_region 3 with (fail)
  go_cut [29] (fun s wx => s = .bool false ∧ w = wx)
  case first =>
    by_cases hid : id ∈ L.map Prod.fst
    · have Hid' := Lib.hid hid
      clear hid
      go_wp2_with (go_at_call 28; refine (wref_at_yes id H.out Hid'.out).mono ?_; rintro e w1 ⟨k, hk, rfl, _, rfl⟩)
      go_meet
      case rel => exact ⟨rfl, rfl⟩
    · have Hid' := Lib.hid hid
      have hl2 : L.length < 256 := HF.out.elim (fun h => (hid h).elim) (fun h => h)
      have g3 : decide ((256 : Int) ≤ L.length) = false := by rw [decide_eq_false_iff_not]; omega
      clear hid
      go_wp2_with (go_at_call 28; refine (wref_at_no id H.out Hid'.out).mono ?_; rintro e w1 ⟨rfl, rfl⟩)
      go_meet
      case rel => exact ⟨rfl, rfl⟩
  case rest =>
    obtain ⟨rfl, rfl⟩ := hcut
    clear c1 c2 g1 g2
    go_wp2_with (fail)
    refine (wref_drop id H.out HN.out.ids hl).mono ?_
    rintro e w1 ⟨rfl, G1⟩
    have HG1 := Lib.hid G1
    obtain ⟨S1, I1, _, _⟩ := G1
    have hlr : (less L id).length ≤ 255 := by
      have := less_len HN.out.ids id
      by_cases hid : id ∈ L.map Prod.fst
      · rw [if_pos hid] at this; omega
      · have h3 : L.length < 256 := HF.out.elim (fun h => (hid h).elim) (fun h => h)
        rw [if_neg hid] at this; omega
    have HNr : Hid (Neat (less L id)) := Lib.hid (HN.out.less id)
    have HnI : Hid ((id, t) ∉ less L id) := Lib.hid (fun h => less_not id (List.mem_map_of_mem h))
    obtain ⟨R, hR⟩ : ∃ R, R = less L id := ⟨_, rfl⟩
    have HM : Hid (setL L id t = ins R (id, t)) := Lib.hid (by rw [hR]; rfl)
    rw [← hR] at hlr HNr HnI HG1 I1
    clear hR
    have HI1 := Lib.hid I1
    obtain ⟨a, c, hr1, hS⟩ := I1
    have c1 := hr1.head.cell 0 rfl
    have hle := hr1.le
    have hc9 : (c : Int) ≤ 9223372036854775807 := by have := hr1.cap; unfold maxLen at this; omega
    have Hr := Lib.hid hr1
    clear hr1 hS
    go_wp2_with (fail)
    go_loopw [7] (fun i wr => ∃ k : Nat, k ≤ R.length ∧ i = .int .i64 k ∧ w1 = wr ∧ Hid (∀ x ∈ R.drop k, dless (id, t) x)) (fun i _ => (intOf i).toNat)
    case atStart => exact ⟨R.length, Nat.le_refl _, rfl, rfl, Lib.hid (by simp)⟩
    case round =>
      obtain ⟨k, hk, rfl, rfl, HA⟩ := hrel
      obtain ⟨B, hB⟩ : ∃ B : Bool, B = decide (0 < k ∧ dless (id, t) (gd R (k - 1))) := ⟨_, rfl⟩
      have HB := Lib.hid hB
      clear hB
      go_upto_region 7 with (fail)
      go_cut [78] (fun s wx => s = .bool B ∧ w1 = wx)
      case first =>
        cases k with
        | zero =>
          obtain rfl : B = false := by rw [HB.out]; simp
          go_wp2_with (fail)
          go_meet
          case rel => exact ⟨rfl, rfl⟩
        | succ k =>
          have hkl : k < R.length := by omega
          obtain ⟨b, o, rfl, hcell⟩ := Hr.out.recs.at_ hkl
          obtain ⟨x, hx⟩ : ∃ x, x = R[k] := ⟨_, rfl⟩
          rw [← hx] at hcell
          have hgx : gd R (k + 1 - 1) = x := by rw [hx]; exact gd_at hkl
          have x0 : w1.cell? ⟨b, o + k * 2, none⟩ = some (.int .i64 x.1) := hcell 0 _ rfl
          have x1 : w1.cell? ⟨b, o + k * 2 + 1, none⟩ = some (.int .i64 x.2) := hcell 1 _ rfl
          have hkI : (k : Int) < R.length := by omega
          have e0 : ((k + 1 : Nat) : Int) - 1 = (k : Int) := by omega
          rw [hgx] at HB
          clear hcell hx hgx
          by_cases h1 : t < x.2
          · have g1 : decide (t < x.2) = true := by rw [decide_eq_true_iff]; exact h1
            obtain rfl : B = true := by rw [HB.out]; simp [dless, h1]
            clear h1
            go_wp2_with (fail)
            go_meet
            case rel => exact ⟨rfl, rfl⟩
          · have g1 : decide (t < x.2) = false := by rw [decide_eq_false_iff_not]; exact h1
            by_cases h2 : x.2 = t
            · have g2 : (x.2 == t) = true := by simpa using h2
              by_cases h3 : id < x.1
              · have g3 : decide (id < x.1) = true := by rw [decide_eq_true_iff]; exact h3
                obtain rfl : B = true := by rw [HB.out]; simp [dless, h2, h3]
                clear h1 h2 h3
                go_wp2_with (fail)
                go_meet
                case rel => exact ⟨rfl, rfl⟩
              · have g3 : decide (id < x.1) = false := by rw [decide_eq_false_iff_not]; exact h3
                obtain rfl : B = false := by rw [HB.out]; simp [dless, h2, h3]
                clear h1 h2 h3
                go_wp2_with (fail)
                go_meet
                case rel => exact ⟨rfl, rfl⟩
            · have g2 : (x.2 == t) = false := by simpa using h2
              obtain rfl : B = false := by
                rw [HB.out, decide_eq_false_iff_not]
                unfold dless
                simp only
                omega
              clear h1 h2
              go_wp2_with (fail)
              go_meet
              case rel => exact ⟨rfl, rfl⟩
      case rest =>
        obtain ⟨rfl, rfl⟩ := hcut
        cases B with
        | true =>
          have hB2 := of_decide_eq_true HB.out.symm
          obtain ⟨k, rfl⟩ : ∃ k', k = k' + 1 := ⟨k - 1, by omega⟩
          have e0 : ((k + 1 : Nat) : Int) - 1 = (k : Int) := by omega
          have hkl : k < R.length := by omega
          have HA2 : Hid (∀ x ∈ R.drop k, dless (id, t) x) := Lib.hid (fun x hx => by
            rw [List.drop_eq_getElem_cons hkl] at hx
            rcases List.mem_cons.1 hx with rfl | hx
            · have := hB2.2
              rw [show k + 1 - 1 = k from rfl, gd_at hkl] at this
              exact this
            · exact HA.out x hx)
          clear hB2
          go_wp2_with (fail)
          go_roundw
          case rel => exact ⟨k, by omega, by go_num, trivial, HA2⟩
          case measure => simp [intOf]
        | false =>
          have hB2 := of_decide_eq_false HB.out.symm
          have HIns : Hid (R.take k ++ [(id, t)] ++ R.drop k = ins R (id, t)) := Lib.hid (ins_at HNr.out.asc HnI.out hk HA.out (by
            by_cases h0 : k = 0
            · exact .inl h0
            · exact .inr (fun h => hB2 ⟨by omega, h⟩)))
          clear hB2 HB
          have hXl : Hid ((R.take k).length = k) := Lib.hid (by rw [List.length_take]; omega)
          have hYl : Hid ((R.drop k).length = R.length - k) := Lib.hid (by rw [List.length_drop])
          have hkR : (k : Int) ≤ R.length := by omega
          have hkc : (k : Int) ≤ c := by omega
          have hRc : (R.length : Int) ≤ c := by omega
          rcases Hr.out.shape with ⟨rfl, rfl⟩ | ⟨b, o, rfl, _, _⟩
          · obtain rfl : R = [] := List.eq_nil_of_length_eq_zero (by omega)
            obtain rfl : k = 0 := by simpa using hk
            have c2 : w1.cell? ⟨q, 0, none⟩ = some (.slice none 0 0) := c1
            have ca := (Hr.out.head.fr (Fr.alloc Nothing w1 (.cells #[.int .i64 id, .int .i64 t] 48)) (fun h => h)).cell 0 rfl
            have KX : Hid (Sl w1.drew none []) := Lib.hid (Sl.nil _ _)
            clear HIns hXl hYl hkR hkc hRc HA c1
            go_wp2_with (fail)
            go_region_law
              ((first
                | (refine step_append_fp (w := w1.drew) (by rfl) (.const (.slice none 0 0)) (.tmp 87) 40 (by rfl) 48 i0 (.agg #[.int .i64 0, .int .i64 0]) 2 16 Try.underlying40 Hi.out Hz0.out Hz1.out Hz2.out rfl (by decide) (.slice none 0 0) 0 [] (by rfl) (Owns.nil _ _ _) none 0 0 [] (by rfl) rfl (fun _ => ⟨rfl, rfl⟩) KX.out (by simp) (by unfold maxLen; omega) (by omega) ?_
                   intro v7 w7 o7 f7 n7 s7 _
                   have G7 := Lib.hid (grow_step (Fr.drew Nothing w1) (fun k hk => by simp [InBlock, Value.ownBlock] at hk) f7 n7)
                   have FA := Lib.hid (G7.out.1.trans' (Fr.alloc Nothing w7 (.cells #[.int .i64 id, .int .i64 t] 48)))
                   have O7 := Lib.hid (o7.fr (Fr.alloc Nothing w7 (.cells #[.int .i64 id, .int .i64 t] 48)) (fun _ _ h => h))
                   have HS7 := Lib.hid (Sl.ofRow (Row.allocNew w7 [.int .i64 id, .int .i64 t] 48))
                   have hc7 := (Hr.out.head.fr G7.out.1 (fun h => h)).cell 0 rfl
                   have hc7a := (Hr.out.head.fr FA.out (fun h => h)).cell 0 rfl
                   clear o7)
                | (refine step_append_fp (w := w1.drew.alloc (.cells #[.int .i64 id, .int .i64 t] 48)) (by rfl) (.const (.slice none 0 0)) (.tmp 87) 40 (by rfl) 48 i0 (.agg #[.int .i64 0, .int .i64 0]) 2 16 Try.underlying40 Hi.out Hz0.out Hz1.out Hz2.out rfl (by decide) (.slice none 0 0) 0 [] (by rfl) (Owns.nil _ _ _) none 0 0 [] (by rfl) rfl (fun _ => ⟨rfl, rfl⟩) (KX.out.fr (Fr.alloc Nothing _ _) (fun _ _ h => h)) (by simp) (by unfold maxLen; omega) (by omega) ?_
                   intro v7 w7 o7 f7 n7 s7 _
                   have G7 := Lib.hid (grow_step ((Fr.drew Nothing w1).trans' (Fr.alloc Nothing _ (.cells #[.int .i64 id, .int .i64 t] 48))) (fun k hk => by simp [InBlock, Value.ownBlock] at hk) f7 n7)
                   have FA := Lib.hid G7.out.1
                   have O7 := Lib.hid o7
                   have HS7 := Lib.hid ((Sl.ofRow (Row.allocNew w1.drew [.int .i64 id, .int .i64 t] 48)).fr f7.ofNil (fun _ _ h => h))
                   have hc7 := (Hr.out.head.fr G7.out.1 (fun h => h)).cell 0 rfl
                   clear o7)
                | (refine step_append_fp (by rfl) (.tmp 88) (.tmp 92) 40 (by rfl) 48 i0 (.agg #[.int .i64 0, .int .i64 0]) 2 16 Try.underlying40 Hi.out Hz0.out Hz1.out Hz2.out rfl (by decide) v7 _ _ (by rfl) O7.out _ 1 1 [.int .i64 id, .int .i64 t] (by rfl) rfl (by simp) HS7.out (by intro u hu; simp at hu; rcases hu with rfl | rfl <;> rfl) (by unfold maxLen; omega) (by omega) ?_
                   intro v8 w8 o8 f8 n8 s8 _
                   have G8 := Lib.hid (grow_step FA.out G7.out.2 f8 n8)
                   have O8 := Lib.hid o8
                   have hc8 := (Hr.out.head.fr G8.out.1 (fun h => h)).cell 0 rfl
                   clear o8)
                | (refine step_append_fp (by rfl) (.tmp 93) (.tmp 99) 40 (by rfl) 48 i0 (.agg #[.int .i64 0, .int .i64 0]) 2 16 Try.underlying40 Hi.out Hz0.out Hz1.out Hz2.out rfl (by decide) v8 _ _ (by rfl) O8.out none 0 0 [] (by rfl) rfl (fun _ => ⟨rfl, rfl⟩) (Sl.nil _ _) (by simp) (by unfold maxLen; omega) (by omega) ?_
                   intro v9 w9 o9 f9 n9 s9 _
                   have G9 := Lib.hid (grow_step G8.out.1 G8.out.2 f9 n9)
                   have hd9 := Hr.out.head.fr G9.out.1 (fun h => h)
                   have hp9 := hd9.free 0
                   have hc9' := hd9.cell 0 rfl
                   clear hd9
                   have o9' : Owns w9 48 2 v9 (ins [] (id, t)).length ((ins [] (id, t)).flatMap rcells) := by
                     have e1 : ins [] (id, t) = [(id, t)] := rfl
                     rw [e1]
                     exact o9
                   clear o9
                   obtain ⟨a9, c9, rfl, _, _⟩ := o9'.shape)))
            all_goals go_wp2_with (fail)
            all_goals
              go_ret
              refine ⟨rfl, ?_⟩
              rw [HM.out]
              exact HG1.out.trans (fun S1 I => wref_gone I G9.out.1 G9.out.2 o9')
          · have c2 : w1.cell? ⟨q, 0, none⟩ = some (.slice (some ⟨b, o, none⟩) R.length c) := c1
            have ca := (Hr.out.head.fr (Fr.alloc Nothing w1 (.cells #[.int .i64 id, .int .i64 t] 48)) (fun h => h)).cell 0 rfl
            have KX : Hid (Sl w1.drew (some ⟨b, o, none⟩) ((R.take k).flatMap rcells)) := Lib.hid (Hr.out.recs.take k).2.2
            have KY : Hid (Sl w1 _ ((R.drop k).flatMap rcells)) := Lib.hid (sl_rest Hr.out.recs (n := k) hk hle)
            have HnY : Hid ((if c = k then some (⟨b, o, none⟩ : Addr) else some ⟨b, o + k * 2, none⟩) = none → R.length - k = 0 ∧ c - k = 0) := Lib.hid (fun h => by by_cases hcj : c = k <;> simp [hcj] at h)
            go_wp2_with (fail)
            go_region_law
              ((first
                | (refine step_append_fp (w := w1.drew) (by rfl) (.const (.slice none 0 0)) (.tmp 87) 40 (by rfl) 48 i0 (.agg #[.int .i64 0, .int .i64 0]) 2 16 Try.underlying40 Hi.out Hz0.out Hz1.out Hz2.out rfl (by decide) (.slice none 0 0) 0 [] (by rfl) (Owns.nil _ _ _) (some ⟨b, o, none⟩) k c ((R.take k).flatMap rcells) (by rfl) (by rw [rflat_len, hXl.out]) (by simp) KX.out (rcells_one _) (by unfold maxLen; omega) (by omega) ?_
                   intro v7 w7 o7 f7 n7 s7 _
                   have G7 := Lib.hid (grow_step (Fr.drew Nothing w1) (fun k hk => by simp [InBlock, Value.ownBlock] at hk) f7 n7)
                   have FA := Lib.hid (G7.out.1.trans' (Fr.alloc Nothing w7 (.cells #[.int .i64 id, .int .i64 t] 48)))
                   have O7 := Lib.hid (o7.fr (Fr.alloc Nothing w7 (.cells #[.int .i64 id, .int .i64 t] 48)) (fun _ _ h => h))
                   have HS7 := Lib.hid (Sl.ofRow (Row.allocNew w7 [.int .i64 id, .int .i64 t] 48))
                   have hc7 := (Hr.out.head.fr G7.out.1 (fun h => h)).cell 0 rfl
                   have hc7a := (Hr.out.head.fr FA.out (fun h => h)).cell 0 rfl
                   clear o7)
                | (refine step_append_fp (w := w1.drew.alloc (.cells #[.int .i64 id, .int .i64 t] 48)) (by rfl) (.const (.slice none 0 0)) (.tmp 87) 40 (by rfl) 48 i0 (.agg #[.int .i64 0, .int .i64 0]) 2 16 Try.underlying40 Hi.out Hz0.out Hz1.out Hz2.out rfl (by decide) (.slice none 0 0) 0 [] (by rfl) (Owns.nil _ _ _) (some ⟨b, o, none⟩) k c ((R.take k).flatMap rcells) (by rfl) (by rw [rflat_len, hXl.out]) (by simp) (KX.out.fr (Fr.alloc Nothing _ _) (fun _ _ h => h)) (rcells_one _) (by unfold maxLen; omega) (by omega) ?_
                   intro v7 w7 o7 f7 n7 s7 _
                   have G7 := Lib.hid (grow_step ((Fr.drew Nothing w1).trans' (Fr.alloc Nothing _ (.cells #[.int .i64 id, .int .i64 t] 48))) (fun k hk => by simp [InBlock, Value.ownBlock] at hk) f7 n7)
                   have FA := Lib.hid G7.out.1
                   have O7 := Lib.hid o7
                   have HS7 := Lib.hid ((Sl.ofRow (Row.allocNew w1.drew [.int .i64 id, .int .i64 t] 48)).fr f7.ofNil (fun _ _ h => h))
                   have hc7 := (Hr.out.head.fr G7.out.1 (fun h => h)).cell 0 rfl
                   clear o7)
                | (refine step_append_fp (by rfl) (.tmp 88) (.tmp 92) 40 (by rfl) 48 i0 (.agg #[.int .i64 0, .int .i64 0]) 2 16 Try.underlying40 Hi.out Hz0.out Hz1.out Hz2.out rfl (by decide) v7 _ _ (by rfl) O7.out _ 1 1 [.int .i64 id, .int .i64 t] (by rfl) rfl (by simp) HS7.out (by intro u hu; simp at hu; rcases hu with rfl | rfl <;> rfl) (by unfold maxLen; omega) (by omega) ?_
                   intro v8 w8 o8 f8 n8 s8 _
                   have G8 := Lib.hid (grow_step FA.out G7.out.2 f8 n8)
                   have O8 := Lib.hid o8
                   have hc8 := (Hr.out.head.fr G8.out.1 (fun h => h)).cell 0 rfl
                   have KY8 := Lib.hid (KY.out.fr G8.out.1 (fun _ _ h => h))
                   clear o8)
                | (refine step_append_fp (by rfl) (.tmp 93) (.tmp 99) 40 (by rfl) 48 i0 (.agg #[.int .i64 0, .int .i64 0]) 2 16 Try.underlying40 Hi.out Hz0.out Hz1.out Hz2.out rfl (by decide) v8 _ _ (by rfl) O8.out _ (R.length - k) _ ((R.drop k).flatMap rcells) (by rfl) (by rw [rflat_len, hYl.out]) HnY.out KY8.out (rcells_one _) (by unfold maxLen; omega) (by omega) ?_
                   intro v9 w9 o9 f9 n9 s9 _
                   have G9 := Lib.hid (grow_step G8.out.1 G8.out.2 f9 n9)
                   have hd9 := Hr.out.head.fr G9.out.1 (fun h => h)
                   have hp9 := hd9.free 0
                   have hc9' := hd9.cell 0 rfl
                   clear hd9
                   have o9' : Owns w9 48 2 v9 (ins R (id, t)).length ((ins R (id, t)).flatMap rcells) := by
                     have e1 : (ins R (id, t)).length = 0 + k + 1 + (R.length - k) := by rw [← HIns.out, List.length_append, List.length_append, hXl.out, hYl.out]; simp
                     rw [e1, ← HIns.out, List.flatMap_append, List.flatMap_append]
                     exact o9
                   clear o9
                   obtain ⟨a9, c9, rfl, _, _⟩ := o9'.shape)))
            all_goals go_wp2_with (fail)
            all_goals
              go_ret
              refine ⟨rfl, ?_⟩
              rw [HM.out]
              exact HG1.out.trans (fun S1 I => wref_gone I G9.out.1 G9.out.2 o9')

end
end Go.Proofs.Ytgfphbehecpgpaa
