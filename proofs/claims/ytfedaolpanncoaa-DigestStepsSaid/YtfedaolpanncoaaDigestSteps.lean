/- DigestSteps answers true for every input and changes no memory that was there. No condition. -/
import Derived.Test.YtfedaolpanncoaaDigLawS
import Derived.Test.YtfedaolpanncoaaDigestBack
namespace Go.Proofs.Ytfedaolpanncoaa
open Go.RowKit

set_option maxHeartbeats 8000000 in
set_option maxRecDepth 100000 in
theorem digeststeps_any (a : Option Addr) (l : List Item) (ca : Nat) (b : Option Addr) (m : List Item) (cb : Nat) (w : World) (hla : l.length ≤ ca) (hca : ca ≤ maxLen) (ta : Items w a l) (ga : ∀ x ∈ l, x.Good) (hlb : m.length ≤ cb) (hcb : cb ≤ maxLen) (tb : Items w b m) (gb : ∀ x ∈ m, x.Good) :
    Calls Try.prog 5 #[.slice a l.length ca, .slice b m.length cb] w fun e w' => e = .returned (.bool true) ∧ Below w.heap.size w w' := by
  obtain ⟨A, hA⟩ : ∃ A, A = l.take 60 := ⟨_, rfl⟩
  obtain ⟨B, hB⟩ : ∃ B, B = m.take 60 := ⟨_, rfl⟩
  have PA : Arg60 w a l A ca := hA ▸ Arg60.mk' ta hla ga
  have PB : Arg60 w b m B cb := hB ▸ Arg60.mk' tb hlb gb
  have ha9 : (ca : Int) ≤ 9223372036854775807 := by unfold maxLen at hca; omega
  have hb9 : (cb : Int) ≤ 9223372036854775807 := by unfold maxLen at hcb; omega
  have HPA := Lib.hid PA
  have HPB := Lib.hid PB
  have HCA := Lib.hid hca
  have HCB := Lib.hid hcb
  clear hA hB PA PB ta tb ga gb hca hcb
  obtain ⟨i0, hi, hz0, hz1, hz2⟩ := info_parts Try.infoStep
  have Hz2 := Lib.hid hz2
  have Hz1 := Lib.hid hz1
  have Hz0 := Lib.hid hz0
  have Hi := Lib.hid hi
  clear hi hz0 hz1 hz2
  go_enter Try.func5, Try.ntmps5
  go_wp2_with (fail)
  refine (dig_lives _).mono ?_
  rintro e w1 ⟨rfl, f1⟩
  go_wp2_with (fail)
  refine (dig_early60 a l.length ca _ hla ha9).mono ?_
  rintro e w1' ⟨rfl, rfl⟩
  rw [← HPA.out.len]
  go_wp2_with (fail)
  refine (dig_early60 b m.length cb _ hlb hb9).mono ?_
  rintro e w1' ⟨rfl, rfl⟩
  rw [← HPB.out.len]
  have HA := Lib.hid (HPA.out.items.fr f1 (fun _ _ h => h))
  have HB := Lib.hid (HPB.out.items.fr f1 (fun _ _ h => h))
  have a60 := HPA.out.few
  have b60 := HPB.out.few
  have aca := HPA.out.cap
  have bcb := HPB.out.cap
  clear hla hlb
  by_cases hbad : riseB A = false ∨ riseB B = false
  · have HBAD := Lib.hid hbad
    clear hbad
    go_wp2_with (fail)
    refine (dig_of_bad a b ca cb A B _ HA.out HB.out (by omega) (by omega) HBAD.out).mono ?_
    rintro e w2 ⟨rfl, f2⟩
    go_wp2_with (fail)
    go_loopg [6] 0 (fun g i wr => g = 0 ∧ i = .int .i64 0 ∧ w2 = wr)
    case atStart => exact ⟨rfl, rfl, rfl⟩
    case round =>
      obtain ⟨rfl, rfl, rfl⟩ := hrel
      go_wp2_with (fail)
      go_ret
      exact ⟨rfl, (f1.trans' f2).fromN.belowB⟩
  · have ra : riseB A = true := by cases h : riseB A <;> simp_all
    have rb : riseB B = true := by cases h : riseB B <;> simp_all
    have RA := Lib.hid (riseB_pw.1 ra)
    have RB := Lib.hid (riseB_pw.1 rb)
    clear hbad
    go_wp2_with (fail)
    refine (dig_of a b ca cb A B _ HA.out HB.out aca bcb HCA.out HCB.out (by omega) (by omega) ra rb).mono ?_
    rintro e w4 ⟨s4, c4, rfl, co4⟩
    obtain ⟨S, hS⟩ : ∃ S, S = ofL A B := ⟨_, rfl⟩
    have hSl : S.length ≤ A.length + B.length := by rw [hS]; exact ofL_len A B
    have HO : Hid (S.any oddB = false) := Lib.hid (by rw [hS]; exact ofL_odd RA.out RB.out)
    have HF : Hid (∀ s ∈ S, s.user.size ≤ maxLen) := Lib.hid (by rw [hS]; exact ofL_fit RA.out RB.out HPA.out.fit HPB.out.fit)
    have HRS : Hid (∀ k (h : k + 1 < S.length), ltB S[k].user S[k + 1].user = true) := Lib.hid (by rw [hS]; exact fun k h => List.pairwise_iff_getElem.1 (ofL_rise A B RA.out RB.out) k (k + 1) (by omega) h (by omega))
    have HNM : Hid (∀ i, i < S.length → ∀ xs, ListedI (makeF A (without S i)) xs → xs ≠ B) := Lib.hid (by rw [hS]; exact fun i hi xs h => not_made RA.out RB.out hi h)
    rw [← hS] at co4 ⊢
    clear hS
    obtain ⟨a4, c4', e4, HS4', h4c, h4m, _⟩ := coll_steps co4
    cases e4
    have HS4 := Lib.hid HS4'
    have HA4 := Lib.hid (HA.out.fr co4.fr (fun _ _ h => h))
    have HB4 := Lib.hid (HB.out.fr co4.fr (fun _ _ h => h))
    have F4 := co4.fr
    have c49 : (c4 : Int) ≤ 9223372036854775807 := by unfold maxLen at h4m; omega
    clear co4 HS4' h4m
    go_wp2_with (fail)
    go_loopg [6] S.length (fun g i wr => ∃ k : Nat, k ≤ S.length ∧ g = S.length - k ∧ i = .int .i64 k ∧ Fr Nothing w4 wr)
    case atStart => exact ⟨0, Nat.zero_le _, rfl, rfl, Fr.refl _ _⟩
    case round =>
      obtain ⟨k, hk, rfl, rfl, F⟩ := hrel
      by_cases hlt : k < S.length
      · have hst := HS4.out.fr F (fun _ _ h => h)
        obtain ⟨b1, o1, rfl, g1⟩ := hst.at_ hlt
        have HST := Lib.hid hst
        have hkI : (k : Int) < S.length := by omega
        go_upto_region 8 with (fail)
        go_cut [38] (fun s wx => s = .bool false ∧ ∃ q, wx = wr.drewN q)
        case first =>
          by_cases k0 : k = 0
          · subst k0
            clear g1
            go_quiet (fail)
            go_wp2_with (fail)
            go_meet
            case rel => exact ⟨rfl, _, rfl⟩
          · obtain ⟨k, rfl⟩ : ∃ k', k = k' + 1 := ⟨k - 1, by omega⟩
            obtain ⟨b2, o2, e2, g2⟩ := hst.at_ (i := k) (by omega)
            obtain ⟨rfl, rfl⟩ : b1 = b2 ∧ o1 = o2 := by simpa using e2
            have hlt2 : ltB S[k].user S[k + 1].user = true := HRS.out k hlt
            obtain ⟨x, hx⟩ : ∃ x, x = S[k] := ⟨_, rfl⟩
            obtain ⟨y, hy⟩ : ∃ y, y = S[k + 1] := ⟨_, rfl⟩
            rw [← hy] at g1 hlt2
            rw [← hx] at g2 hlt2
            unfold ltB at hlt2
            have p0 : wr.cell? ⟨b1, o1 + k * 6, none⟩ = some (.string x.user) := g2 0 _ rfl
            have q0 : wr.cell? ⟨b1, o1 + (k + 1) * 6, none⟩ = some (.string y.user) := g1 0 _ rfl
            have hkI2 : (k : Int) < S.length := by omega
            clear g1 g2 hx hy hst k0
            go_quiet (fail)
            go_wp2_with (fail)
            go_meet
            case rel => exact ⟨rfl, _, rfl⟩
        case rest =>
          obtain ⟨rfl, q, rfl⟩ := hcut
          clear g1 hst
          obtain ⟨X, hX⟩ : ∃ X, X = S.take k := ⟨_, rfl⟩
          obtain ⟨Y, hY⟩ : ∃ Y, Y = S.drop (k + 1) := ⟨_, rfl⟩
          have HXl : Hid (X.length = k) := Lib.hid (by rw [hX, List.length_take]; omega)
          have HYl : Hid (Y.length = S.length - (k + 1)) := Lib.hid (by rw [hY, List.length_drop])
          have HXY : Hid (without S k = X ++ Y) := Lib.hid (by rw [hX, hY]; rfl)
          obtain ⟨wq, hwq⟩ : ∃ wq, wq = wr.drewN q := ⟨_, rfl⟩
          have Fq : Fr Nothing w4 wq := by rw [hwq]; exact F.trans' (Fr.drewN _ _ _)
          have hsq : Sl wq (some ⟨b1, o1, none⟩) (S.flatMap DStep.cells) := by rw [hwq]; exact HST.out.2.2.drewN q
          have kX : Sl wq.drew (some ⟨b1, o1, none⟩) (X.flatMap DStep.cells) := by
            have := (show Steps wq (some ⟨b1, o1, none⟩) S from ⟨DStep.len, by decide, hsq⟩).take k
            rw [hX]; exact this.2.2
          have kY : Sl wq.drew (if c4 = k + 1 then some ⟨b1, o1, none⟩ else some ⟨b1, o1 + (k + 1) * 6, none⟩) (Y.flatMap DStep.cells) := by
            by_cases hcj : c4 = k + 1
            · rw [if_pos hcj]
              have : Y = [] := List.eq_nil_of_length_eq_zero (by have := HYl.out; omega)
              rw [this]; exact Sl.nil _ _
            · rw [if_neg hcj]
              have h1 := hsq.drop ((k + 1) * 6)
              have h2 : (S.flatMap DStep.cells).drop ((k + 1) * 6) = Y.flatMap DStep.cells := by
                have e : S = S.take (k + 1) ++ Y := by rw [hY]; exact (List.take_append_drop (k + 1) S).symm
                have hl2 : ((S.take (k + 1)).flatMap DStep.cells).length = (k + 1) * 6 := by rw [flat_len _ _ DStep.len]; simp; omega
                have e2 : S.flatMap DStep.cells = (S.take (k + 1)).flatMap DStep.cells ++ Y.flatMap DStep.cells := by rw [← List.flatMap_append, ← e]
                rw [e2, List.drop_left' hl2]
              rw [h2] at h1; exact h1
          obtain ⟨ad, had⟩ : ∃ ad, (if c4 = k + 1 then some (⟨b1, o1, none⟩ : Addr) else some ⟨b1, o1 + (k + 1) * 6, none⟩) = ad := ⟨_, rfl⟩
          rw [had] at kY
          have KX := Lib.hid kX
          have KY := Lib.hid kY
          have h1c : (k : Int) ≤ c4 := by omega
          have e1 : IntKind.i64.wrap ((k : Int) + 1) = ((k + 1 : Nat) : Int) := by rw [IntWalk.i64_in _ (by omega)]; omega
          have e2 : ((k + 1 : Nat) : Int) ≤ c4 := by omega
          have e4 : (0 : Int) ≤ (k : Int) + 1 := by omega
          have e3 : (k : Int) + 1 ≤ S.length := by omega
          have e5 : (k : Int) + 1 ≤ c4 := by omega
          have hcI : (S.length : Int) ≤ c4 := by omega
          have hnY : (if c4 = k + 1 then some (⟨b1, o1, none⟩ : Addr) else some ⟨b1, o1 + (k + 1) * 6, none⟩) = none → S.length - (k + 1) = 0 ∧ c4 - (k + 1) = 0 := fun h => by by_cases hcj : c4 = k + 1 <;> simp [hcj] at h
          rw [had] at hnY
          have HnY := Lib.hid hnY
          rw [← hwq]
          clear hnY kX kY hsq hX hY hwq
          go_upto_region 10 with (fail)
          go_cut [7] (fun s wx => ∃ a8 c8, s = .slice a8 (without S k).length c8 ∧ Owns wx 37 6 (.slice a8 (without S k).length c8) (without S k).length ((without S k).flatMap DStep.cells) ∧ Fr Nothing wq wx)
          case first =>
           go_region_law
            ((first
              | (refine step_append_fp (by rfl) (.const (.slice none 0 0)) (.tmp 41) 32 (by rfl) 37 i0 (.agg #[.string ByteArray.empty, .string ByteArray.empty, .string ByteArray.empty, .int .i64 0, .bool false, .bool false]) 6 72 Try.underlying32 Hi.out Hz0.out Hz1.out Hz2.out rfl (by decide) (.slice none 0 0) 0 [] (by rfl) (Owns.nil _ _ _) (some ⟨b1, o1, none⟩) k c4 (X.flatMap DStep.cells) (by rfl) (by rw [flat_len _ _ DStep.len, HXl.out]) (by simp) KX.out (steps_one (l := X)) (by unfold maxLen; omega) (by omega) ?_
                 intro v7 w7 o7 f7 n7 s7 _
                 have kY7 : Sl w7 _ (Y.flatMap DStep.cells) := (show Sl wq.drew _ _ from KY.out).fr f7.ofNil (fun _ _ h => h))
              | (refine step_append_fp (by rfl) (.tmp 42) (.tmp 46) 32 (by rfl) 37 i0 (.agg #[.string ByteArray.empty, .string ByteArray.empty, .string ByteArray.empty, .int .i64 0, .bool false, .bool false]) 6 72 Try.underlying32 Hi.out Hz0.out Hz1.out Hz2.out rfl (by decide) v7 _ _ (by rfl) o7 _ (S.length - (k + 1)) _ (Y.flatMap DStep.cells) (by rfl) (by rw [flat_len _ _ DStep.len, HYl.out]) HnY.out kY7 (steps_one (l := Y)) (by unfold maxLen; omega) (by omega) ?_
                 intro v8 w8 o8 f8 n8 s8 _
                 have o8' : Owns w8 37 6 v8 (without S k).length ((without S k).flatMap DStep.cells) := by
                   have e1 : (without S k).length = 0 + k + (S.length - (k + 1)) := by rw [HXY.out, List.length_append, HXl.out, HYl.out]; omega
                   rw [e1, HXY.out, List.flatMap_append]
                   exact o8
                 clear o8
                 obtain ⟨a8, c8, rfl, _, _⟩ := o8'.shape)))
           all_goals go_wp2_with (fail)
           all_goals
             go_meet
             case rel => exact ⟨a8, c8, rfl, o8', (Fr.drew _ _).trans' (f7.ofNil.trans f8 (fun q hq h7 => by have := n7.fresh h7; omega))⟩
          case rest =>
            obtain ⟨a8, c8, rfl, o8, F8⟩ := hcut
            have HS8 : Hid (Steps wc a8 (without S k)) := Lib.hid ⟨DStep.len, by decide, o8.sl.2⟩
            have hwl : (without S k).length ≤ 1000 := by rw [without_len hlt]; omega
            have HOW : Hid ((without S k).any oddB = false) := Lib.hid (without_odd HO.out)
            have HFW : Hid (∀ s ∈ without S k, s.user.size ≤ maxLen) := Lib.hid (fun s hs => HF.out s (without_sub s hs))
            have hnm := Lib.hid (HNM.out k hlt)
            have HA8 := Lib.hid (HA4.out.fr (Fq.trans' F8) (fun _ _ h => h))
            have HB8 := Lib.hid (HB4.out.fr (Fq.trans' F8) (fun _ _ h => h))
            obtain ⟨Z, hZ⟩ : ∃ Z, Z = without S k := ⟨_, rfl⟩
            have HZL : Hid (Z.length ≤ 200) := Lib.hid (by rw [hZ, without_len hlt]; omega)
            rw [← hZ] at HS8 hwl HOW HFW hnm ⊢
            clear o8 hZ KX KY
            go_wp2_with (fail)
            refine (dig_make a a8 ca c8 A Z _ HA8.out HS8.out (by omega) (by omega) ra HOW.out HPA.out.fit HFW.out).mono ?_
            rintro e w9 ⟨v9, x9, rfl, h9, co9⟩
            obtain ⟨a9, c9, rfl, i9', h9c, h9m⟩ := coll_items co9
            have hne := Lib.hid (hnm.out x9 h9)
            have hx9 : x9.length ≤ 1000 := by have h1 := made_len h9; have h2 := HZL.out; omega
            have I9 := Lib.hid i9'
            have HB9 := Lib.hid (HB8.out.fr co9.fr (fun _ _ h => h))
            have F9 := co9.fr
            clear h9 i9' co9
            go_wp2_with (fail)
            refine (same_items a9 b x9 B c9 cb _ I9.out HB9.out hx9 (by omega)).mono ?_
            rintro e w10 ⟨⟨r, rfl, hr⟩, n10, rfl⟩
            obtain rfl : r = false := by
              cases r with
              | false => rfl
              | true => exact absurd (hr.1 rfl) hne.out
            clear hr
            go_wp2_with (fail)
            go_roundg (S.length - (k + 1))
            case measure => omega
            case rel => exact ⟨k + 1, by omega, rfl, by go_num, Fq.trans' (F8.trans' (F9.trans' (Fr.drewN _ _ _)))⟩
      · obtain rfl : k = S.length := by omega
        go_wp2_with (fail)
        go_ret
        exact ⟨rfl, (f1.trans' (F4.trans' F)).fromN.belowB⟩
end Go.Proofs.Ytfedaolpanncoaa
