/- The library's stable sort by a comparison, at int: the merge in place, by its own recursion. Condition: the row lies in a block of its own; the comparison reads. -/
import Derived.Test.YtdgaiacigmcibaaISortC
import Derived.Deep.Cut
namespace Go.Proofs.Ytdgaiacigmcibaa
open Go.RowKit Go.Sort

theorem slideUp_size (e k : Nat) (d : Array Int) : (slideUp e k d).size = d.size := by
  obtain ⟨s, hs⟩ : ∃ s, s = e - k := ⟨_, rfl⟩
  induction s using Nat.strongRecOn generalizing k d with
  | _ s ih =>
    rw [slideUp]
    split
    · rw [ih _ (by omega) _ _ rfl, swp_size]
    · rfl
theorem slideDn_size (i k : Nat) (d : Array Int) : (slideDn i k d).size = d.size := by
  induction k generalizing d with
  | zero => rfl
  | succ k ih =>
    rw [slideDn]
    split
    · rw [ih, swp_size]
    · rfl
/-- Where the two halves part: s, and the end of what is turned. -/
def symS (lt : Int → Int → Bool) (d : Array Int) (a m b : Nat) : Nat :=
  bs (fun c => !lt d[(a + b) / 2 + m - 1 - c]! d[c]!) (if (a + b) / 2 < m then (a + b) / 2 + m - b else a) (if (a + b) / 2 < m then (a + b) / 2 else m)
def symN (lt : Int → Int → Bool) : Nat → Array Int → Nat → Nat → Nat → Array Int
  | 0, d, _, _, _ => d
  | N + 1, d, a, m, b =>
    if m - a = 1 then slideUp (bs (fun h => lt d[h]! d[a]!) m b - 1) a d
    else if b - m = 1 then slideDn (bs (fun h => !lt d[m]! d[h]!) a m) m d
    else
      let mid := (a + b) / 2
      let s := symS lt d a m b
      let e := mid + m - s
      let d1 := if (decide (s < m) && decide (m < e)) = true then rotate s m e d else d
      let d2 := if (decide (a < s) && decide (s < mid)) = true then symN lt N d1 a s mid else d1
      if (decide (mid < e) && decide (e < b)) = true then symN lt N d2 mid e b else d2
theorem symN_size (lt : Int → Int → Bool) (N : Nat) (d : Array Int) (a m b : Nat) : (symN lt N d a m b).size = d.size := by
  induction N generalizing d a m b with
  | zero => rfl
  | succ N ih =>
    unfold symN
    split
    · exact slideUp_size ..
    · split
      · exact slideDn_size ..
      · simp only []
        have h1 : (if (decide (symS lt d a m b < m) && decide (m < (a + b) / 2 + m - symS lt d a m b)) = true then rotate (symS lt d a m b) m ((a + b) / 2 + m - symS lt d a m b) d else d).size = d.size := by
          split
          · exact rot_size ..
          · rfl
        split
        · rw [ih]
          split
          · rw [ih, h1]
          · exact h1
        · split
          · rw [ih, h1]
          · exact h1
set_option maxHeartbeats 8000000 in
set_option maxRecDepth 1000000 in
theorem i_sym {f : Nat} {cb : Array Value} {cf : Int → Int → Int} {G : Int → Prop} : ∀ (N g c n : Nat) (rest : List Value) (d : Array Int) (a m b : Nat) (w : World), b - a ≤ N → Cmp f cb cf G g w → IA G w g rest d → d.size = n → a < m → m < b → b ≤ n → (n : Int) ≤ 1000 →
    Calls Try.prog 45 #[.slice (some ⟨g, 0, none⟩) n c, .int .i64 a, .int .i64 m, .int .i64 b, .func (.func f) #[] cb] w fun e w' => e = .returned (.tuple #[]) ∧ IA G w' g rest (symN (ltC cf) N d a m b) ∧ Fr (fun q => q = g) w w' := by
  intro N
  induction N with
  | zero => intro g c n rest d a m b w hN; omega
  | succ N ih =>
    intro g c n rest d a m b w hN hcm h hn ha hm hb hd
    by_cases h1 : m - a = 1
    · rw [symN, if_pos h1]
      exact i_sym1 g c n rest d hn a m b w hcm h ha hm hb hd (by omega)
    · by_cases h2 : b - m = 1
      · rw [symN, if_neg h1, if_pos h2]
        exact i_sym2 g c n rest d hn a m b w hcm h ha hm hb hd h1 (by omega)
      · obtain ⟨mid, hmid⟩ : ∃ q, q = (a + b) / 2 := ⟨_, rfl⟩
        obtain ⟨nn, hnn⟩ : ∃ q, q = mid + m := ⟨_, rfl⟩
        obtain ⟨P, hP⟩ : ∃ P : Nat → Bool, P = fun c => !ltC cf d[nn - 1 - c]! d[c]! := ⟨_, rfl⟩
        obtain ⟨s0, hs0⟩ : ∃ q, q = if mid < m then nn - b else a := ⟨_, rfl⟩
        obtain ⟨r0, hr0⟩ : ∃ q, q = if mid < m then mid else m := ⟨_, rfl⟩
        obtain ⟨S, hS⟩ : ∃ S, S = bs P s0 r0 := ⟨_, rfl⟩
        have hSS : symS (ltC cf) d a m b = S := by rw [hS, hP, hs0, hr0, hnn, hmid]; rfl
        obtain ⟨E, hE⟩ : ∃ q, q = nn - S := ⟨_, rfl⟩
        obtain ⟨d1, hd1⟩ : ∃ q, q = if (decide (S < m) && decide (m < E)) = true then rotate S m E d else d := ⟨_, rfl⟩
        obtain ⟨d2, hd2⟩ : ∃ q, q = if (decide (a < S) && decide (S < mid)) = true then symN (ltC cf) N d1 a S mid else d1 := ⟨_, rfl⟩
        obtain ⟨R, hR⟩ : ∃ q, q = if (decide (mid < E) && decide (E < b)) = true then symN (ltC cf) N d2 mid E b else d2 := ⟨_, rfl⟩
        have hRR : symN (ltC cf) (N + 1) d a m b = R := by
          rw [symN, if_neg h1, if_neg h2]
          simp only []
          rw [hSS, ← hmid, ← hnn, ← hE, ← hd1, ← hd2, ← hR]
        rw [hRR]
        have hn1 : d1.size = n := by rw [hd1]; split; exact (rot_size ..).trans hn; exact hn
        have hn2 : d2.size = n := by rw [hd2]; split; exact (symN_size ..).trans hn1; exact hn1
        have em : ((a : Int) + b) / 2 = mid := by omega
        have en : (mid : Int) + m = nn := by omega
        have hmm : a < mid ∧ mid < b := by omega
        have hs1 : nn ≤ s0 + b ∧ s0 ≤ r0 ∧ r0 ≤ m ∧ a ≤ s0 ∧ r0 ≤ mid ∧ nn - s0 ≤ b := by
          rw [hs0, hr0]
          by_cases hx : mid < m
          · rw [if_pos hx, if_pos hx]; omega
          · rw [if_neg hx, if_neg hx]; omega
        have e1 : ((m : Int) - a == 1) = false := by rw [beq_eq_false_iff_ne]; omega
        have e2 : ((b : Int) - m == 1) = false := by rw [beq_eq_false_iff_ne]; omega
        have hs2 : (if mid < m then (nn : Int) - b else a) = s0 := by
          rw [hs0]; split <;> omega
        have HS0 := Lib.hid hS.symm
        have HP := Lib.hid hP
        have H0 := Lib.hid h
        have HN := Lib.hid hn
        have HN1 := Lib.hid hn1
        have HN2 := Lib.hid hn2
        have HCM := Lib.hid hcm
        have HIH := Lib.hid ih
        have HE := Lib.hid hE
        have HD1 := Lib.hid hd1
        have HD2 := Lib.hid hd2
        have HR := Lib.hid hR
        have HSR := Lib.hid (And.intro hs0 hr0)
        have eg := hcm.1
        have F0 := Fr.refl (fun q => q = g) w
        have hlohi : s0 ≤ r0 := hs1.2.1
        have hnn2 : (nn : Int) ≤ 2000 ∧ 1 ≤ nn := by omega
        have hmid1000 : (mid : Int) ≤ 1000 := by omega
        have hm1000 : (m : Int) ≤ 1000 := by omega
        have hb1000 : (b : Int) ≤ 1000 := by omega
        have ha1000 : (a : Int) ≤ 1000 := by omega
        clear hS hP h hn hn1 hn2 hcm ih hE hd1 hd2 hR hSS hRR hs0 hr0 h1 h2 hmid hnn hs2
        go_enter Try.func45, Try.ntmps45
        go_upto_if 140 with fail
        go_cut [20, 21] from 25 (fun s20 s21 wx => s20 = .int .i64 s0 ∧ s21 = .int .i64 r0 ∧ w = wx)
        case first =>
          by_cases hx : mid < m
          · have hxI : (mid : Int) < m := by omega
            have e3 : (nn : Int) - b = s0 := by have := HSR.out.1; rw [if_pos hx] at this; omega
            have e4 : r0 = mid := by have := HSR.out.2; rw [if_pos hx] at this; exact this
            have E4 := Lib.hid e4
            clear e4
            go_wp2_with fail
            go_meet
            case rel => exact ⟨rfl, by rw [E4.out], rfl⟩
          · have hxI : ¬ ((mid : Int) < m) := by omega
            have e3 : s0 = a := by have := HSR.out.1; rw [if_neg hx] at this; exact this
            have e4 : r0 = m := by have := HSR.out.2; rw [if_neg hx] at this; exact this
            have E4 := Lib.hid (And.intro e3 e4)
            clear e3 e4
            go_wp2_with fail
            go_meet
            case rel => exact ⟨by rw [E4.out.1], by rw [E4.out.2], rfl⟩
        case rest =>
          obtain ⟨rfl, rfl, rfl⟩ := hcut
          obtain ⟨pp, hpp⟩ : ∃ q, q = nn - 1 := ⟨_, rfl⟩
          have ep : (nn : Int) - 1 = pp := by omega
          have HPP := Lib.hid hpp
          have hpp2 : pp + 1 = nn := by omega
          clear hpp
          go_wp2_with fail
          go_loopg [20, 21] (r0 - s0) (fun gg vi vj wr => ∃ (i j : Nat), gg = j - i ∧ vi = .int .i64 i ∧ vj = .int .i64 j ∧ s0 ≤ i ∧ i ≤ j ∧ j ≤ r0 ∧ Hid (bs P i j = S) ∧ Hid (IA G wr g rest d) ∧ Fr (fun q => q = g) w wr)
          case atStart => exact ⟨s0, r0, rfl, rfl, rfl, Nat.le_refl _, hlohi, Nat.le_refl _, HS0, H0, F0⟩
          case round =>
            clear HS0 H0 F0
            obtain ⟨i, j, rfl, rfl, rfl, hli, hij, hjh, HS, H, F⟩ := hrel
            by_cases hlt : i < j
            · have hltI : (i : Int) < j := by omega
              obtain ⟨h, hh⟩ : ∃ h, h = (i + j) / 2 := ⟨_, rfl⟩
              have eh : ((i : Int) + j) / 2 = h := by omega
              have hi1000 : (i : Int) ≤ 1000 := by omega
              have hj1000 : (j : Int) ≤ 1000 := by omega
              have hh1 : i ≤ h ∧ h < j := by omega
              have hhn : (h : Int) < n := by omega
              have hh1000 : (h : Int) ≤ 1000 := by omega
              obtain ⟨pc, hpc⟩ : ∃ q, q = nn - 1 - h := ⟨_, rfl⟩
              have epc : (pp : Int) - h = pc := by omega
              have hpcn : (pc : Int) < n := by omega
              have hpcn2 : pc < n := by omega
              have HS1 : Hid (bs P i j = if P h then bs P (h + 1) j else bs P i h) := Lib.hid (by rw [bs_go hlt, hh])
              clear hh
              have bU : Hid (pc < d.size) := Lib.hid (by rw [HN.out]; omega)
              have bV : Hid (h < d.size) := Lib.hid (by rw [HN.out]; omega)
              obtain ⟨u, hu⟩ : ∃ u, u = d[pc]! := ⟨_, rfl⟩
              obtain ⟨v, hv⟩ : ∃ v, v = d[h]! := ⟨_, rfl⟩
              have pu := H.out.cell bU.out
              have pv := H.out.cell bV.out
              have hgu := H.out.good bU.out
              have hgv := H.out.good bV.out
              rw [← hu] at pu hgu
              rw [← hv] at pv hgv
              obtain ⟨z, hz⟩ : ∃ z, z = cf u v := ⟨_, rfl⟩
              have HL := Lib.hid (HCM.out.quiet F hgu hgv)
              rw [← hz] at HL
              have hPh : P h = !decide (z < 0) := by rw [HP.out, hz, hu, hv, hpc]; rfl
              have HPH := Lib.hid hPh
              clear hgu hgv hz hu hv hPh hpc
              by_cases hz0 : z < 0
              · have HS2 : Hid (bs P i h = S) := Lib.hid (by rw [← HS.out, HS1.out, HPH.out]; simp [hz0])
                have hzd : decide (z < 0) = true := decide_eq_true hz0
                clear HS HS1 HPH
                go_wp2_with (fail)
                go_quiet ((go_at_fn f; exact Calls.quiet_of (HL.out _)))
                go_wp2_with (fail)
                go_roundg (h - i)
                case measure => omega
                case rel => exact ⟨i, h, rfl, rfl, by go_num, by omega, by omega, by omega, HS2, Lib.hid (H.out.fr (S := Nothing) (Fr.drewN _ _ _) (fun h => h)), F.trans' (Fr.drewN _ _ _)⟩
              · have HS2 : Hid (bs P (h + 1) j = S) := Lib.hid (by rw [← HS.out, HS1.out, HPH.out]; simp [hz0])
                have hzd : decide (z < 0) = false := decide_eq_false hz0
                clear HS HS1 HPH
                go_wp2_with (fail)
                go_quiet ((go_at_fn f; exact Calls.quiet_of (HL.out _)))
                go_wp2_with (fail)
                go_roundg (j - (h + 1))
                case measure => omega
                case rel => exact ⟨h + 1, j, rfl, by go_num, rfl, by omega, by omega, by omega, HS2, Lib.hid (H.out.fr (S := Nothing) (Fr.drewN _ _ _) (fun h => h)), F.trans' (Fr.drewN _ _ _)⟩
            · obtain rfl : i = j := by omega
              obtain rfl : S = i := by rw [← HS.out, bs_out]
              clear HS
              have hltI : ¬ ((S : Int) < S) := by omega
              have eE : (nn : Int) - S = E := by have := HE.out; omega
              have hEE : E + S = nn := by have := HE.out; omega
              have hEb : E ≤ b := by omega
              have hE1000 : (E : Int) ≤ 1000 := by omega
              have hS1000 : (S : Int) ≤ 1000 := by omega
              clear ep hpp2
              by_cases cA : S < m
              · by_cases cB : S < mid
                · by_cases cC : a < S
                  · by_cases cD : E < b
                    · have q1 : ((S : Int) < m) := by omega
                      have q2 : ((m : Int) < E) := by omega
                      have q3 : ((a : Int) < S) := by omega
                      have q4 : ((S : Int) < mid) := by omega
                      have q5 : ((mid : Int) < E) := by omega
                      have q6 : ((E : Int) < b) := by omega
                      have hb1 : (decide (S < m) && decide (m < E)) = true := by simp; omega
                      have hb2 : (decide (a < S) && decide (S < mid)) = true := by simp; omega
                      have hb3 : (decide (mid < E) && decide (E < b)) = true := by simp; omega
                      have X1 : Hid (d1 = rotate S m E d) := Lib.hid (by rw [HD1.out, hb1]; rfl)
                      have X2 : Hid (d2 = symN (ltC cf) N d1 a S mid) := Lib.hid (by rw [HD2.out, hb2]; rfl)
                      have X3 : Hid (R = symN (ltC cf) N d2 mid E b) := Lib.hid (by rw [HR.out, hb3]; rfl)
                      clear hb1 hb2 hb3
                      have HCw2 := Lib.hid (i_rotate g c n rest d HN.out S m E (.func (.func f) #[] cb) wr H.out (by omega) (by omega) (by omega) hd)
                      go_wp2_with (first
                        | (go_at_call 62; with_reducible refine HCw2.out.mono ?_; rintro _ w2 ⟨rfl, hUw2, hFw2⟩; have Fw2 := Fr.trans' F hFw2; have hVw2 := Eq.mpr (congrArg (IA G w2 g rest) X1.out) hUw2; have HCw3 := Lib.hid (HIH.out g c n rest d1 a S mid w2 (by omega) (HCM.out.at_ Fw2) hVw2 HN1.out (by omega) (by omega) (by omega) hd))
                        | (go_at_call 45; with_reducible refine HCw3.out.mono ?_; rintro _ w3 ⟨rfl, hUw3, hFw3⟩; have Fw3 := Fr.trans' Fw2 hFw3; have hVw3 := Eq.mpr (congrArg (IA G w3 g rest) X2.out) hUw3; have HCw4 := Lib.hid (HIH.out g c n rest d2 mid E b w3 (by omega) (HCM.out.at_ Fw3) hVw3 HN2.out (by omega) (by omega) (by omega) hd))
                        | (go_at_call 45; with_reducible refine HCw4.out.mono ?_; rintro _ w4 ⟨rfl, hUw4, hFw4⟩; have Fw4 := Fr.trans' Fw3 hFw4; have hVw4 := Eq.mpr (congrArg (IA G w4 g rest) X3.out) hUw4))
                      refine bodyPost_end (results_none rfl _ _ _) rfl ?_
                      exact ⟨rfl, hVw4, Fw4⟩
                    · have q1 : ((S : Int) < m) := by omega
                      have q2 : ((m : Int) < E) := by omega
                      have q3 : ((a : Int) < S) := by omega
                      have q4 : ((S : Int) < mid) := by omega
                      have q5 : ((mid : Int) < E) := by omega
                      have q6 : ¬ ((E : Int) < b) := by omega
                      have hb1 : (decide (S < m) && decide (m < E)) = true := by simp; omega
                      have hb2 : (decide (a < S) && decide (S < mid)) = true := by simp; omega
                      have hb3 : (decide (mid < E) && decide (E < b)) = false := by simp; omega
                      have X1 : Hid (d1 = rotate S m E d) := Lib.hid (by rw [HD1.out, hb1]; rfl)
                      have X2 : Hid (d2 = symN (ltC cf) N d1 a S mid) := Lib.hid (by rw [HD2.out, hb2]; rfl)
                      have X3 : Hid (R = d2) := Lib.hid (by rw [HR.out, hb3]; rfl)
                      clear hb1 hb2 hb3
                      have HCw2 := Lib.hid (i_rotate g c n rest d HN.out S m E (.func (.func f) #[] cb) wr H.out (by omega) (by omega) (by omega) hd)
                      go_wp2_with (first
                        | (go_at_call 62; with_reducible refine HCw2.out.mono ?_; rintro _ w2 ⟨rfl, hUw2, hFw2⟩; have Fw2 := Fr.trans' F hFw2; have hVw2 := Eq.mpr (congrArg (IA G w2 g rest) X1.out) hUw2; have HCw3 := Lib.hid (HIH.out g c n rest d1 a S mid w2 (by omega) (HCM.out.at_ Fw2) hVw2 HN1.out (by omega) (by omega) (by omega) hd))
                        | (go_at_call 45; with_reducible refine HCw3.out.mono ?_; rintro _ w3 ⟨rfl, hUw3, hFw3⟩; have Fw3 := Fr.trans' Fw2 hFw3; have hVw3 := Eq.mpr (congrArg (IA G w3 g rest) X2.out) hUw3))
                      refine bodyPost_end (results_none rfl _ _ _) rfl ?_
                      exact ⟨rfl, (show IA G w3 g rest R by rw [X3.out]; exact hVw3), Fw3⟩
                  · by_cases cD : E < b
                    · have q1 : ((S : Int) < m) := by omega
                      have q2 : ((m : Int) < E) := by omega
                      have q3 : ¬ ((a : Int) < S) := by omega
                      have q4 : ((S : Int) < mid) := by omega
                      have q5 : ((mid : Int) < E) := by omega
                      have q6 : ((E : Int) < b) := by omega
                      have hb1 : (decide (S < m) && decide (m < E)) = true := by simp; omega
                      have hb2 : (decide (a < S) && decide (S < mid)) = false := by simp; omega
                      have hb3 : (decide (mid < E) && decide (E < b)) = true := by simp; omega
                      have X1 : Hid (d1 = rotate S m E d) := Lib.hid (by rw [HD1.out, hb1]; rfl)
                      have X2 : Hid (d2 = d1) := Lib.hid (by rw [HD2.out, hb2]; rfl)
                      have X3 : Hid (R = symN (ltC cf) N d2 mid E b) := Lib.hid (by rw [HR.out, hb3]; rfl)
                      clear hb1 hb2 hb3
                      have HCw2 := Lib.hid (i_rotate g c n rest d HN.out S m E (.func (.func f) #[] cb) wr H.out (by omega) (by omega) (by omega) hd)
                      go_wp2_with (first
                        | (go_at_call 62; with_reducible refine HCw2.out.mono ?_; rintro _ w2 ⟨rfl, hUw2, hFw2⟩; have Fw2 := Fr.trans' F hFw2; have hVw2 := Eq.mpr (congrArg (IA G w2 g rest) X1.out) hUw2; have HCw4 := Lib.hid (HIH.out g c n rest d2 mid E b w2 (by omega) (HCM.out.at_ Fw2) (show IA G w2 g rest d2 by rw [X2.out]; exact hVw2) HN2.out (by omega) (by omega) (by omega) hd))
                        | (go_at_call 45; with_reducible refine HCw4.out.mono ?_; rintro _ w4 ⟨rfl, hUw4, hFw4⟩; have Fw4 := Fr.trans' Fw2 hFw4; have hVw4 := Eq.mpr (congrArg (IA G w4 g rest) X3.out) hUw4))
                      refine bodyPost_end (results_none rfl _ _ _) rfl ?_
                      exact ⟨rfl, hVw4, Fw4⟩
                    · have q1 : ((S : Int) < m) := by omega
                      have q2 : ((m : Int) < E) := by omega
                      have q3 : ¬ ((a : Int) < S) := by omega
                      have q4 : ((S : Int) < mid) := by omega
                      have q5 : ((mid : Int) < E) := by omega
                      have q6 : ¬ ((E : Int) < b) := by omega
                      have hb1 : (decide (S < m) && decide (m < E)) = true := by simp; omega
                      have hb2 : (decide (a < S) && decide (S < mid)) = false := by simp; omega
                      have hb3 : (decide (mid < E) && decide (E < b)) = false := by simp; omega
                      have X1 : Hid (d1 = rotate S m E d) := Lib.hid (by rw [HD1.out, hb1]; rfl)
                      have X2 : Hid (d2 = d1) := Lib.hid (by rw [HD2.out, hb2]; rfl)
                      have X3 : Hid (R = d2) := Lib.hid (by rw [HR.out, hb3]; rfl)
                      clear hb1 hb2 hb3
                      have HCw2 := Lib.hid (i_rotate g c n rest d HN.out S m E (.func (.func f) #[] cb) wr H.out (by omega) (by omega) (by omega) hd)
                      go_wp2_with (first
                        | (go_at_call 62; with_reducible refine HCw2.out.mono ?_; rintro _ w2 ⟨rfl, hUw2, hFw2⟩; have Fw2 := Fr.trans' F hFw2; have hVw2 := Eq.mpr (congrArg (IA G w2 g rest) X1.out) hUw2))
                      refine bodyPost_end (results_none rfl _ _ _) rfl ?_
                      exact ⟨rfl, (show IA G w2 g rest R by rw [X3.out]; exact (show IA G w2 g rest d2 by rw [X2.out]; exact hVw2)), Fw2⟩
                · by_cases cD : E < b
                  · have q1 : ((S : Int) < m) := by omega
                    have q2 : ¬ ((m : Int) < E) := by omega
                    have q3 : ((a : Int) < S) := by omega
                    have q4 : ¬ ((S : Int) < mid) := by omega
                    have q5 : ((mid : Int) < E) := by omega
                    have q6 : ((E : Int) < b) := by omega
                    have hb1 : (decide (S < m) && decide (m < E)) = false := by simp; omega
                    have hb2 : (decide (a < S) && decide (S < mid)) = false := by simp; omega
                    have hb3 : (decide (mid < E) && decide (E < b)) = true := by simp; omega
                    have X1 : Hid (d1 = d) := Lib.hid (by rw [HD1.out, hb1]; rfl)
                    have X2 : Hid (d2 = d1) := Lib.hid (by rw [HD2.out, hb2]; rfl)
                    have X3 : Hid (R = symN (ltC cf) N d2 mid E b) := Lib.hid (by rw [HR.out, hb3]; rfl)
                    clear hb1 hb2 hb3
                    have HCw4 := Lib.hid (HIH.out g c n rest d2 mid E b wr (by omega) (HCM.out.at_ F) (show IA G wr g rest d2 by rw [X2.out]; exact (show IA G wr g rest d1 by rw [X1.out]; exact H.out)) HN2.out (by omega) (by omega) (by omega) hd)
                    go_wp2_with (first
                      | (go_at_call 45; with_reducible refine HCw4.out.mono ?_; rintro _ w4 ⟨rfl, hUw4, hFw4⟩; have Fw4 := Fr.trans' F hFw4; have hVw4 := Eq.mpr (congrArg (IA G w4 g rest) X3.out) hUw4))
                    refine bodyPost_end (results_none rfl _ _ _) rfl ?_
                    exact ⟨rfl, hVw4, Fw4⟩
                  · have q1 : ((S : Int) < m) := by omega
                    have q2 : ¬ ((m : Int) < E) := by omega
                    have q3 : ((a : Int) < S) := by omega
                    have q4 : ¬ ((S : Int) < mid) := by omega
                    have q5 : ((mid : Int) < E) := by omega
                    have q6 : ¬ ((E : Int) < b) := by omega
                    have hb1 : (decide (S < m) && decide (m < E)) = false := by simp; omega
                    have hb2 : (decide (a < S) && decide (S < mid)) = false := by simp; omega
                    have hb3 : (decide (mid < E) && decide (E < b)) = false := by simp; omega
                    have X1 : Hid (d1 = d) := Lib.hid (by rw [HD1.out, hb1]; rfl)
                    have X2 : Hid (d2 = d1) := Lib.hid (by rw [HD2.out, hb2]; rfl)
                    have X3 : Hid (R = d2) := Lib.hid (by rw [HR.out, hb3]; rfl)
                    clear hb1 hb2 hb3
                    go_wp2_with (fail)
                    refine bodyPost_end (results_none rfl _ _ _) rfl ?_
                    exact ⟨rfl, (show IA G wr g rest R by rw [X3.out]; exact (show IA G wr g rest d2 by rw [X2.out]; exact (show IA G wr g rest d1 by rw [X1.out]; exact H.out))), F⟩
              · by_cases cB : S < mid
                · have q1 : ¬ ((S : Int) < m) := by omega
                  have q2 : ((m : Int) < E) := by omega
                  have q3 : ((a : Int) < S) := by omega
                  have q4 : ((S : Int) < mid) := by omega
                  have q5 : ¬ ((mid : Int) < E) := by omega
                  have hb1 : (decide (S < m) && decide (m < E)) = false := by simp; omega
                  have hb2 : (decide (a < S) && decide (S < mid)) = true := by simp; omega
                  have hb3 : (decide (mid < E) && decide (E < b)) = false := by simp; omega
                  have X1 : Hid (d1 = d) := Lib.hid (by rw [HD1.out, hb1]; rfl)
                  have X2 : Hid (d2 = symN (ltC cf) N d1 a S mid) := Lib.hid (by rw [HD2.out, hb2]; rfl)
                  have X3 : Hid (R = d2) := Lib.hid (by rw [HR.out, hb3]; rfl)
                  clear hb1 hb2 hb3
                  have HCw3 := Lib.hid (HIH.out g c n rest d1 a S mid wr (by omega) (HCM.out.at_ F) (show IA G wr g rest d1 by rw [X1.out]; exact H.out) HN1.out (by omega) (by omega) (by omega) hd)
                  go_wp2_with (first
                    | (go_at_call 45; with_reducible refine HCw3.out.mono ?_; rintro _ w3 ⟨rfl, hUw3, hFw3⟩; have Fw3 := Fr.trans' F hFw3; have hVw3 := Eq.mpr (congrArg (IA G w3 g rest) X2.out) hUw3))
                  refine bodyPost_end (results_none rfl _ _ _) rfl ?_
                  exact ⟨rfl, (show IA G w3 g rest R by rw [X3.out]; exact hVw3), Fw3⟩
                · have q1 : ¬ ((S : Int) < m) := by omega
                  have q2 : ¬ ((m : Int) < E) := by omega
                  have q3 : ((a : Int) < S) := by omega
                  have q4 : ¬ ((S : Int) < mid) := by omega
                  have q5 : ¬ ((mid : Int) < E) := by omega
                  have hb1 : (decide (S < m) && decide (m < E)) = false := by simp; omega
                  have hb2 : (decide (a < S) && decide (S < mid)) = false := by simp; omega
                  have hb3 : (decide (mid < E) && decide (E < b)) = false := by simp; omega
                  have X1 : Hid (d1 = d) := Lib.hid (by rw [HD1.out, hb1]; rfl)
                  have X2 : Hid (d2 = d1) := Lib.hid (by rw [HD2.out, hb2]; rfl)
                  have X3 : Hid (R = d2) := Lib.hid (by rw [HR.out, hb3]; rfl)
                  clear hb1 hb2 hb3
                  go_wp2_with (fail)
                  refine bodyPost_end (results_none rfl _ _ _) rfl ?_
                  exact ⟨rfl, (show IA G wr g rest R by rw [X3.out]; exact (show IA G wr g rest d2 by rw [X2.out]; exact (show IA G wr g rest d1 by rw [X1.out]; exact H.out))), F⟩
end Go.Proofs.Ytdgaiacigmcibaa
