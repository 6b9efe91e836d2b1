/- The library's sort at int: pdqsort, its loop and its recursion. Condition: the row lies in a block of its own. -/
import Derived.Test.YtdgaiacigmcibaaNSortI
import Derived.Sort.Walk13a
import Derived.Deep.Cut
namespace Go.Proofs.Ytdgaiacigmcibaa.NS
open Go.RowKit Go.Sort

/-- A round's world: the row holds dk, and nothing else is turned. -/
def St (w : World) (g : Nat) (rest : List Value) (dk : Array Int) (wr : World) : Prop := UA wr g rest dk ∧ Fr (fun q => q = g) w wr
section
variable {w wr w1 : World} {g : Nat} {rest : List Value} {d dk : Array Int}
theorem St.step (h : St w g rest d wr) (h1 : UA w1 g rest dk) (f : Fr (fun q => q = g) wr w1) : St w g rest dk w1 := ⟨h1, h.2.trans' f⟩
theorem St.same (h : St w g rest d wr) (f : Fr Nothing wr w1) : St w g rest d w1 := ⟨UA.fr h.1 f (fun h => h), h.2.trans' (f.mono fun _ _ h => h.elim)⟩
end
def ltAt (d : Array Int) (i j : Nat) : Bool := ltInt d[i]! d[j]!
theorem u_heap2 (g c n : Nat) (rest : List Value) (d : Array Int) (hn : d.size = n) (a b : Nat) (w : World) (h : UA w g rest d) (hb : b ≤ n) (hl : 12 < b - a) (hd : (n : Int) ≤ 1000) :
    Calls Try.prog 47 #[.slice (some ⟨g, 0, none⟩) n c, .int .i64 a, .int .i64 b] w fun e w' => e = .returned (.tuple #[]) ∧ UA w' g rest (Sort.heapSort ltInt d a b) ∧ Fr (fun q => q = g) w w' := by
  subst hn
  obtain ⟨l, rfl⟩ : ∃ l, b = a + l := ⟨b - a, by omega⟩
  exact u_heap g c rest d a l w h hb (by omega) hd
theorem u_pivot2 (g c n : Nat) (rest : List Value) (d : Array Int) (hn : d.size = n) (a b : Nat) (w : World) (h : UA w g rest d) (hb : b ≤ n) (hl : 12 < b - a) (hd : (n : Int) ≤ 1000) :
    Calls Try.prog 49 #[.slice (some ⟨g, 0, none⟩) n c, .int .i64 a, .int .i64 b] w fun r w' => r = .returned (.tuple #[.int .i64 (Sort.choosePivot ltInt d a b).1, .int .i64 (hintI (Sort.choosePivot ltInt d a b).2)]) ∧ UA w' g rest d ∧ Fr Nothing w w' := by
  subst hn
  obtain ⟨l, rfl⟩ : ∃ l, b = a + l := ⟨b - a, by omega⟩
  exact u_pivot g c rest d a l w h hb (by omega) hd
theorem u_break2 (g c n : Nat) (rest : List Value) (d : Array Int) (hn : d.size = n) (a b : Nat) (w : World) (h : UA w g rest d) (hb : b ≤ n) (hl : 12 < b - a) (hd : (n : Int) ≤ 1000) :
    Calls Try.prog 48 #[.slice (some ⟨g, 0, none⟩) n c, .int .i64 a, .int .i64 b] w fun e w' => e = .returned (.tuple #[]) ∧ UA w' g rest (Sort.breakPatterns d a b) ∧ Fr (fun q => q = g) w w' := by
  subst hn
  obtain ⟨l, rfl⟩ : ∃ l, b = a + l := ⟨b - a, by omega⟩
  exact u_break g c rest d a l w h hb (by omega) hd
theorem hintI_two {h : Hint} (e : hintI h = 2) : h = .decreasing := by cases h <;> simp [hintI] at e ⊢
theorem eighth {x y p q : Nat} (h1 : q ≤ p) (h2 : y ≤ x) : decide (((x : Int) - (y : Int)) / 8 ≤ (p : Int) - (q : Int)) = decide (p - q ≥ (x - y) / 8) :=
  decide_eq_decide.2 ⟨fun h => by omega, fun h => by omega⟩
set_option maxHeartbeats 16000000 in
set_option maxRecDepth 1000000 in
theorem u_pdq : ∀ (N g c n a b limit : Nat) (rest : List Value) (d : Array Int) (w : World), b - a < N → UA w g rest d → a ≤ b → b ≤ n → d.size = n → (n : Int) ≤ 1000 → (limit : Int) ≤ 1000 → Below ltInt a b d →
    Calls Try.prog 35 #[.slice (some ⟨g, 0, none⟩) n c, .int .i64 a, .int .i64 b, .int .i64 limit] w fun e w' => e = .returned (.tuple #[]) ∧ St w g rest (pdq ltInt d a b limit true true) w' := by
  intro N
  induction N with
  | zero => intro _ _ _ _ _ _ _ _ _ h; exact absurd h (Nat.not_lt_zero _)
  | succ N ih =>
    intro g c n a b limit rest d w hN hH hab hb hsz hn1 hlimit hBel0
    have HIH := Lib.hid ih
    have HN0 := Lib.hid hsz
    have hn1000 : n ≤ 1000 := by omega
    have hl1000 : limit ≤ 1000 := by omega
    have H0 : Hid (St w g rest d w) := Lib.hid ⟨hH, Fr.refl _ _⟩
    have HB0 := Lib.hid hBel0
    obtain ⟨R, hR⟩ : ∃ R, R = pdq ltInt d a b limit true true := ⟨_, rfl⟩
    rw [← hR]
    have HR0 := Lib.hid hR.symm
    clear hR hH hBel0 hsz ih
    go_enter Try.func35, Try.ntmps35
    go_wp2_with (fail)
    go_loopg [1, 2, 3, 8, 9] (b - a) (fun k s1 s2 s3 s8 s9 wr => ∃ (a' b' lim : Nat) (wb wp : Bool) (dk : Array Int), s1 = .int .i64 a' ∧ s2 = .int .i64 b' ∧ s3 = .int .i64 lim ∧ s8 = .bool wb ∧ s9 = .bool wp ∧
      a' ≤ b' ∧ b' ≤ n ∧ b' - a' ≤ k ∧ k ≤ b - a ∧ lim ≤ limit ∧ Hid (dk.size = n) ∧ Hid (Below ltInt a' b' dk) ∧ Hid (St w g rest dk wr) ∧ Hid (pdq ltInt dk a' b' lim wb wp = R))
    case atStart => exact ⟨a, b, limit, true, true, d, rfl, rfl, rfl, rfl, rfl, hab, hb, Nat.le_refl _, Nat.le_refl _, Nat.le_refl _, HN0, HB0, H0, HR0⟩
    case round =>
      clear HN0 HB0 H0 HR0
      obtain ⟨a', b', lim, wb, wp, dk, rfl, rfl, rfl, rfl, rfl, hab', hb', hk, hkN, hlim, HN, HB, HS, HR⟩ := hrel
      have ha1000 : (a' : Int) ≤ 1000 := by omega
      have hb1000 : (b' : Int) ≤ 1000 := by omega
      have hlim1000 : (lim : Int) ≤ 1000 := by omega
      by_cases h12 : b' - a' ≤ 12
      · have h12z : (b' : Int) - (a' : Int) ≤ 12 := by omega
        have HC := Lib.hid (u_insertion g c rest dk a' b' wr HS.out.1 (by rw [HN.out]; exact hb') (by rw [HN.out]; exact hn1) (by omega))
        rw [HN.out] at HC
        have hp : Sort.insertionSort ltInt dk a' b' = R := by rw [← HR.out, pdq_small h12]
        rw [hp] at HC
        clear hp
        go_wp2_with (go_at_call 46; refine HC.out.mono ?_; rintro e w1 ⟨rfl, hU1, hF1⟩)
        (try simp only [Exit.inBlock, Exit.then]); refine bodyPost_ret (results_none rfl _ _ _) rfl ?_
        exact ⟨rfl, HS.out.step hU1 hF1⟩
      · have h12z : ¬ ((b' : Int) - (a' : Int) ≤ 12) := by omega
        by_cases hl0 : lim = 0
        · have HC := Lib.hid (u_heap2 g c n rest dk HN.out a' b' wr HS.out.1 hb' (by omega) hn1)
          have hp : Sort.heapSort ltInt dk a' b' = R := by rw [← HR.out, pdq_heap h12 hl0]
          rw [hp] at HC
          clear hp
          subst hl0
          go_wp2_with (go_at_call 47; refine HC.out.mono ?_; rintro e w1 ⟨rfl, hU1, hF1⟩)
          (try simp only [Exit.inBlock, Exit.then]); refine bodyPost_ret (results_none rfl _ _ _) rfl ?_
          exact ⟨rfl, HS.out.step hU1 hF1⟩
        · have hl0z : ¬ ((lim : Int) = 0) := by omega
          have hab2 : a' < b' := by omega
          have hbk : b' ≤ dk.size := by rw [HN.out]; exact hb'
          obtain ⟨RD, hRD⟩ : ∃ RD, RD = Sort.rd ltInt dk a' b' lim wb wp := ⟨_, rfl⟩
          have hRF := rd_facts (limit := lim) (wb := wb) (wp := wp) swo_ltInt partialInsertionSort_holds reverseRange_holds hab2 hbk HB.out
          rw [← hRD, HN.out] at hRF
          obtain ⟨s1, B1, hc1, s2, B2, hpv, s3, B3⟩ := hRF
          have HRD := Lib.hid hRD
          have HS1 := Lib.hid s1
          have HS2 := Lib.hid s2
          have HS3 := Lib.hid s3
          have HB3 := Lib.hid B3
          have hlle : RD.lim ≤ limit := by rw [hRD]; exact Nat.le_trans rd_lim_le hlim
          clear B1 B2 B3 s1 s2 s3 hbk
          -- breakPatterns, where the last round was not balanced
          go_upto_if 35 with fail
          go_cut [3] from 19 (fun s3 wc => s3 = .int .i64 RD.lim ∧ Hid (St w g rest RD.d1 wc))
          case first =>
            cases wb
            · have HC := Lib.hid (u_break2 g c n rest dk HN.out a' b' wr HS.out.1 hb' (by omega) hn1)
              have hp : Sort.breakPatterns dk a' b' = RD.d1 ∧ RD.lim = lim - 1 := by rw [hRD]; exact ⟨rfl, rfl⟩
              rw [hp.1] at HC
              have hlm : (RD.lim : Int) = (lim : Int) - 1 := by omega
              clear hp hRD
              go_wp2_with (go_at_call 48; refine HC.out.mono ?_; rintro e w1 ⟨rfl, hU1, hF1⟩)
              go_meet
              case rel => exact ⟨by rw [← hlm], Lib.hid (HS.out.step hU1 hF1)⟩
            · have hp : RD.d1 = dk ∧ RD.lim = lim := by rw [hRD]; exact ⟨rfl, rfl⟩
              clear hRD
              go_wp2_with fail
              go_meet
              case rel => exact ⟨by rw [hp.2], by rw [hp.1]; exact HS⟩
          case rest =>
            obtain ⟨rfl, HT1⟩ := hcut
            have HC := Lib.hid (u_pivot2 g c n rest RD.d1 HS1.out a' b' wc HT1.out.1 hb' (by omega) hn1)
            have hp : Sort.choosePivot ltInt RD.d1 a' b' = RD.c := by rw [hRD]; rfl
            rw [hp] at HC
            clear hp hRD
            go_upto_if 50 with (go_at_call 49; refine HC.out.mono ?_; rintro e w2 ⟨rfl, _hU2, hF2⟩)
            have HT2 : Hid (St w g rest RD.d1 w2) := Lib.hid (HT1.out.same hF2)
            clear HC HT1 hF2 _hU2
            -- what falls is turned round
            go_cut [11, 12] from 19 (fun s11 s12 wc => s11 = .int .i64 RD.pivot ∧ s12 = .int .i64 (hintI RD.hint) ∧ Hid (St w g rest RD.d2 wc))
            case first =>
              by_cases hh : RD.c.2 = .decreasing
              · have hcode : hintI RD.c.2 = 2 := by rw [hh]; rfl
                obtain ⟨e2, epv, eht⟩ : RD.d2 = reverseRange RD.d1 a' b' ∧ RD.pivot = (b' - 1) - (RD.c.1 - a') ∧ RD.hint = .increasing := by rw [HRD.out] at hh ⊢; exact rd_dec hh
                have HC := Lib.hid (u_reverse g c rest RD.d1 a' b' w2 HT2.out.1 (by rw [HS1.out]; exact hb') (by omega) (by rw [HS1.out]; exact hn1) (by omega))
                rw [HS1.out, ← e2] at HC
                have epI : (RD.pivot : Int) = (b' : Int) - 1 - ((RD.c.1 : Int) - a') := by omega
                have HET := Lib.hid eht
                clear e2 epv eht hh
                have hcI : (RD.c.1 : Int) ≤ 1000 ∧ (a' : Int) ≤ RD.c.1 := by omega
                go_wp2_with (go_at_call 50; refine HC.out.mono ?_; rintro e w3 ⟨rfl, hU3, hF3⟩)
                go_meet
                case rel => exact ⟨by rw [epI], by rw [HET.out]; rfl, Lib.hid (HT2.out.step hU3 hF3)⟩
              · have hcode : ¬ (hintI RD.c.2 = 2) := fun h => hh (hintI_two h)
                obtain ⟨e2, epv, eht⟩ : RD.d2 = RD.d1 ∧ RD.pivot = RD.c.1 ∧ RD.hint = RD.c.2 := by rw [HRD.out] at hh ⊢; exact rd_not hh
                have HEE := Lib.hid (And.intro e2 (And.intro epv eht))
                clear e2 epv eht hh
                go_wp2_with fail
                go_meet
                case rel => exact ⟨by rw [HEE.out.2.1], by rw [HEE.out.2.2], by rw [HEE.out.1]; exact HT2⟩
            case rest =>
              obtain ⟨rfl, rfl, HT3⟩ := hcut
              clear HT2
              -- the test of three
              go_upto_region 15 with fail
              go_cut [12, 68] from 19 (fun s12 s68 wx => s12 = .int .i64 (hintI RD.hint) ∧ s68 = .bool (wb && wp && decide (RD.hint = .increasing)) ∧ wx = wc)
              case first =>
                cases wb <;> cases wp <;> cases hh3 : RD.hint <;>
                  (have hcode3 := congrArg hintI hh3
                   simp only [hintI] at hcode3
                   go_wp2_with fail
                   go_meet
                   exact ⟨by simp [hh3, hintI], by simp [hh3, hintI], rfl⟩)
              case rest =>
                obtain ⟨rfl, rfl, rfl⟩ := hcut
                go_upto_if 68 with fail
                go_cut [] from 19 (fun wx => RD.pi.2 = false ∧ Hid (St w g rest RD.pi.1 wx))
                case first =>
                  cases h68 : (wb && wp && decide (RD.hint = .increasing))
                  · have epi : Hid (RD.pi = (RD.d2, false)) := Lib.hid (by rw [HRD.out] at h68 ⊢; exact rd_pi_no h68)
                    go_wp2_with fail
                    go_meet
                    case rel => exact ⟨by rw [epi.out], by rw [epi.out]; exact HT3⟩
                  · have epi : RD.pi = partialInsertionSort ltInt RD.d2 a' b' := by rw [HRD.out] at h68 ⊢; exact rd_pi_yes h68
                    have HC := Lib.hid (u_partial g c rest RD.d2 a' b' wc HT3.out.1 (by rw [HS2.out]; exact hb') hab2 (by rw [HS2.out]; exact hn1))
                    rw [HS2.out, ← epi] at HC
                    clear epi
                    go_wp2_with (go_at_call 51; refine HC.out.mono ?_; rintro e w4 ⟨rfl, hU4, hF4⟩)
                    all_goals first
                      | (have hp2 : RD.pi.2 = false := by assumption
                         go_meet
                         exact ⟨hp2, Lib.hid (HT3.out.step hU4 hF4)⟩)
                      | (have hp2 : RD.pi.2 = true := by assumption
                         (try simp only [Exit.inBlock, Exit.then]); refine bodyPost_ret (results_none rfl _ _ _) rfl ?_
                         refine ⟨rfl, ?_⟩
                         have hq : pdq ltInt dk a' b' lim wb wp = RD.pi.1 := by rw [HRD.out] at hp2 ⊢; exact pdq_done h12 hl0 hp2
                         rw [← HR.out, hq]
                         exact HT3.out.step hU4 hF4)
                case rest =>
                  obtain ⟨hp2, HT5⟩ := hcut
                  clear HT3
                  obtain ⟨D3, hD3⟩ : ∃ D, D = RD.pi.1 := ⟨_, rfl⟩
                  obtain ⟨pv, hpve⟩ : ∃ p, p = RD.pivot := ⟨_, rfl⟩
                  rw [← hD3] at HT5 HS3 HB3
                  rw [← hpve] at hpv ⊢
                  have HDP : Hid (D3 = (Sort.rd ltInt dk a' b' lim wb wp).pi.1 ∧ pv = (Sort.rd ltInt dk a' b' lim wb wp).pivot ∧ (Sort.rd ltInt dk a' b' lim wb wp).pi.2 = false) := Lib.hid ⟨by rw [hD3, HRD.out], by rw [hpve, HRD.out], by rw [← HRD.out]; exact hp2⟩
                  obtain ⟨lm, hlm⟩ : ∃ l, l = RD.lim := ⟨_, rfl⟩
                  have HLM : Hid (lm = (Sort.rd ltInt dk a' b' lim wb wp).lim) := Lib.hid (by rw [hlm, HRD.out])
                  rw [← hlm] at hlle ⊢
                  have hpvn : (pv : Int) < n := by omega
                  clear hD3 hpve hlm hp2 HS1 HS2
                  go_upto_region 17 with fail
                  go_cut [87] from 19 (fun s87 wx => s87 = .bool (decide (a' > 0) && !ltInt D3[a' - 1]! D3[pv]!) ∧ Hid (St w g rest D3 wx))
                  case first =>
                    rcases Nat.eq_zero_or_pos a' with ha0 | ha0
                    · have ha0z : decide ((a' : Int) > 0) = false := decide_eq_false (by omega)
                      have ha0y : decide ((0 : Int) < a') = false := decide_eq_false (by omega)
                      have ha0x : decide (0 < a') = false := decide_eq_false (by omega)
                      have HA0 := Lib.hid ha0
                      clear ha0
                      go_quiet (fail)
                      go_wp2_with fail
                      go_meet
                      case rel => exact ⟨by simp [HA0.out], Lib.hid (HT5.out.same (Fr.drewN _ _ _))⟩
                    · have ha0z : (0 : Int) < a' := by omega
                      obtain ⟨m, hm⟩ : ∃ m, a' = m + 1 := ⟨a' - 1, by omega⟩
                      have hmI : (a' : Int) - 1 = m := by omega
                      have hm2 : a' - 1 = m := by omega
                      have hmn : (m : Int) < n := by omega
                      obtain ⟨u, hu⟩ : ∃ u, u = D3[m]! := ⟨_, rfl⟩
                      obtain ⟨v, hv⟩ : ∃ v, v = D3[pv]! := ⟨_, rfl⟩
                      have pu := HT5.out.1.cell (i := m) (by rw [HS3.out]; omega)
                      have pv' := HT5.out.1.cell (i := pv) (by rw [HS3.out]; omega)
                      rw [← hu] at pu
                      rw [← hv] at pv'
                      have HL := Lib.hid (less_u u v)
                      have HM := Lib.hid hm2
                      have HUV := Lib.hid (And.intro hu hv)
                      clear hm hm2 hu hv
                      go_quiet ((go_at_call 52; exact Calls.quiet_of_same (HL.out _)))
                      go_wp2_with fail
                      go_meet
                      case rel => exact ⟨by rw [HM.out, ← HUV.out.1, ← HUV.out.2]; simp [ha0], Lib.hid (HT5.out.same (Fr.drewN _ _ _))⟩
                  case rest =>
                    obtain ⟨rfl, HT6⟩ := hcut
                    clear HT5
                    cases h87 : (decide (a' > 0) && !ltInt D3[a' - 1]! D3[pv]!)
                    · obtain ⟨mid, ap, d4, hx⟩ : ∃ mid ap d4, partition ltInt D3 a' b' pv = (mid, ap, d4) := ⟨(partition ltInt D3 a' b' pv).1, (partition ltInt D3 a' b' pv).2.1, (partition ltInt D3 a' b' pv).2.2, rfl⟩
                      obtain ⟨r1, r2, r3, r4, r5, r6, r7⟩ := round_part swo_ltInt (partition_holds ltInt) hpv.1 hpv.2 (show b' ≤ D3.size by rw [HS3.out]; exact hb') HB3.out hx
                      have HC := Lib.hid (u_part g c rest D3 a' b' pv wc HT6.out.1 (by rw [HS3.out]; exact hb') hpv.1 hpv.2 (by rw [HS3.out]; exact hn1))
                      rw [HS3.out, hx] at HC
                      rw [HS3.out] at r3
                      have HX := Lib.hid hx
                      have HB4 := Lib.hid r4
                      have HB5 := Lib.hid r5
                      have HB6 := Lib.hid r6
                      have HB7 := Lib.hid r7
                      have HN4 := Lib.hid r3
                      have H87 := Lib.hid h87
                      clear hx r3 r4 r5 r6 r7
                      have hmid : (mid : Int) ≤ 1000 := by omega
                      go_upto_if 113 with (go_at_call 54; refine HC.out.mono ?_; rintro e w7 ⟨rfl, hU7, hF7⟩)
                      have HT7 := Lib.hid (HT6.out.step hU7 hF7)
                      clear hU7 hF7 HT6 HC
                      by_cases h4 : mid - a' < b' - mid
                      · have h4z : (mid : Int) - (a' : Int) < (b' : Int) - (mid : Int) := by omega
                        have HC := Lib.hid (HIH.out g c n a' mid lm rest d4 w7 (by omega) HT7.out.1 r1 (by omega) HN4.out hn1 (by omega) HB4.out)
                        have HP := Lib.hid (pdq_sorts ltInt swo_ltInt d4 a' mid lm true true r1 (by rw [HN4.out]; omega) HB4.out)
                        go_wp2_with (go_at_call 35; refine HC.out.mono ?_; rintro e w8 ⟨rfl, hS8⟩)
                        go_roundg (b' - (mid + 1))
                        case measure => omega
                        case rel =>
                          refine ⟨mid + 1, b', lm, decide (mid - a' ≥ (b' - a') / 8), ap, pdq ltInt d4 a' mid lm true true, by go_num, rfl, rfl, ?_, rfl, by omega, hb', Nat.le_refl _, by omega, hlle, Lib.hid (by rw [HP.out.1.1]; exact HN4.out), Lib.hid (HB6.out _ HP.out.1 HP.out.2).1, Lib.hid (HT7.out.step hS8.1 hS8.2), ?_⟩
                          · exact congrArg Value.bool (eighth (by omega) (by omega))
                          · refine Lib.hid ?_
                            obtain ⟨e1, e2, e3⟩ := HDP.out
                            have hx := HX.out
                            have h87 := H87.out
                            rw [← HR.out, HLM.out]
                            rw [e1, e2] at hx h87
                            rw [pdq_left h12 hl0 e3 h87 (by rw [hx]; exact ⟨r1, r2⟩) (by rw [hx]; exact h4), hx]
                      · have h4z : ¬ ((mid : Int) - (a' : Int) < (b' : Int) - (mid : Int)) := by omega
                        have HC := Lib.hid (HIH.out g c n (mid + 1) b' lm rest d4 w7 (by omega) HT7.out.1 (by omega) (by omega) HN4.out hn1 (by omega) HB5.out)
                        have HP := Lib.hid (pdq_sorts ltInt swo_ltInt d4 (mid + 1) b' lm true true (by omega) (by rw [HN4.out]; omega) HB5.out)
                        go_wp2_with (go_at_call 35; refine HC.out.mono ?_; rintro e w8 ⟨rfl, hS8⟩)
                        go_roundg (mid - a')
                        case measure => omega
                        case rel =>
                          refine ⟨a', mid, lm, decide (b' - mid ≥ (b' - a') / 8), ap, pdq ltInt d4 (mid + 1) b' lm true true, rfl, rfl, rfl, ?_, rfl, r1, by omega, Nat.le_refl _, by omega, hlle, Lib.hid (by rw [HP.out.1.1]; exact HN4.out), Lib.hid (HB7.out _ HP.out.1 HP.out.2).1, Lib.hid (HT7.out.step hS8.1 hS8.2), ?_⟩
                          · exact congrArg Value.bool (eighth (by omega) (by omega))
                          · refine Lib.hid ?_
                            obtain ⟨e1, e2, e3⟩ := HDP.out
                            have hx := HX.out
                            have h87 := H87.out
                            rw [← HR.out, HLM.out]
                            rw [e1, e2] at hx h87
                            rw [pdq_right h12 hl0 e3 h87 (by rw [hx]; exact ⟨r1, r2⟩) (by rw [hx]; exact h4), hx]
                    · have h87' := h87
                      simp only [Bool.and_eq_true, decide_eq_true_eq, Bool.not_eq_true'] at h87'
                      obtain ⟨mid, d4, hx⟩ : ∃ mid d4, partitionEqual ltInt D3 a' b' pv = (mid, d4) := ⟨(partitionEqual ltInt D3 a' b' pv).1, (partitionEqual ltInt D3 a' b' pv).2, rfl⟩
                      obtain ⟨r1, r2, r3, r4, _⟩ := round_eq swo_ltInt (partitionEqual_holds ltInt) h87'.1 hpv.1 hpv.2 (show b' ≤ D3.size by rw [HS3.out]; exact hb') HB3.out h87'.2 hx
                      have HC := Lib.hid (u_parteq g c rest D3 a' b' pv wc HT6.out.1 (by rw [HS3.out]; exact hb') hpv.1 hpv.2 (by rw [HS3.out]; exact hn1))
                      rw [HS3.out, hx] at HC
                      rw [HS3.out] at r3
                      have HX := Lib.hid hx
                      have HB4 := Lib.hid r4
                      have HN4 := Lib.hid r3
                      have H87 := Lib.hid h87
                      clear hx r3 r4 h87'
                      go_wp2_with (go_at_call 53; refine HC.out.mono ?_; rintro e w7 ⟨rfl, hU7, hF7⟩)
                      go_roundg (b' - mid)
                      case measure => omega
                      case rel =>
                        refine ⟨mid, b', lm, wb, wp, d4, rfl, rfl, rfl, rfl, rfl, r2, hb', Nat.le_refl _, by omega, hlle, HN4, HB4, Lib.hid (HT6.out.step hU7 hF7), Lib.hid ?_⟩
                        obtain ⟨e1, e2, e3⟩ := HDP.out
                        have hx := HX.out
                        have h87 := H87.out
                        rw [← HR.out, HLM.out]
                        rw [e1, e2] at hx h87
                        rw [pdq_eq h12 hl0 e3 h87 (by rw [hx]; exact ⟨r1, r2⟩), hx]
end Go.Proofs.Ytdgaiacigmcibaa.NS
