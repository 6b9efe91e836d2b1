/- tidewaterref01.Right, Whole, Name. No condition. -/
import Derived.Test.YtbpbghmhenilcaaDoorRSign
import Derived.Test.YtbpbghmhenilcaaDoorSgName
namespace Go.Proofs.YtbpbghmhenilcaaDoor
open Go.RowKit

theorem okS_may {l : List UInt8} {v : Nat} {z : Int} (h : sg l = (v, z)) : okS l = (decide (0 < z) && mayS v) := by unfold okS; rw [h]
theorem wid_of {l : List UInt8} {v : Nat} {z : Int} (h : sg l = (v, z)) : wid l = z.toNat := by unfold wid; rw [h]
set_option maxHeartbeats 8000000 in
set_option maxRecDepth 100000 in
theorem ref_right (s : ByteArray) (w : World) (hs : s.size ≤ 1000000) :
    Calls Tryd.prog 14 #[.string s] w fun e w' => e = .returned (.int .i64 (if rightL s.data.toList = true then 0 else 2)) ∧ w' = w := by
  obtain ⟨B, hB⟩ : ∃ B, B = rightL s.data.toList := ⟨_, rfl⟩
  rw [← hB]
  obtain ⟨E, hE⟩ : ∃ E : Int, E = if B = true then 0 else 2 := ⟨_, rfl⟩
  rw [← hE]
  have HE := Lib.hid hE
  clear hE
  have HST := Lib.hid (And.intro hB.symm hs)
  have HSg := Lib.hid ref_sign
  have HMy := Lib.hid ref_may
  clear hB
  go_enter Tryd.func14, Tryd.ntmps14
  go_wp2_with (fail)
  go_loopg [0] s.size (fun gg vs wr => ∃ (t : ByteArray) (f : Nat), f = gg ∧ f = t.size ∧ vs = .string t ∧ Hid (rightL t.data.toList = B ∧ t.size ≤ 1000000) ∧ wr = w)
  case atStart => exact ⟨s, _, rfl, rfl, rfl, HST, rfl⟩
  case round =>
    clear HST
    obtain ⟨t, f, rfl, hf, rfl, HS, rfl⟩ := hrel
    have hsz : t.size = f := hf.symm
    have hl : t.data.toList.length = f := by rw [hf]; simp
    have hf1 : f ≤ 1000000 := by have := HS.out.2; omega
    by_cases h0 : 0 < f
    · have h0I : (0 : Int) < f := by omega
      have hne : t.data.toList ≠ [] := fun e => by rw [e] at hl; simp at hl; omega
      have hst := rightL_step hne
      rw [HS.out.1] at hst
      obtain ⟨v, z, hvz⟩ : ∃ v z, sg t.data.toList = (v, z) := ⟨_, _, rfl⟩
      have HC := Lib.hid (HSg.out t wr HS.out.2)
      rw [hvz] at HC
      unfold sgV at HC
      simp only at HC
      rw [okS_may hvz, wid_of hvz] at hst
      have hbd := sg_bd t.data.toList
      rw [hvz, hl] at hbd
      simp only at hbd
      by_cases hz : 0 < z
      · obtain ⟨k, rfl⟩ : ∃ k : Nat, z = k := ⟨z.toNat, by omega⟩
        rw [decide_eq_true hz, Bool.true_and, Int.toNat_natCast] at hst
        have hkn : ¬ ((k : Int) ≤ 0) := by omega
        have hkd : decide ((k : Int) ≤ 0) = false := decide_eq_false hkn
        have hkf : (k : Int) ≤ f := hbd.2.1
        have hk00 : ¬ k = 0 := by omega
        have HM := Lib.hid (HMy.out (v : Nat) wr)
        have HZ := Lib.hid (show 0 < k ∧ k ≤ f by omega)
        cases hm : mayS (v : Nat) with
        | true =>
          rw [hm] at HM hst
          rw [Bool.true_and] at hst
          have HS2 : Hid (rightL (t.extract k f).data.toList = B) := Lib.hid (by rw [← hsz, ext_drop]; exact hst.symm)
          clear hst hm hvz hbd hne hl hf hz HS h0
          go_wp2_with (first | (go_at_call 23; refine HC.out.mono ?_; rintro e w3 ⟨rfl, rfl⟩) | (go_at_call 24; refine HM.out.mono ?_; rintro e w4 ⟨rfl, rfl⟩))
          go_roundg (f - k)
          case measure => have := HZ.out; omega
          case rel => exact ⟨t.extract k f, f - k, rfl, by rw [ByteArray.size_extract, hsz]; omega, by go_num, Lib.hid ⟨HS2.out, by rw [ByteArray.size_extract, hsz]; omega⟩, rfl⟩
        | false =>
          rw [hm] at HM hst
          have HB : Hid (B = false) := Lib.hid (by rw [hst]; rfl)
          clear hst hm hvz hbd hne hl hf hz HS h0
          go_wp2_with (first | (go_at_call 23; refine HC.out.mono ?_; rintro e w3 ⟨rfl, rfl⟩) | (go_at_call 24; refine HM.out.mono ?_; rintro e w4 ⟨rfl, rfl⟩))
          go_ret
          exact ⟨by rw [HE.out, HB.out]; rfl, rfl⟩
      · have hzI : z ≤ 0 := by omega
        have HB : Hid (B = false) := Lib.hid (by rw [hst, decide_eq_false hz]; rfl)
        clear hst hvz hbd hne hl hf hz HS h0
        go_wp2_with (go_at_call 23; refine HC.out.mono ?_; rintro e w3 ⟨rfl, rfl⟩)
        go_ret
        exact ⟨by rw [HE.out, HB.out]; rfl, rfl⟩
    · obtain rfl : f = 0 := by omega
      have hnil : t.data.toList = [] := List.eq_nil_of_length_eq_zero hl
      have HB : Hid (B = true) := Lib.hid (by rw [← HS.out.1, hnil]; rfl)
      clear h0 hnil hl hf HS
      go_wp2_with (fail)
      go_ret
      exact ⟨by rw [HE.out, HB.out]; rfl, rfl⟩
set_option maxHeartbeats 8000000 in
set_option maxRecDepth 100000 in
theorem ref_whole (s : ByteArray) (w : World) (hs : s.size ≤ 1000000) :
    Calls Tryd.prog 12 #[.string s] w fun e w' => e = .returned (wV (wholeL s.data.toList)) ∧ w' = w := by
  obtain ⟨X, hX⟩ : ∃ X, X = wholeL s.data.toList := ⟨_, rfl⟩
  rw [← hX]
  obtain ⟨N, hN⟩ : ∃ N, N = s.size := ⟨_, rfl⟩
  have hsz : s.size = N := hN.symm
  have hl : s.data.toList.length = N := by rw [hN]; simp
  have HST : Hid ((wholeL (s.data.toList.drop 0)).map (· + 0) = X) := Lib.hid (by rw [List.drop_zero, hX]; simp)
  have HSg := Lib.hid (fun p w' => ref_sign (s.extract p N) w' (by rw [ByteArray.size_extract]; omega))
  have HMy := Lib.hid ref_may
  have HL := Lib.hid hl
  clear hX hN hl
  go_enter Tryd.func12, Tryd.ntmps12
  go_wp2_with (fail)
  go_loopg [4] N (fun gg vp wr => ∃ p : Nat, p ≤ N ∧ gg = N - p ∧ vp = .int .i64 (p : Nat) ∧ Hid ((wholeL (s.data.toList.drop p)).map (· + p) = X) ∧ wr = w)
  case atStart => exact ⟨0, by omega, by omega, rfl, HST, rfl⟩
  case round =>
    clear HST
    obtain ⟨p, hp, rfl, rfl, HS, rfl⟩ := hrel
    by_cases h0 : p < N
    · have h0I : (p : Int) < N := by omega
      have hpI : (p : Int) ≤ N := by omega
      have hdl : (s.data.toList.drop p).length = N - p := by rw [List.length_drop, HL.out]
      have hne : s.data.toList.drop p ≠ [] := fun e => by rw [e] at hdl; simp at hdl; omega
      have hS := HS.out
      obtain ⟨v, z, hvz⟩ : ∃ v z, sg (s.data.toList.drop p) = (v, z) := ⟨_, _, rfl⟩
      have HC := Lib.hid (HSg.out p wr)
      rw [← hsz, ext_drop, hsz, hvz] at HC
      unfold sgV at HC
      simp only at HC
      have hbd := sg_bd (s.data.toList.drop p)
      rw [hvz, hdl] at hbd
      simp only at hbd
      by_cases hz : 0 < z
      · obtain ⟨k, rfl⟩ : ∃ k : Nat, z = k := ⟨z.toNat, by omega⟩
        have hkn : ¬ ((k : Int) < 0) := by omega
        have hkd : decide ((k : Int) < 0) = false := decide_eq_false hkn
        have hk0 : ((k : Int) == 0) = false := by rw [beq_eq_false_iff_ne]; omega
        have HM := Lib.hid (HMy.out (v : Nat) wr)
        have HZ := Lib.hid (show 0 < k ∧ p + k ≤ N by omega)
        have hok := okS_may hvz
        rw [decide_eq_true hz, Bool.true_and] at hok
        cases hm : mayS (v : Nat) with
        | true =>
          rw [hm] at HM hok
          rw [whole_ok hok, wid_of hvz, Int.toNat_natCast, List.drop_drop, Option.map_map] at hS
          have HS2 : Hid ((wholeL (s.data.toList.drop (p + k))).map (· + (p + k)) = X) := Lib.hid (by
            rw [← hS]; congr 1; funext x; simp only [Function.comp_apply]; omega)
          have hpk : (p : Int) + k ≤ N := by have := HZ.out; omega
          clear hok hm hvz hbd hne hdl hz HS hS h0
          go_wp2_with (first | (go_at_call 23; refine HC.out.mono ?_; rintro e w3 ⟨rfl, rfl⟩) | (go_at_call 24; refine HM.out.mono ?_; rintro e w4 ⟨rfl, rfl⟩))
          go_roundg (N - (p + k))
          case measure => have := HZ.out; omega
          case rel => exact ⟨p + k, by have := HZ.out; omega, rfl, by go_num, HS2, rfl⟩
        | false =>
          rw [hm] at HM hok
          rw [whole_bad (by rw [hvz]; simp only; omega) hok] at hS
          have HB : Hid (X = none) := Lib.hid hS.symm
          clear hok hm hvz hbd hne hdl hz HS hS h0
          go_wp2_with (first | (go_at_call 23; refine HC.out.mono ?_; rintro e w3 ⟨rfl, rfl⟩) | (go_at_call 24; refine HM.out.mono ?_; rintro e w4 ⟨rfl, rfl⟩))
          go_ret2
          exact ⟨by rw [HB.out]; rfl, rfl⟩
      · by_cases hz0 : z = 0
        · subst hz0
          have hok := okS_may hvz
          rw [whole_bad (by rw [hvz]; simp only; omega) (by rw [hok]; rfl)] at hS
          have HB : Hid (X = none) := Lib.hid hS.symm
          clear hok hvz hbd hne hdl hz HS hS h0
          go_wp2_with (go_at_call 23; refine HC.out.mono ?_; rintro e w3 ⟨rfl, rfl⟩)
          go_ret2
          exact ⟨by rw [HB.out]; rfl, rfl⟩
        · obtain rfl : z = -1 := by omega
          rw [whole_part (by rw [hvz])] at hS
          have HB : Hid (X = some p) := Lib.hid (by rw [← hS]; simp)
          clear hvz hbd hne hdl hz hz0 HS hS h0
          go_wp2_with (go_at_call 23; refine HC.out.mono ?_; rintro e w3 ⟨rfl, rfl⟩)
          go_ret2
          exact ⟨by rw [HB.out]; rfl, rfl⟩
    · obtain rfl : p = N := by omega
      have hS := HS.out
      rw [List.drop_of_length_le (by rw [HL.out]; exact Nat.le_refl _), whole_nil] at hS
      have HB : Hid (X = some p) := Lib.hid (by rw [← hS]; simp)
      clear h0 HS hS
      go_wp2_with (fail)
      go_ret2
      exact ⟨by rw [HB.out]; rfl, rfl⟩
set_option maxHeartbeats 8000000 in
set_option maxRecDepth 100000 in
theorem ref_name (s : ByteArray) (w : World) (hs : s.size ≤ 1000000) :
    Calls Tryd.prog 16 #[.string s] w fun e w' => e = .returned (.bool (nameS s)) ∧ w' = w := by
  obtain ⟨R, hR⟩ : ∃ R, R = nameS s := ⟨_, rfl⟩
  have hiff := name_iff s
  rw [← hR] at hiff ⊢
  obtain ⟨N, hN⟩ : ∃ N, N = s.size := ⟨_, rfl⟩
  have hsz : s.size = N := hN.symm
  rw [hsz] at hiff
  have HI := Lib.hid hiff
  have hN1 : N ≤ 1000000 := by omega
  clear hR hiff hN
  go_enter Tryd.func16, Tryd.ntmps16
  go_wp2_with (fail)
  go_loopg [3] N (fun gg vk wr => ∃ k : Nat, k ≤ N ∧ gg = N - k ∧ vk = .int .i64 (k : Nat) ∧ Hid (∀ i, i < k → okAt i (s.data.toList.getD i 0).toNat = true) ∧ wr = w)
  case atStart => exact ⟨0, by omega, by omega, rfl, Lib.hid (fun i hi => by omega), rfl⟩
  case round =>
    obtain ⟨k, hk, rfl, rfl, HO, rfl⟩ := hrel
    by_cases hlt : k < N
    · have hltI : (k : Int) < N := by omega
      have hk0 : k < s.size := by omega
      obtain ⟨x, hx⟩ : ∃ x, s.get! k = x := ⟨_, rfl⟩
      have hix : s[k]'hk0 = x := by rw [← hx]; exact (Utf8W.get!_of_lt s k hk0).symm
      obtain ⟨c, hc⟩ : ∃ c, c = x.toNat := ⟨_, rfl⟩
      have hcx : (x.toNat : Int) = c := by rw [hc]
      have hby : (s.data.toList.getD k 0).toNat = c := by rw [Lib.getD_get!', hx, hc]
      have HFIN : Hid (okAt k c = false → R = false) := Lib.hid (fun h => by
        cases hRR : R with
        | false => rfl
        | true =>
          have := (HI.out.1 hRR).1 k hlt
          rw [hby, h] at this; cases this)
      have HGO : Hid (okAt k c = true → ∀ i, i < k + 1 → okAt i (s.data.toList.getD i 0).toNat = true) := Lib.hid (fun h i hi => by
        by_cases e : i = k
        · rw [e, hby]; exact h
        · exact HO.out i (by omega))
      clear hx hc hby
      have cases7 : (97 ≤ c ∧ c ≤ 122) ∨ (c < 97 ∧ 48 ≤ c ∧ c ≤ 57) ∨ c = 45 ∨ c = 58 ∨ (c < 48 ∧ c ≠ 45) ∨ (57 < c ∧ c < 97 ∧ c ≠ 58) ∨ 122 < c := by omega
      rcases cases7 with ⟨a1, a2⟩ | ⟨a1, a2, a3⟩ | a1 | a1 | ⟨a1, a2⟩ | ⟨a1, a2, a3⟩ | a1
      · have b97 : (97 : Int) ≤ c := by omega
        have b122 : (c : Int) ≤ 122 := by omega
        have HOK : Hid (okAt k c = true) := Lib.hid (by unfold okAt letterN; rw [decide_eq_true ⟨a1, a2⟩, Bool.true_or])
        clear a1 a2
        go_wp2_with (fail)
        go_roundg (N - (k + 1))
        case measure => omega
        case rel => exact ⟨k + 1, by omega, rfl, by go_num, Lib.hid (HGO.out HOK.out), rfl⟩
      · have b97 : ¬ ((97 : Int) ≤ c) := by omega
        have d97 : decide ((97 : Int) ≤ c) = false := decide_eq_false b97
        have b48 : (48 : Int) ≤ c := by omega
        have b57 : (c : Int) ≤ 57 := by omega
        have HL : letterN c = false := by unfold letterN; exact decide_eq_false (by omega)
        have HT : otherN c = true := by unfold otherN; exact decide_eq_true (by omega)
        by_cases hk0z : k = 0
        · subst hk0z
          have HRF : Hid (R = false) := Lib.hid (HFIN.out (by unfold okAt; rw [HL]; rfl))
          clear HL HT
          clear a1 a2 a3
          go_wp2_with (fail)
          go_ret
          exact ⟨by rw [HRF.out]; rfl, rfl⟩
        · have ek : ((k : Int) == 0) = false := by rw [beq_eq_false_iff_ne]; omega
          have HOK : Hid (okAt k c = true) := Lib.hid (by unfold okAt; rw [HL, HT, decide_eq_true hk0z]; rfl)
          clear HL HT hk0z
          clear a1 a2 a3
          go_wp2_with (fail)
          go_roundg (N - (k + 1))
          case measure => omega
          case rel => exact ⟨k + 1, by omega, rfl, by go_num, Lib.hid (HGO.out HOK.out), rfl⟩
      · subst a1
        have HL : letterN 45 = false := by unfold letterN; exact decide_eq_false (by omega)
        have HT : otherN 45 = true := by unfold otherN; exact decide_eq_true (by omega)
        by_cases hk0z : k = 0
        · subst hk0z
          have HRF : Hid (R = false) := Lib.hid (HFIN.out (by unfold okAt; rw [HL]; rfl))
          clear HL HT
          go_wp2_with (fail)
          go_ret
          exact ⟨by rw [HRF.out]; rfl, rfl⟩
        · have ek : ((k : Int) == 0) = false := by rw [beq_eq_false_iff_ne]; omega
          have HOK : Hid (okAt k 45 = true) := Lib.hid (by unfold okAt; rw [HL, HT, decide_eq_true hk0z]; rfl)
          clear HL HT hk0z
          go_wp2_with (fail)
          go_roundg (N - (k + 1))
          case measure => omega
          case rel => exact ⟨k + 1, by omega, rfl, by go_num, Lib.hid (HGO.out HOK.out), rfl⟩
      · subst a1
        have HL : letterN 58 = false := by unfold letterN; exact decide_eq_false (by omega)
        have HT : otherN 58 = true := by unfold otherN; exact decide_eq_true (by omega)
        by_cases hk0z : k = 0
        · subst hk0z
          have HRF : Hid (R = false) := Lib.hid (HFIN.out (by unfold okAt; rw [HL]; rfl))
          clear HL HT
          go_wp2_with (fail)
          go_ret
          exact ⟨by rw [HRF.out]; rfl, rfl⟩
        · have ek : ((k : Int) == 0) = false := by rw [beq_eq_false_iff_ne]; omega
          have HOK : Hid (okAt k 58 = true) := Lib.hid (by unfold okAt; rw [HL, HT, decide_eq_true hk0z]; rfl)
          clear HL HT hk0z
          go_wp2_with (fail)
          go_roundg (N - (k + 1))
          case measure => omega
          case rel => exact ⟨k + 1, by omega, rfl, by go_num, Lib.hid (HGO.out HOK.out), rfl⟩
      · have b97 : ¬ ((97 : Int) ≤ c) := by omega
        have d97 : decide ((97 : Int) ≤ c) = false := decide_eq_false b97
        have b48 : ¬ ((48 : Int) ≤ c) := by omega
        have d48 : decide ((48 : Int) ≤ c) = false := decide_eq_false b48
        have n45 : ((c : Int) != 45) = true := by simp; omega
        have m45 : ¬ ((c : Int) = 45) := by omega
        have n58 : ((c : Int) != 58) = true := by simp; omega
        have m58 : ¬ ((c : Int) = 58) := by omega
        have HL : letterN c = false := by unfold letterN; exact decide_eq_false (by omega)
        have HT : otherN c = false := by unfold otherN; exact decide_eq_false (by omega)
        by_cases hk0z : k = 0
        · subst hk0z
          have HRF : Hid (R = false) := Lib.hid (HFIN.out (by unfold okAt; rw [HL]; rfl))
          clear HL HT
          clear a1 a2
          go_wp2_with (fail)
          go_ret
          exact ⟨by rw [HRF.out]; rfl, rfl⟩
        · have ek : ((k : Int) == 0) = false := by rw [beq_eq_false_iff_ne]; omega
          have HRF : Hid (R = false) := Lib.hid (HFIN.out (by unfold okAt; rw [HL, HT, Bool.and_false]; rfl))
          clear HL HT hk0z
          clear a1 a2
          go_wp2_with (fail)
          go_ret
          exact ⟨by rw [HRF.out]; rfl, rfl⟩
      · have b97 : ¬ ((97 : Int) ≤ c) := by omega
        have d97 : decide ((97 : Int) ≤ c) = false := decide_eq_false b97
        have b48 : (48 : Int) ≤ c := by omega
        have b57 : ¬ ((c : Int) ≤ 57) := by omega
        have d57 : decide ((c : Int) ≤ 57) = false := decide_eq_false b57
        have n45 : ((c : Int) != 45) = true := by simp; omega
        have m45 : ¬ ((c : Int) = 45) := by omega
        have n58 : ((c : Int) != 58) = true := by simp; omega
        have m58 : ¬ ((c : Int) = 58) := by omega
        have HL : letterN c = false := by unfold letterN; exact decide_eq_false (by omega)
        have HT : otherN c = false := by unfold otherN; exact decide_eq_false (by omega)
        by_cases hk0z : k = 0
        · subst hk0z
          have HRF : Hid (R = false) := Lib.hid (HFIN.out (by unfold okAt; rw [HL]; rfl))
          clear HL HT
          clear a1 a2 a3
          go_wp2_with (fail)
          go_ret
          exact ⟨by rw [HRF.out]; rfl, rfl⟩
        · have ek : ((k : Int) == 0) = false := by rw [beq_eq_false_iff_ne]; omega
          have HRF : Hid (R = false) := Lib.hid (HFIN.out (by unfold okAt; rw [HL, HT, Bool.and_false]; rfl))
          clear HL HT hk0z
          clear a1 a2 a3
          go_wp2_with (fail)
          go_ret
          exact ⟨by rw [HRF.out]; rfl, rfl⟩
      · have b97 : (97 : Int) ≤ c := by omega
        have b122 : ¬ ((c : Int) ≤ 122) := by omega
        have d122 : decide ((c : Int) ≤ 122) = false := decide_eq_false b122
        have b48 : (48 : Int) ≤ c := by omega
        have b57 : ¬ ((c : Int) ≤ 57) := by omega
        have d57 : decide ((c : Int) ≤ 57) = false := decide_eq_false b57
        have n45 : ((c : Int) != 45) = true := by simp; omega
        have m45 : ¬ ((c : Int) = 45) := by omega
        have n58 : ((c : Int) != 58) = true := by simp; omega
        have m58 : ¬ ((c : Int) = 58) := by omega
        have HL : letterN c = false := by unfold letterN; exact decide_eq_false (by omega)
        have HT : otherN c = false := by unfold otherN; exact decide_eq_false (by omega)
        by_cases hk0z : k = 0
        · subst hk0z
          have HRF : Hid (R = false) := Lib.hid (HFIN.out (by unfold okAt; rw [HL]; rfl))
          clear HL HT
          clear a1
          go_wp2_with (fail)
          go_ret
          exact ⟨by rw [HRF.out]; rfl, rfl⟩
        · have ek : ((k : Int) == 0) = false := by rw [beq_eq_false_iff_ne]; omega
          have HRF : Hid (R = false) := Lib.hid (HFIN.out (by unfold okAt; rw [HL, HT, Bool.and_false]; rfl))
          clear HL HT hk0z
          clear a1
          go_wp2_with (fail)
          go_ret
          exact ⟨by rw [HRF.out]; rfl, rfl⟩
    · obtain rfl : k = N := by omega
      have HRR : Hid (R = decide (1 ≤ k ∧ k ≤ 16)) := Lib.hid (by
        rw [Bool.eq_iff_iff, HI.out, decide_eq_true_iff]
        exact ⟨fun h => h.2, fun h => ⟨HO.out, h⟩⟩)
      by_cases h1 : 1 ≤ k
      · have b1 : (1 : Int) ≤ k := by omega
        by_cases h16 : k ≤ 16
        · have b16 : (k : Int) ≤ 16 := by omega
          have HRT : Hid (R = true) := Lib.hid (by rw [HRR.out]; exact decide_eq_true ⟨h1, h16⟩)
          clear h1 h16
          go_wp2_with (fail)
          go_ret
          exact ⟨by rw [HRT.out]; rfl, rfl⟩
        · have b16 : ¬ ((k : Int) ≤ 16) := by omega
          have d16 : decide ((k : Int) ≤ 16) = false := decide_eq_false b16
          have HRT : Hid (R = false) := Lib.hid (by rw [HRR.out]; exact decide_eq_false (by omega))
          clear h1 h16
          go_wp2_with (fail)
          go_ret
          exact ⟨by rw [HRT.out]; rfl, rfl⟩
      · have b1 : ¬ ((1 : Int) ≤ k) := by omega
        have d1 : decide ((1 : Int) ≤ k) = false := decide_eq_false b1
        have HRT : Hid (R = false) := Lib.hid (by rw [HRR.out]; exact decide_eq_false (by omega))
        clear h1
        go_wp2_with (fail)
        go_ret
        exact ⟨by rw [HRT.out]; rfl, rfl⟩
end Go.Proofs.YtbpbghmhenilcaaDoor
