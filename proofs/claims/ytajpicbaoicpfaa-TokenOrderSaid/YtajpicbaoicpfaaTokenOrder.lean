/- TokenOrder answers true for every input and changes no memory that was there. No condition. -/
import Derived.Test.YtajpicbaoicpfaaTokenBack
import Derived.Test.YtajpicbaoicpfaaNumSame
import Derived.Sort.Walk0
namespace Go.Proofs.Ytajpicbaoicpfaa
open Go.RowKit
theorem less_tok {a b : Nat} (ha : a < 2 ^ 64) (hb : b < 2 ^ 64) : Op.bytesLess (tokB a).toList (tokB b).toList = decide ((a : Int) < (b : Int)) := by
  rw [bytesLess_eq, ByteArray.toList_eq, ByteArray.toList_eq, tokB_list, tokB_list, decide_eq_decide, tok_lt ha hb]
  omega
set_option maxHeartbeats 4000000 in
set_option maxRecDepth 100000 in
theorem tokenorder_any (y z n : Int) (w : World) (_w0 : (Lit.int .u64 y).wf = true) (_w1 : (Lit.int .u64 z).wf = true) (_w2 : (Lit.int .i64 n).wf = true) :
    Calls Try.prog 7 #[.int .u64 y, .int .u64 z, .int .i64 n] w fun e w' => e = .returned (.bool true) ∧ Below w.heap.size w w' := by
  obtain ⟨a, rfl, ha⟩ := U64.of_wf _w0
  obtain ⟨b, rfl, hb⟩ := U64.of_wf _w1
  have HA := Lib.hid ha
  have HB := Lib.hid hb
  have ha1 : (a : Int) < 18446744073709551616 := by omega
  obtain ⟨k, hk, ek⟩ := umod n 100 (by omega) (by omega)
  have EK : Hid (wrap64 ((IntKind.u64.wrap n).tmod 100) = (k : Int)) := ek
  clear ha hb _w0 _w1 _w2 ek
  go_enter Try.func7, Try.ntmps7
  go_upto_region 3 with (go_at_call 8; refine (tok_lives _).mono ?_; rintro e w1 ⟨rfl, F1⟩)
  go_cut [2] (fun s wx => s = .int .i64 ((k + 1 : Nat) : Int) ∧ w1 = wx)
  case first =>
    go_wp2_with (fail)
    go_meet
    case rel => exact ⟨by rw [EK.out]; exact congrArg (Value.int .i64) (by unfold wrap64; omega), rfl⟩
  case rest =>
    obtain ⟨rfl, rfl⟩ := hcut
    clear EK
    obtain ⟨l, hl⟩ : ∃ l : Nat, l = 2 * (k + 1) := ⟨_, rfl⟩
    have hlne : ((l : Int) != 2 * ((k : Int) + 1)) = false := by simp; omega
    have hlk : (k : Int) < l := by omega
    have hl200 : l ≤ 200 := by omega
    have hlkN : k < l := by omega
    have hlk2 : (k : Int) + 1 ≤ l := by omega
    have hl2 : l - (k + 1) = k + 1 := by omega
    have HL := Lib.hid hl
    have HL2 := Lib.hid hl2
    obtain ⟨X, hX⟩ : ∃ X : Int, X = max (a : Int) 1 := ⟨_, rfl⟩
    have HX := Lib.hid hX
    clear hX
    have hmx : (min (2 * ((k : Int) + 1)) 1000).toNat = l := by omega
    have hmy : (min ((k : Int) + 1) 1000).toNat = k + 1 := by omega
    have HMX := Lib.hid hmx
    have HMY := Lib.hid hmy
    clear hmx hmy hl hl2
    go_wp2_with (fail)
    refine (tok_mix (a : Int) (2 * ((k : Int) + 1)) (by omega) ha1 _).mono ?_
    rw [HMX.out, ← HX.out]
    rintro e w2 ⟨a2, c2, rfl, co2⟩
    rw [mixL_len] at co2 ⊢
    have h2 := co2.own.sl.2
    have F2 := F1.trans' co2.fr
    have hc2 : l ≤ c2 ∧ c2 ≤ maxLen := by
      obtain ⟨_, _, h, h3, h4⟩ := co2.own.shape
      cases h
      exact ⟨h3, h4⟩
    have hc9 : (c2 : Int) ≤ 9223372036854775807 := by have := hc2.2; unfold maxLen at this; omega
    have hcl := hc2.1
    obtain ⟨v, hv⟩ : ∃ v, v = mixAt X (k + 1) := ⟨_, rfl⟩
    have hg : ((mixL X l).map (Value.int .u64))[k]? = some (.int .u64 v) := by
      rw [List.getElem?_map, mixL_get X l k (by omega), hv]; rfl
    obtain ⟨b2, o2, rfl, c0⟩ := Sl.oneCell h2 hg
    have hv0 : 0 ≤ v ∧ v < 18446744073709551616 := by
      rw [hv, mixAt_succ]; exact mixF_range _
    have HV := Lib.hid hv
    have H2 := Lib.hid h2
    clear hv hg h2 co2 hc2
    have hv1 := hv0.1
    have hv2 := hv0.2
    obtain ⟨Y, hY⟩ : ∃ Y : Int, Y = max v 1 := ⟨_, rfl⟩
    have HY := Lib.hid hY
    clear hY hv0
    go_wp2_with (fail)
    refine (tok_mix v ((k : Int) + 1) hv1 hv2 _).mono ?_
    rw [HMY.out, ← HY.out]
    rintro e w3 ⟨a3, c3, rfl, co3⟩
    rw [mixL_len] at co3 ⊢
    have c4 := cell_fr c0 co3.fr (fun h => h)
    have H3 := Lib.hid (H2.out.fr co3.fr (fun _ _ h => h))
    have CO3 := Lib.hid co3
    clear c0 co3
    obtain ⟨A, hA⟩ : ∃ A, A = tokB a := ⟨_, rfl⟩
    obtain ⟨B, hB⟩ : ∃ B, B = tokB b := ⟨_, rfl⟩
    have hless := less_tok HA.out HB.out
    rw [← hA, ← hB] at hless
    have hDD : ∀ D : Bool, (D == D) = true := by simp
    have HTA : Hid (∀ w, Calls Try.prog 11 #[.int .u64 a] w fun e w' => e = .returned (.string A) ∧ Fr Nothing w w') := Lib.hid fun w => by rw [hA]; exact tok_of a HA.out w
    have HTB : Hid (∀ w, Calls Try.prog 11 #[.int .u64 b] w fun e w' => e = .returned (.string B) ∧ Fr Nothing w w') := Lib.hid fun w => by rw [hB]; exact tok_of b HB.out w
    clear hA hB
    by_cases hz : v = 0
    · have hz1 : (v == 0) = true := by simp [hz]
      clear hz
      go_wp2_with (first
        | (go_at_call 11; with_reducible refine (HTA.out w3).mono ?_; rintro e w5 ⟨rfl, F5⟩; have d5 := cell_fr c4 F5 (fun h => h))
        | (go_at_call 11; with_reducible refine (HTB.out w5).mono ?_; rintro e w6 ⟨rfl, F6⟩; have d6 := cell_fr d5 F6 (fun h => h)))
      go_ret
      exact ⟨rfl, ((F2.trans' CO3.out.fr).trans' (F5.trans' F6)).fromN.belowB⟩
    · have hz1 : (v == 0) = false := by simp [hz]
      have hvY : Y = v := by have := HY.out; omega
      have hcne : ¬ (c2 = k + 1) := by have := HL.out; omega
      clear hz
      go_wp2_with (first
        | (go_at_call 11; with_reducible refine (HTA.out w3).mono ?_; rintro e w5 ⟨rfl, F5⟩; have d5 := cell_fr c4 F5 (fun h => h))
        | (go_at_call 11; with_reducible refine (HTB.out w5).mono ?_; rintro e w6 ⟨rfl, F6⟩; have d6 := cell_fr d5 F6 (fun h => h)))
      have F36 := F5.trans' F6
      have g1 : Nums w6 (some ⟨b2, o2 + (k + 1), none⟩) (mixL v (k + 1)) := by
        have h := (H3.out.fr F36 (fun _ _ h => h)).drop (k + 1)
        have e : mixL X l = mixL X (k + 1) ++ mixL v (k + 1) := by rw [HL.out, HV.out, ← mixL_add, Nat.two_mul]
        rw [← List.map_drop, e, List.drop_left' (mixL_len _ _)] at h
        exact h
      have g2 : Nums w6 a3 (mixL v (k + 1)) := by
        have h := CO3.out.own.sl.2.fr F36 (fun _ _ h => h)
        rw [hvY] at h; exact h
      have hs := ref_same_nums (some ⟨b2, o2 + (k + 1), none⟩) a3 (mixL v (k + 1)) (c2 - (k + 1)) c3 w6 g1 g2 (by rw [mixL_len]; unfold maxLen; omega)
      rw [mixL_len] at hs
      rw [HL2.out]
      refine hs.mono ?_
      rintro e w7 ⟨rfl, m7, rfl⟩
      clear hs g1 g2
      go_wp2_with (fail)
      go_ret
      exact ⟨rfl, ((F2.trans' CO3.out.fr).trans' (F36.trans' (Fr.drewN _ _ _))).fromN.belowB⟩
end Go.Proofs.Ytajpicbaoicpfaa
