/- SignsWhole answers true for every input and changes no memory that was there. Conditions: the two tables of package utf8 lie as their text lays them, and internal/bytealg.MaxLen holds a number. -/
import Derived.Test.YtbpbghmhenilcaaDoorSgLives
namespace Go.Proofs.YtbpbghmhenilcaaDoor
open Go.RowKit

theorem rightV_mk {T : ByteArray} {b : Bool} (h : rightL T.data.toList = b) : rightV T = .int .i64 (if b = true then 0 else 2) := by
  unfold rightV; rw [rightS_eq, h]
theorem wholeV_mk {T : ByteArray} {x : Option Nat} (h : wholeL T.data.toList = x) : wholeV T = wV x := by rw [whole_eq, h]
/-- Of what is right each beginning is whole but for three bytes. -/
theorem beginnings {l : List UInt8} (h : rightL l = true) (k : Nat) (hk : k ≤ l.length) : ∃ m, wholeL (l.take k) = some m ∧ m ≤ k ∧ k - m ≤ 3 := by
  have h1 := whole_append _ (l.take k) (l.drop k) (Nat.le_refl _)
  rw [List.take_append_drop, whole_right h] at h1
  cases hw : wholeL (l.take k) with
  | none => rw [hw] at h1; cases h1
  | some m =>
    obtain ⟨_, h3, h4⟩ := whole_some _ _ m (Nat.le_refl _) hw
    have h5 := sg_part_len h4
    rw [List.length_drop] at h5
    rw [List.length_take] at h3 h5
    exact ⟨m, rfl, by omega, by omega⟩
set_option maxHeartbeats 8000000 in
set_option maxRecDepth 100000 in
theorem signswhole_any (s : ByteArray) (w : World) (hs : s.size ≤ maxLen) (hE : SEnv w) :
    Calls Tryd.prog 7 #[.string s] w fun e w' => e = .returned (.bool true) ∧ Below w.heap.size w w' := by
  have HLv := Lib.hid (sg_lives w hE)
  have HEa := Lib.hid (fun w' => sg_early s w' hs)
  obtain ⟨S, hS⟩ : ∃ S, S = earlyS s := ⟨_, rfl⟩
  have hSz := early_size s
  rw [← hS] at HEa hSz
  obtain ⟨N, hN⟩ : ∃ N, N = S.size := ⟨_, rfl⟩
  have hsz : S.size = N := hN.symm
  have hNL : S.data.toList.length = N := by rw [hN]; simp
  have hN3 : N ≤ 300 := by omega
  have HWh := Lib.hid (fun w' (h : SEnv w') => whole_f S w' (by omega) h.1)
  have HRt := Lib.hid (fun w' (h : SEnv w') => right_f S w' (by omega) h.1)
  have HE := Lib.hid hE
  clear hS hE hs
  cases hw : wholeL S.data.toList with
  | none =>
    rw [wholeV_mk hw] at HWh
    have hr : rightL S.data.toList = false := by
      cases h : rightL S.data.toList with
      | false => rfl
      | true => rw [whole_right h] at hw; cases hw
    rw [rightV_mk hr] at HRt
    have hN0 : (0 : Int) < N := by
      rcases Nat.eq_zero_or_pos N with h | h
      · exfalso
        have h2 : S.data.toList = [] := List.eq_nil_of_length_eq_zero (by omega)
        rw [h2] at hr; cases hr
      · omega
    unfold wV at HWh
    simp only [Bool.false_eq_true, if_false] at HRt
    clear hw hr hNL hN
    go_enter Tryd.func7, Tryd.ntmps7
    go_wp2_with (first
      | (go_at_call 9; refine HLv.out.mono ?_; rintro e w1 ⟨rfl, F1⟩)
      | (go_at_call 10; refine (HEa.out _).mono ?_; rintro e w1' ⟨rfl, rfl⟩))
    have HF1 := Lib.hid F1
    clear F1
    go_wp2_with (go_at_call 11; refine (HWh.out _ (senv_fr HE.out HF1.out)).mono ?_)
    rintro e w2 ⟨rfl, F2⟩
    have HF2 : Hid (Fr Nothing w w2) := Lib.hid (HF1.out.trans' F2)
    clear F2
    go_wp2_with (go_at_call 13; refine (HRt.out _ (senv_fr HE.out HF2.out)).mono ?_)
    rintro e w3 ⟨rfl, F3⟩
    have HF3 : Hid (Fr Nothing w w3) := Lib.hid (HF2.out.trans' F3)
    clear F3
    go_wp2_with (fail)
    go_loopg [5] 0 (fun gg vk wr => gg = 0 ∧ vk = .int .i64 0 ∧ Hid (Fr Nothing w wr))
    case atStart => exact ⟨rfl, rfl, HF3⟩
    case round =>
      obtain ⟨rfl, rfl, HF⟩ := hrel
      go_wp2_with (go_at_call 13; refine (HRt.out _ (senv_fr HE.out HF.out)).mono ?_)
      rintro e w4 ⟨rfl, F4⟩
      have HF4 : Hid (Fr Nothing w w4) := Lib.hid (HF.out.trans' F4)
      clear F4
      go_wp2_with (fail)
      go_ret
      exact ⟨rfl, HF4.out.fromN.belowB⟩
  | some p =>
    rw [wholeV_mk hw] at HWh
    obtain ⟨hp1, hp2, hp3⟩ := whole_some _ _ p (Nat.le_refl _) hw
    have hpN : p ≤ N := by omega
    have HRp := Lib.hid (fun w' (h : SEnv w') => right_f (S.extract 0 p) w' (by rw [ByteArray.size_extract]; omega) h.1)
    rw [rightV_mk (T := S.extract 0 p) (b := true) (by rw [ext_take]; exact hp1)] at HRp
    unfold wV at HWh
    simp only [if_true] at HRp
    cases hr : rightL S.data.toList with
    | false =>
      rw [rightV_mk hr] at HRt
      simp only [Bool.false_eq_true, if_false] at HRt
      have hN0 : (0 : Int) < N := by
        rcases Nat.eq_zero_or_pos N with h | h
        · exfalso
          have h2 : S.data.toList = [] := List.eq_nil_of_length_eq_zero (by omega)
          rw [h2] at hr; cases hr
        · omega
      have hpne : p ≠ N := fun e => by
        rw [e, ← hNL] at hw
        rw [whole_all hw] at hr; cases hr
      have hpn : ((p : Int) == N) = false := by rw [beq_eq_false_iff_ne]; omega
      clear hw hr hNL hN hp1 hp2 hp3 hpne
      go_enter Tryd.func7, Tryd.ntmps7
      go_wp2_with (first
        | (go_at_call 9; refine HLv.out.mono ?_; rintro e w1 ⟨rfl, F1⟩)
        | (go_at_call 10; refine (HEa.out _).mono ?_; rintro e w1' ⟨rfl, rfl⟩))
      have HF1 := Lib.hid F1
      clear F1
      go_wp2_with (go_at_call 11; refine (HWh.out _ (senv_fr HE.out HF1.out)).mono ?_)
      rintro e w2 ⟨rfl, F2⟩
      have HF2 : Hid (Fr Nothing w w2) := Lib.hid (HF1.out.trans' F2)
      clear F2
      go_wp2_with (go_at_call 13; refine (HRp.out _ (senv_fr HE.out HF2.out)).mono ?_)
      rintro e w3 ⟨rfl, F3⟩
      have HF3 : Hid (Fr Nothing w w3) := Lib.hid (HF2.out.trans' F3)
      clear F3
      go_wp2_with (go_at_call 13; refine (HRt.out _ (senv_fr HE.out HF3.out)).mono ?_)
      rintro e w4 ⟨rfl, F4⟩
      have HF4 : Hid (Fr Nothing w w4) := Lib.hid (HF3.out.trans' F4)
      clear F4
      go_wp2_with (fail)
      go_loopg [5] 0 (fun gg vk wr => gg = 0 ∧ vk = .int .i64 0 ∧ Hid (Fr Nothing w wr))
      case atStart => exact ⟨rfl, rfl, HF4⟩
      case round =>
        obtain ⟨rfl, rfl, HF⟩ := hrel
        go_wp2_with (go_at_call 13; refine (HRt.out _ (senv_fr HE.out HF.out)).mono ?_)
        rintro e w5 ⟨rfl, F5⟩
        have HF5 : Hid (Fr Nothing w w5) := Lib.hid (HF.out.trans' F5)
        clear F5
        go_wp2_with (fail)
        go_ret
        exact ⟨rfl, HF5.out.fromN.belowB⟩
    | true =>
      rw [rightV_mk hr] at HRt
      simp only [if_true] at HRt
      obtain rfl : p = N := by
        rw [whole_right hr] at hw
        have := Option.some.inj hw; omega
      have hBg : Hid (∀ k, k ≤ p → ∃ m, wholeL (S.data.toList.take k) = some m ∧ m ≤ k ∧ k - m ≤ 3) := Lib.hid (fun k hk => beginnings hr k (by omega))
      clear hw hr hNL hN hp1 hp2 hp3
      go_enter Tryd.func7, Tryd.ntmps7
      go_wp2_with (first
        | (go_at_call 9; refine HLv.out.mono ?_; rintro e w1 ⟨rfl, F1⟩)
        | (go_at_call 10; refine (HEa.out _).mono ?_; rintro e w1' ⟨rfl, rfl⟩))
      have HF1 := Lib.hid F1
      clear F1
      go_wp2_with (go_at_call 11; refine (HWh.out _ (senv_fr HE.out HF1.out)).mono ?_)
      rintro e w2 ⟨rfl, F2⟩
      have HF2 : Hid (Fr Nothing w w2) := Lib.hid (HF1.out.trans' F2)
      clear F2
      go_wp2_with (go_at_call 13; refine (HRp.out _ (senv_fr HE.out HF2.out)).mono ?_)
      rintro e w3 ⟨rfl, F3⟩
      have HF3 : Hid (Fr Nothing w w3) := Lib.hid (HF2.out.trans' F3)
      clear F3
      go_wp2_with (go_at_call 13; refine (HRt.out _ (senv_fr HE.out HF3.out)).mono ?_)
      rintro e w4 ⟨rfl, F4⟩
      have HF4 : Hid (Fr Nothing w w4) := Lib.hid (HF3.out.trans' F4)
      clear F4
      go_wp2_with (fail)
      go_loopg [5] p (fun gg vk wr => ∃ k, k ≤ p ∧ gg = p - k ∧ vk = .int .i64 (k : Nat) ∧ Hid (Fr Nothing w wr))
      case atStart => exact ⟨0, by omega, by omega, rfl, HF4⟩
      case round =>
        obtain ⟨k, hk, rfl, rfl, HF⟩ := hrel
        by_cases hlt : k < p
        · have hltI : (k : Int) < p := by omega
          obtain ⟨m, hm1, hm2, hm3⟩ := hBg.out k (by omega)
          have HWk := Lib.hid (fun w' (h : SEnv w') => whole_f (S.extract 0 k) w' (by rw [ByteArray.size_extract]; omega) h.1)
          rw [wholeV_mk (T := S.extract 0 k) (x := some m) (by rw [ext_take]; exact hm1)] at HWk
          unfold wV at HWk
          have b1 : ¬ (m : Int) > k := by omega
          have b2 : ¬ ((k : Int) - m > 3) := by omega
          have d1 : decide ((k : Int) < m) = false := by simp; omega
          have d2 : decide ((3 : Int) < (k : Int) - m) = false := by simp; omega
          clear hm1
          go_wp2_with (go_at_call 13; refine (HRt.out _ (senv_fr HE.out HF.out)).mono ?_)
          rintro e w5 rfl F5
          have HF5 : Hid (Fr Nothing w w5) := Lib.hid (HF.out.trans' F5)
          clear F5
          go_wp2_with (go_at_call 11; refine (HWk.out _ (senv_fr HE.out HF5.out)).mono ?_)
          rintro e w6 ⟨rfl, F6⟩
          have HF6 : Hid (Fr Nothing w w6) := Lib.hid (HF5.out.trans' F6)
          clear F6
          go_wp2_with (fail)
          go_roundg (p - (k + 1))
          case measure => omega
          case rel => exact ⟨k + 1, by omega, by omega, by go_num, HF6⟩
        · obtain rfl : p = k := by omega
          go_wp2_with (fail)
          go_ret
          exact ⟨rfl, HF.out.fromN.belowB⟩
end Go.Proofs.YtbpbghmhenilcaaDoor
