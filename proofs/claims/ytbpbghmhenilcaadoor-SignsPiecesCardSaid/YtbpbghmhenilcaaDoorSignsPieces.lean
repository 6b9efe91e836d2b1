/- SignsPieces answers true for every input and changes no memory that was there. Conditions: the two tables of package utf8 lie as their text lays them, and internal/bytealg.MaxLen holds a number. -/
import Derived.Test.YtbpbghmhenilcaaDoorSignsWhole
namespace Go.Proofs.YtbpbghmhenilcaaDoor
open Go.RowKit

theorem app_list (a b : ByteArray) : (a ++ b).data.toList = a.data.toList ++ b.data.toList := by simp
set_option maxHeartbeats 8000000 in
set_option maxRecDepth 100000 in
theorem signspieces_any (a b : ByteArray) (w : World) (ha : a.size ≤ maxLen) (hb : b.size ≤ maxLen) (hE : SEnv w) :
    Calls Tryd.prog 6 #[.string a, .string b] w fun e w' => e = .returned (.bool true) ∧ Below w.heap.size w w' := by
  have HLv := Lib.hid (sg_lives w hE)
  have HEa := Lib.hid (fun w' => sg_early a w' ha)
  have HEb := Lib.hid (fun w' => sg_early b w' hb)
  obtain ⟨A, hA⟩ : ∃ A, A = earlyS a := ⟨_, rfl⟩
  obtain ⟨B, hB⟩ : ∃ B, B = earlyS b := ⟨_, rfl⟩
  have hAz := early_size a
  have hBz := early_size b
  rw [← hA] at HEa hAz
  rw [← hB] at HEb hBz
  obtain ⟨N, hN⟩ : ∃ N, N = A.size := ⟨_, rfl⟩
  obtain ⟨M, hM⟩ : ∃ M, M = B.size := ⟨_, rfl⟩
  have hNL : A.data.toList.length = N := by rw [hN]; simp
  have hML : B.data.toList.length = M := by rw [hM]; simp
  have hsz : A.size = N := hN.symm
  have hszB : B.size = M := hM.symm
  have hab : (A ++ B).size = N + M := by rw [ByteArray.size_append, hN, hM]
  have HWab := Lib.hid (fun w' (h : SEnv w') => whole_f (A ++ B) w' (by omega) h.1)
  have HWa := Lib.hid (fun w' (h : SEnv w') => whole_f A w' (by omega) h.1)
  have HE := Lib.hid hE
  have happ := whole_append _ A.data.toList B.data.toList (Nat.le_refl _)
  rw [← app_list] at happ
  clear hA hB hE ha hb
  cases hY : wholeL A.data.toList with
  | none =>
    rw [hY] at happ
    rw [wholeV_mk hY] at HWa
    rw [wholeV_mk happ] at HWab
    unfold wV at HWa HWab
    simp only at HWa HWab
    clear happ hY hN hM hNL hML
    go_enter Tryd.func6, Tryd.ntmps6
    go_wp2_with (first
      | (go_at_call 9; refine HLv.out.mono ?_; rintro e w1 ⟨rfl, F1⟩)
      | (go_at_call 10; with_reducible refine (HEa.out _).mono ?_; rintro e w1' ⟨rfl, rfl⟩)
      | (go_at_call 10; with_reducible refine (HEb.out _).mono ?_; rintro e w1' ⟨rfl, rfl⟩))
    have HF1 := Lib.hid F1
    clear F1
    go_wp2_with (go_at_call 11; refine (HWab.out _ (senv_fr HE.out HF1.out)).mono ?_)
    rintro e w2 ⟨rfl, F2⟩
    have HF2 : Hid (Fr Nothing w w2) := Lib.hid (HF1.out.trans' F2)
    clear F2
    go_wp2_with (go_at_call 11; refine (HWa.out _ (senv_fr HE.out HF2.out)).mono ?_)
    rintro e w3 ⟨rfl, F3⟩
    have HF3 : Hid (Fr Nothing w w3) := Lib.hid (HF2.out.trans' F3)
    clear F3
    go_wp2_with (fail)
    go_ret
    exact ⟨rfl, HF3.out.fromN.belowB⟩
  | some n =>
    rw [hY] at happ
    simp only at happ
    rw [wholeV_mk hY] at HWa
    obtain ⟨hp1, hp2, hp3⟩ := whole_some _ _ n (Nat.le_refl _) hY
    have hp4 := sg_part_len hp3
    rw [List.length_drop] at hp4
    have hnN : n ≤ N := by omega
    have hn3 : N - n ≤ 3 := by omega
    have HRn := Lib.hid (fun w' (h : SEnv w') => right_f (A.extract 0 n) w' (by rw [ByteArray.size_extract]; omega) h.1)
    rw [rightV_mk (T := A.extract 0 n) (b := true) (by rw [ext_take]; exact hp1)] at HRn
    have HWd := Lib.hid (fun w' (h : SEnv w') => whole_f (A.extract n N ++ B) w' (by rw [ByteArray.size_append, ByteArray.size_extract]; omega) h.1)
    have hdl : (A.extract n N ++ B).data.toList = A.data.toList.drop n ++ B.data.toList := by rw [app_list, ← hsz, ext_drop]
    have b0 : ¬ ((n : Int) < 0) := by omega
    have b1 : ¬ ((N : Int) < n) := by omega
    have b2 : ¬ ((3 : Int) < (N : Int) - n) := by omega
    have d0 : decide ((n : Int) < 0) = false := decide_eq_false b0
    have d1 : decide ((N : Int) < n) = false := decide_eq_false b1
    have d2 : decide ((3 : Int) < (N : Int) - n) = false := decide_eq_false b2
    have hnI : (n : Int) ≤ N := by omega
    cases hZ : wholeL (A.data.toList.drop n ++ B.data.toList) with
    | none =>
      rw [hZ] at happ
      rw [wholeV_mk (hdl ▸ hZ)] at HWd
      rw [wholeV_mk happ] at HWab
      unfold wV at HWa HWab HWd
      simp only [if_true] at HWa HWab HWd HRn
      clear happ hY hN hM hNL hML hp1 hp2 hp3 hp4 hZ hdl
      go_enter Tryd.func6, Tryd.ntmps6
      go_wp2_with (first
        | (go_at_call 9; refine HLv.out.mono ?_; rintro e w1 ⟨rfl, F1⟩)
        | (go_at_call 10; with_reducible refine (HEa.out _).mono ?_; rintro e w1' ⟨rfl, rfl⟩)
        | (go_at_call 10; with_reducible refine (HEb.out _).mono ?_; rintro e w1' ⟨rfl, rfl⟩))
      have HF1 := Lib.hid F1
      clear F1
      go_wp2_with (go_at_call 11; refine (HWab.out _ (senv_fr HE.out HF1.out)).mono ?_)
      rintro e w2 ⟨rfl, F2⟩
      have HF2 : Hid (Fr Nothing w w2) := Lib.hid (HF1.out.trans' F2)
      clear F2
      go_wp2_with (go_at_call 11; refine (HWa.out _ (senv_fr HE.out HF2.out)).mono ?_)
      rintro e w3 ⟨rfl, F3⟩
      have HF3 : Hid (Fr Nothing w w3) := Lib.hid (HF2.out.trans' F3)
      clear F3
      go_wp2_with (go_at_call 11; refine (HWd.out _ (senv_fr HE.out HF3.out)).mono ?_)
      rintro e w4 ⟨rfl, F4⟩
      have HF4 : Hid (Fr Nothing w w4) := Lib.hid (HF3.out.trans' F4)
      clear F4
      go_wp2_with (go_at_call 13; refine (HRn.out _ (senv_fr HE.out HF4.out)).mono ?_)
      rintro e w5 ⟨rfl, F5⟩
      have HF5 : Hid (Fr Nothing w w5) := Lib.hid (HF4.out.trans' F5)
      clear F5
      go_wp2_with (fail)
      go_ret
      exact ⟨rfl, HF5.out.fromN.belowB⟩
    | some m =>
      rw [hZ] at happ
      have happ2 : wholeL (A ++ B).data.toList = some (m + n) := happ
      obtain ⟨_, hq, _⟩ := whole_some _ _ (m + n) (Nat.le_refl _) happ2
      have hll : (A ++ B).data.toList.length = N + M := by rw [← hab]; simp
      rw [hll] at hq
      rw [wholeV_mk (hdl ▸ hZ)] at HWd
      rw [wholeV_mk happ2] at HWab
      unfold wV at HWa HWab HWd
      simp only [if_true] at HWa HWab HWd HRn
      obtain ⟨K, hK⟩ : ∃ K, K = m + n := ⟨_, rfl⟩
      rw [← hK] at HWab hq happ2
      have e0 : (n : Int) + m = K := by omega
      by_cases hlt : K < N + M
      · have d3 : decide ((K : Int) < ((A ++ B).size : Int)) = true := by rw [hab]; simp; omega
        have b3 : (K : Int) < ((A ++ B).size : Int) := by omega
        have b4 : (K : Int) < (N : Int) + M := by omega
        clear happ happ2 hY hN hM hNL hML hp1 hp2 hp3 hp4 hZ hdl hll hq hK
        go_enter Tryd.func6, Tryd.ntmps6
        go_wp2_with (first
          | (go_at_call 9; refine HLv.out.mono ?_; rintro e w1 ⟨rfl, F1⟩)
          | (go_at_call 10; with_reducible refine (HEa.out _).mono ?_; rintro e w1' ⟨rfl, rfl⟩)
          | (go_at_call 10; with_reducible refine (HEb.out _).mono ?_; rintro e w1' ⟨rfl, rfl⟩))
        have HF1 := Lib.hid F1
        clear F1
        go_wp2_with (go_at_call 11; refine (HWab.out _ (senv_fr HE.out HF1.out)).mono ?_)
        rintro e w2 ⟨rfl, F2⟩
        have HF2 : Hid (Fr Nothing w w2) := Lib.hid (HF1.out.trans' F2)
        clear F2
        go_wp2_with (go_at_call 11; refine (HWa.out _ (senv_fr HE.out HF2.out)).mono ?_)
        rintro e w3 ⟨rfl, F3⟩
        have HF3 : Hid (Fr Nothing w w3) := Lib.hid (HF2.out.trans' F3)
        clear F3
        go_wp2_with (go_at_call 11; refine (HWd.out _ (senv_fr HE.out HF3.out)).mono ?_)
        rintro e w4 ⟨rfl, F4⟩
        have HF4 : Hid (Fr Nothing w w4) := Lib.hid (HF3.out.trans' F4)
        clear F4
        go_wp2_with (go_at_call 13; refine (HRn.out _ (senv_fr HE.out HF4.out)).mono ?_)
        rintro e w5 ⟨rfl, F5⟩
        have HF5 : Hid (Fr Nothing w w5) := Lib.hid (HF4.out.trans' F5)
        clear F5
        go_wp2_with (fail)
        go_ret
        exact ⟨rfl, HF5.out.fromN.belowB⟩
      · have hKe : K = N + M := by omega
        have HRab := Lib.hid (fun w' (h : SEnv w') => right_f (A ++ B) w' (by omega) h.1)
        rw [rightV_mk (T := A ++ B) (b := true) (whole_all (by rw [hll, ← hKe]; exact happ2))] at HRab
        simp only [if_true] at HRab
        have hab3 : (A ++ B).size = K := by omega
        have b4 : (N : Int) + M = K := by omega
        clear happ happ2 hY hN hM hNL hML hp1 hp2 hp3 hp4 hZ hdl hll hq hK hKe hab
        go_enter Tryd.func6, Tryd.ntmps6
        go_wp2_with (first
          | (go_at_call 9; refine HLv.out.mono ?_; rintro e w1 ⟨rfl, F1⟩)
          | (go_at_call 10; with_reducible refine (HEa.out _).mono ?_; rintro e w1' ⟨rfl, rfl⟩)
          | (go_at_call 10; with_reducible refine (HEb.out _).mono ?_; rintro e w1' ⟨rfl, rfl⟩))
        have HF1 := Lib.hid F1
        clear F1
        go_wp2_with (go_at_call 11; refine (HWab.out _ (senv_fr HE.out HF1.out)).mono ?_)
        rintro e w2 ⟨rfl, F2⟩
        have HF2 : Hid (Fr Nothing w w2) := Lib.hid (HF1.out.trans' F2)
        clear F2
        go_wp2_with (go_at_call 11; refine (HWa.out _ (senv_fr HE.out HF2.out)).mono ?_)
        rintro e w3 ⟨rfl, F3⟩
        have HF3 : Hid (Fr Nothing w w3) := Lib.hid (HF2.out.trans' F3)
        clear F3
        go_wp2_with (go_at_call 11; refine (HWd.out _ (senv_fr HE.out HF3.out)).mono ?_)
        rintro e w4 ⟨rfl, F4⟩
        have HF4 : Hid (Fr Nothing w w4) := Lib.hid (HF3.out.trans' F4)
        clear F4
        go_wp2_with (go_at_call 13; refine (HRn.out _ (senv_fr HE.out HF4.out)).mono ?_)
        rintro e w5 ⟨rfl, F5⟩
        have HF5 : Hid (Fr Nothing w w5) := Lib.hid (HF4.out.trans' F5)
        clear F5
        go_wp2_with (go_at_call 13; refine (HRab.out _ (senv_fr HE.out HF5.out)).mono ?_)
        rintro e w6 ⟨rfl, F6⟩
        have HF6 : Hid (Fr Nothing w w6) := Lib.hid (HF5.out.trans' F6)
        clear F6
        go_wp2_with (fail)
        go_ret
        exact ⟨rfl, HF6.out.fromN.belowB⟩
end Go.Proofs.YtbpbghmhenilcaaDoor
