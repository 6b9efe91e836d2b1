/- SignsBack answers true for every input and changes no memory that was there. Conditions: the two tables of package utf8 lie as their text lays them, and internal/bytealg.MaxLen holds a number. -/
import Derived.Test.YtbpbghmhenilcaaDoorSgB
import Derived.Test.YtbpbghmhenilcaaDoorSignsWhole
namespace Go.Proofs.YtbpbghmhenilcaaDoor
open Go.RowKit

theorem mk_list (s : ByteArray) : (⟨s.data.toList.toArray⟩ : ByteArray) = s := by simp
set_option maxHeartbeats 8000000 in
set_option maxRecDepth 100000 in
theorem signsback_any (s : ByteArray) (w : World) (hs : s.size ≤ maxLen) (hE : SEnv w) :
    Calls Tryd.prog 5 #[.string s] w fun e w' => e = .returned (.bool true) ∧ Below w.heap.size w w' := by
  have HLv := Lib.hid (sg_lives w hE)
  have HEa := Lib.hid (fun w' => sg_early s w' hs)
  obtain ⟨S, hS⟩ : ∃ S, S = earlyS s := ⟨_, rfl⟩
  have hSz := early_size s
  rw [← hS] at HEa hSz
  obtain ⟨N, hN⟩ : ∃ N, N = S.size := ⟨_, rfl⟩
  have hsz : S.size = N := hN.symm
  have hNL : S.data.toList.length = N := by rw [hN]; simp
  have hN3 : N ≤ 300 := by omega
  have HEs := Lib.hid (fun w' (h : SEnv w') => escape_f S w' (by omega) h.1)
  have HE := Lib.hid hE
  clear hS hE hs
  cases hr : rightL S.data.toList with
  | false =>
    have he : escV S = .tuple #[.string ByteArray.empty, .int .i64 2] := by unfold escV; rw [rightS_eq, hr]; rfl
    rw [he] at HEs
    clear he hr hNL hN
    go_enter Tryd.func5, Tryd.ntmps5
    go_wp2_with (first
      | (go_at_call 9; refine HLv.out.mono ?_; rintro e w1 ⟨rfl, F1⟩)
      | (go_at_call 10; refine (HEa.out _).mono ?_; rintro e w1' ⟨rfl, rfl⟩))
    have HF1 := Lib.hid F1
    clear F1
    go_wp2_with (go_at_call 17; refine (HEs.out _ (senv_fr HE.out HF1.out)).mono ?_)
    rintro e w2 ⟨rfl, F2⟩
    have HF2 : Hid (Fr Nothing w w2) := Lib.hid (HF1.out.trans' F2)
    clear F2
    go_wp2_with (fail)
    go_ret
    exact ⟨rfl, HF2.out.fromN.belowB⟩
  | true =>
    obtain ⟨A, hA⟩ : ∃ A, A = escS S := ⟨_, rfl⟩
    have hAl : A.data.toList = escL S.data.toList := by rw [hA]; rfl
    have he : escV S = .tuple #[.string A, .int .i64 0] := by unfold escV; rw [rightS_eq, hr, hA]; rfl
    rw [he] at HEs
    obtain ⟨P, hP⟩ : ∃ P, A.size = P := ⟨_, rfl⟩
    have hPl : A.data.toList.length = P := by rw [← hP]; simp
    have hlen := escL_len S.data.toList
    rw [← hAl, hPl, hNL] at hlen
    have hrA : rightL A.data.toList = true := by rw [hAl]; exact esc_right hr
    have HRa := Lib.hid (fun w' (h : SEnv w') => right_f A w' (by omega) h.1)
    rw [rightV_mk hrA] at HRa
    simp only [if_true] at HRa
    have HUn := Lib.hid (fun w' (h : SEnv w') => unescape_f A w' (by omega) h.1 h.2)
    have hu : unescV A = .tuple #[.string S, .int .i64 0] := by
      rw [unescV_eq, hrA, if_pos rfl, hAl, un_esc]
      show Value.tuple #[.string ⟨S.data.toList.toArray⟩, .int .i64 0] = _
      rw [mk_list]
    rw [hu] at HUn
    have HBy : Hid (∀ i, i < P → ((A.get! i).toNat ≠ 60 ∧ (A.get! i).toNat ≠ 62 ∧ (A.get! i).toNat ≠ 34 ∧ (A.get! i).toNat ≠ 39)) := Lib.hid (fun i hi => by
      have hm : A.get! i ∈ escL S.data.toList := by
        rw [← hAl, ← Lib.getD_get!', List.getD, List.getElem?_eq_getElem (by omega : i < A.data.toList.length)]
        exact List.getElem_mem _
      obtain ⟨a, b, c, d⟩ := esc_none _ _ hm
      exact ⟨fun e => a (UInt8.toNat_inj.1 e), fun e => b (UInt8.toNat_inj.1 e), fun e => c (UInt8.toNat_inj.1 e), fun e => d (UInt8.toNat_inj.1 e)⟩)
    have hNP : (N : Int) ≤ P := by omega
    have hP18 : P ≤ 1800 := by omega
    have hsm : (S.toList == S.toList) = true := by simp
    have HSM := Lib.hid hsm
    clear he hr hNL hN hA hAl hPl hlen hrA hu hsm
    go_enter Tryd.func5, Tryd.ntmps5
    go_wp2_with (first
      | (go_at_call 9; refine HLv.out.mono ?_; rintro e w1 ⟨rfl, F1⟩)
      | (go_at_call 10; refine (HEa.out _).mono ?_; rintro e w1' ⟨rfl, rfl⟩))
    have HF1 := Lib.hid F1
    clear F1
    go_wp2_with (go_at_call 17; refine (HEs.out _ (senv_fr HE.out HF1.out)).mono ?_)
    rintro e w2 ⟨rfl, F2⟩
    have HF2 : Hid (Fr Nothing w w2) := Lib.hid (HF1.out.trans' F2)
    clear F2
    go_wp2_with (go_at_call 19; refine (HUn.out _ (senv_fr HE.out HF2.out)).mono ?_)
    rintro e w3 ⟨rfl, F3⟩
    have HF3 : Hid (Fr Nothing w w3) := Lib.hid (HF2.out.trans' F3)
    clear F3
    go_wp2_with (fail)
    go_loopg [7] P (fun gg vk wr => ∃ k, k ≤ P ∧ gg = P - k ∧ vk = .int .i64 (k : Nat) ∧ wr = w3)
    case atStart => exact ⟨0, by omega, by omega, rfl, rfl⟩
    case round =>
      obtain ⟨k, hk, rfl, rfl, rfl⟩ := hrel
      by_cases hlt : k < P
      · have hltI : (k : Int) < P := by omega
        obtain ⟨x, hx⟩ : ∃ x, A.get! k = x := ⟨_, rfl⟩
        have hk0 : k < A.size := by omega
        have hix : A[k]'hk0 = x := by rw [← hx]; exact (Utf8W.get!_of_lt A k hk0).symm
        obtain ⟨b1, b2, b3, b4⟩ := HBy.out k hlt
        rw [hx] at b1 b2 b3 b4
        have e1 : ((x.toNat : Int) == 60) = false := by rw [beq_eq_false_iff_ne]; omega
        have e2 : ((x.toNat : Int) == 62) = false := by rw [beq_eq_false_iff_ne]; omega
        have e3 : ((x.toNat : Int) == 34) = false := by rw [beq_eq_false_iff_ne]; omega
        have e4 : ((x.toNat : Int) == 39) = false := by rw [beq_eq_false_iff_ne]; omega
        clear hx b1 b2 b3 b4
        go_wp2_with (fail)
        go_roundg (P - (k + 1))
        case measure => omega
        case rel => exact ⟨k + 1, by omega, by omega, by go_num, rfl⟩
      · obtain rfl : P = k := by omega
        have hsm := HSM.out
        go_wp2_with (go_at_call 13; refine (HRa.out _ (senv_fr HE.out HF3.out)).mono ?_)
        rintro e w5 ⟨rfl, F5⟩
        have HF5 : Hid (Fr Nothing w w5) := Lib.hid (HF3.out.trans' F5)
        clear F5
        go_wp2_with (fail)
        go_ret
        exact ⟨rfl, HF5.out.fromN.belowB⟩
end Go.Proofs.YtbpbghmhenilcaaDoor
