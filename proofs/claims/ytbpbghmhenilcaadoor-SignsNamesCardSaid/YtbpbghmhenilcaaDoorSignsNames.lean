/- SignsNames answers true for every input and changes no memory that was there. Conditions: the two tables of package utf8 lie as their text lays them, and internal/bytealg.MaxLen holds a number. -/
import Derived.Test.YtbpbghmhenilcaaDoorSgName
namespace Go.Proofs.YtbpbghmhenilcaaDoor
open Go.RowKit

set_option maxHeartbeats 8000000 in
set_option maxRecDepth 100000 in
theorem signsnames_any (s : ByteArray) (w : World) (hs : s.size ≤ maxLen) (hE : SEnv w) :
    Calls Tryd.prog 8 #[.string s] w fun e w' => e = .returned (.bool true) ∧ Below w.heap.size w w' := by
  have HLv := Lib.hid (sg_lives w hE)
  have HEa := Lib.hid (fun w' => sg_early s w' hs)
  obtain ⟨S, hS⟩ : ∃ S, S = earlyS s := ⟨_, rfl⟩
  have hSz := early_size s
  rw [← hS] at HEa hSz
  obtain ⟨N, hN⟩ : ∃ N, N = S.size := ⟨_, rfl⟩
  have hsz : S.size = N := hN.symm
  have hN3 : N ≤ 300 := by omega
  have HN := Lib.hid (fun w' => name_f S w' (by omega))
  have HEs := Lib.hid (fun w' (h : SEnv w') => escape_f S w' (by omega) h.1)
  have HE := Lib.hid hE
  clear hS hE hs
  cases hn : nameS S with
  | false =>
    rw [hn] at HN
    by_cases h1 : N = 1
    · have hb := name_one hn (by omega)
      obtain ⟨x, hx⟩ : ∃ x, S.get! 0 = x := ⟨_, rfl⟩
      rw [Lib.getD_get!', hx] at hb
      have h0s : 0 < S.size := by omega
      have hix : S[0]'h0s = x := by rw [← hx]; exact (Utf8W.get!_of_lt S 0 h0s).symm
      have hNe : ((N : Int) == 1) = true := by rw [beq_iff_eq]; omega
      subst h1
      by_cases hlo : (x.toNat : Int) < 97
      · clear hn hb hN hx
        go_enter Tryd.func8, Tryd.ntmps8
        go_wp2_with (first
          | (go_at_call 9; refine HLv.out.mono ?_; rintro e w1 ⟨rfl, F1⟩)
          | (go_at_call 10; refine (HEa.out _).mono ?_; rintro e w1' ⟨rfl, rfl⟩))
        have HF1 := Lib.hid F1
        clear F1
        go_wp2_with (go_at_call 15; refine (HN.out _).mono ?_)
        rintro e w2 ⟨rfl, F2⟩
        have HF2 : Hid (Fr Nothing w w2) := Lib.hid (HF1.out.trans' F2)
        clear F2
        go_wp2_with (fail)
        go_ret
        exact ⟨rfl, HF2.out.fromN.belowB⟩
      · have hhi : (122 : Int) < x.toNat := by omega
        have dlo : decide ((x.toNat : Int) < 97) = false := decide_eq_false hlo
        clear hn hb hN hx
        go_enter Tryd.func8, Tryd.ntmps8
        go_wp2_with (first
          | (go_at_call 9; refine HLv.out.mono ?_; rintro e w1 ⟨rfl, F1⟩)
          | (go_at_call 10; refine (HEa.out _).mono ?_; rintro e w1' ⟨rfl, rfl⟩))
        have HF1 := Lib.hid F1
        clear F1
        go_wp2_with (go_at_call 15; refine (HN.out _).mono ?_)
        rintro e w2 ⟨rfl, F2⟩
        have HF2 : Hid (Fr Nothing w w2) := Lib.hid (HF1.out.trans' F2)
        clear F2
        go_wp2_with (fail)
        go_ret
        exact ⟨rfl, HF2.out.fromN.belowB⟩
    · have hNe : ((N : Int) == 1) = false := by rw [beq_eq_false_iff_ne]; omega
      clear hn hN
      go_enter Tryd.func8, Tryd.ntmps8
      go_wp2_with (first
        | (go_at_call 9; refine HLv.out.mono ?_; rintro e w1 ⟨rfl, F1⟩)
        | (go_at_call 10; refine (HEa.out _).mono ?_; rintro e w1' ⟨rfl, rfl⟩))
      have HF1 := Lib.hid F1
      clear F1
      go_wp2_with (go_at_call 15; refine (HN.out _).mono ?_)
      rintro e w2 ⟨rfl, F2⟩
      have HF2 : Hid (Fr Nothing w w2) := Lib.hid (HF1.out.trans' F2)
      clear F2
      go_wp2_with (fail)
      go_ret
      exact ⟨rfl, HF2.out.fromN.belowB⟩
  | true =>
    have hN1 := ((name_iff S).1 hn).2
    rw [hn] at HN
    rw [name_esc hn] at HEs
    have HNk : Hid (∀ k, 1 ≤ k → k ≤ N → ∀ w', Calls Tryd.prog 15 #[.string (S.extract 0 k)] w' fun e w'' => e = .returned (.bool true) ∧ Fr Nothing w' w'') := Lib.hid (fun k h1 hk w' => by
      have := name_f (S.extract 0 k) w' (by rw [ByteArray.size_extract]; omega)
      rw [name_take hn k h1 (by omega)] at this; exact this)
    have HNm : Hid (∀ w', Calls Tryd.prog 15 #[.string (S ++ ⟨#[45]⟩)] w' fun e w'' => e = .returned (.bool (decide (N < 16))) ∧ Fr Nothing w' w'') := Lib.hid (fun w' => by
      have := name_f (S ++ ⟨#[45]⟩) w' (by rw [ByteArray.size_append, hsz]; exact Nat.lt_of_le_of_lt (Nat.add_le_add_right hN3 1) (by decide))
      rw [name_more hn, hsz] at this; exact this)
    have HNz : Hid (∀ w', Calls Tryd.prog 15 #[.string (S ++ ⟨#[48]⟩)] w' fun e w'' => e = .returned (.bool (decide (N < 16))) ∧ Fr Nothing w' w'') := Lib.hid (fun w' => by
      have := name_f (S ++ ⟨#[48]⟩) w' (by rw [ByteArray.size_append, hsz]; exact Nat.lt_of_le_of_lt (Nat.add_le_add_right hN3 1) (by decide))
      rw [name_more hn, hsz] at this; exact this)
    have HNa : Hid (∀ w', Calls Tryd.prog 15 #[.string (S ++ ⟨#[65]⟩)] w' fun e w'' => e = .returned (.bool false) ∧ Fr Nothing w' w'') := Lib.hid (fun w' => by
      have := name_f (S ++ ⟨#[65]⟩) w' (by rw [ByteArray.size_append, hsz]; exact Nat.lt_of_le_of_lt (Nat.add_le_add_right hN3 1) (by decide))
      rw [name_more hn, hsz] at this; exact this)
    have HNo : Hid (∀ w', Calls Tryd.prog 15 #[.string (⟨#[48]⟩ ++ S)] w' fun e w'' => e = .returned (.bool false) ∧ Fr Nothing w' w'') := Lib.hid (fun w' => by
      have := name_f (⟨#[48]⟩ ++ S) w' (by rw [ByteArray.size_append, hsz]; exact Nat.lt_of_le_of_lt (Nat.add_le_add_left hN3 1) (by decide))
      rw [name_zero] at this; exact this)
    have hN16 : N ≤ 16 := by omega
    have hN11 : 1 ≤ N := by omega
    obtain ⟨D, hD⟩ : ∃ D, D = decide (N < 16) := ⟨_, rfl⟩
    rw [← hD] at HNm HNz
    have hDI : decide ((N : Int) < 16) = D := by rw [hD, decide_eq_decide]; omega
    have hsm : (S.toList == S.toList) = true := by simp
    have HDI := Lib.hid hDI
    have HSM := Lib.hid hsm
    clear hn hN hN1 hD hDI hsm
    go_enter Tryd.func8, Tryd.ntmps8
    go_wp2_with (first
      | (go_at_call 9; refine HLv.out.mono ?_; rintro e w1 ⟨rfl, F1⟩)
      | (go_at_call 10; refine (HEa.out _).mono ?_; rintro e w1' ⟨rfl, rfl⟩))
    have HF1 := Lib.hid F1
    clear F1
    go_wp2_with (go_at_call 15; refine (HN.out _).mono ?_)
    rintro e w2 ⟨rfl, F2⟩
    have HF2 : Hid (Fr Nothing w w2) := Lib.hid (HF1.out.trans' F2)
    clear F2
    go_wp2_with (fail)
    go_loopg [3] N (fun gg vk wr => ∃ k, 1 ≤ k ∧ k ≤ N + 1 ∧ gg = N + 1 - k ∧ vk = .int .i64 (k : Nat) ∧ Hid (Fr Nothing w wr))
    case atStart => exact ⟨1, by omega, by omega, by omega, rfl, HF2⟩
    case round =>
      obtain ⟨k, hk1, hk, rfl, rfl, HF⟩ := hrel
      by_cases hlt : k ≤ N
      · have hltI : (k : Int) ≤ N := by omega
        have HC := Lib.hid (HNk.out k hk1 hlt)
        go_wp2_with (go_at_call 15; refine (HC.out _).mono ?_)
        rintro e w5 ⟨rfl, F5⟩
        have HF5 : Hid (Fr Nothing w w5) := Lib.hid (HF.out.trans' F5)
        clear F5
        go_wp2_with (fail)
        go_roundg (N + 1 - (k + 1))
        case measure => omega
        case rel => exact ⟨k + 1, by omega, by omega, by omega, by go_num, HF5⟩
      · obtain rfl : k = N + 1 := by omega
        have hltI : ¬ (((N + 1 : Nat) : Int) ≤ N) := by omega
        have dlt : decide (((N + 1 : Nat) : Int) ≤ N) = false := decide_eq_false hltI
        go_wp2_with (go_at_call 17; refine (HEs.out _ (senv_fr HE.out HF.out)).mono ?_)
        rintro e w5 rfl F5
        have HF5 : Hid (Fr Nothing w w5) := Lib.hid (HF.out.trans' F5)
        clear F5
        have hsm := HSM.out
        cases D with
        | true =>
          have h16 : (N : Int) < 16 := of_decide_eq_true HDI.out
          go_wp2_with (go_at_call 15; refine (HNm.out _).mono ?_)
          rintro e w6 ⟨rfl, F6⟩
          have HF6 : Hid (Fr Nothing w w6) := Lib.hid (HF5.out.trans' F6)
          clear F6
          go_wp2_with (go_at_call 15; refine (HNz.out _).mono ?_)
          rintro e w7 ⟨rfl, F7⟩
          have HF7 : Hid (Fr Nothing w w7) := Lib.hid (HF6.out.trans' F7)
          clear F7
          go_wp2_with (go_at_call 15; refine (HNa.out _).mono ?_)
          rintro e w8 ⟨rfl, F8⟩
          have HF8 : Hid (Fr Nothing w w8) := Lib.hid (HF7.out.trans' F8)
          clear F8
          go_wp2_with (go_at_call 15; refine (HNo.out _).mono ?_)
          rintro e w9 ⟨rfl, F9⟩
          have HF9 : Hid (Fr Nothing w w9) := Lib.hid (HF8.out.trans' F9)
          clear F9
          go_wp2_with (fail)
          go_ret
          exact ⟨rfl, HF9.out.fromN.belowB⟩
        | false =>
          have h16 : ¬ ((N : Int) < 16) := of_decide_eq_false HDI.out
          have d16 := HDI.out
          go_wp2_with (go_at_call 15; refine (HNm.out _).mono ?_)
          rintro e w6 ⟨rfl, F6⟩
          have HF6 : Hid (Fr Nothing w w6) := Lib.hid (HF5.out.trans' F6)
          clear F6
          go_wp2_with (go_at_call 15; refine (HNz.out _).mono ?_)
          rintro e w7 ⟨rfl, F7⟩
          have HF7 : Hid (Fr Nothing w w7) := Lib.hid (HF6.out.trans' F7)
          clear F7
          go_wp2_with (go_at_call 15; refine (HNa.out _).mono ?_)
          rintro e w8 ⟨rfl, F8⟩
          have HF8 : Hid (Fr Nothing w w8) := Lib.hid (HF7.out.trans' F8)
          clear F8
          go_wp2_with (go_at_call 15; refine (HNo.out _).mono ?_)
          rintro e w9 ⟨rfl, F9⟩
          have HF9 : Hid (Fr Nothing w w9) := Lib.hid (HF8.out.trans' F9)
          clear F9
          go_wp2_with (fail)
          go_ret
          exact ⟨rfl, HF9.out.fromN.belowB⟩
end Go.Proofs.YtbpbghmhenilcaaDoor
