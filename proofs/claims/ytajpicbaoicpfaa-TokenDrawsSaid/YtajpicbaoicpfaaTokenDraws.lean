/- TokenDraws answers true for every input and changes no memory that was there. No condition. -/
import Derived.Test.YtajpicbaoicpfaaTokArgs
import Derived.Test.YtajpicbaoicpfaaTokRefA
import Derived.Test.YtajpicbaoicpfaaUSortK
import Derived.Test.YtajpicbaoicpfaaNumSame
namespace Go.Proofs.Ytajpicbaoicpfaa
open Go.RowKit
set_option maxHeartbeats 4000000 in
set_option maxRecDepth 100000 in
theorem tokendraws_any (a0 : Option Addr) (L0 : List UN) (c0 : Nat) (a1 : Option Addr) (K0 : List ByteArray) (c1 : Nat) (n : Int) (w : World)
    (n0 : L0.length ≤ c0) (m0 : c0 ≤ maxLen) (t0 : Recs UN.cells 1 w a0 L0) (z0 : ∀ r ∈ L0, r.Good) (n1 : K0.length ≤ c1) (m1 : c1 ≤ maxLen) (t1 : Txt w a1 K0) (_z1 : ∀ s ∈ K0, s.size ≤ maxLen) (_w2 : (Lit.int .i64 n).wf = true) :
    Calls Try.prog 4 #[.slice a0 L0.length c0, .slice a1 K0.length c1, .int .i64 n] w fun e w' => e = .returned (.bool true) ∧ Below w.heap.size w w' := by
  obtain ⟨l0, hl0⟩ : ∃ l, l = L0.length := ⟨_, rfl⟩
  obtain ⟨k0, hk0⟩ : ∃ l, l = K0.length := ⟨_, rfl⟩
  obtain ⟨L, hL⟩ : ∃ L, L = (L0.map UN.n).take 150 := ⟨_, rfl⟩
  obtain ⟨K, hK⟩ : ∃ K, K = K0.take 30 := ⟨_, rfl⟩
  obtain ⟨l, hl⟩ : ∃ l, l = L.length := ⟨_, rfl⟩
  obtain ⟨k, hk⟩ : ∃ l, l = K.length := ⟨_, rfl⟩
  have hll : min (l0 : Int) 150 = l := by rw [hl, hL, List.length_take, List.length_map, ← hl0]; omega
  have hkk : min (k0 : Int) 30 = k := by rw [hk, hK, List.length_take, ← hk0]; omega
  have HU : Hid (Us w a0 L) := Lib.hid (by rw [hL]; exact (un_us t0).take 150)
  have HT : Hid (Txt w a1 K) := Lib.hid (by
    rw [hK]
    have := Sl.take t1 30
    rw [← List.map_take] at this; exact this)
  have HG : Hid (∀ x ∈ L, x < 2 ^ 64) := Lib.hid (fun x hx => by
    rw [hL] at hx
    obtain ⟨r, hr, rfl⟩ := List.mem_map.1 (List.mem_of_mem_take hx)
    exact z0 r hr)
  have HLN := Lib.hid hl.symm
  have HKN := Lib.hid hk.symm
  have hc0 : (c0 : Int) ≤ 9223372036854775807 := by unfold maxLen at m0; omega
  have hc1 : (c1 : Int) ≤ 9223372036854775807 := by unfold maxLen at m1; omega
  have hl0c : l0 ≤ c0 := by omega
  have hk0c : k0 ≤ c1 := by omega
  have hl0c' : (l0 : Int) ≤ c0 := by omega
  have hk0c' : (k0 : Int) ≤ c1 := by omega
  have hlI : (l : Int) ≤ 150 ∧ (l : Int) ≤ c0 := by omega
  have hkI : (k : Int) ≤ 30 ∧ (k : Int) ≤ c1 := by omega
  rw [← hl0, ← hk0]
  have HLL := Lib.hid hll
  have HKK := Lib.hid hkk
  obtain ⟨s, i, e, hD⟩ := drawV_form (L.take (min (max n 1) 100).toNat) K
  have HD1 : Hid (∀ W, Fr Nothing w W → Calls Try.prog 13 #[.slice a0 l c0, .slice a1 k c1, .int .i64 n] W fun r w' => r = .returned (.tuple #[.string s, .int .i64 i, .int .i64 e]) ∧ Fr Nothing W w') := Lib.hid fun W F => by
    rw [← hD, hl, hk]; exact tok_draw a0 L c0 a1 K c1 n W (HU.out.fr F (fun _ _ h => h)) HG.out (HT.out.fr F (fun _ _ h => h)) (by omega) hc0 (by omega)
  have HD2 : Hid (∀ W, Fr Nothing w W → Calls Try.prog 14 #[.slice a0 l c0, .slice a1 k c1, .int .i64 n] W fun r w' => r = .returned (.tuple #[.string s, .int .i64 i, .int .i64 e]) ∧ Fr Nothing W w') := Lib.hid fun W F => by
    rw [← hD, hl, hk]; exact ref_draw a0 L c0 a1 K c1 n W (HU.out.fr F (fun _ _ h => h)) HG.out (HT.out.fr F (fun _ _ h => h)) (by omega) (by omega)
  obtain ⟨B, hB⟩ : ∃ B, B = decide L.Nodup := ⟨_, rfl⟩
  have HA1 : Hid (∀ W, Fr Nothing w W → Calls Try.prog 15 #[.slice a0 l c0] W fun r w' => r = .returned (.bool B) ∧ Fr Nothing W w') := Lib.hid fun W F => by
    rw [hB, hl]; exact apart_u L (by omega) a0 c0 W (HU.out.fr F (fun _ _ h => h))
  have HA2 : Hid (∀ W, Fr Nothing w W → Calls Try.prog 16 #[.slice a0 l c0] W fun r w' => r = .returned (.bool B) ∧ Fr Nothing W w') := Lib.hid fun W F => by
    rw [hB, hl]; exact ref_apart a0 L c0 W (HU.out.fr F (fun _ _ h => h)) (by unfold maxLen; omega)
  have hss : (s.toList == s.toList) = true := by simp
  have hEE : ∀ z : Int, (z == z) = true := by simp
  have hBB : ∀ z : Bool, (z == z) = true := by simp
  clear hL hK hl hk t0 t1 z0 _z1 _w2 hl0 hk0 n0 n1 m0 m1 hD hB
  go_enter Try.func4, Try.ntmps4
  go_wp2_with (go_at_call 8; refine (tok_lives _).mono ?_; rintro e w1 ⟨rfl, F1⟩)
  go_quiet (fail)
  obtain ⟨U, hU⟩ : ∃ U, U = w1.drewN nq := ⟨_, rfl⟩
  have F2 : Fr Nothing w U := by rw [hU]; exact F1.trans' (Fr.drewN _ _ _)
  rw [← hU]
  clear hU F1
  by_cases h0 : 0 < l
  · have h0I : (0 : Int) < l := by omega
    obtain ⟨b, o, rfl, c00⟩ := HU.out.at_ (i := 0) (by rw [HLN.out]; exact h0)
    obtain ⟨x, hx⟩ : ∃ x, x = L[0]'(by rw [HLN.out]; exact h0) := ⟨_, rfl⟩
    have hx64 := HG.out _ (List.getElem_mem (show 0 < L.length by rw [HLN.out]; exact h0))
    rw [← hx] at c00 hx64
    rw [Nat.add_zero] at c00
    have hxI : (x : Int) < 18446744073709551616 := by omega
    have hx0 : (0 : Int) ≤ x := by omega
    clear hx
    obtain ⟨X, hX⟩ : ∃ X : List Int, X = mixL (max (x : Int) 1) (min n 1000).toNat := ⟨_, rfl⟩
    have hXm : X.length ≤ maxLen := by rw [hX, mixL_len]; unfold maxLen; omega
    have HM1 : Hid (∀ W, Calls Try.prog 18 #[.int .u64 (x : Int), .int .i64 n] W (ToldN X W)) := Lib.hid fun W => by rw [hX]; exact tok_mix (x : Int) n (by omega) (by omega) W
    have HM2 : Hid (∀ W, Calls Try.prog 19 #[.int .u64 (x : Int), .int .i64 n] W (ToldN X W)) := Lib.hid fun W => by rw [hX]; exact ref_mix (x : Int) n (by omega) (by omega) W
    clear hX
    go_wp2_with (first
      | (go_at_call 13; refine (HD1.out _ F2).mono ?_; rintro _ w3 ⟨rfl, F⟩; have F3 := F2.trans' F; clear F)
      | (go_at_call 14; refine (HD2.out _ F3).mono ?_; rintro _ w4 ⟨rfl, F⟩; have F4 := F3.trans' F; clear F; have c4 := cell_fr c00 F4 (fun h => h))
      | (go_at_call 15; refine (HA1.out _ F4).mono ?_; rintro _ w5 ⟨rfl, F⟩; have F5 := F4.trans' F; clear F)
      | (go_at_call 16; refine (HA2.out _ F5).mono ?_; rintro _ w6 ⟨rfl, F⟩; have F6 := F5.trans' F; clear F)
      | (go_at_call 18; refine (HM1.out _).mono ?_; rintro _ w7 ⟨a7, c7, rfl, co7⟩; have F7 := F6.trans' co7.fr)
      | (go_at_call 19; refine (HM2.out _).mono ?_; rintro _ w8 ⟨a8, c8, rfl, co8⟩; have F8 := F7.trans' co8.fr)
      | (go_at_call 17; refine (ref_same_nums a7 a8 X c7 c8 _ (co7.own.sl.2.fr co8.fr (fun _ _ h => h)) co8.own.sl.2 hXm).mono ?_; rintro _ w9 ⟨rfl, m9, rfl⟩))
    go_ret
    exact ⟨rfl, (F8.trans' (Fr.drewN _ _ _)).fromN.belowB⟩
  · have h0I : ¬ ((0 : Int) < l) := by omega
    obtain ⟨X, hX⟩ : ∃ X : List Int, X = mixL (max (0 : Int) 1) (min n 1000).toNat := ⟨_, rfl⟩
    have hXm : X.length ≤ maxLen := by rw [hX, mixL_len]; unfold maxLen; omega
    have HM1 : Hid (∀ W, Calls Try.prog 18 #[.int .u64 (0 : Int), .int .i64 n] W (ToldN X W)) := Lib.hid fun W => by rw [hX]; exact tok_mix (0 : Int) n (by omega) (by omega) W
    have HM2 : Hid (∀ W, Calls Try.prog 19 #[.int .u64 (0 : Int), .int .i64 n] W (ToldN X W)) := Lib.hid fun W => by rw [hX]; exact ref_mix (0 : Int) n (by omega) (by omega) W
    clear hX
    go_wp2_with (first
      | (go_at_call 13; refine (HD1.out _ F2).mono ?_; rintro _ w3 ⟨rfl, F⟩; have F3 := F2.trans' F; clear F)
      | (go_at_call 14; refine (HD2.out _ F3).mono ?_; rintro _ w4 ⟨rfl, F⟩; have F4 := F3.trans' F; clear F)
      | (go_at_call 15; refine (HA1.out _ F4).mono ?_; rintro _ w5 ⟨rfl, F⟩; have F5 := F4.trans' F; clear F)
      | (go_at_call 16; refine (HA2.out _ F5).mono ?_; rintro _ w6 ⟨rfl, F⟩; have F6 := F5.trans' F; clear F)
      | (go_at_call 18; refine (HM1.out _).mono ?_; rintro _ w7 ⟨a7, c7, rfl, co7⟩; have F7 := F6.trans' co7.fr)
      | (go_at_call 19; refine (HM2.out _).mono ?_; rintro _ w8 ⟨a8, c8, rfl, co8⟩; have F8 := F7.trans' co8.fr)
      | (go_at_call 17; refine (ref_same_nums a7 a8 X c7 c8 _ (co7.own.sl.2.fr co8.fr (fun _ _ h => h)) co8.own.sl.2 hXm).mono ?_; rintro _ w9 ⟨rfl, m9, rfl⟩))
    go_ret
    exact ⟨rfl, (F8.trans' (Fr.drewN _ _ _)).fromN.belowB⟩
end Go.Proofs.Ytajpicbaoicpfaa
