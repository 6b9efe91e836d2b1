/- ShareAdds' walk. No condition. -/
import Derived.Test.YtdgaiacigmcibaaAddsA
import Derived.Test.YtdgaiacigmcibaaShareTopW
import Derived.Test.YtdgaiacigmcibaaShLivesB
import Derived.Test.YtdgaiacigmcibaaShArgs
import Derived.Lib.MinMax
namespace Go.Proofs.Ytdgaiacigmcibaa
open Go.RowKit Go.Sort

theorem sum_take_succ (X : List Int) (i : Nat) : (X.take (i + 1)).sum = (X.take i).sum + X.getD i 0 := by
  induction X generalizing i with
  | nil => simp
  | cons x X ih =>
    cases i with
    | zero => simp
    | succ i =>
      have := ih i
      simp only [List.take_succ_cons, List.sum_cons, List.getD_cons_succ]
      omega
theorem NonNeg.take {X : List Int} (h : NonNeg X) (i : Nat) : NonNeg (X.take i) := fun x hx => h x (List.mem_of_mem_take hx)
theorem take_sum_le {X : List Int} (h : NonNeg X) (i : Nat) : (X.take i).sum ≤ X.sum := by
  have e : X.sum = (X.take i).sum + (X.drop i).sum := by rw [← List.sum_append, List.take_append_drop]
  have h2 : NonNeg (X.drop i) := fun x hx => h x (List.mem_of_mem_drop hx)
  have := h2.sum; omega
set_option maxHeartbeats 8000000 in
set_option maxRecDepth 100000 in
theorem shareadds_walk (a : Option Addr) (l0 : List Nat) (c : Nat) (n : Int) (w : World) (hl : Fs w a l0) (hw : ∀ z ∈ l0, z < 18446744073709551616) (hc : l0.length ≤ c) (hm : c ≤ maxLen) :
    Calls Try.prog 4 #[.slice a l0.length c, .int .i64 n] w fun e w' => e = .returned (.bool true) ∧ Below w.heap.size w w' := by
  obtain ⟨l, hll⟩ : ∃ l, l = l0.take 60 := ⟨_, rfl⟩
  obtain ⟨N, hN⟩ : ∃ N, N = l.length := ⟨_, rfl⟩
  obtain ⟨N0, hN0⟩ : ∃ N, N = l0.length := ⟨_, rfl⟩
  have hmin : min N0 60 = N := by rw [hN, hll, List.length_take, hN0, Nat.min_comm]
  have hc9 : (c : Int) ≤ 9223372036854775807 := by unfold maxLen at hm; omega
  have hls : Fs w a l := by
    have := Sl.take hl 60
    rw [← List.map_take] at this
    rw [hll]; exact this
  have hlw : ∀ z ∈ l, z < 18446744073709551616 := fun z hz => by rw [hll] at hz; exact hw z (List.mem_of_mem_take hz)
  have hN60 : N ≤ 60 := by omega
  obtain ⟨T, hT⟩ : ∃ T, T = topL l := ⟨_, rfl⟩
  obtain ⟨M, hM⟩ : ∃ M, M = T.length := ⟨_, rfl⟩
  have hMN : M ≤ N := by rw [hM, hT, hN]; exact topL_len l
  obtain ⟨m, hmc⟩ : ∃ m : Int, m = clampN n := ⟨_, rfl⟩
  have hmI : min (max n 0) 1000000 = m := by rw [hmc]; exact clamp_int n
  obtain ⟨X, hX⟩ : ∃ X, X = wholeL l n := ⟨_, rfl⟩
  have hXN : X.length = N := by rw [hX, wholeL_len, hN]
  have hnn : NonNeg X := by rw [hX]; exact wholeL_nn l n
  have hs6 : X.sum ≤ 1000000 := by rw [hX]; exact wholeL_le l n
  have hsum : X.sum = if M = 0 then 0 else m := by rw [hX, whole_sum hlw n, hM, hT, hmc]
  have hout : ∀ i, i < N → ¬ (i : Int) ∈ T → X.getD i 0 = 0 := fun i hi h => by rw [hX]; exact whole_out hlw n (by rw [← hN]; exact hi) (by rw [← hT]; exact h)
  obtain ⟨K, hK⟩ : ∃ K, K = min 1 M := ⟨_, rfl⟩
  have hTk : (T.take K).length = K := by rw [List.length_take, ← hM]; omega
  have HE := Lib.hid (fun W => share_early a N0 c W (by rw [hN0]; exact hc) hc9)
  rw [hmin] at HE
  have HW : Hid (∀ W, Fr Nothing w W → Calls Try.prog 19 #[.int .i64 n, .slice a N c] W (WholeTold X W)) := Lib.hid fun W F => by
    rw [hN, hX]; exact whole_f a l c n W (Sl.fr hls F (fun _ _ h => h)) hlw (by omega) (by omega)
  have HT1 : Hid (∀ W, Fr Nothing w W → Calls Try.prog 15 #[.slice a N c, .int .i64 1] W (TopTold (T.take K) W)) := Lib.hid fun W F => by
    have := top_f a l c 1 W (Sl.fr hls F (fun _ _ h => h)) hlw (by omega) (by omega)
    rw [← hT, ← hM, show (min (max (1 : Int) 0) (M : Int)).toNat = K by omega, ← hN] at this
    exact this
  have HT2 : Hid (∀ W, Fr Nothing w W → Calls Try.prog 15 #[.slice a N c, .int .i64 (N : Int)] W (TopTold T W)) := Lib.hid fun W F => by
    have := top_f a l c (N : Int) W (Sl.fr hls F (fun _ _ h => h)) hlw (by omega) (by omega)
    rw [← hT, ← hM, List.take_of_length_le (by omega), ← hN] at this
    exact this
  have HTM := Lib.hid hM.symm
  have HTK := Lib.hid hTk
  have HXN := Lib.hid hXN
  have HNN := Lib.hid hnn
  have HS6 := Lib.hid hs6
  have HSUM := Lib.hid hsum
  have HOUT := Lib.hid hout
  have hN9 : (N : Int) ≤ 60 := by omega
  have hM9 : (M : Int) ≤ 60 := by omega
  have hNN : ((N : Int) == N) = true := by simp
  have F0 := Lib.hid (Fr.refl Nothing w)
  have hK1 : M = 0 → K = 0 := by omega
  have hK2 : M ≠ 0 → K = 1 := by omega
  have HK1 := Lib.hid hK1
  have HK2 := Lib.hid hK2
  rw [← hN0]
  clear hl hw hc hm hll hN hN0 hmin hls hlw hT hM hK hTk hmc hX hXN hnn hs6 hsum hout hK1 hK2
  go_enter Try.func4, Try.ntmps4
  go_wp2_with (first
    | (go_at_call 9; refine (share_lives _).mono ?_; rintro _ w1 ⟨rfl, F1⟩)
    | (go_at_call 10; refine (HE.out _).mono ?_; rintro _ w2 ⟨rfl, rfl⟩)
    | (go_at_call 19; refine (HW.out _ F1).mono ?_; rintro _ w3 ⟨g, rfl, hg, hR, F3⟩; rw [HXN.out]; have F4 := F1.trans' F3)
    | (go_at_call 15; with_reducible refine (HT1.out _ F4).mono ?_; rintro _ w5 h5; obtain ⟨a5, c5, rfl, h51, h52, h53, F5⟩ := told_sl h5; rw [HTK.out]; have F6 := F4.trans' F5)
    | (go_at_call 15; with_reducible refine (HT2.out _ F6).mono ?_; rintro _ w7 h7; obtain ⟨a7, c7, rfl, h71, h72, h73, F7⟩ := told_sl h7; rw [HTM.out]))
  have FW := F6.trans' F7
  have HFW := Lib.hid FW
  have HR7 : Hid (Row w7 g (numsW X) 3) := Lib.hid ((hR.fr F5 (fun h => h)).fr F7 (fun h => h))
  have H7 := Lib.hid h73
  have hMc := h71
  rw [HTM.out] at hMc
  clear h53 h73 h5 h7 h51 h71 F1 F3 F4 F5 F6 F7 FW hR
  go_loopg [8, 9] N (fun gg vs vi wr => ∃ (i : Nat) (s : Int), i ≤ N ∧ gg = N - i ∧ vi = .int .i64 (i : Nat) ∧ vs = .int .i64 s ∧ Hid (s = (X.take i).sum) ∧ wr = w7)
  case atStart => exact ⟨0, 0, Nat.zero_le _, rfl, rfl, rfl, Lib.hid (by simp), rfl⟩
  case round =>
    obtain ⟨i, s, hi, rfl, rfl, rfl, HSI, rfl⟩ := hrel
    by_cases hlt : i < N
    · have hltI : (i : Int) < N := by omega
      obtain ⟨x, hx⟩ : ∃ x, x = X.getD i 0 := ⟨_, rfl⟩
      have hx0 : 0 ≤ x := by rw [hx]; exact HNN.out.getD i
      have hx6 : x ≤ 1000000 := by have := HNN.out.le_sum i; have h2 := HS6.out; omega
      have hs0 : 0 ≤ s := by rw [HSI.out]; exact (HNN.out.take i).sum
      have hs1 : s ≤ 1000000 := by have := take_sum_le HNN.out i; have h2 := HS6.out; have h3 := HSI.out; omega
      have hxn : ¬ (x < 0) := by omega
      have hxn2 : decide (x < 0) = false := decide_eq_false hxn
      have cx : wr.cell? ⟨g, i, none⟩ = some (.int .i64 x) := by rw [hx]; exact HR7.out.cell i (nums_get (by rw [HXN.out]; exact hlt))
      have HX := Lib.hid hx
      have HSN : Hid (s + x = (X.take (i + 1)).sum) := Lib.hid (by rw [sum_take_succ, ← hx, ← HSI.out])
      clear hx
      go_wp2_with (fail)
      go_loopg [10, 11] M (fun gg vb vk wr2 => ∃ (k : Nat) (b : Bool), k ≤ M ∧ gg = M - k ∧ vk = .int .i64 (k : Nat) ∧ vb = .bool b ∧ Hid (b = true ↔ (i : Int) ∈ T.take k) ∧ wr2 = wr)
      case atStart => exact ⟨0, false, Nat.zero_le _, rfl, rfl, rfl, Lib.hid (by simp), rfl⟩
      case round =>
        obtain ⟨k, b, hk, rfl, rfl, rfl, HB, rfl⟩ := hrel
        by_cases hkM : k < M
        · have hkI : (k : Int) < M := by omega
          have hkT : k < T.length := by rw [HTM.out]; exact hkM
          have htk : ((i : Int) ∈ T.take (k + 1)) ↔ ((i : Int) ∈ T.take k ∨ (i : Int) = T[k]) := by
            rw [List.take_succ_eq_append_getElem hkT, List.mem_append, List.mem_singleton]
          cases b with
          | true =>
            have HB2 : Hid (true = true ↔ (i : Int) ∈ T.take (k + 1)) := Lib.hid (by rw [htk]; exact ⟨fun h => .inl (HB.out.1 h), fun _ => rfl⟩)
            clear htk
            go_wp2_with (fail)
            go_roundg (M - (k + 1))
            case measure => omega
            case rel => exact ⟨k + 1, true, by omega, rfl, by go_num, rfl, Lib.hid (by simpa using HB2.out), rfl⟩
          | false =>
            have hnot : ¬ (i : Int) ∈ T.take k := fun h => Bool.false_ne_true (HB.out.2 h)
            obtain ⟨b5, o5, rfl, c50⟩ := Sl.oneCell H7.out (j := k) (v := .int .i64 T[k]) (by simp [hkT])
            obtain ⟨t, ht⟩ : ∃ t, t = T[k] := ⟨_, rfl⟩
            rw [← ht] at c50 htk
            by_cases he : t = (i : Int)
            · have hb1 : (t == (i : Int)) = true := by rw [he]; simp
              have HB2 : Hid (true = true ↔ (i : Int) ∈ T.take (k + 1)) := Lib.hid (by rw [htk]; exact ⟨fun _ => .inr he.symm, fun _ => rfl⟩)
              clear htk hnot ht he
              go_wp2_with (fail)
              go_roundg (M - (k + 1))
              case measure => omega
              case rel => exact ⟨k + 1, true, by omega, rfl, by go_num, rfl, Lib.hid (by simpa using HB2.out), rfl⟩
            · have hb1 : (t == (i : Int)) = false := by simpa using he
              have HB2 : Hid (false = true ↔ (i : Int) ∈ T.take (k + 1)) := Lib.hid (by
                rw [htk]
                exact ⟨fun h => absurd h Bool.false_ne_true, fun h => by rcases h with h | h; exact absurd h hnot; exact absurd h.symm he⟩)
              clear htk hnot ht he
              go_wp2_with (fail)
              go_roundg (M - (k + 1))
              case measure => omega
              case rel => exact ⟨k + 1, false, by omega, rfl, by go_num, rfl, HB2, rfl⟩
        · obtain rfl : M = k := by omega
          cases b with
          | true =>
            go_wp2_with (fail)
            go_roundg (N - (i + 1))
            case measure => omega
            case rel => exact ⟨i + 1, s + x, by omega, rfl, by go_num, rfl, HSN, rfl⟩
          | false =>
            have hx00 : x = 0 := by
              rw [HX.out]
              refine HOUT.out i hlt (fun h => Bool.false_ne_true (HB.out.2 ?_))
              rw [List.take_of_length_le (by have := HTM.out; omega)]; exact h
            have hx1 : ¬ (0 < x) := by omega
            have hx2 : decide (0 < x) = false := decide_eq_false hx1
            have HX00 := Lib.hid hx00
            clear hx00
            go_wp2_with (fail)
            go_roundg (N - (i + 1))
            case measure => omega
            case rel => exact ⟨i + 1, s + x, by omega, rfl, by go_num, rfl, HSN, rfl⟩
    · obtain rfl : N = i := by omega
      have hsx : s = if M = 0 then 0 else m := by rw [HSI.out, List.take_of_length_le (by have := HXN.out; omega)]; exact HSUM.out
      by_cases hM0 : M = 0
      · rw [if_pos hM0] at hsx
        have hK0 := HK1.out hM0
        have hk1 : ¬ ((0 : Int) < K) := by omega
        have hk2 : decide ((0 : Int) < K) = false := decide_eq_false hk1
        subst hsx
        clear hM0 hK0
        go_wp2_with (fail)
        all_goals (go_ret; exact ⟨rfl, HFW.out.fromN.belowB⟩)
      · rw [if_neg hM0] at hsx
        have hK0 := HK2.out hM0
        have hk1 : (0 : Int) < K := by omega
        have hk2 : decide ((0 : Int) < K) = true := decide_eq_true hk1
        have hmm : ((m : Int) == m) = true := by simp
        subst hsx
        clear hM0 hK0
        go_wp2_with (fail)
        all_goals (go_ret; exact ⟨rfl, HFW.out.fromN.belowB⟩)
theorem shareadds_any (a0 : Option Addr) (L0 : List FL) (c0 : Nat) (n : Int) (w : World) (n0 : L0.length ≤ c0) (m0 : c0 ≤ maxLen) (t0 : Recs FL.cells 1 w a0 L0) (z0 : ∀ r ∈ L0, r.Good) (_ : (Lit.int .i64 n).wf = true) :
    Calls Try.prog 4 #[.slice a0 L0.length c0, .int .i64 n] w fun e w' => e = .returned (.bool true) ∧ Below w.heap.size w w' := by
  have := shareadds_walk a0 (L0.map FL.n) c0 n w (fl_fs t0) (fl_wf z0) (by simpa using n0) m0
  rw [List.length_map] at this
  exact this
end Go.Proofs.Ytdgaiacigmcibaa
