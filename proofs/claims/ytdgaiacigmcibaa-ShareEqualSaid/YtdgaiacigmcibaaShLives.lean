/- What each statement of share begins with answers true. No condition. -/
import Derived.Test.YtdgaiacigmcibaaWholeE
import Derived.Test.YtdgaiacigmcibaaShelfR
import Derived.Test.YtdgaiacigmcibaaSameI
import Derived.Lib.MinMax
namespace Go.Proofs.Ytdgaiacigmcibaa
open Go.RowKit Go.Sort

theorem whole_le {X : List Int} {r : List Nat} {A : List Int} {n : Int} (h : NonNeg X) (hi : Inside A X.length) (hn : 0 ≤ n) : (wholeOf X r A n).sum ≤ n := by
  by_cases hA : A ≠ [] ∨ n ≤ X.sum
  · rw [(whole_ok h hi hn).2 hA]; exact Int.le_refl _
  · have h1 : A = [] := by
      by_cases h : A = []
      · exact h
      · exact absurd (.inl h) hA
    have h2 : ¬ n ≤ X.sum := fun h => hA (.inr h)
    unfold wholeOf
    rw [show (X.sum - n).toNat = 0 by omega, h1]
    show X.sum ≤ n
    omega
theorem wholeL_len (l : List Nat) (n : Int) : (wholeL l n).length = l.length := by unfold wholeL; rw [whole_len]; unfold outL; simp
theorem wholeL_nn (l : List Nat) (n : Int) : NonNeg (wholeL l n) := (whole_ok (outL_nn l _) (take_inside l _) (by omega)).1
theorem wholeL_le (l : List Nat) (n : Int) : (wholeL l n).sum ≤ 1000000 := by
  have := whole_le (r := restL l (clampN n)) (outL_nn l (clampN n)) (take_inside l (clampN n)) (n := (clampN n : Int)) (by omega)
  have h2 := clamp_le n
  unfold wholeL; omega
theorem infoS : ∃ i0, Try.prog.info? 9 = some i0 ∧ i0.zero = some (.string ByteArray.empty) ∧ i0.size = 1 ∧ i0.bytes = 16 := by
  have hi := Try.infoText
  cases h0 : Try.prog.info? 9 with
  | none => rw [h0] at hi; simp at hi
  | some i0 =>
    rw [h0] at hi
    simp only [Option.map_some, Option.some.injEq, Prod.mk.injEq] at hi
    exact ⟨i0, rfl, hi.1, hi.2.1, hi.2.2⟩
theorem fr_of_below {w w' : World} (h : Below w.heap.size w w') : Fr Nothing w w' :=
  (Fr.refl Nothing w).trans (Fr.of_below h) (fun _ hq e => absurd hq (Nat.not_lt.2 e))
set_option maxHeartbeats 4000000 in
set_option maxRecDepth 100000 in
theorem bars_f (a : Option Addr) (l : List Nat) (c : Nat) (n : Int) (w : World) (hl : Fs w a l) (hw : ∀ z ∈ l, z < 18446744073709551616) (h60 : l.length ≤ 60) (hc : l.length ≤ c) :
    Calls Try.prog 20 #[.slice a l.length c, .int .i64 n] w fun e w' => (∃ a' c', e = .returned (.slice a' l.length c')) ∧ Fr Nothing w w' := by
  obtain ⟨i0, hi, hz0, hz1, hz2⟩ := infoS
  have Hi := Lib.hid hi
  have Hz0 := Lib.hid hz0
  have Hz1 := Lib.hid hz1
  have Hz2 := Lib.hid hz2
  obtain ⟨N, hN⟩ : ∃ N, N = l.length := ⟨_, rfl⟩
  obtain ⟨m, hm⟩ : ∃ m : Int, m = min (max n 0) 100 := ⟨_, rfl⟩
  have hmI := hm.symm
  have HC := Lib.hid (whole_f a l c m w hl hw h60 hc)
  obtain ⟨X, hX⟩ : ∃ X, X = wholeL l m := ⟨_, rfl⟩
  have hXN : X.length = N := by rw [hX, wholeL_len, hN]
  have hnn : NonNeg X := by rw [hX]; exact wholeL_nn l m
  have hs : X.sum ≤ 1000000 := by rw [hX]; exact wholeL_le l m
  rw [← hX, ← hN] at HC
  have HXN := Lib.hid hXN
  have HNN := Lib.hid hnn
  have HS := Lib.hid hs
  have hN9 : (N : Int) ≤ 60 := by omega
  have hN60 : N ≤ 60 := by omega
  rw [← hN]
  clear hi hz0 hz1 hz2 hm hX hXN hnn hs hl hw hc hN h60
  go_enter Try.func20, Try.ntmps20
  go_wp2_with (go_at_call 19; refine HC.out.mono ?_; rintro _ w1 ⟨g, rfl, hg, hR, F1⟩; rw [HXN.out])
  have HR := Lib.hid hR
  have HF1 := Lib.hid F1
  clear hg hR F1
  go_loopg [5, 14] N (fun gg va vi wr => ∃ k, k ≤ N ∧ gg = N - k ∧ vi = .int .i64 (k : Nat) ∧ ∃ O : List ByteArray, Hid (O.length = k) ∧ CollE w1 9 1 va O.length (O.map Value.string) wr)
  case atStart => exact ⟨0, Nat.zero_le _, rfl, rfl, [], Lib.hid rfl, CollE.start _ _ _⟩
  case round =>
    obtain ⟨k, hk, rfl, rfl, O, HO, co⟩ := hrel
    by_cases hlt : k < N
    · have hltI : (k : Int) < N := by omega
      have hkX : k < X.length := by rw [HXN.out]; exact hlt
      obtain ⟨x, hx⟩ : ∃ x, x = (X.getD k 0).toNat := ⟨_, rfl⟩
      have hxI : X.getD k 0 = (x : Int) := by have := HNN.out.getD k; omega
      have hx9 : x ≤ 1000000 := by have := HNN.out.le_sum k; have h2 := HS.out; omega
      have c0 := HR.out.cell k (nums_get hkX)
      rw [hxI] at c0
      have c1 := cell_fr c0 co.fr (fun h => h)
      obtain ⟨S, hS⟩ : ∃ S : ByteArray, S = ⟨(Lib.repeatL [(35 : UInt8)] x).toArray⟩ := ⟨_, rfl⟩
      have HREP : Hid (∀ W, Calls Try.prog 31 #[.string { data := #[35] }, .int .i64 (x : Nat)] W fun e w' => e = .returned (.string S) ∧ Fr Nothing W w') := Lib.hid fun W => by
        refine (R.Try.strings_Repeat { data := #[35] } x W (by omega) (by show 1 * x ≤ _; omega)).mono ?_
        rintro e w' ⟨rfl, hb⟩
        exact ⟨by rw [hS], fr_of_below hb⟩
      have hO60 : O.length ≤ 60 := by have := HO.out; omega
      have HOK := HO
      clear hx hxI c0 hS HO
      go_wp2_with (first
        | (go_at_call 31; refine (HREP.out _).mono ?_; rintro _ w6 ⟨rfl, F6⟩)
        | (at_builtin; go_must (refine wpList_append_fp rfl (.tmp 18) (.tmp 21) 38 rfl 9 i0 (.string ByteArray.empty) 1 16 Try.underlying38 Hi.out Hz0.out Hz1.out Hz2.out rfl (by decide) _ _ _ rfl (co.quiet (F6.trans' (Fr.alloc Nothing w6 (.cells #[Value.string S] 9)))).own _ 1 1 [Value.string S] rfl rfl (by simp) (Sl.ofRow (Row.allocNew w6 [Value.string S] 9)) (by simp [Value.oneCell']) (by unfold maxLen; omega) (by omega) ?_)))
      intro v7 w7 o7 f7 n7 s7 _
      have co7 := CollE.more co (F6.trans' (Fr.alloc Nothing _ _)) o7 f7 n7
      clear co o7 f7 n7 s7 F6
      go_wp2_with (fail)
      go_roundg (N - (k + 1))
      case measure => omega
      case rel =>
        refine ⟨k + 1, by omega, rfl, by go_num, O ++ [S], Lib.hid (by rw [List.length_append, HOK.out]; rfl), ?_⟩
        rw [List.length_append, List.map_append]
        exact co7
    · obtain rfl : k = N := by omega
      obtain ⟨a', c', rfl, _, _⟩ := co.own.shape
      have FW := HF1.out.trans' co.fr
      have e := HO.out
      rw [e]
      clear co
      go_wp2_with (fail)
      go_ret
      exact ⟨⟨a', c', rfl⟩, FW⟩
def l111 : List Nat := [4607182418800017408, 4607182418800017408, 4607182418800017408]
def l13 : List Nat := [4607182418800017408, 4613937818241073152]
theorem whole_111 : wholeL l111 10 = [4, 3, 3] := by decide +kernel
theorem part_13 : pAt l13 1 = 4604930618986332160 := by decide +kernel
theorem cov_13 (z : Int) (h : CovIs l13 4602678819172646912 z) : z = 1 := by
  have h0 : geF 0 4602678819172646912 = false := by decide +kernel
  have h1 : geF (cs l13 1) 4602678819172646912 = true := by decide +kernel
  have h2 : 0 < (topL l13).length := by decide +kernel
  rcases h with ⟨_, h⟩ | ⟨_, k, _, hz, _, hk⟩ | ⟨_, _, hk⟩
  · rw [h0] at h; exact absurd h Bool.false_ne_true
  · by_cases hk0 : k = 0
    · rw [hz, hk0]; rfl
    · have := hk 0 (by omega)
      rw [h1] at this; exact absurd this.symm Bool.false_ne_true
  · have := hk 0 h2
    rw [h1] at this; exact absurd this.symm Bool.false_ne_true
theorem live_whole (W : World) (g : Nat) (h : Row W g [.float .f64 4607182418800017408, .float .f64 4607182418800017408, .float .f64 4607182418800017408] 23) :
    Calls Try.prog 19 #[.int .i64 10, .slice (some ⟨g, 0, none⟩) 3 3] W (WholeTold [4, 3, 3] W) := by
  have := whole_f (some ⟨g, 0, none⟩) l111 3 10 W (Sl.ofRow h) (by decide) (by decide) (by decide)
  rw [whole_111] at this
  exact this
theorem live_parts (W : World) (g : Nat) (h : Row W g [.float .f64 4607182418800017408, .float .f64 4613937818241073152] 23) :
    Calls Try.prog 12 #[.slice (some ⟨g, 0, none⟩) 2 2] W fun e w' => ∃ g, e = .returned (.slice (some ⟨g, 0, none⟩) 2 2) ∧ w'.cell? ⟨g, 1, none⟩ = some (.float .f64 4604930618986332160) ∧ W.heap.size ≤ g ∧ g < w'.heap.size ∧ Fr Nothing W w' := by
  refine (parts_f (some ⟨g, 0, none⟩) l13 2 W (Sl.ofRow h) (by decide) (by decide)).mono ?_
  rintro e w' ⟨g2, rfl, h1, h2, h3⟩
  refine ⟨g2, rfl, h2.cell 1 ?_, h1, h2.lt, h3⟩
  show (pRow l13 2)[1]? = _
  unfold pRow
  rw [List.getElem?_map, List.getElem?_range (by decide)]
  show some (Value.float .f64 (pAt l13 1)) = _
  rw [part_13]
theorem live_cover (W : World) (g : Nat) (h : Row W g [.float .f64 4607182418800017408, .float .f64 4613937818241073152] 23) :
    Calls Try.prog 17 #[.slice (some ⟨g, 0, none⟩) 2 2, .float .f64 4602678819172646912] W fun e w' => e = .returned (.int .i64 1) ∧ Fr Nothing W w' := by
  refine (cover_f (some ⟨g, 0, none⟩) l13 2 4602678819172646912 W (Sl.ofRow h) (by decide) (by decide) (by decide) (fun x hx => topL_good hx)).mono ?_
  rintro e w' ⟨z, rfl, h1, h2⟩
  rw [cov_13 z h1]
  exact ⟨rfl, h2⟩
theorem live_bars (W : World) (g : Nat) (h : Row W g [.float .f64 4607182418800017408] 23) :
    Calls Try.prog 20 #[.slice (some ⟨g, 0, none⟩) 1 1, .int .i64 3] W fun e w' => (∃ a' c', e = .returned (.slice a' 1 c')) ∧ Fr Nothing W w' :=
  bars_f (some ⟨g, 0, none⟩) [4607182418800017408] 1 3 W (Sl.ofRow h) (by decide) (by decide) (by decide)
theorem live_same (W : World) (g h : Nat) (h1 : Row W g (numsW [4, 3, 3]) 3) (h2 : Row W h [.int .i64 4, .int .i64 3, .int .i64 3] 3) :
    Calls Try.prog 14 #[.slice (some ⟨g, 0, none⟩) 3 3, .slice (some ⟨h, 0, none⟩) 3 3] W fun e w' => e = .returned (.bool true) ∧ Fr Nothing W w' := by
  refine (same_ints (some ⟨g, 0, none⟩) (some ⟨h, 0, none⟩) [4, 3, 3] 3 3 W (Sl.ofRow h1) (Sl.ofRow h2) (by decide)).mono ?_
  rintro e w' ⟨rfl, m, rfl⟩
  exact ⟨rfl, Fr.drewN _ _ _⟩
set_option maxHeartbeats 4000000 in
set_option maxRecDepth 100000 in
theorem share_lives (w : World) : Calls Try.prog 9 #[] w fun e w' => e = .returned (.bool true) ∧ Fr Nothing w w' := by
  have hc1 : (ordF 4604930618986332160 4604930618986332160 == some Ordering.eq) = true := by decide +kernel
  go_enter Try.func9, Try.ntmps9
  go_wp2_with (first
    | (go_at_call 19; refine (live_whole _ _ (Row.allocNew _ _ _)).mono ?_; rintro _ w1 ⟨g1, rfl, hg1, hR1, F1⟩)
    | (go_at_call 12; refine (live_parts _ _ (Row.allocNew _ _ _)).mono ?_; rintro _ w2 ⟨g2, rfl, hc2, hg2, hl2, F2⟩)
    | (go_at_call 14; refine (live_same _ _ _ ((hR1.fr ((Fr.alloc Nothing _ _).trans' F2) (fun h => h)).fr (Fr.alloc Nothing _ _) (fun h => h)) (Row.allocNew _ _ _)).mono ?_; rintro _ w3 ⟨rfl, F3⟩; have c3 := cell_fr hc2 ((Fr.alloc Nothing _ _).trans' F3) (fun h => h))
    | (go_at_call 17; refine (live_cover _ _ (Row.allocNew _ _ _)).mono ?_; rintro _ w4 ⟨rfl, F4⟩)
    | (go_at_call 20; refine (live_bars _ _ (Row.allocNew _ _ _)).mono ?_; rintro _ w5 ⟨⟨a5, c5, rfl⟩, F5⟩))
  go_ret
  exact ⟨rfl, ((Fr.alloc Nothing w _).trans' F1).trans' (((Fr.alloc Nothing w1 _).trans' F2).trans' (((Fr.alloc Nothing w2 _).trans' F3).trans' (((Fr.alloc Nothing w3 _).trans' F4).trans' ((Fr.alloc Nothing w4 _).trans' F5))))⟩
end Go.Proofs.Ytdgaiacigmcibaa
