/- What each statement of share begins with answers true. No condition. -/
import Derived.Test.YtdgaiacigmcibaaWholeE
import Derived.Test.YtdgaiacigmcibaaShelfR
import Derived.Test.YtdgaiacigmcibaaSameI
import Derived.Lib.MinMax
namespace Go.Proofs.Ytdgaiacigmcibaa
open Go.RowKit Go.Sort

theorem whole_le {X : List Int} {r : List Nat} {A : List Int} {n : Int} (h : NonNeg X) (hi : Inside A X.length) (hn : 0 ≤ n) : (wholeOf X r A n).sum ≤ n := by
  by_cases hA : A ≠ [] ∨ n ≤ X.sum
  · rw [(whole_ok h hi hn).2 hA]; exact Int.le_refl _
  · have h1 : A = [] := by
      by_cases h : A = []
      · exact h
      · exact absurd (.inl h) hA
    have h2 : ¬ n ≤ X.sum := fun h => hA (.inr h)
    unfold wholeOf
    rw [show (X.sum - n).toNat = 0 by omega, h1]
    show X.sum ≤ n
    omega
theorem wholeL_len (l : List Nat) (n : Int) : (wholeL l n).length = l.length := by unfold wholeL; rw [whole_len]; unfold outL; simp
theorem wholeL_nn (l : List Nat) (n : Int) : NonNeg (wholeL l n) := (whole_ok (outL_nn l _) (take_inside l _) (by omega)).1
theorem wholeL_le (l : List Nat) (n : Int) : (wholeL l n).sum ≤ 1000000 := by
  have := whole_le (r := restL l (clampN n)) (outL_nn l (clampN n)) (take_inside l (clampN n)) (n := (clampN n : Int)) (by omega)
  have h2 := clamp_le n
  unfold wholeL; omega
theorem infoS : ∃ i0, Try.prog.info? 9 = some i0 ∧ i0.zero = some (.string ByteArray.empty) ∧ i0.size = 1 ∧ i0.bytes = 16 := by
  have hi := Try.infoText
  cases h0 : Try.prog.info? 9 with
  | none => rw [h0] at hi; simp at hi
  | some i0 =>
    rw [h0] at hi
    simp only [Option.map_some, Option.some.injEq, Prod.mk.injEq] at hi
    exact ⟨i0, rfl, hi.1, hi.2.1, hi.2.2⟩
theorem fr_of_below {w w' : World} (h : Below w.heap.size w w') : Fr Nothing w w' :=
  (Fr.refl Nothing w).trans (Fr.of_below h) (fun _ hq e => absurd hq (Nat.not_lt.2 e))
set_option maxHeartbeats 4000000 in
set_option maxRecDepth 100000 in
theorem bars_f (a : Option Addr) (l : List Nat) (c : Nat) (n : Int) (w : World) (hl : Fs w a l) (hw : ∀ z ∈ l, z < 18446744073709551616) (h60 : l.length ≤ 60) (hc : l.length ≤ c) :
    Calls Try.prog 20 #[.slice a l.length c, .int .i64 n] w fun e w' => (∃ a' c', e = .returned (.slice a' l.length c')) ∧ Fr Nothing w w' := by
  obtain ⟨i0, hi, hz0, hz1, hz2⟩ := infoS
  have Hi := Lib.hid hi
  have Hz0 := Lib.hid hz0
  have Hz1 := Lib.hid hz1
  have Hz2 := Lib.hid hz2
  obtain ⟨N, hN⟩ : ∃ N, N = l.length := ⟨_, rfl⟩
  obtain ⟨m, hm⟩ : ∃ m : Int, m = min (max n 0) 100 := ⟨_, rfl⟩
  have hmI := hm.symm
  have HC := Lib.hid (whole_f a l c m w hl hw h60 hc)
  obtain ⟨X, hX⟩ : ∃ X, X = wholeL l m := ⟨_, rfl⟩
  have hXN : X.length = N := by rw [hX, wholeL_len, hN]
  have hnn : NonNeg X := by rw [hX]; exact wholeL_nn l m
  have hs : X.sum ≤ 1000000 := by rw [hX]; exact wholeL_le l m
  rw [← hX, ← hN] at HC
  have HXN := Lib.hid hXN
  have HNN := Lib.hid hnn
  have HS := Lib.hid hs
  have hN9 : (N : Int) ≤ 60 := by omega
  have hN60 : N ≤ 60 := by omega
  rw [← hN]
  clear hi hz0 hz1 hz2 hm hX hXN hnn hs hl hw hc hN h60
  go_enter Try.func20, Try.ntmps20
  go_wp2_with (go_at_call 19; refine HC.out.mono ?_; rintro _ w1 ⟨g, rfl, hg, hR, F1⟩; rw [HXN.out])
  have HR := Lib.hid hR
  have HF1 := Lib.hid F1
  clear hg hR F1
  go_loopg [5, 14] N (fun gg va vi wr => ∃ k, k ≤ N ∧ gg = N - k ∧ vi = .int .i64 (k : Nat) ∧ ∃ O : List ByteArray, Hid (O.length = k) ∧ CollE w1 9 1 va O.length (O.map Value.string) wr)
  case atStart => exact ⟨0, Nat.zero_le _, rfl, rfl, [], Lib.hid rfl, CollE.start _ _ _⟩
  case round =>
    obtain ⟨k, hk, rfl, rfl, O, HO, co⟩ := hrel
    by_cases hlt : k < N
    · have hltI : (k : Int) < N := by omega
      have hkX : k < X.length := by rw [HXN.out]; exact hlt
      obtain ⟨x, hx⟩ : ∃ x, x = (X.getD k 0).toNat := ⟨_, rfl⟩
      have hxI : X.getD k 0 = (x : Int) := by have := HNN.out.getD k; omega
      have hx9 : x ≤ 1000000 := by have := HNN.out.le_sum k; have h2 := HS.out; omega
      have c0 := HR.out.cell k (nums_get hkX)
      rw [hxI] at c0
      have c1 := cell_fr c0 co.fr (fun h => h)
      obtain ⟨S, hS⟩ : ∃ S : ByteArray, S = ⟨(Lib.repeatL [(35 : UInt8)] x).toArray⟩ := ⟨_, rfl⟩
      have HREP : Hid (∀ W, Calls Try.prog 31 #[.string { data := #[35] }, .int .i64 (x : Nat)] W fun e w' => e = .returned (.string S) ∧ Fr Nothing W w') := Lib.hid fun W => by
        refine (R.Try.strings_Repeat { data := #[35] } x W (by omega) (by show 1 * x ≤ _; omega)).mono ?_
        rintro e w' ⟨rfl, hb⟩
        exact ⟨by rw [hS], fr_of_below hb⟩
      have hO60 : O.length ≤ 60 := by have := HO.out; omega
      have HOK := HO
      clear hx hxI c0 hS HO
      go_wp2_with (first
        | (go_at_call 31; refine (HREP.out _).mono ?_; rintro _ w6 ⟨rfl, F6⟩)
        | (at_builtin; go_must (refine wpList_append_fp rfl (.tmp 18) (.tmp 21) 38 rfl 9 i0 (.string ByteArray.empty) 1 16 Try.underlying38 Hi.out Hz0.out Hz1.out Hz2.out rfl (by decide) _ _ _ rfl (co.quiet (F6.trans' (Fr.alloc Nothing w6 (.cells #[Value.string S] 9)))).own _ 1 1 [Value.string S] rfl rfl (by simp) (Sl.ofRow (Row.allocNew w6 [Value.string S] 9)) (by simp [Value.oneCell']) (by unfold maxLen; omega) (by omega) ?_)))
      intro v7 w7 o7 f7 n7 s7 _
      have co7 := CollE.more co (F6.trans' (Fr.alloc Nothing _ _)) o7 f7 n7
      clear co o7 f7 n7 s7 F6
      go_wp2_with (fail)
      go_roundg (N - (k + 1))
      case measure => omega
      case rel =>
        refine ⟨k + 1, by omega, rfl, by go_num, O ++ [S], Lib.hid (by rw [List.length_append, HOK.out]; rfl), ?_⟩
        rw [List.length_append, List.map_append]
        exact co7
    · obtain rfl : k = N := by omega
      obtain ⟨a', c', rfl, _, _⟩ := co.own.shape
      have FW := HF1.out.trans' co.fr
      have e := HO.out
      rw [e]
      clear co
      go_wp2_with (fail)
      go_ret
      exact ⟨⟨a', c', rfl⟩, FW⟩
end Go.Proofs.Ytdgaiacigmcibaa
