/- Numbers that are made of a seed, each of the one ahead, as the program and the document's answer make them; lists of numbers that are the same. No condition. -/
import Derived.Test.YtajpicbaoicpfaaRows
import Derived.Test.YtajpicbaoicpfaaColl
import Derived.ProofKit
import Derived.Test.YtajpicbaoicpfaaShelf
namespace Go.Proofs.Ytajpicbaoicpfaa
open Go.RowKit

theorem Try.infoU : (Try.prog.info? 22).map (fun i => (i.zero, i.size, i.bytes)) = some (some (.int .u64 0), 1, 8) := by kernel_rfl
/-- A slice of numbers. -/
def Nums (w : World) (a : Option Addr) (D : List Int) : Prop := Sl w a (D.map (Value.int .u64))
theorem Nums.at_ {w : World} {a : Option Addr} {D : List Int} (h : Nums w a D) {i : Nat} (hi : i < D.length) : ∃ b o, a = some ⟨b, o, none⟩ ∧ w.cell? ⟨b, o + i, none⟩ = some (.int .u64 D[i]) :=
  Sl.oneCell h (by simp [hi])
theorem one_nums (L : List Int) : ∀ u ∈ L.map (Value.int .u64), u.oneCell' = true := by
  intro u hu
  obtain ⟨n, _, rfl⟩ := List.mem_map.1 hu; rfl
/-- The next number, and as many as are asked for. -/
def mixF (x : Int) : Int :=
  bits .xor .u64 (bits .xor .u64 (bits .xor .u64 x (IntKind.u64.wrap (x * 8192))) (bits .xor .u64 x (IntKind.u64.wrap (x * 8192)) / 128))
    (IntKind.u64.wrap (bits .xor .u64 (bits .xor .u64 x (IntKind.u64.wrap (x * 8192))) (bits .xor .u64 x (IntKind.u64.wrap (x * 8192)) / 128) * 131072))
def mixL (x : Int) : Nat → List Int
  | 0 => []
  | n + 1 => mixF x :: mixL (mixF x) n
def mixAt (x : Int) : Nat → Int
  | 0 => x
  | n + 1 => mixAt (mixF x) n
theorem mixL_len (x : Int) (n : Nat) : (mixL x n).length = n := by
  induction n generalizing x with
  | zero => rfl
  | succ n ih => simp [mixL, ih]
theorem mixAt_succ (x : Int) (n : Nat) : mixAt x (n + 1) = mixF (mixAt x n) := by
  induction n generalizing x with
  | zero => rfl
  | succ n ih => show mixAt (mixF x) (n + 1) = mixF (mixAt (mixF x) n); rw [ih]
theorem mixL_snoc (x : Int) (n : Nat) : mixL x (n + 1) = mixL x n ++ [mixAt x (n + 1)] := by
  induction n generalizing x with
  | zero => rfl
  | succ n ih =>
    show mixF x :: mixL (mixF x) (n + 1) = mixF x :: mixL (mixF x) n ++ [mixAt (mixF x) (n + 1)]
    rw [ih]; rfl
theorem mixL_add (x : Int) (n m : Nat) : mixL x (n + m) = mixL x n ++ mixL (mixAt x n) m := by
  induction n generalizing x with
  | zero => simp [mixL, mixAt]
  | succ n ih =>
    rw [Nat.add_right_comm]
    show mixF x :: mixL (mixF x) (n + m) = mixF x :: mixL (mixF x) n ++ mixL (mixAt (mixF x) n) m
    rw [ih]; rfl
theorem mixL_get (x : Int) (n i : Nat) (h : i < n) : (mixL x n)[i]? = some (mixAt x (i + 1)) := by
  induction n generalizing x i with
  | zero => omega
  | succ n ih =>
    cases i with
    | zero => rfl
    | succ i => exact ih (mixF x) i (by omega)
theorem wrap_u64 (z : Int) : IntKind.u64.wrap z = z % 18446744073709551616 := by simp [IntKind.wrap, IntKind.bits, IntKind.signed]
theorem bits_range (op : BinOp) (a b : Int) (h : op = .xor) : 0 ≤ bits op .u64 a b ∧ bits op .u64 a b < 18446744073709551616 := by
  subst h
  show 0 ≤ IntKind.u64.wrap _ ∧ IntKind.u64.wrap _ < _
  rw [wrap_u64]
  omega
theorem mixF_range (x : Int) : 0 ≤ mixF x ∧ mixF x < 18446744073709551616 := bits_range _ _ _ rfl
/-- Numbers in new memory. -/
def ToldN (L : List Int) (w : World) (e : Ending) (w' : World) : Prop :=
  ∃ (a : Option Addr) (c : Nat), e = .returned (.slice a L.length c) ∧ CollE w 22 1 (.slice a L.length c) L.length (L.map (Value.int .u64)) w'
theorem ToldN.of {L : List Int} {w wr : World} {v : Value} (h : CollE w 22 1 v L.length (L.map (Value.int .u64)) wr) : ToldN L w (.returned v) wr := by
  obtain ⟨a, c, rfl, _, _⟩ := h.own.shape
  exact ⟨a, c, rfl, h⟩
set_option maxRecDepth 100000 in
set_option maxHeartbeats 4000000 in
theorem tok_mix (x n : Int) (hx : 0 ≤ x) (hx1 : x < 18446744073709551616) (w : World) :
    Calls Try.prog 18 #[.int .u64 x, .int .i64 n] w (ToldN (mixL (max x 1) (min n 1000).toNat) w) := by
  obtain ⟨i0, hi, hz0, hz1, hz2⟩ := info_parts Try.infoU
  have Hz2 := Lib.hid hz2
  have Hz1 := Lib.hid hz1
  have Hz0 := Lib.hid hz0
  have Hi := Lib.hid hi
  obtain ⟨N, hN⟩ : ∃ N : Int, N = min n 1000 := ⟨_, rfl⟩
  have hN1 : N ≤ 1000 := by omega
  obtain ⟨M, hM⟩ : ∃ M : Nat, M = N.toNat := ⟨_, rfl⟩
  obtain ⟨X, hX⟩ : ∃ X : Int, X = max x 1 := ⟨_, rfl⟩
  rw [← hN, ← hM, ← hX]
  have HNN := Lib.hid hN
  have hX1 : 0 ≤ X ∧ X < 18446744073709551616 := by omega
  have HXX := Lib.hid hX
  clear hi hz0 hz1 hz2 hN hX
  go_enter Try.func18, Try.ntmps18
  go_wp2_with (fail)
  rw [← HXX.out, ← HNN.out]
  clear hx hx1 HXX HNN
  go_loopg [5, 6, 11] M (fun g x l i wr => ∃ k : Nat, k ≤ M ∧ g = M - k ∧ i = .int .i64 k ∧ x = .int .u64 (mixAt X k) ∧ 0 ≤ mixAt X k ∧ mixAt X k < 18446744073709551616 ∧ CollE w 22 1 l (mixL X k).length ((mixL X k).map (Value.int .u64)) wr)
  case atStart => exact ⟨0, Nat.zero_le _, rfl, rfl, rfl, hX1.1, hX1.2, CollE.start _ _ _⟩
  case round =>
    obtain ⟨k, hk, rfl, rfl, rfl, hm0, hm1, co⟩ := hrel
    rw [mixL_len] at co
    by_cases hlt : k < M
    · obtain ⟨Y, hY⟩ : ∃ Y, Y = mixAt X k := ⟨_, rfl⟩
      rw [← hY] at hm0 hm1 ⊢
      have hkN : (k : Int) < N := by omega
      have HY := Lib.hid hY
      clear hY hX1
      have hsl1 : Sl (wr.alloc (.cells #[Value.int .u64 (mixF Y)] 22)) (some ⟨wr.heap.size, 0, none⟩) [Value.int .u64 (mixF Y)] := Sl.ofRow (Row.allocNew wr [Value.int .u64 (mixF Y)] 22)
      have own1 := (co.quiet (Fr.alloc Nothing wr (.cells #[Value.int .u64 (mixF Y)] 22))).own
      go_wp2_with (at_builtin; go_must (refine wpList_append_fp rfl (.tmp 25) (.tmp 27) 28 rfl 22 i0 (.int .u64 0) 1 8 Try.underlying28 Hi.out Hz0.out Hz1.out Hz2.out rfl (by decide) _ _ _ rfl own1 _ 1 1 [Value.int .u64 (mixF Y)] rfl rfl (by simp) hsl1 (by simp [Value.oneCell']) (by unfold maxLen; omega) (by omega) ?_))
      intro v7 w7 o7 f7 n7 s7 _
      have co7 := co.more (Fr.alloc Nothing wr (.cells #[Value.int .u64 (mixF Y)] 22)) o7 f7 n7
      clear co own1 hsl1 o7 f7 n7 s7
      go_wp2_with (fail)
      go_roundg (M - (k + 1))
      case measure => omega
      case rel =>
        have e1 : mixAt X (k + 1) = mixF Y := by rw [mixAt_succ, HY.out]
        have h1 := mixF_range Y
        refine ⟨k + 1, by omega, rfl, by go_num, by rw [e1]; rfl, by rw [e1]; exact h1.1, by rw [e1]; exact h1.2, ?_⟩
        rw [mixL_len, mixL_snoc, List.map_append, e1]
        exact co7
    · obtain rfl : k = M := by omega
      have hkN : ¬ ((k : Int) < N) := by omega
      clear hM
      go_wp2_with (fail)
      go_ret
      exact ToldN.of (by rw [mixL_len]; exact co)
set_option maxRecDepth 100000 in
set_option maxHeartbeats 4000000 in
theorem ref_mix (x n : Int) (hx : 0 ≤ x) (hx1 : x < 18446744073709551616) (w : World) :
    Calls Try.prog 19 #[.int .u64 x, .int .i64 n] w (ToldN (mixL (max x 1) (min n 1000).toNat) w) := by
  obtain ⟨i0, hi, hz0, hz1, hz2⟩ := info_parts Try.infoU
  have Hz2 := Lib.hid hz2
  have Hz1 := Lib.hid hz1
  have Hz0 := Lib.hid hz0
  have Hi := Lib.hid hi
  obtain ⟨M, hM⟩ : ∃ M : Nat, M = (min n 1000).toNat := ⟨_, rfl⟩
  obtain ⟨X, hX⟩ : ∃ X : Int, X = max x 1 := ⟨_, rfl⟩
  rw [← hM, ← hX]
  have hX1 : 0 ≤ X ∧ X < 18446744073709551616 := by omega
  have hX2 : x = 0 → X = 1 := by omega
  have hX3 : x ≠ 0 → X = x := by omega
  have HM := Lib.hid hM
  have hM1 : M ≤ 1000 := by omega
  clear hi hz0 hz1 hz2 hM hX
  go_enter Try.func19, Try.ntmps19
  have hc : (x = 0 ∧ X = 1) ∨ (x ≠ 0 ∧ X = x) := by omega
  rcases hc with ⟨h0, hXv⟩ | ⟨h0, hXv⟩
  · subst h0
    have HXv := Lib.hid hXv
    clear hX2 hX3 hx hx1 hXv
    go_wp2_with (fail)
    go_loopg [5, 6, 7] M (fun g x l i wr => ∃ k : Nat, k ≤ M ∧ g = M - k ∧ i = .int .i64 k ∧ x = .int .u64 (mixAt X k) ∧ 0 ≤ mixAt X k ∧ mixAt X k < 18446744073709551616 ∧ CollE w 22 1 l (mixL X k).length ((mixL X k).map (Value.int .u64)) wr)
    case atStart => exact ⟨0, Nat.zero_le _, rfl, rfl, by rw [show mixAt X 0 = X from rfl, HXv.out], hX1.1, hX1.2, CollE.start _ _ _⟩
    case round =>
      obtain ⟨k, hk, rfl, rfl, rfl, hm0, hm1, co⟩ := hrel
      rw [mixL_len] at co
      by_cases hlt : k < M
      · obtain ⟨Y, hY⟩ : ∃ Y, Y = mixAt X k := ⟨_, rfl⟩
        rw [← hY] at hm0 hm1 ⊢
        have hkN : (k : Int) < n := by have := HM.out; omega
        have hk1 : (k : Int) < 1000 := by omega
        have HY := Lib.hid hY
        clear hY hX1
        have hsl1 : Sl (wr.alloc (.cells #[Value.int .u64 (mixF Y)] 22)) (some ⟨wr.heap.size, 0, none⟩) [Value.int .u64 (mixF Y)] := Sl.ofRow (Row.allocNew wr [Value.int .u64 (mixF Y)] 22)
        have own1 := (co.quiet (Fr.alloc Nothing wr (.cells #[Value.int .u64 (mixF Y)] 22))).own
        go_wp2_with (at_builtin; go_must (refine wpList_append_fp rfl (.tmp 32) (.tmp 34) 28 rfl 22 i0 (.int .u64 0) 1 8 Try.underlying28 Hi.out Hz0.out Hz1.out Hz2.out rfl (by decide) _ _ _ rfl own1 _ 1 1 [Value.int .u64 (mixF Y)] rfl rfl (by simp) hsl1 (by simp [Value.oneCell']) (by unfold maxLen; omega) (by omega) ?_))
        intro v7 w7 o7 f7 n7 s7 _
        have co7 := co.more (Fr.alloc Nothing wr (.cells #[Value.int .u64 (mixF Y)] 22)) o7 f7 n7
        clear co own1 hsl1 o7 f7 n7 s7
        go_wp2_with (fail)
        go_roundg (M - (k + 1))
        case measure => omega
        case rel =>
          have e1 : mixAt X (k + 1) = mixF Y := by rw [mixAt_succ, HY.out]
          have h1 := mixF_range Y
          refine ⟨k + 1, by omega, rfl, by go_num, by rw [e1]; rfl, by rw [e1]; exact h1.1, by rw [e1]; exact h1.2, ?_⟩
          rw [mixL_len, mixL_snoc, List.map_append, e1]
          exact co7
      · obtain rfl : k = M := by omega
        by_cases hkN : (k : Int) < n
        · have hk1 : ¬ ((k : Int) < 1000) := by have := HM.out; omega
          go_wp2_with (fail)
          go_ret
          exact ToldN.of (by rw [mixL_len]; exact co)
        · go_wp2_with (fail)
          go_ret
          exact ToldN.of (by rw [mixL_len]; exact co)
  · have h1 : (x == 0) = false := by simp [h0]
    have HXv := Lib.hid hXv
    clear hX2 hX3 hx hx1 hXv h0
    go_wp2_with (fail)
    go_loopg [5, 6, 7] M (fun g x l i wr => ∃ k : Nat, k ≤ M ∧ g = M - k ∧ i = .int .i64 k ∧ x = .int .u64 (mixAt X k) ∧ 0 ≤ mixAt X k ∧ mixAt X k < 18446744073709551616 ∧ CollE w 22 1 l (mixL X k).length ((mixL X k).map (Value.int .u64)) wr)
    case atStart => exact ⟨0, Nat.zero_le _, rfl, rfl, by rw [show mixAt X 0 = X from rfl, HXv.out], hX1.1, hX1.2, CollE.start _ _ _⟩
    case round =>
      obtain ⟨k, hk, rfl, rfl, rfl, hm0, hm1, co⟩ := hrel
      rw [mixL_len] at co
      by_cases hlt : k < M
      · obtain ⟨Y, hY⟩ : ∃ Y, Y = mixAt X k := ⟨_, rfl⟩
        rw [← hY] at hm0 hm1 ⊢
        have hkN : (k : Int) < n := by have := HM.out; omega
        have hk1 : (k : Int) < 1000 := by omega
        have HY := Lib.hid hY
        clear hY hX1
        have hsl1 : Sl (wr.alloc (.cells #[Value.int .u64 (mixF Y)] 22)) (some ⟨wr.heap.size, 0, none⟩) [Value.int .u64 (mixF Y)] := Sl.ofRow (Row.allocNew wr [Value.int .u64 (mixF Y)] 22)
        have own1 := (co.quiet (Fr.alloc Nothing wr (.cells #[Value.int .u64 (mixF Y)] 22))).own
        go_wp2_with (at_builtin; go_must (refine wpList_append_fp rfl (.tmp 32) (.tmp 34) 28 rfl 22 i0 (.int .u64 0) 1 8 Try.underlying28 Hi.out Hz0.out Hz1.out Hz2.out rfl (by decide) _ _ _ rfl own1 _ 1 1 [Value.int .u64 (mixF Y)] rfl rfl (by simp) hsl1 (by simp [Value.oneCell']) (by unfold maxLen; omega) (by omega) ?_))
        intro v7 w7 o7 f7 n7 s7 _
        have co7 := co.more (Fr.alloc Nothing wr (.cells #[Value.int .u64 (mixF Y)] 22)) o7 f7 n7
        clear co own1 hsl1 o7 f7 n7 s7
        go_wp2_with (fail)
        go_roundg (M - (k + 1))
        case measure => omega
        case rel =>
          have e1 : mixAt X (k + 1) = mixF Y := by rw [mixAt_succ, HY.out]
          have h1 := mixF_range Y
          refine ⟨k + 1, by omega, rfl, by go_num, by rw [e1]; rfl, by rw [e1]; exact h1.1, by rw [e1]; exact h1.2, ?_⟩
          rw [mixL_len, mixL_snoc, List.map_append, e1]
          exact co7
      · obtain rfl : k = M := by omega
        by_cases hkN : (k : Int) < n
        · have hk1 : ¬ ((k : Int) < 1000) := by have := HM.out; omega
          go_wp2_with (fail)
          go_ret
          exact ToldN.of (by rw [mixL_len]; exact co)
        · go_wp2_with (fail)
          go_ret
          exact ToldN.of (by rw [mixL_len]; exact co)
end Go.Proofs.Ytajpicbaoicpfaa
