import Derived.Test.YtgfphbehecpgpaaWheelE
import Derived.Test.YtgfphbehecpgpaaOpen
namespace Go.Proofs.Ytgfphbehecpgpaa
open Go.RowKit
abbrev nums (X : List Int) : List Value := X.map (.int .i64)
set_option maxHeartbeats 1000000 in
theorem same_ints (a b : Option Addr) (X : List Int) (ca cb : Nat) (w : World) (ha : Sl w a (nums X)) (hb : Sl w b (nums X)) (hl : X.length ≤ maxLen) :
    Calls Try.prog 14 #[.slice a X.length ca, .slice b X.length cb] w fun e w' => e = .returned (.bool true) ∧ ∃ m, w' = w.drewN m := by
  unfold maxLen at hl
  have Ha := Lib.hid ha
  have Hb := Lib.hid hb
  clear ha hb
  go_enter Try.func14, Try.ntmps14
  go_wp2_with (fail)
  go_loopw [5] (fun i wr => ∃ k : Nat, k ≤ X.length ∧ i = .int .i64 k ∧ ∃ m, wr = w.drewN m) (fun i _ => X.length - (intOf i).toNat)
  case atStart => exact ⟨0, Nat.zero_le _, rfl, 0, rfl⟩
  case round =>
    obtain ⟨k, hk, rfl, m, rfl⟩ := hrel
    by_cases hlt : k < X.length
    · obtain ⟨b1, o1, rfl, h1⟩ := Ha.out.at_ (i := k) (by simpa using hlt)
      obtain ⟨b2, o2, rfl, h2⟩ := Hb.out.at_ (i := k) (by simpa using hlt)
      have h1' : w.cell? ⟨b1, o1 + k, none⟩ = some (.int .i64 X[k]) := by have := h1 k (by simpa using hlt); simpa [hlt] using this
      have h2' : w.cell? ⟨b2, o2 + k, none⟩ = some (.int .i64 X[k]) := by have := h2 k (by simpa using hlt); simpa [hlt] using this
      have hne : (X[k] != X[k]) = false := by simp
      clear h1 h2
      go_wp2_with (fail)
      go_quiet (fail)
      go_wp2_with (fail)
      go_roundw
      case rel => exact ⟨k + 1, by omega, by go_num, m + nq, by simp⟩
      case measure => simp [intOf]; omega
    · go_wp2_with (fail)
      go_ret
      exact ⟨rfl, m, rfl⟩
theorem wheel_go_range {w : World} {p mb n : Nat} {v : Value} {now : Int} {H : List Due} {f : Int → Option Int} (h : WheelAt w p v mb now H f n) (t : Int) (hr : t < now ∨ 1099511627776 < t) :
    Calls Try.prog 13 #[.pointer (some ⟨p, 0, none⟩), .int .i64 t] w fun e w' => e = .returned (.tuple #[.slice none 0 0, .int .i64 10]) ∧ w = w' := by
  have c2 := h.wha.head.cell 2 rfl
  clear h
  by_cases h1 : t < now
  · have g1 : decide (t < now) = true := by rw [decide_eq_true_iff]; omega
    clear hr
    go_enter Try.func13, Try.ntmps13
    go_wp2_with (fail)
    go_ret2
    exact ⟨rfl, rfl⟩
  · have g1 : decide (t < now) = false := by rw [decide_eq_false_iff_not]; omega
    have g2 : decide (1099511627776 < t) = true := by rw [decide_eq_true_iff]; omega
    clear hr h1
    go_enter Try.func13, Try.ntmps13
    go_wp2_with (fail)
    go_ret2
    exact ⟨rfl, rfl⟩
theorem go_nil (t : Int) (w : World) : Calls Try.prog 13 #[.pointer none, .int .i64 t] w fun e w' => e = .returned (.tuple #[.slice none 0 0, .int .i64 1]) ∧ w = w' := by
  go_enter Try.func13, Try.ntmps13
  go_wp2_with (fail)
  go_ret2
  exact ⟨rfl, rfl⟩
theorem set_nil (k t : Int) (w : World) : Calls Try.prog 12 #[.pointer none, .int .i64 k, .int .i64 t] w fun e w' => e = .returned (.int .i64 1) ∧ w = w' := by
  go_enter Try.func12, Try.ntmps12
  go_wp2_with (fail)
  go_ret
  exact ⟨rfl, rfl⟩
theorem drop_nil (k : Int) (w : World) : Calls Try.prog 18 #[.pointer none, .int .i64 k] w fun e w' => e = .returned (.bool false) ∧ w = w' := by
  go_enter Try.func18, Try.ntmps18
  go_wp2_with (fail)
  go_ret
  exact ⟨rfl, rfl⟩
theorem at_nil (k : Int) (w : World) : Calls Try.prog 23 #[.pointer none, .int .i64 k] w fun e w' => e = .returned (.tuple #[.int .i64 0, .bool false]) ∧ w = w' := by
  go_enter Try.func23, Try.ntmps23
  go_wp2_with (fail)
  go_ret2
  exact ⟨rfl, rfl⟩
theorem next_nil (w : World) : Calls Try.prog 21 #[.pointer none] w fun e w' => e = .returned (.tuple #[.int .i64 0, .bool false]) ∧ w = w' := by
  go_enter Try.func21, Try.ntmps21
  go_wp2_with (fail)
  go_ret2
  exact ⟨rfl, rfl⟩
theorem now_nil (w : World) : Calls Try.prog 22 #[.pointer none] w fun e w' => e = .returned (.int .i64 0) ∧ w = w' := by
  go_enter Try.func22, Try.ntmps22
  go_wp2_with (fail)
  go_ret
  exact ⟨rfl, rfl⟩
theorem len_nil (w : World) : Calls Try.prog 15 #[.pointer none] w fun e w' => e = .returned (.int .i64 0) ∧ w = w' := by
  go_enter Try.func15, Try.ntmps15
  go_wp2_with (fail)
  go_ret
  exact ⟨rfl, rfl⟩
theorem isw_go_range {S : Nat → Prop} {w : World} {p m : Nat} {now t : Int} {L : List Due} (h : IsWheel S w p now L m) (hr : t < now ∨ 1099511627776 < t) :
    Calls Try.prog 13 #[.pointer (some ⟨p, 0, none⟩), .int .i64 t] w fun e w' => e = .returned (.tuple #[.slice none 0 0, .int .i64 10]) ∧ w = w' := by
  obtain ⟨v, mb, H, f, g, g2, g3⟩ := h
  exact wheel_go_range g.wheel t hr

theorem lives_go {S : Nat → Prop} {w : World} {p m : Nat} (h : IsWheel S w p 0 (setL (setL [] 1 5) 2 3) m) (hm : m < 4000) :
    Calls Try.prog 13 #[.pointer (some ⟨p, 0, none⟩), .int .i64 5] w fun e w' => ∃ a c S', e = .returned (.tuple #[.slice a 2 c, .int .i64 0]) ∧ Sl w' a (nums [2, 1]) ∧ IsWheel S' w' p 5 [] m ∧ Grown w S S' ∧ Fr S w w' := by
  have e0 : setL (setL [] 1 5) 2 3 = [(2, 3), (1, 5)] := by decide
  rw [e0] at h
  refine (isw_go (t := 5) h (by omega) (by omega) hm).mono ?_
  rintro e w' ⟨lv, S', rfl, K, g, o, ap, f⟩
  obtain ⟨a, c, rfl, _, _⟩ := o.shape
  exact ⟨a, c, S', rfl, (Owns.sl o).2, K, g, f⟩
set_option maxHeartbeats 2000000 in
theorem wheel_lives (w : World) : Calls Try.prog 8 #[] w fun e w' => e = .returned (.bool true) ∧ Fr Nothing w w' := by
  go_enter Try.func8, Try.ntmps8
  go_wp2_with (first
    | (go_at_call 10; refine (isw_new _).mono ?_; rintro e w1 ⟨p, S, rfl, K1, n1, f1⟩)
    | (with_reducible (go_at_call 12; refine (isw_set (id := 1) (t := 5) K1 (by unfold W64; omega) (by omega) (by omega) (by simp) (.inr (by simp)) (by omega)).mono ?_; rintro e w2 ⟨rfl, S2, K2, n2, f2⟩))
    | (with_reducible (go_at_call 12; refine (isw_set (id := 2) (t := 3) K2 (by unfold W64; omega) (by omega) (by omega) (by decide) (.inr (by decide)) (by omega)).mono ?_; rintro e w3 ⟨rfl, S3, K3, n3, f3⟩))
    | (go_at_call 13; refine (lives_go K3 (by omega)).mono ?_; rintro e w4 ⟨a4, c4, S4, rfl, l4, K4, n4, f4⟩; have K5 := K4.fr (Fr.alloc Nothing w4 (.cells #[.int .i64 2, .int .i64 1] 3)) (fun _ _ h => h); have l5 := l4.fr (Fr.alloc Nothing w4 (.cells #[.int .i64 2, .int .i64 1] 3)) (fun _ _ h => h))
    | (go_at_call 14; refine (same_ints a4 _ [2, 1] _ _ _ l5 (Sl.ofRow (Row.allocNew w4 [.int .i64 2, .int .i64 1] 3)) (by simp [maxLen])).mono ?_; rintro e w5 ⟨rfl, m5, rfl⟩; have K6 := K5.fr (Fr.drewN Nothing _ m5) (fun _ _ h => h))
    | (go_at_call 22; refine (isw_now K6).mono ?_; rintro e w6 ⟨rfl, rfl⟩)
    | (go_at_call 15; refine (isw_len K6).mono ?_; rintro e w6 ⟨rfl, rfl⟩))
  go_ret
  have a1 := f1.size
  have a2 := f2.size
  have q2 : ∀ k, S2 k → w.heap.size ≤ k := fun k h => by
    rcases n2 k h with h | h
    · exact n1 k h
    · omega
  have q3 : ∀ k, S3 k → w.heap.size ≤ k := fun k h => by
    rcases n3 k h with h | h
    · exact q2 k h
    · omega
  exact ⟨rfl, ((((f1.trans f2 (fun k hk h => by have := n1 k h; omega)).trans f3 (fun k hk h => by have := q2 k h; omega)).trans f4 (fun k hk h => by have := q3 k h; omega)).trans' (Fr.alloc _ _ _)).trans' (Fr.drewN _ _ _)⟩
end Go.Proofs.Ytgfphbehecpgpaa
