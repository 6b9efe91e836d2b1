import Derived.Test.YtgfphbehecpgpaaHeapE
import Derived.Test.YtgfphbehecpgpaaMapI
namespace Go.Proofs.Ytgfphbehecpgpaa
open Go.RowKit
/-- The wheel at block p: its heap, its map (what f says, n in all), and its time. -/
structure WheelAt (w : World) (p : Nat) (v : Value) (mb : Nat) (now : Int) (H : List Due) (f : Int → Option Int) (n : Nat) : Prop where
  wha : WhA w p v mb now H
  map : IsMapI w mb f n
  nemp : mb ≠ p
  nemv : ∀ k, InBlock v k → k ≠ mb
section
variable {w w' : World} {p mb n : Nat} {v : Value} {now : Int} {H : List Due} {f : Int → Option Int}
theorem WhA.fr {S : Nat → Prop} (h : WhA w p v mb now H) (F : Fr S w w') (hp : ¬ S p) (hv : ∀ k, InBlock v k → ¬ S k) : WhA w' p v mb now H :=
  ⟨h.head.fr F hp, h.hp.fr F hv, h.ne⟩
theorem WheelAt.fr {S : Nat → Prop} (h : WheelAt w p v mb now H f n) (F : Fr S w w') (hp : ¬ S p) (hm : ¬ S mb) (hv : ∀ k, InBlock v k → ¬ S k) : WheelAt w' p v mb now H f n :=
  ⟨h.wha.fr F hp hv, h.map.fr F hm, h.nemp, h.nemv⟩
theorem WheelAt.quiet (h : WheelAt w p v mb now H f n) (F : Fr Nothing w w') : WheelAt w' p v mb now H f n := h.fr F (fun h => h) (fun h => h) (fun _ _ h => h)
/-- After a turn of the heap. -/
theorem WheelAt.turned {v' : Value} {H' : List Due} (h : WheelAt w p v mb now H f n) (A : WhA w' p v' mb now H') (F : Fr (WS p v) w w') (hN : NewOr w v v') : WheelAt w' p v' mb now H' f n := by
  have hm := h.map.lt
  refine ⟨A, h.map.fr F ?_, h.nemp, fun k hk e => ?_⟩
  · rintro (e | e)
    · exact h.nemp e
    · exact h.nemv _ e rfl
  · rcases hN k hk with h1 | h1
    · exact h.nemv k h1 e
    · omega

set_option maxHeartbeats 400000 in
theorem wheel_new (w : World) : Calls Try.prog 10 #[] w fun e w' => ∃ p mb, e = .returned (.pointer (some ⟨p, 0, none⟩)) ∧ WheelAt w' p (.slice none 0 0) mb 0 [] (fun _ => none) 0 ∧ w.heap.size ≤ p ∧ w.heap.size ≤ mb ∧ Fr Nothing w w' := by
  have hmm := @run_makeMap Try.prog
  go_enter Try.func10, Try.ntmps10
  go_wp2_with (fail)
  go_ret
  have e1 : (w.alloc (.map #[] 0)).heap.size = w.heap.size + 1 := by simp
  have hr := Row.allocNew (w.alloc (.map #[] 0)) [.slice none 0 0, .map (some w.heap.size), .int .i64 0] 56
  rw [e1] at hr
  have no : ∀ k, ¬ InBlock (.slice none 0 0) k := fun k hk => by simp [InBlock, Value.ownBlock] at hk
  exact ⟨w.heap.size + 1, w.heap.size, rfl, ⟨⟨hr, Owns.nil _ _ _, fun k hk => (no k hk).elim⟩, (IsMapI.made w).fr (Fr.alloc Nothing _ _) (fun h => h), by omega, fun k hk => (no k hk).elim⟩, by omega, by omega, (Fr.alloc _ _ _).trans' (Fr.alloc _ _ _)⟩

set_option maxHeartbeats 2000000 in
theorem wheel_old (h : WheelAt w p v mb now H f n) (d : Due) (hd : W64 d.1) :
    Calls Try.prog 27 #[.pointer (some ⟨p, 0, none⟩), dval d] w fun e w' => e = .returned (.bool (decide (f d.1 ≠ some d.2))) ∧ Fr Nothing w w' := by
  have F := Fr.alloc Nothing w (.cells #[.int .i64 d.1, .int .i64 d.2] 60)
  have F2 : Fr Nothing w (w.alloc (.cells #[.int .i64 d.1, .int .i64 d.2] 60)).drew := F.trans' (Fr.drew _ _)
  have h1 := (h.wha.head.fr F (fun h => h)).cell 1 rfl
  have m1 := (h.map.fr F (fun h => h)).look Try.underlying52 hd
  have m2 := (h.map.fr F2 (fun h => h)).look Try.underlying52 hd
  have hn := Row.allocNew w [.int .i64 d.1, .int .i64 d.2] 60
  have hn0 := hn.cell 0 rfl
  have hn1 := hn.cell 1 rfl
  clear hn h F
  cases hf : f d.1 with
  | none =>
    rw [hf] at m1 m2
    have m2' : (Instr.lookup 52 (.map (some mb)) (.int .i64 d.1) true).run Try.prog (w.alloc (.cells #[.int .i64 d.1, .int .i64 d.2] 60)).drew = .ok (.tuple #[.int .i64 0, .bool false]) (w.alloc (.cells #[.int .i64 d.1, .int .i64 d.2] 60)).drew := m2
    clear m1 m2
    go_enter Try.func27, Try.ntmps27
    go_wp2_with (fail)
    go_region
    go_wp2_with (fail)
    go_ret
    exact ⟨by simp, F2⟩
  | some a =>
    rw [hf] at m1 m2
    have m2' : (Instr.lookup 52 (.map (some mb)) (.int .i64 d.1) true).run Try.prog (w.alloc (.cells #[.int .i64 d.1, .int .i64 d.2] 60)).drew = .ok (.tuple #[.int .i64 a, .bool true]) (w.alloc (.cells #[.int .i64 d.1, .int .i64 d.2] 60)).drew := m2
    clear m1 m2
    go_enter Try.func27, Try.ntmps27
    go_wp2_with (fail)
    go_region
    go_wp2_with (fail)
    go_ret
    have e : (a != d.2) = decide (some a ≠ some d.2) := by by_cases e : a = d.2 <;> simp [e]
    rw [← e]
    exact ⟨rfl, F2⟩

set_option maxHeartbeats 400000 in
theorem wheel_len (h : WheelAt w p v mb now H f n) :
    Calls Try.prog 15 #[.pointer (some ⟨p, 0, none⟩)] w fun e w' => e = .returned (.int .i64 n) ∧ w = w' := by
  have h1 := h.wha.head.cell 1 rfl
  have m1 := h.map.len Try.underlying52 3
  go_enter Try.func15, Try.ntmps15
  go_wp2_with (fail)
  go_ret
  exact ⟨rfl, rfl⟩
set_option maxHeartbeats 400000 in
theorem wheel_now (h : WheelAt w p v mb now H f n) :
    Calls Try.prog 22 #[.pointer (some ⟨p, 0, none⟩)] w fun e w' => e = .returned (.int .i64 now) ∧ w = w' := by
  have h1 := h.wha.head.cell 2 rfl
  go_enter Try.func22, Try.ntmps22
  go_wp2_with (fail)
  go_ret
  exact ⟨rfl, rfl⟩
set_option maxHeartbeats 400000 in
theorem wheel_at (h : WheelAt w p v mb now H f n) (k : Int) (hk : W64 k) :
    Calls Try.prog 23 #[.pointer (some ⟨p, 0, none⟩), .int .i64 k] w fun e w' => e = .returned (.tuple #[.int .i64 ((f k).getD 0), .bool (f k).isSome]) ∧ w = w' := by
  have h1 := h.wha.head.cell 1 rfl
  have m1 := h.map.look Try.underlying52 hk
  generalize (f k).getD 0 = a at m1 ⊢
  generalize (f k).isSome = b at m1 ⊢
  go_enter Try.func23, Try.ntmps23
  go_wp2_with (fail)
  refine bodyPost_ret (results_tmp2 rfl _ _ _) rfl ?_
  exact ⟨rfl, rfl⟩
set_option maxHeartbeats 400000 in
theorem wheel_next (h : WheelAt w p v mb now H f n) :
    Calls Try.prog 21 #[.pointer (some ⟨p, 0, none⟩)] w fun e w' => e = .returned (.tuple #[.int .i64 (if H = [] then 0 else (gd H 0).2), .bool (decide (H ≠ []))]) ∧ w = w' := by
  obtain ⟨a, c, rfl⟩ := h.wha.slice
  have h0 := h.wha.head.cell 0 rfl
  cases H with
  | nil =>
    clear h
    go_enter Try.func21, Try.ntmps21
    go_wp2_with (fail)
    refine bodyPost_ret (results_tmp2 rfl _ _ _) rfl ?_
    exact ⟨rfl, rfl⟩
  | cons d R =>
    obtain ⟨b, o, rfl, hc⟩ := h.wha.hp.dues.2.at_ (i := 0) (by simp)
    have hc1 : w.cell? ⟨b, o + 1, none⟩ = some (.int .i64 d.2) := by have := hc 1 _ rfl; simpa using this
    have e1 : (d :: R).length = R.length + 1 := rfl
    rw [e1] at h0
    have e2 : decide ((R.length : Int) + 1 = 0) = false := by rw [decide_eq_false_iff_not]; omega
    have e3 : ((R.length : Int) + 1 == 0) = false := by rw [beq_eq_false_iff_ne]; omega
    clear h hc
    go_enter Try.func21, Try.ntmps21
    go_wp2_with (fail)
    refine bodyPost_ret (results_tmp2 rfl _ _ _) rfl ?_
    exact ⟨rfl, rfl⟩
end
end Go.Proofs.Ytgfphbehecpgpaa
