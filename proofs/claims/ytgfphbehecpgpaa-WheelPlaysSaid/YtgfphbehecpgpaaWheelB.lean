import Derived.Test.YtgfphbehecpgpaaWheel
namespace Go.Proofs.Ytgfphbehecpgpaa
open Go.RowKit
/-- Which dues are live. -/
abbrev live (f : Int → Option Int) (d : Due) : Prop := f d.1 = some d.2
/-- On the way of tidy. -/
structure TidyAt (w : World) (p : Nat) (v : Value) (mb : Nat) (now : Int) (H : List Due) (f : Int → Option Int) (n : Nat) (H' : List Due) (v' : Value) (wr : World) : Prop where
  wheel : WheelAt wr p v' mb now H' f n
  heap : HeapTo H' H'.length
  sub : ∀ d ∈ H', d ∈ H
  kept : ∀ d ∈ H, live f d → d ∈ H'
  old : ∀ k, InBlock v' k → InBlock v k
  le : H'.length ≤ H.length
  fr : Fr (WS p v) w wr

theorem gd_cons (d : Due) (R : List Due) : gd (d :: R) 0 = d := rfl
set_option maxHeartbeats 2000000 in
set_option maxRecDepth 100000 in
theorem wheel_tidy {w : World} {p mb n : Nat} {v : Value} {now : Int} {H : List Due} {f : Int → Option Int} (h : WheelAt w p v mb now H f n) (hh : HeapTo H H.length) (hl : H.length < 10000) (hw : ∀ d ∈ H, W64 d.1) :
    Calls Try.prog 25 #[.pointer (some ⟨p, 0, none⟩)] w fun e w' => e = .returned (.tuple #[]) ∧ ∃ H' v', TidyAt w p v mb now H f n H' v' w' ∧ (H' = [] ∨ live f (gd H' 0)) := by
  have HH := Lib.hid h
  have HP := Lib.hid hh
  have HW := Lib.hid hw
  clear h hh hw
  go_enter Try.func25, Try.ntmps25
  go_wp2_with (fail)
  go_loopg [] H.length (fun g wr => ∃ (H' : List Due) (v' : Value), g = H'.length ∧ Hid (TidyAt w p v mb now H f n H' v' wr))
  case atStart => exact ⟨H, v, rfl, ⟨HH.out, HP.out, fun _ h => h, fun _ h _ => h, fun _ h => h, Nat.le_refl _, Fr.refl _ _⟩⟩
  case round =>
    obtain ⟨H', v', rfl, HX⟩ := hrel
    obtain ⟨a, c, rfl⟩ := HX.out.wheel.wha.slice
    have h0 := HX.out.wheel.wha.head.cell 0 rfl
    have hle := HX.out.le
    cases H' with
    | nil =>
      go_wp2_with (fail)
      refine bodyPost_end (results_none rfl _ _ _) rfl ⟨rfl, [], _, HX.out, .inl rfl⟩
    | cons d R =>
      obtain ⟨b, o, rfl, hc⟩ := HX.out.wheel.wha.hp.dues.2.at_ (i := 0) (by simp)
      have c0 : wr.cell? ⟨b, o, none⟩ = some (.int .i64 d.1) := by have := hc 0 _ rfl; simpa using this
      have c1 : wr.cell? ⟨b, o + 1, none⟩ = some (.int .i64 d.2) := by have := hc 1 _ rfl; simpa using this
      have e1 : (d :: R).length = R.length + 1 := rfl
      rw [e1] at h0 hle
      have e2 : decide (0 < (R.length : Int) + 1) = true := by rw [decide_eq_true_iff]; omega
      have hd : W64 d.1 := HW.out d (HX.out.sub d List.mem_cons_self)
      clear hc
      have OLD := wheel_old HX.out.wheel d hd
      cases hf : decide (f d.1 ≠ some d.2) with
      | true =>
        rw [hf] at OLD
        go_wp2_with (first
          | (go_at_call 27; refine OLD.mono ?_; rintro e w1 ⟨rfl, f1⟩)
          | (go_at_call 26; refine (heap_pop (HX.out.wheel.quiet f1).wha HX.out.heap (by simp) (by have := HX.out.le; omega)).mono ?_; rintro e w2 ⟨rfl, v2, H2, A2, p2, h2, i2, f2⟩))
        rw [gd_cons] at p2
        have lp := p2.length_eq
        simp only [List.length_cons] at lp
        have nl : ¬ live f d := of_decide_eq_true hf
        go_roundg H2.length
        case measure => simp only [List.length_cons]; omega
        case rel =>
          have W1 := HX.out.wheel.quiet f1
          refine ⟨H2, v2, rfl, Lib.hid ⟨W1.turned A2 f2 (fun k hk => .inl (i2 k hk)), h2, fun x hx => HX.out.sub x (p2.mem_iff.1 (List.mem_cons_of_mem _ hx)), fun x hx hlx => ?_, fun k hk => HX.out.old k (i2 k hk), by omega, ?_⟩⟩
          · rcases List.mem_cons.1 (p2.mem_iff.2 (HX.out.kept x hx hlx)) with rfl | h
            · exact (nl hlx).elim
            · exact h
          · exact HX.out.fr.trans' ((f1.mono (fun _ _ h => h.elim)).trans' (f2.mono (fun k _ h => h.imp id (HX.out.old k))))
      | false =>
        rw [hf] at OLD
        go_wp2_with (go_at_call 27; refine OLD.mono ?_; rintro e w1 ⟨rfl, f1⟩)
        have W1 := HX.out.wheel.quiet f1
        refine bodyPost_end (results_none rfl _ _ _) rfl ⟨rfl, d :: R, _, ⟨W1, HX.out.heap, HX.out.sub, HX.out.kept, HX.out.old, HX.out.le, HX.out.fr.trans' (f1.mono (fun _ _ h => h.elim))⟩, .inr ?_⟩
        exact Decidable.not_not.1 (of_decide_eq_false hf)
end Go.Proofs.Ytgfphbehecpgpaa
