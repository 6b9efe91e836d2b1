import Derived.Test.YtgfphbehecpgpaaWheelB
namespace Go.Proofs.Ytgfphbehecpgpaa
open Go.RowKit
def upd (f : Int → Option Int) (k v : Int) : Int → Option Int := fun j => if j = k then some v else f j
theorem WheelAt.stored {w w' : World} {p mb n n' : Nat} {v : Value} {now : Int} {H : List Due} {f f' : Int → Option Int} (h : WheelAt w p v mb now H f n) (m : IsMapI w' mb f' n') (F : Fr (fun x => x = mb) w w') : WheelAt w' p v mb now H f' n' :=
  ⟨h.wha.fr F (fun e => h.nemp e.symm) (fun k hk e => h.nemv k hk e), m, h.nemp, h.nemv⟩
/-- What Set leaves. -/
structure SetAt (w : World) (p mb n : Nat) (v : Value) (now : Int) (H1 : List Due) (f : Int → Option Int) (w' : World) (H' : List Due) (v' : Value) : Prop where
  wheel : WheelAt w' p v' mb now H' f n
  heap : HeapTo H' H'.length
  sub : ∀ d ∈ H', d ∈ H1
  kept : ∀ d ∈ H1, live f d → d ∈ H'
  le : H'.length ≤ H1.length
  root : H' = [] ∨ live f (gd H' 0)
  new : NewOr w v v'
  fr : Fr (fun k => k = p ∨ k = mb ∨ InBlock v k) w w'

theorem set_fr {w w1 w2 w3 : World} {p mb : Nat} {v v1 : Value} (n1 : NewOr w v v1) (f1 : Fr (WS p v) w w1) (f2 : Fr (fun x => x = mb) w1 w2) (f3 : Fr (WS p v1) w2 w3) : Fr (fun k => k = p ∨ k = mb ∨ InBlock v k) w w3 := by
  have g1 : Fr (fun k => k = p ∨ k = mb ∨ InBlock v k) w w1 := f1.mono (fun k _ h => h.elim .inl (fun h => .inr (.inr h)))
  have g2 : Fr (fun k => k = p ∨ k = mb ∨ InBlock v1 k) w1 w2 := f2.mono (fun k _ h => .inr (.inl h))
  have g3 : Fr (fun k => k = p ∨ k = mb ∨ InBlock v1 k) w2 w3 := f3.mono (fun k _ h => h.elim .inl (fun h => .inr (.inr h)))
  refine g1.trans (g2.trans' g3) (fun k hk h => ?_)
  rcases h with h | h | h
  · exact .inl h
  · exact .inr (.inl h)
  · rcases n1 k h with h | h
    · exact .inr (.inr h)
    · omega

set_option maxHeartbeats 2000000 in
set_option maxRecDepth 100000 in
theorem wheel_set {w : World} {p mb n : Nat} {v : Value} {now : Int} {H : List Due} {f : Int → Option Int} (h : WheelAt w p v mb now H f n) (hh : HeapTo H H.length) (hl : H.length < 5000) (hw : ∀ d ∈ H, W64 d.1)
    (id t : Int) (hid : W64 id) (h1 : now < t) (h2 : t ≤ 1099511627776) (hn : n ≤ 256) (h3 : f id = none → n < 256) :
    Calls Try.prog 12 #[.pointer (some ⟨p, 0, none⟩), .int .i64 id, .int .i64 t] w fun e w' => e = .returned (.int .i64 0) ∧
      ∃ H' v', SetAt w p mb (if (f id).isSome then n else n + 1) v now (if f id = some t then H else H ++ [(id, t)]) (upd f id t) w' H' v' := by
  have g1 : decide (t ≤ now) = false := by rw [decide_eq_false_iff_not]; omega
  have g2 : decide (1099511627776 < t) = false := by rw [decide_eq_false_iff_not]; omega
  have c1 := h.wha.head.cell 1 rfl
  have c2 := h.wha.head.cell 2 rfl
  have m1 := h.map.look Try.underlying52 hid
  have m2 := h.map.len Try.underlying52 3
  have HH := Lib.hid h
  have HP := Lib.hid hh
  have HW := Lib.hid hw
  have H3 := Lib.hid h3
  clear h hh hw h3
  cases hf : f id with
  | none =>
    rw [hf] at m1
    have hn3 := H3.out hf
    have g3 : decide ((n : Int) = 256) = false := by rw [decide_eq_false_iff_not]; omega
    have g4 : ((n : Int) == 256) = false := by rw [beq_eq_false_iff_ne]; omega
    simp only [Option.getD_none, Option.isSome_none] at m1
    simp only [Option.isSome_none, Bool.false_eq_true, if_false, reduceCtorEq]
    go_enter Try.func12, Try.ntmps12
    have hpu := heap_push HH.out.wha HP.out (id, t) (by omega)
    go_wp2_with (first
      | (go_at_call 24; refine hpu.mono ?_; rintro e w1 ⟨rfl, v1, H1, A1, p1, h1', n1, f1⟩; have W1 := HH.out.turned A1 f1 n1; have c1' := W1.wha.head.cell 1 rfl)
      | (at_mapUpdate; refine wpList_mapI_store rfl _ _ _ rfl Try.underlying52 W1.map (by unfold maxLen; omega) rfl rfl rfl hid ?_; intro w2 M2 F2; have W2 := W1.stored M2 F2)
      | (go_at_call 25; refine (wheel_tidy W2 h1' (by rw [p1.length_eq]; simp; omega) (fun d hd => by rcases List.mem_append.1 (p1.mem_iff.1 hd) with h | h; exact HW.out d h; simp at h; rw [h]; exact hid)).mono ?_; rintro e w3 ⟨rfl, H3', v3, T3, r3⟩))
    rw [hf] at T3
    go_ret
    refine ⟨rfl, _, _, ⟨T3.wheel, T3.heap, fun d hd => p1.mem_iff.1 (T3.sub d hd), fun d hd hl => T3.kept d (p1.mem_iff.2 hd) hl, by rw [← p1.length_eq]; exact T3.le, r3, fun k hk => n1 k (T3.old k hk), ?_⟩⟩
    exact set_fr n1 f1 F2 T3.fr
  | some a =>
    rw [hf] at m1
    simp only [Option.getD_some, Option.isSome_some] at m1
    simp only [Option.isSome_some, if_true, Option.some.injEq]
    by_cases hat : a = t
    · subst hat
      simp only [if_true]
      have g5 : (a != a) = false := by simp
      go_enter Try.func12, Try.ntmps12
      go_wp2_with (first
        | (at_mapUpdate; refine wpList_mapI_store rfl _ _ _ rfl Try.underlying52 HH.out.map (by unfold maxLen; omega) rfl rfl rfl hid ?_; intro w2 M2 F2; have W2 := HH.out.stored M2 F2)
        | (go_at_call 25; refine (wheel_tidy W2 HP.out (by omega) HW.out).mono ?_; rintro e w3 ⟨rfl, H3', v3, T3, r3⟩))
      rw [hf] at T3
      go_ret
      refine ⟨rfl, _, _, ⟨T3.wheel, T3.heap, T3.sub, T3.kept, T3.le, r3, fun k hk => .inl (T3.old k hk), ?_⟩⟩
      exact set_fr (NewOr.refl _ _) (Fr.refl _ _) F2 T3.fr
    · rw [if_neg hat]
      have g5 : (a != t) = true := by simpa using hat
      go_enter Try.func12, Try.ntmps12
      have hpu := heap_push HH.out.wha HP.out (id, t) (by omega)
      go_wp2_with (first
        | (go_at_call 24; refine hpu.mono ?_; rintro e w1 ⟨rfl, v1, H1, A1, p1, h1', n1, f1⟩; have W1 := HH.out.turned A1 f1 n1; have c1' := W1.wha.head.cell 1 rfl)
        | (at_mapUpdate; refine wpList_mapI_store rfl _ _ _ rfl Try.underlying52 W1.map (by unfold maxLen; omega) rfl rfl rfl hid ?_; intro w2 M2 F2; have W2 := W1.stored M2 F2)
        | (go_at_call 25; refine (wheel_tidy W2 h1' (by rw [p1.length_eq]; simp; omega) (fun d hd => by rcases List.mem_append.1 (p1.mem_iff.1 hd) with h | h; exact HW.out d h; simp at h; rw [h]; exact hid)).mono ?_; rintro e w3 ⟨rfl, H3', v3, T3, r3⟩))
      rw [hf] at T3
      go_ret
      refine ⟨rfl, _, _, ⟨T3.wheel, T3.heap, fun d hd => p1.mem_iff.1 (T3.sub d hd), fun d hd hl => T3.kept d (p1.mem_iff.2 hd) hl, by rw [← p1.length_eq]; exact T3.le, r3, fun k hk => n1 k (T3.old k hk), ?_⟩⟩
      exact set_fr n1 f1 F2 T3.fr

set_option maxHeartbeats 1000000 in
theorem wheel_set_range {w : World} {p mb n : Nat} {v : Value} {now : Int} {H : List Due} {f : Int → Option Int} (h : WheelAt w p v mb now H f n) (id t : Int) (hr : t ≤ now ∨ 1099511627776 < t) :
    Calls Try.prog 12 #[.pointer (some ⟨p, 0, none⟩), .int .i64 id, .int .i64 t] w fun e w' => e = .returned (.int .i64 10) ∧ w = w' := by
  have c2 := h.wha.head.cell 2 rfl
  clear h
  by_cases h1 : t ≤ now
  · have g1 : decide (t ≤ now) = true := by rw [decide_eq_true_iff]; omega
    clear hr
    go_enter Try.func12, Try.ntmps12
    go_wp2_with (fail)
    go_ret
    exact ⟨rfl, rfl⟩
  · have g1 : decide (t ≤ now) = false := by rw [decide_eq_false_iff_not]; omega
    have g2 : decide (1099511627776 < t) = true := by rw [decide_eq_true_iff]; omega
    clear hr h1
    go_enter Try.func12, Try.ntmps12
    go_wp2_with (fail)
    go_ret
    exact ⟨rfl, rfl⟩
set_option maxHeartbeats 1000000 in
theorem wheel_set_full {w : World} {p mb : Nat} {v : Value} {now : Int} {H : List Due} {f : Int → Option Int} (h : WheelAt w p v mb now H f 256) (id t : Int) (hid : W64 id) (h1 : now < t) (h2 : t ≤ 1099511627776) (hf : f id = none) :
    Calls Try.prog 12 #[.pointer (some ⟨p, 0, none⟩), .int .i64 id, .int .i64 t] w fun e w' => e = .returned (.int .i64 9) ∧ w = w' := by
  have g1 : decide (t ≤ now) = false := by rw [decide_eq_false_iff_not]; omega
  have g2 : decide (1099511627776 < t) = false := by rw [decide_eq_false_iff_not]; omega
  have c1 := h.wha.head.cell 1 rfl
  have c2 := h.wha.head.cell 2 rfl
  have m1 := h.map.look Try.underlying52 hid
  have m2 := h.map.len Try.underlying52 3
  rw [hf] at m1
  simp only [Option.getD_none, Option.isSome_none] at m1
  clear h
  go_enter Try.func12, Try.ntmps12
  go_wp2_with (fail)
  go_ret
  exact ⟨rfl, rfl⟩
def strike (f : Int → Option Int) (k : Int) : Int → Option Int := fun j => if j = k then none else f j
set_option maxHeartbeats 2000000 in
set_option maxRecDepth 100000 in
theorem wheel_drop {w : World} {p mb n : Nat} {v : Value} {now : Int} {H : List Due} {f : Int → Option Int} (h : WheelAt w p v mb now H f n) (hh : HeapTo H H.length) (hl : H.length < 5000) (hw : ∀ d ∈ H, W64 d.1) (id : Int) (hid : W64 id) :
    Calls Try.prog 18 #[.pointer (some ⟨p, 0, none⟩), .int .i64 id] w fun e w' => e = .returned (.bool (f id).isSome) ∧
      ∃ H' v', SetAt w p mb (if (f id).isSome then n - 1 else n) v now H (strike f id) w' H' v' := by
  have c1 := h.wha.head.cell 1 rfl
  have m1 := h.map.look Try.underlying52 hid
  have HH := Lib.hid h
  have HP := Lib.hid hh
  have HW := Lib.hid hw
  clear h hh hw
  obtain ⟨q, hq⟩ : ∃ q, q = f id := ⟨_, rfl⟩
  obtain ⟨b, hb⟩ : ∃ b, b = (f id).isSome := ⟨_, rfl⟩
  obtain ⟨z, hz⟩ : ∃ z, z = (f id).getD 0 := ⟨_, rfl⟩
  obtain ⟨n', hn'⟩ : ∃ n', n' = (if (f id).isSome then n - 1 else n) := ⟨_, rfl⟩
  rw [← hn', ← hb]
  rw [← hb, ← hz] at m1
  have HM : ∀ w2, IsMapI w2 mb (fun j => if j = id then none else f j) (if (f id).isSome then n - 1 else n) → IsMapI w2 mb (strike f id) n' := fun w2 h => by rw [hn']; exact h
  obtain ⟨w2, hr, M2, F2⟩ := HH.out.map.drop Try.underlying52 hid 0
  have W2 := HH.out.stored (HM _ M2) F2
  clear hq hb hz hn' M2 HM
  go_enter Try.func18, Try.ntmps18
  go_wp2_with (go_at_call 25; refine (wheel_tidy W2 HP.out (by omega) HW.out).mono ?_; rintro e w3 ⟨rfl, H3', v3, T3, r3⟩)
  go_ret
  refine ⟨rfl, _, _, ⟨T3.wheel, T3.heap, T3.sub, T3.kept, T3.le, r3, fun k hk => .inl (T3.old k hk), ?_⟩⟩
  exact set_fr (NewOr.refl _ _) (Fr.refl _ _) F2 T3.fr
end Go.Proofs.Ytgfphbehecpgpaa
