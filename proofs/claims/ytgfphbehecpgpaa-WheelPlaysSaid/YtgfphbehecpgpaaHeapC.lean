import Derived.Test.YtgfphbehecpgpaaHeapB
namespace Go.Proofs.Ytgfphbehecpgpaa
open Go.RowKit
theorem meth_push (p : Nat) (w : World) : (method 188 58 (.pointer (some ⟨p, 0, none⟩)) "Push").run Try.prog w = .ok (54, .pointer (some ⟨p, 0, none⟩)) w := by kernel_rfl
theorem meth_pop (p : Nat) (w : World) : (method 188 58 (.pointer (some ⟨p, 0, none⟩)) "Pop").run Try.prog w = .ok (53, .pointer (some ⟨p, 0, none⟩)) w := by kernel_rfl
theorem ahead_len (p : Nat) (w : World) : (nilAhead 188 58 (.pointer (some ⟨p, 0, none⟩)) "Len").run Try.prog w = .ok (some false) w := by kernel_rfl
theorem ahead_less (p : Nat) (w : World) : (nilAhead 188 58 (.pointer (some ⟨p, 0, none⟩)) "Less").run Try.prog w = .ok (some false) w := by kernel_rfl
theorem ahead_swap (p : Nat) (w : World) : (nilAhead 188 58 (.pointer (some ⟨p, 0, none⟩)) "Swap").run Try.prog w = .ok (some false) w := by kernel_rfl
theorem ahead_push (p : Nat) (w : World) : (nilAhead 188 58 (.pointer (some ⟨p, 0, none⟩)) "Push").run Try.prog w = .ok (some false) w := by kernel_rfl
theorem ahead_pop (p : Nat) (w : World) : (nilAhead 188 58 (.pointer (some ⟨p, 0, none⟩)) "Pop").run Try.prog w = .ok (some false) w := by kernel_rfl
theorem meth_len0 (p : Nat) (w : World) : (method 188 58 (.pointer (some ⟨p, 0, none⟩)) "Len").run Try.prog w = ((do let v ← loadVar 54 ⟨p, 0, none⟩; pure (47, v)) : Sem (FuncId × Value)).run Try.prog w := by kernel_rfl
theorem meth_len {p : Nat} {v : Value} {w : World} (h : w.cell? ⟨p, 0, none⟩ = some v) : (method 188 58 (.pointer (some ⟨p, 0, none⟩)) "Len").run Try.prog w = .ok (47, v) w := by
  rw [meth_len0]
  simp [loadVar, h]
theorem meth_less0 (p : Nat) (w : World) : (method 188 58 (.pointer (some ⟨p, 0, none⟩)) "Less").run Try.prog w = ((do let v ← loadVar 54 ⟨p, 0, none⟩; pure (48, v)) : Sem (FuncId × Value)).run Try.prog w := by kernel_rfl
theorem meth_less {p : Nat} {v : Value} {w : World} (h : w.cell? ⟨p, 0, none⟩ = some v) : (method 188 58 (.pointer (some ⟨p, 0, none⟩)) "Less").run Try.prog w = .ok (48, v) w := by
  rw [meth_less0]
  simp [loadVar, h]
theorem meth_swap0 (p : Nat) (w : World) : (method 188 58 (.pointer (some ⟨p, 0, none⟩)) "Swap").run Try.prog w = ((do let v ← loadVar 54 ⟨p, 0, none⟩; pure (49, v)) : Sem (FuncId × Value)).run Try.prog w := by kernel_rfl
theorem meth_swap {p : Nat} {v : Value} {w : World} (h : w.cell? ⟨p, 0, none⟩ = some v) : (method 188 58 (.pointer (some ⟨p, 0, none⟩)) "Swap").run Try.prog w = .ok (49, v) w := by
  rw [meth_swap0]
  simp [loadVar, h]

set_option maxHeartbeats 400000 in
theorem dues_len (a : Option Addr) (n c : Nat) (w : World) : Calls Try.prog 47 #[.slice a n c] w fun e w' => e = .returned (.int .i64 n) ∧ w = w' := by
  go_enter Try.func47, Try.ntmps47
  go_wp2_with (fail)
  go_ret
  exact ⟨rfl, rfl⟩

theorem WhA.slice {w : World} {p mb : Nat} {v : Value} {now : Int} {H : List Due} (h : WhA w p v mb now H) : ∃ a c, v = .slice a H.length c := by
  obtain ⟨a, c, e, _⟩ := Owns.shape h.hp
  exact ⟨a, c, e⟩
theorem wha_less {w : World} {p mb : Nat} {a : Option Addr} {n c : Nat} {now : Int} {H : List Due} (h : WhA w p (.slice a n c) mb now H) {i k : Nat} (hi : i < H.length) (hk : k < H.length) :
    Calls Try.prog 48 #[.slice a n c, .int .i64 i, .int .i64 k] w fun e w' => e = .returned (.bool (decide (dless (gd H i) (gd H k)))) ∧ WhA w' p (.slice a n c) mb now H ∧ Fr Nothing w w' := by
  obtain ⟨rfl, hd⟩ := h.hp.dues
  refine (dues_less a c H i k w hd hi hk).mono ?_
  rintro e w' ⟨rfl, f⟩
  exact ⟨rfl, ⟨h.head.fr f (fun h => h), h.hp.fr f (fun _ _ h => h), h.ne⟩, f⟩
theorem wha_swap {w : World} {p mb : Nat} {a : Option Addr} {n c : Nat} {now : Int} {H : List Due} (h : WhA w p (.slice a n c) mb now H) {i k : Nat} (hi : i < H.length) (hk : k < H.length) :
    Calls Try.prog 49 #[.slice a n c, .int .i64 i, .int .i64 k] w fun e w' => e = .returned (.tuple #[]) ∧ WhA w' p (.slice a n c) mb now (swp H i k) ∧ Fr (WS p (.slice a n c)) w w' := by
  obtain ⟨rfl, hd⟩ := h.hp.dues
  obtain ⟨g, rfl⟩ : ∃ g, a = some ⟨g, 0, none⟩ := by
    rcases h.hp.2 with ⟨h1, h2⟩ | ⟨g, cap, cur, h1, _⟩
    · omega
    · simp only [Value.slice.injEq] at h1; exact ⟨g, h1.1⟩
  refine (dues_swap g c H i k w h.hp hi hk).mono ?_
  rintro e w' ⟨rfl, h1, f⟩
  have hg : InBlock (.slice (some ⟨g, 0, none⟩) H.length c) g := rfl
  exact ⟨rfl, ⟨h.head.fr f (fun e => h.ne g hg e.symm), h1, h.ne⟩, f.mono (fun k _ e => .inr (by rw [e]; exact hg))⟩

set_option maxHeartbeats 2000000 in
set_option maxRecDepth 100000 in
theorem heap_up {w : World} {p mb : Nat} {v : Value} {now : Int} {H : List Due} (h : WhA w p v mb now H) (j : Nat) (hj : j < H.length) (hu : UpInv H j) (hl : H.length < 10000) :
    Calls Try.prog 29 #[.iface 58 (.pointer (some ⟨p, 0, none⟩)), .int .i64 j] w fun e w' => e = .returned (.tuple #[]) ∧ ∃ H', WhA w' p v mb now H' ∧ H'.Perm H ∧ HeapTo H' H'.length ∧ Fr (WS p v) w w' := by
  obtain ⟨a, c, rfl⟩ := h.slice
  have HH := Lib.hid h
  have HU := Lib.hid hu
  clear h hu
  go_enter Try.func29, Try.ntmps29
  go_wp2_with (fail)
  go_loopg [1] j (fun g i wr => ∃ (k : Nat) (H' : List Due), g = k ∧ i = .int .i64 k ∧ k < H.length ∧ H'.length = H.length ∧ Hid (WhA wr p (.slice a H.length c) mb now H' ∧ H'.Perm H ∧ UpInv H' k ∧ Fr (WS p (.slice a H.length c)) w wr))
  case atStart => exact ⟨j, H, rfl, rfl, hj, rfl, ⟨HH.out, List.Perm.refl _, HU.out, Fr.refl _ _⟩⟩
  case round =>
    obtain ⟨k, H', hgk, rfl, hk, hl', HX⟩ := hrel
    subst hgk
    obtain ⟨hA, hperm, hui, hf⟩ := HX.out
    obtain ⟨i, hi⟩ : ∃ i, i = (gk - 1) / 2 := ⟨_, rfl⟩
    have hk0 : (gk : Int) < 10000 := by omega
    by_cases hz : gk = 0
    · subst hz
      clear hk0 hA hperm hui hf
      go_wp2_with (fail)
      refine bodyPost_end (results_none rfl _ _ _) rfl ⟨rfl, H', ?_⟩
      obtain ⟨hA, hperm, hui, hf⟩ := HX.out
      exact ⟨hA, hperm, up_done hui (.inl rfl), hf⟩
    · have hii : i < gk := by omega
      have HD := Lib.hid (show ((gk : Int) - 1) / 2 = (i : Int) by omega)
      have hne : (((gk : Int) - 1) / 2 == (gk : Int)) = false := by rw [beq_eq_false_iff_ne]; omega
      have HI := Lib.hid hi
      have hki : i < H'.length := by omega
      have hkk : gk < H'.length := by omega
      have hc0 := hA.head.cell 0 rfl
      have m1 := meth_less hc0
      clear hA hperm hui hf hi
      cases hlt : decide (dless (gd H' gk) (gd H' i)) with
      | true =>
        go_wp2_with (first
          | (go_at_call 48; rw [HD.out]; refine (wha_less (i := gk) (k := i) HX.out.1 hkk hki).mono ?_; rintro e w1 ⟨rfl, A1, f1⟩; have m2 := meth_swap (A1.head.cell 0 rfl); have hc1 := A1.head.cell 0 rfl)
          | (go_at_call 49; refine (wha_swap (i := i) (k := gk) A1 hki hkk).mono ?_; rintro e w2 ⟨rfl, A2, f2⟩))
        obtain ⟨hA, hperm, hui, hf⟩ := HX.out
        have hin := HI.out
        go_roundg i
        case measure => omega
        case rel =>
          refine ⟨i, swp H' i gk, rfl, rfl, by omega, by rw [swp_len]; exact hl', ⟨A2, (swp_perm hki hkk).trans hperm, ?_, hf.trans' ((f1.mono (fun _ _ h => h.elim)).trans' f2)⟩⟩
          rw [hin]
          rw [hin] at hlt
          exact up_step hui (by omega) hkk (of_decide_eq_true hlt)
      | false =>
        go_wp2_with (go_at_call 48; rw [HD.out]; refine (wha_less (i := gk) (k := i) HX.out.1 hkk hki).mono ?_; rintro e w1 ⟨rfl, A1, f1⟩)
        obtain ⟨hA, hperm, hui, hf⟩ := HX.out
        have hin := HI.out
        refine bodyPost_end (results_none rfl _ _ _) rfl ⟨rfl, H', A1, hperm, up_done hui (.inr ?_), hf.trans' (f1.mono (fun _ _ h => h.elim))⟩
        rw [← hin]
        exact of_decide_eq_false hlt
end Go.Proofs.Ytgfphbehecpgpaa
