import Derived.Test.YtgfphbehecpgpaaHeapC
namespace Go.Proofs.Ytgfphbehecpgpaa
open Go.RowKit
theorem up_start {H : List Due} (h : HeapTo H H.length) (d : Due) : UpInv (H ++ [d]) H.length := by
  have g : ∀ c, c < H.length → gd (H ++ [d]) c = gd H c := fun c hc => by unfold gd; rw [List.getD_eq_getElem?_getD, List.getD_eq_getElem?_getD, List.getElem?_append_left hc]
  refine ⟨fun c hc0 hc hne => ?_, fun h0 c hc0 hc hp => ?_⟩
  · rw [List.length_append] at hc
    simp only [List.length_cons, List.length_nil] at hc
    rw [g c (by omega), g _ (by omega)]
    exact h c hc0 (by omega)
  · rw [List.length_append] at hc
    simp only [List.length_cons, List.length_nil] at hc
    omega

set_option maxHeartbeats 2000000 in
set_option maxRecDepth 100000 in
theorem heap_push {w : World} {p mb : Nat} {v : Value} {now : Int} {H : List Due} (h : WhA w p v mb now H) (hh : HeapTo H H.length) (d : Due) (hl : H.length < 9000) :
    Calls Try.prog 24 #[.iface 58 (.pointer (some ⟨p, 0, none⟩)), .iface 60 (dval d)] w fun e w' => e = .returned (.tuple #[]) ∧ ∃ v' H', WhA w' p v' mb now H' ∧ H'.Perm (H ++ [d]) ∧ HeapTo H' H'.length ∧ NewOr w v v' ∧ Fr (WS p v) w w' := by
  have HH := Lib.hid h
  have HP := Lib.hid hh
  have elen : (H ++ [d]).length = H.length + 1 := by simp
  clear h hh
  have m1 := meth_push p w
  have hp0 := dues_push HH.out d (by omega)
  go_enter Try.func24, Try.ntmps24
  go_wp2_with (first
    | (go_at_call 54; refine hp0.mono ?_; rintro e w1 ⟨rfl, v1, A1, n1, f1⟩; obtain ⟨a1, c1, rfl⟩ := A1.slice; have hc1 := A1.head.cell 0 rfl; rw [elen] at hc1; have m2 := meth_len hc1)
    | (go_at_call 47; refine (dues_len _ _ _ _).mono ?_; rintro e w2 ⟨rfl, rfl⟩)
    | (go_at_call 29; refine (heap_up A1 H.length (by omega) (up_start HP.out d) (by omega)).mono ?_; rintro e w3 ⟨rfl, H3, A3, p3, h3, f3⟩))
  refine bodyPost_end (results_none rfl _ _ _) rfl ⟨rfl, _, H3, A3, p3, h3, n1, f1.trans f3 (fun k hk h => ?_)⟩
  rcases h with rfl | h
  · exact .inl rfl
  · rcases n1 k h with h | h
    · exact .inr h
    · omega

theorem wha_lessI {w : World} {p mb : Nat} {a : Option Addr} {n c : Nat} {now : Int} {H : List Due} (h : WhA w p (.slice a n c) mb now H) (i k : Nat) (x y : Int) (hx : x = i) (hy : y = k) (hi : i < H.length) (hk : k < H.length) :
    Calls Try.prog 48 #[.slice a n c, .int .i64 x, .int .i64 y] w fun e w' => e = .returned (.bool (decide (dless (gd H i) (gd H k)))) ∧ WhA w' p (.slice a n c) mb now H ∧ Fr Nothing w w' := by
  subst hx hy; exact wha_less h hi hk
theorem wha_lessV {w : World} {p mb : Nat} {a : Option Addr} {n c : Nat} {now : Int} {H : List Due} (h : WhA w p (.slice a n c) mb now H) (i k : Nat) (x y : Int) (hx : x = i) (hy : y = k) (hi : i < H.length) (hk : k < H.length) (X Y : Due) (hX : X = gd H i) (hY : Y = gd H k) :
    Calls Try.prog 48 #[.slice a n c, .int .i64 x, .int .i64 y] w fun e w' => e = .returned (.bool (decide (dless X Y))) ∧ WhA w' p (.slice a n c) mb now H ∧ Fr Nothing w w' := by
  subst hX hY; exact wha_lessI h i k x y hx hy hi hk
theorem wha_swapI {w : World} {p mb : Nat} {a : Option Addr} {n c : Nat} {now : Int} {H : List Due} (h : WhA w p (.slice a n c) mb now H) (i k : Nat) (x y : Int) (hx : x = i) (hy : y = k) (hi : i < H.length) (hk : k < H.length) :
    Calls Try.prog 49 #[.slice a n c, .int .i64 x, .int .i64 y] w fun e w' => e = .returned (.tuple #[]) ∧ WhA w' p (.slice a n c) mb now (swp H i k) ∧ Fr (WS p (.slice a n c)) w w' := by
  subst hx hy; exact wha_swap h hi hk

/-- On the way down: the list there, at i, below n. -/
structure DownAt (w : World) (p mb : Nat) (v : Value) (now : Int) (H : List Due) (n k : Nat) (H' : List Due) (wr : World) : Prop where
  wha : WhA wr p v mb now H'
  perm : H'.Perm H
  inv : DownInv H' k n
  past : ∀ c, n ≤ c → gd H' c = gd H c
  fr : Fr (WS p v) w wr

theorem DownAt.swap {w wr w3 : World} {p mb : Nat} {v : Value} {now : Int} {H H' : List Due} {n k : Nat} (h : DownAt w p mb v now H n k H' wr) (j : Nat) (hn : n < H'.length) (hj : j < n) (hp : (j - 1) / 2 = k) (h0 : 0 < j)
    (hl : dless (gd H' j) (gd H' k)) (hs : ∀ c, 0 < c → c < n → (c - 1) / 2 = k → ¬ dless (gd H' c) (gd H' j)) (A : WhA w3 p v mb now (swp H' k j)) (f : Fr (WS p v) wr w3) : DownAt w p mb v now H n j (swp H' k j) w3 :=
  ⟨A, (swp_perm (by omega) (by omega)).trans h.perm, down_step h.inv (by omega) hj hp h0 hl hs, fun c hc => by
    rw [gd_swp (by omega) (by omega), if_neg (by omega), if_neg (by omega)]; exact h.past c hc, h.fr.trans' f⟩
theorem kids {c k : Nat} (h0 : 0 < c) (h : (c - 1) / 2 = k) : c = 2 * k + 1 ∨ c = 2 * k + 2 := by omega

set_option maxHeartbeats 2000000 in
set_option maxRecDepth 100000 in
theorem heap_down {w : World} {p mb : Nat} {v : Value} {now : Int} {H : List Due} (h : WhA w p v mb now H) (n : Nat) (hn : n < H.length) (hd : DownInv H 0 n) (hl : H.length < 10000) :
    Calls Try.prog 30 #[.iface 58 (.pointer (some ⟨p, 0, none⟩)), .int .i64 0, .int .i64 n] w fun e w' => ∃ b H', e = .returned (.bool b) ∧ WhA w' p v mb now H' ∧ H'.Perm H ∧ HeapTo H' n ∧ (∀ c, n ≤ c → gd H' c = gd H c) ∧ Fr (WS p v) w w' := by
  obtain ⟨a, c, rfl⟩ := h.slice
  have HH := Lib.hid h
  have HU := Lib.hid hd
  clear h hd
  go_enter Try.func30, Try.ntmps30
  go_wp2_with (fail)
  go_loopg [7] n (fun g i wr => ∃ (k : Nat) (H' : List Due), g = n - k ∧ i = .int .i64 k ∧ k ≤ n ∧ H'.length = H.length ∧ Hid (DownAt w p mb (.slice a H.length c) now H n k H' wr))
  case atStart => exact ⟨0, H, rfl, rfl, by omega, rfl, ⟨HH.out, List.Perm.refl _, HU.out, fun _ _ => rfl, Fr.refl _ _⟩⟩
  case round =>
    obtain ⟨k, H', rfl, rfl, hk, hl', HX⟩ := hrel
    have hk0 : (k : Int) < 10000 := by omega
    have hn0 : (n : Int) < 10000 := by omega
    have hc0 := HX.out.wha.head.cell 0 rfl
    have m1 := meth_less hc0
    by_cases hz : n ≤ 2 * k + 1
    · have g1 : decide ((n : Int) ≤ 2 * (k : Int) + 1) = true := by rw [decide_eq_true_iff]; omega
      go_wp2_with (fail)
      go_ret
      exact ⟨_, H', rfl, HX.out.wha, HX.out.perm, down_done HX.out.inv (fun c h1 h2 h3 => by omega), HX.out.past, HX.out.fr⟩
    · have g1 : decide ((n : Int) ≤ 2 * (k : Int) + 1) = false := by rw [decide_eq_false_iff_not]; omega
      have g0 : decide (2 * (k : Int) + 1 < 0) = false := by rw [decide_eq_false_iff_not]; omega
      have HN := Lib.hid (show 2 * k + 1 < n by omega)
      have HL := Lib.hid (show n < H'.length by omega)
      obtain ⟨x0, hx0⟩ : ∃ x, x = gd H' k := ⟨_, rfl⟩
      obtain ⟨x1, hx1⟩ : ∃ x, x = gd H' (2 * k + 1) := ⟨_, rfl⟩
      obtain ⟨x2, hx2⟩ : ∃ x, x = gd H' (2 * k + 2) := ⟨_, rfl⟩
      have X0 := Lib.hid hx0
      have X1 := Lib.hid hx1
      have X2 := Lib.hid hx2
      clear hx0 hx1 hx2 hz hl'
      by_cases hj : 2 * k + 2 < n
      · have g2 : decide (2 * (k : Int) + 1 + 1 < (n : Int)) = true := by rw [decide_eq_true_iff]; omega
        have HJ := Lib.hid hj
        clear hj
        cases hb1 : decide (dless x2 x1) with
        | true =>
          cases hb2 : decide (dless x2 x0) with
          | true =>
            go_wp2_with (first
              | (go_at_call 48; refine (wha_lessV HX.out.wha (2 * k + 2) (2 * k + 1) _ _ (by omega) (by omega) (by have := HL.out; have := HJ.out; omega) (by have := HL.out; have := HJ.out; omega) x2 x1 X2.out X1.out).mono ?_; rintro e w1 ⟨rfl, A1, f1⟩; have m2 := meth_less (A1.head.cell 0 rfl); have hc1 := A1.head.cell 0 rfl)
              | (go_at_call 48; refine (wha_lessV A1 (2 * k + 2) (k) _ _ (by omega) (by omega) (by have := HL.out; have := HJ.out; omega) (by have := HL.out; have := HJ.out; omega) x2 x0 X2.out X0.out).mono ?_; rintro e w2 ⟨rfl, A2, f2⟩; have m3 := meth_swap (A2.head.cell 0 rfl); have hc2 := A2.head.cell 0 rfl)
              | (go_at_call 49; refine (wha_swapI A2 (k) (2 * k + 2) _ _ (by omega) (by omega) (by have := HL.out; have := HJ.out; omega) (by have := HL.out; have := HJ.out; omega)).mono ?_; rintro e w3 ⟨rfl, A3, f3⟩))
            have hJ := HJ.out
            have hN := HN.out
            have hL := HL.out
            have x0e := X0.out
            have x1e := X1.out
            have x2e := X2.out
            go_roundg (n - (2 * k + 2))
            case measure => omega
            case rel =>
              refine ⟨2 * k + 2, swp H' k (2 * k + 2), rfl, by (first | rfl | go_num), by omega, by rw [swp_len]; exact HX.out.perm.length_eq, Lib.hid (HX.out.swap (2 * k + 2) hL (by omega) (by omega) (by omega) ?_ (fun c h1 h2 h3 => ?_) A3 ((f1.mono (fun _ _ h => h.elim)).trans' ((f2.mono (fun _ _ h => h.elim)).trans' f3)))⟩
              · subst x0e x1e x2e; exact of_decide_eq_true hb2
              · rcases kids h1 h3 with rfl | rfl
                · rw [← x1e, ← x2e]; exact dless_asym (of_decide_eq_true hb1)
                · exact dless_irrefl _
          | false =>
            go_wp2_with (first
              | (go_at_call 48; refine (wha_lessV HX.out.wha (2 * k + 2) (2 * k + 1) _ _ (by omega) (by omega) (by have := HL.out; have := HJ.out; omega) (by have := HL.out; have := HJ.out; omega) x2 x1 X2.out X1.out).mono ?_; rintro e w1 ⟨rfl, A1, f1⟩; have m2 := meth_less (A1.head.cell 0 rfl); have hc1 := A1.head.cell 0 rfl)
              | (go_at_call 48; refine (wha_lessV A1 (2 * k + 2) (k) _ _ (by omega) (by omega) (by have := HL.out; have := HJ.out; omega) (by have := HL.out; have := HJ.out; omega) x2 x0 X2.out X0.out).mono ?_; rintro e w2 ⟨rfl, A2, f2⟩; have m3 := meth_swap (A2.head.cell 0 rfl); have hc2 := A2.head.cell 0 rfl))
            have hN := HN.out
            have hL := HL.out
            have x0e := X0.out
            have x1e := X1.out
            have x2e := X2.out
            go_ret
            refine ⟨_, H', rfl, A2, HX.out.perm, down_done HX.out.inv (fun c h1 h2 h3 => ?_), HX.out.past, HX.out.fr.trans' ((f1.mono (fun _ _ h => h.elim)).trans' (f2.mono (fun _ _ h => h.elim)))⟩
            rcases kids h1 h3 with rfl | rfl
            · rw [← x1e, ← x0e]; exact fun h => of_decide_eq_false hb2 (dless_trans (of_decide_eq_true hb1) h)
            · rw [← x2e, ← x0e]; exact of_decide_eq_false hb2
        | false =>
          cases hb2 : decide (dless x1 x0) with
          | true =>
            go_wp2_with (first
              | (go_at_call 48; refine (wha_lessV HX.out.wha (2 * k + 2) (2 * k + 1) _ _ (by omega) (by omega) (by have := HL.out; have := HJ.out; omega) (by have := HL.out; have := HJ.out; omega) x2 x1 X2.out X1.out).mono ?_; rintro e w1 ⟨rfl, A1, f1⟩; have m2 := meth_less (A1.head.cell 0 rfl); have hc1 := A1.head.cell 0 rfl)
              | (go_at_call 48; refine (wha_lessV A1 (2 * k + 1) (k) _ _ (by omega) (by omega) (by have := HL.out; have := HJ.out; omega) (by have := HL.out; have := HJ.out; omega) x1 x0 X1.out X0.out).mono ?_; rintro e w2 ⟨rfl, A2, f2⟩; have m3 := meth_swap (A2.head.cell 0 rfl); have hc2 := A2.head.cell 0 rfl)
              | (go_at_call 49; refine (wha_swapI A2 (k) (2 * k + 1) _ _ (by omega) (by omega) (by have := HL.out; have := HJ.out; omega) (by have := HL.out; have := HJ.out; omega)).mono ?_; rintro e w3 ⟨rfl, A3, f3⟩))
            have hJ := HJ.out
            have hN := HN.out
            have hL := HL.out
            have x0e := X0.out
            have x1e := X1.out
            have x2e := X2.out
            go_roundg (n - (2 * k + 1))
            case measure => omega
            case rel =>
              refine ⟨2 * k + 1, swp H' k (2 * k + 1), rfl, by (first | rfl | go_num), by omega, by rw [swp_len]; exact HX.out.perm.length_eq, Lib.hid (HX.out.swap (2 * k + 1) hL (by omega) (by omega) (by omega) ?_ (fun c h1 h2 h3 => ?_) A3 ((f1.mono (fun _ _ h => h.elim)).trans' ((f2.mono (fun _ _ h => h.elim)).trans' f3)))⟩
              · subst x0e x1e x2e; exact of_decide_eq_true hb2
              · rcases kids h1 h3 with rfl | rfl
                · exact dless_irrefl _
                · rw [← x1e, ← x2e]; exact of_decide_eq_false hb1
          | false =>
            go_wp2_with (first
              | (go_at_call 48; refine (wha_lessV HX.out.wha (2 * k + 2) (2 * k + 1) _ _ (by omega) (by omega) (by have := HL.out; have := HJ.out; omega) (by have := HL.out; have := HJ.out; omega) x2 x1 X2.out X1.out).mono ?_; rintro e w1 ⟨rfl, A1, f1⟩; have m2 := meth_less (A1.head.cell 0 rfl); have hc1 := A1.head.cell 0 rfl)
              | (go_at_call 48; refine (wha_lessV A1 (2 * k + 1) (k) _ _ (by omega) (by omega) (by have := HL.out; have := HJ.out; omega) (by have := HL.out; have := HJ.out; omega) x1 x0 X1.out X0.out).mono ?_; rintro e w2 ⟨rfl, A2, f2⟩; have m3 := meth_swap (A2.head.cell 0 rfl); have hc2 := A2.head.cell 0 rfl))
            have hN := HN.out
            have hL := HL.out
            have x0e := X0.out
            have x1e := X1.out
            have x2e := X2.out
            go_ret
            refine ⟨_, H', rfl, A2, HX.out.perm, down_done HX.out.inv (fun c h1 h2 h3 => ?_), HX.out.past, HX.out.fr.trans' ((f1.mono (fun _ _ h => h.elim)).trans' (f2.mono (fun _ _ h => h.elim)))⟩
            rcases kids h1 h3 with rfl | rfl
            · rw [← x1e, ← x0e]; exact of_decide_eq_false hb2
            · rw [← x2e, ← x0e]; exact dless_ge (of_decide_eq_false hb1) (of_decide_eq_false hb2)
      · have g2 : decide (2 * (k : Int) + 1 + 1 < (n : Int)) = false := by rw [decide_eq_false_iff_not]; omega
        have HJ := Lib.hid hj
        clear hj
        cases hb2 : decide (dless x1 x0) with
        | true =>
          go_wp2_with (first
            | (go_at_call 48; refine (wha_lessV HX.out.wha (2 * k + 1) (k) _ _ (by omega) (by omega) (by have := HL.out; have := HN.out; omega) (by have := HL.out; have := HN.out; omega) x1 x0 X1.out X0.out).mono ?_; rintro e w1 ⟨rfl, A1, f1⟩; have m2 := meth_swap (A1.head.cell 0 rfl); have hc1 := A1.head.cell 0 rfl)
            | (go_at_call 49; refine (wha_swapI A1 (k) (2 * k + 1) _ _ (by omega) (by omega) (by have := HL.out; have := HN.out; omega) (by have := HL.out; have := HN.out; omega)).mono ?_; rintro e w2 ⟨rfl, A2, f2⟩))
          have hJ := HJ.out
          have hN := HN.out
          have hL := HL.out
          have x0e := X0.out
          have x1e := X1.out
          have x2e := X2.out
          go_roundg (n - (2 * k + 1))
          case measure => omega
          case rel =>
            refine ⟨2 * k + 1, swp H' k (2 * k + 1), rfl, by (first | rfl | go_num), by omega, by rw [swp_len]; exact HX.out.perm.length_eq, Lib.hid (HX.out.swap (2 * k + 1) hL (by omega) (by omega) (by omega) ?_ (fun c h1 h2 h3 => ?_) A2 ((f1.mono (fun _ _ h => h.elim)).trans' f2))⟩
            · subst x0e x1e x2e; exact of_decide_eq_true hb2
            · rcases kids h1 h3 with rfl | rfl
              · exact dless_irrefl _
              · omega
        | false =>
          go_wp2_with (go_at_call 48; refine (wha_lessV HX.out.wha (2 * k + 1) (k) _ _ (by omega) (by omega) (by have := HL.out; have := HN.out; omega) (by have := HL.out; have := HN.out; omega) x1 x0 X1.out X0.out).mono ?_; rintro e w1 ⟨rfl, A1, f1⟩; have m2 := meth_swap (A1.head.cell 0 rfl); have hc1 := A1.head.cell 0 rfl)
          have hJ := HJ.out
          have hN := HN.out
          have hL := HL.out
          have x0e := X0.out
          have x1e := X1.out
          have x2e := X2.out
          go_ret
          refine ⟨_, H', rfl, A1, HX.out.perm, down_done HX.out.inv (fun c h1 h2 h3 => ?_), HX.out.past, HX.out.fr.trans' ((f1.mono (fun _ _ h => h.elim)))⟩
          rcases kids h1 h3 with rfl | rfl
          · rw [← x1e, ← x0e]; exact of_decide_eq_false hb2
          · omega
end Go.Proofs.Ytgfphbehecpgpaa
