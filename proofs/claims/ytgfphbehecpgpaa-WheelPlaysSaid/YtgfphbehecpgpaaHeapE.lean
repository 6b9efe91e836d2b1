import Derived.Test.YtgfphbehecpgpaaHeapD
namespace Go.Proofs.Ytgfphbehecpgpaa
open Go.RowKit
theorem split_last {H : List Due} {n : Nat} (h : H.length = n + 1) : H = H.take n ++ [gd H n] := by
  rw [gd_at (by omega), List.take_append_getElem (by omega), List.take_of_length_le (by omega)]
theorem gd_take {H : List Due} {n c : Nat} (hc : c < n) : gd (H.take n) c = gd H c := by
  unfold gd; rw [List.getD_eq_getElem?_getD, List.getD_eq_getElem?_getD, List.getElem?_take, if_pos hc]

theorem pop_part {w : World} {p mb n : Nat} {v : Value} {now : Int} {H : List Due} (h : WhA w p v mb now H) (hn : H.length = n + 1) (hl : n < 10000) :
    Calls Try.prog 53 #[.pointer (some ⟨p, 0, none⟩)] w fun e w' => e = .returned (.iface 60 (dval (gd H n))) ∧ ∃ v', WhA w' p v' mb now (H.take n) ∧ (∀ k, InBlock v' k → InBlock v k) ∧ Fr (WS p v) w w' := by
  rw [split_last hn] at h
  exact dues_pop h (by rw [List.length_take]; omega)

set_option maxHeartbeats 2000000 in
set_option maxRecDepth 100000 in
theorem heap_pop {w : World} {p mb : Nat} {v : Value} {now : Int} {H : List Due} (h : WhA w p v mb now H) (hh : HeapTo H H.length) (h0 : 0 < H.length) (hl : H.length < 10000) :
    Calls Try.prog 26 #[.iface 58 (.pointer (some ⟨p, 0, none⟩))] w fun e w' => e = .returned (.iface 60 (dval (gd H 0))) ∧ ∃ v' H', WhA w' p v' mb now H' ∧ (gd H 0 :: H').Perm H ∧ HeapTo H' H'.length ∧ (∀ k, InBlock v' k → InBlock v k) ∧ Fr (WS p v) w w' := by
  obtain ⟨a, c, rfl⟩ := h.slice
  have HH := Lib.hid h
  have HP := Lib.hid hh
  obtain ⟨n, hn⟩ : ∃ n, H.length = n + 1 := ⟨H.length - 1, by omega⟩
  rw [hn] at h h0 hl
  have HN := Lib.hid hn
  have hn1 : H.length - 1 = n := by omega
  have hc0 := h.head.cell 0 rfl
  have m0 := meth_len hc0
  have m1 := meth_swap hc0
  have e1 : ((n : Int) + 1 - 1) = n := by omega
  rw [hn]
  have hds : DownInv (swp H 0 n) 0 n := by have := down_start hh (by omega); rw [hn1] at this; exact this
  have hls : (swp H 0 n).length = H.length := swp_len _ _ _
  have HA := Lib.hid h
  clear h hh hn
  go_enter Try.func26, Try.ntmps26
  go_wp2_with (first
    | (go_at_call 47; refine (dues_len _ _ _ _).mono ?_; rintro e w2 ⟨rfl, rfl⟩)
    | (go_at_call 49; refine (wha_swapI HA.out 0 n _ _ (by first | rfl | omega) (by omega) (by have := HN.out; omega) (by have := HN.out; omega)).mono ?_; rintro e w1 ⟨rfl, A1, f1⟩)
    | (go_at_call 30; refine (heap_down A1 n (by rw [hls, HN.out]; omega) hds (by rw [hls, HN.out]; omega)).mono ?_; rintro e w2 ⟨b2, H2, rfl, A2, p2, h2, q2, f2⟩; have m2 := meth_pop p w2)
    | (go_at_call 53; refine (pop_part A2 (by rw [p2.length_eq, hls, HN.out]) (by omega)).mono ?_; rintro e w3 ⟨rfl, v3, A3, i3, f3⟩))
  have hg0 : gd (swp H 0 n) n = gd H 0 := by
    rw [gd_swp (by have := HN.out; omega) (by have := HN.out; omega), if_pos rfl]
  have hg : gd H2 n = gd H 0 := by rw [q2 n (Nat.le_refl _), hg0]
  go_ret
  rw [hg0]
  have l2 : H2.length = n + 1 := by rw [p2.length_eq, hls, HN.out]
  refine ⟨rfl, v3, _, A3, ?_, ?_, fun k hk => i3 k hk, (f1.trans' f2).trans' f3⟩
  · have p3 : (H2.take n ++ [gd H2 n]).Perm (gd H2 n :: H2.take n) := List.perm_append_comm
    rw [← split_last l2] at p3
    rw [← hg]
    exact p3.symm.trans (p2.trans (swp_perm (by have := HN.out; omega) (by have := HN.out; omega)))
  · intro c hc0 hc
    rw [List.length_take, l2] at hc
    rw [gd_take (by omega), gd_take (by omega)]
    exact h2 c hc0 (by omega)
end Go.Proofs.Ytgfphbehecpgpaa
