/- Lists of items that are the same, as the document's answer compares them; the first of a list. No condition. -/
import Derived.Test.YtfedaolpanncoaaElems
namespace Go.Proofs.Ytfedaolpanncoaa
open Go.RowKit

theorem ne_branch4 {x y : Item} (h : sameB x y = false) {α : Type} (p q : α) :
    (if x.user.toList = y.user.toList then if x.name.toList = y.name.toList then if x.sub = y.sub then if x.asked = y.asked then p else q else q else q else q) = q := by
  by_cases h0 : x.user.toList = y.user.toList
  · rw [if_pos h0]; exact ne_branch (text_eq.1 h0) h p q
  · rw [if_neg h0]
set_option maxRecDepth 100000 in
set_option maxHeartbeats 4000000 in
theorem same_items (a b : Option Addr) (X Y : List Item) (ca cb : Nat) (w : World) (ha : Items w a X) (hb : Items w b Y) (hl : X.length ≤ 1000) (hl2 : Y.length ≤ 1000) :
    Calls Try.prog 14 #[.slice a X.length ca, .slice b Y.length cb] w fun e w' => (∃ r : Bool, e = .returned (.bool r) ∧ (r = true ↔ X = Y)) ∧ ∃ m, w' = w.drewN m := by
  have Ha := Lib.hid ha
  have Hb := Lib.hid hb
  have hp27 : Try.prog.stoodInHeld 27 = false := by kernel_rfl
  have hg27 : Try.prog.eqGuardType Try.prog.depth 27 = false := by kernel_rfl
  clear ha hb
  go_enter Try.func14, Try.ntmps14
  by_cases he : X.length = Y.length
  · have h1 : ((X.length : Int) != (Y.length : Int)) = false := by simp [he]
    have HE := Lib.hid he
    clear he
    go_wp2_with (fail)
    go_loopw [5] (fun i wr => ∃ k : Nat, k ≤ X.length ∧ i = .int .i64 k ∧ Hid (∀ j (h : j < X.length) (h' : j < Y.length), j < k → X[j] = Y[j]) ∧ ∃ m, wr = w.drewN m) (fun i _ => X.length - (intOf i).toNat)
    case atStart => exact ⟨0, Nat.zero_le _, rfl, Lib.hid (fun _ _ _ h => by omega), 0, rfl⟩
    case round =>
      obtain ⟨k, hk, rfl, HN, m, rfl⟩ := hrel
      by_cases hlt : k < X.length
      · have hlt2 : k < Y.length := by rw [← HE.out]; exact hlt
        obtain ⟨V, hV⟩ : ∃ V, V = w.drewN m := ⟨_, rfl⟩
        have Ha' : Items V a X := by rw [hV]; exact Ha.out.drewN m
        have Hb' : Items V b Y := by rw [hV]; exact Hb.out.drewN m
        obtain ⟨b1, o1, rfl, g1⟩ := Ha'.at_ hlt
        obtain ⟨b2, o2, rfl, g2⟩ := Hb'.at_ hlt2
        obtain ⟨x, hx⟩ : ∃ x, x = X[k] := ⟨_, rfl⟩
        obtain ⟨y, hy⟩ : ∃ y, y = Y[k] := ⟨_, rfl⟩
        rw [← hx] at g1
        rw [← hy] at g2
        rw [← hV]
        have p0 : V.cell? ⟨b1, o1 + k * 4, none⟩ = some (.string x.user) := g1 0 _ rfl
        have p1 : V.cell? ⟨b1, o1 + k * 4 + 1, none⟩ = some (.string x.name) := g1 1 _ rfl
        have p2 : V.cell? ⟨b1, o1 + k * 4 + 2, none⟩ = some (.int .i64 x.sub) := g1 2 _ rfl
        have p3 : V.cell? ⟨b1, o1 + k * 4 + 3, none⟩ = some (.bool x.asked) := g1 3 _ rfl
        have q0 : V.cell? ⟨b2, o2 + k * 4, none⟩ = some (.string y.user) := g2 0 _ rfl
        have q1 : V.cell? ⟨b2, o2 + k * 4 + 1, none⟩ = some (.string y.name) := g2 1 _ rfl
        have q2 : V.cell? ⟨b2, o2 + k * 4 + 2, none⟩ = some (.int .i64 y.sub) := g2 2 _ rfl
        have q3 : V.cell? ⟨b2, o2 + k * 4 + 3, none⟩ = some (.bool y.asked) := g2 3 _ rfl
        have hkI : (k : Int) < X.length := by omega
        have hkI2 : (k : Int) < Y.length := by omega
        have HX := Lib.hid hx
        have HY := Lib.hid hy
        have HV := Lib.hid hV
        clear g1 g2 Ha' Hb' hx hy hV
        cases hs : sameB x y with
        | true =>
          obtain rfl := (sameB_iff x y).1 hs
          clear hs
          go_wp2_with (fail)
          go_quiet (fail)
          go_wp2_with (fail)
          go_roundw
          case rel =>
            refine ⟨k + 1, by omega, by go_num, Lib.hid (fun j h h' hj => ?_), m + nq, by rw [HV.out]; simp⟩
            by_cases hj2 : j < k
            · exact HN.out j h h' hj2
            · obtain rfl : j = k := by omega
              rw [← HX.out, ← HY.out]
          case measure => simp [intOf]; omega
        | false =>
          have hnb := @ne_branch4 x y hs
          have HS := Lib.hid hs
          clear hs
          go_wp2_with (fail)
          go_quiet (fail)
          go_wp2_with (fail)
          go_ret
          refine ⟨⟨false, rfl, by simp; intro e; have e1 : X[k] = Y[k] := (by subst e; rfl); rw [← HX.out, ← HY.out] at e1; have := (sameB_iff x y).2 e1; rw [HS.out] at this; cases this⟩, m + nq, by rw [HV.out]; simp⟩
      · obtain rfl : k = X.length := by omega
        go_wp2_with (fail)
        go_ret
        exact ⟨⟨true, rfl, by simp; exact List.ext_getElem HE.out (fun i h h' => HN.out i h h' h)⟩, m, rfl⟩
  · have h1 : ((X.length : Int) != (Y.length : Int)) = true := by simp; omega
    have HE := Lib.hid he
    clear he
    go_wp2_with (fail)
    go_ret
    exact ⟨⟨false, rfl, by simp; intro e; exact HE.out (by rw [e])⟩, 0, rfl⟩
set_option maxRecDepth 100000 in
theorem dig_early60 (a : Option Addr) (n c : Nat) (w : World) (hn : n ≤ c) (_hc : (c : Int) ≤ 9223372036854775807) :
    Calls Try.prog 10 #[.slice a n c] w fun e w' => e = .returned (.slice a (min n 60) c) ∧ w = w' := by
  have h1 : (n : Int) ≤ c := by omega
  have e : (min (n : Int) 60).toNat = min n 60 := by omega
  go_enter Try.func10, Try.ntmps10
  go_wp2_with (fail)
  go_ret
  exact ⟨rfl, rfl⟩

end Go.Proofs.Ytfedaolpanncoaa
