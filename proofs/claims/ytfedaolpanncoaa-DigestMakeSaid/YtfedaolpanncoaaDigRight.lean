/- A list that may be, as the document's answer tells it; steps that are the same. Condition: the texts' lengths. -/
import Derived.Test.YtfedaolpanncoaaDigRJoin
namespace Go.Proofs.Ytfedaolpanncoaa
open Go.RowKit

set_option maxHeartbeats 4000000 in
theorem ref_right (a : Option Addr) (c : Nat) (l : List Item) (w : World) (h : Items w a l) (hl : l.length ≤ 1000) (hf : ∀ x ∈ l, x.user.size ≤ maxLen) :
    Calls Try.prog 29 #[.slice a l.length c] w fun e w' => e = .returned (.bool (riseB l)) ∧ ∃ n, w' = w.drewN n := by
  have H := Lib.hid h
  have HF := Lib.hid hf
  clear h hf
  go_enter Try.func29, Try.ntmps29
  go_wp2_with (fail)
  go_loopw [3] (fun i wr => ∃ k : Nat, i = .int .i64 ((k : Int) + 1) ∧ Hid (∀ j, j < k → ∀ (h : j + 1 < l.length), ltB l[j].user l[j + 1].user = true) ∧ (∃ m, wr = w.drewN m)) (fun i _ => l.length - (intOf i).toNat)
  case atStart => exact ⟨0, rfl, (fun j hj => by omega), 0, rfl⟩
  case round =>
    obtain ⟨k, rfl, HA, m, rfl⟩ := hrel
    by_cases hlt : k + 1 < l.length
    · obtain ⟨b1, o1, rfl, hc⟩ := H.out.at_ hlt
      have h1 : w.cell? ⟨b1, o1 + (k + 1) * 4, none⟩ = some (.string l[k + 1].user) := hc 0 _ rfl
      obtain ⟨b2, o2, h2e, hc2⟩ := H.out.at_ (i := k) (by omega)
      obtain ⟨rfl, rfl⟩ : b1 = b2 ∧ o1 = o2 := by simpa using h2e
      have h2 : w.cell? ⟨b1, o1 + k * 4, none⟩ = some (.string l[k].user) := hc2 0 _ rfl
      have fy := HF.out l[k] (List.getElem_mem _)
      have fx := HF.out l[k + 1] (List.getElem_mem _)
      obtain ⟨x, hx⟩ : ∃ x, x = l[k + 1].user := ⟨_, rfl⟩
      obtain ⟨y, hy⟩ : ∃ y, y = l[k].user := ⟨_, rfl⟩
      rw [← hx] at h1 fx
      rw [← hy] at h2 fy
      have Hx := Lib.hid hx
      have Hy := Lib.hid hy
      have hq : Hid (∀ n, Calls Try.prog 30 #[.string y, .string x] ((w.drewN m).drewN n) fun e w'' => e = .returned (.bool (ltB y x)) ∧ ∃ m', w'' = (w.drewN m).drewN m') := Lib.hid (fun n => by
        have := quiet_draw (ref_ahead y x ((w.drewN m).drewN n) fy fx)
        rw [ahead_lt] at this; exact this)
      have w1 : IntKind.i64.wrap ((k : Int) + 1 - 1) = (k : Int) := by rw [show (k : Int) + 1 - 1 = k by omega]; exact IntWalk.i64_in _ (by omega)
      have w2 : IntKind.i64.wrap (k : Int) = (k : Int) := IntWalk.i64_in _ (by omega)
      have w3 : ((k : Int) + 1).toNat = k + 1 := by omega
      have w5 : k < l.length := by omega
      have w6 : (k : Int) + 1 < l.length := by omega
      have w7 : 0 ≤ (k : Int) + 1 := by omega
      have HLB : Hid (ltB y x = ltB l[k].user l[k + 1].user) := Lib.hid (by rw [← hx, ← hy])
      obtain ⟨V, hV⟩ : ∃ V, V = w.drewN m := ⟨_, rfl⟩
      have h1' : V.cell? ⟨b1, o1 + (k + 1) * 4, none⟩ = some (.string x) := by rw [hV]; simpa using h1
      have h2' : V.cell? ⟨b1, o1 + k * 4, none⟩ = some (.string y) := by rw [hV]; simpa using h2
      rw [← hV] at hq ⊢
      have HV := Lib.hid hV
      clear hc hc2 h2e hx hy h1 h2 fx fy hV
      cases hless : ltB y x with
      | true =>
        rw [hless] at hq
        have HLE := Lib.hid hless
        clear hless
        go_wp2_with (fail)
        go_quiet ((go_at_call 30; exact hq.out _))
        go_wp2_with (fail)
        go_roundw
        case rel => exact ⟨k + 1, by go_num, (fun j hj h => by
          by_cases hjk : j = k
          · subst hjk; rw [← HLB.out]; exact HLE.out
          · exact HA.out j (by omega) h), m + nq, by rw [HV.out]; simp⟩
        case measure => simp [intOf]; omega
      | false =>
        rw [hless] at hq
        have HLE := Lib.hid hless
        clear hless
        go_wp2_with (fail)
        go_quiet ((go_at_call 30; exact hq.out _))
        go_wp2_with (fail)
        go_ret
        refine ⟨?_, m + nq, by rw [HV.out]; simp⟩
        rw [riseB_no hlt (by rw [← HLB.out]; exact HLE.out)]; rfl
    · go_wp2_with (fail)
      go_ret
      refine ⟨?_, m, rfl⟩
      rw [(riseB_iff l).2 (fun j h => HA.out j (by omega) h)]; rfl
set_option maxRecDepth 100000 in
set_option maxHeartbeats 4000000 in
/-- Two lists of the same steps are told to be the same. -/
theorem ref_same (a b : Option Addr) (X : List DStep) (ca cb : Nat) (w : World) (ha : Steps w a X) (hb : Steps w b X) (hl : X.length ≤ 1000) :
    Calls Try.prog 18 #[.slice a X.length ca, .slice b X.length cb] w fun e w' => e = .returned (.bool true) ∧ ∃ m, w' = w.drewN m := by
  have Ha := Lib.hid ha
  have Hb := Lib.hid hb
  have hp27 : Try.prog.stoodInHeld 27 = false := by kernel_rfl
  have hg27 : Try.prog.eqGuardType Try.prog.depth 27 = false := by kernel_rfl
  have hp59 : Try.prog.stoodInHeld 59 = false := by kernel_rfl
  have hg59 : Try.prog.eqGuardType Try.prog.depth 59 = false := by kernel_rfl
  have h1 : ((X.length : Int) != (X.length : Int)) = false := by simp
  clear ha hb
  go_enter Try.func18, Try.ntmps18
  go_wp2_with (fail)
  go_loopw [5] (fun i wr => ∃ k : Nat, k ≤ X.length ∧ i = .int .i64 k ∧ ∃ m, wr = w.drewN m) (fun i _ => X.length - (intOf i).toNat)
  case atStart => exact ⟨0, Nat.zero_le _, rfl, 0, rfl⟩
  case round =>
    obtain ⟨k, hk, rfl, m, rfl⟩ := hrel
    obtain ⟨V, hV⟩ : ∃ V, V = w.drewN m := ⟨_, rfl⟩
    by_cases hlt : k < X.length
    · have Ha' : Steps V a X := by rw [hV]; exact Ha.out.drewN m
      have Hb' : Steps V b X := by rw [hV]; exact Hb.out.drewN m
      obtain ⟨b1, o1, rfl, g1⟩ := Ha'.at_ hlt
      obtain ⟨b2, o2, rfl, g2⟩ := Hb'.at_ hlt
      obtain ⟨x, hx⟩ : ∃ x, x = X[k] := ⟨_, rfl⟩
      rw [← hx] at g1 g2
      rw [← hV]
      have p0 : V.cell? ⟨b1, o1 + k * 6, none⟩ = some (.string x.user) := g1 0 _ rfl
      have p1 : V.cell? ⟨b1, o1 + k * 6 + 1, none⟩ = some (.string x.item.user) := g1 1 _ rfl
      have p2 : V.cell? ⟨b1, o1 + k * 6 + 2, none⟩ = some (.string x.item.name) := g1 2 _ rfl
      have p3 : V.cell? ⟨b1, o1 + k * 6 + 3, none⟩ = some (.int .i64 x.item.sub) := g1 3 _ rfl
      have p4 : V.cell? ⟨b1, o1 + k * 6 + 4, none⟩ = some (.bool x.item.asked) := g1 4 _ rfl
      have p5 : V.cell? ⟨b1, o1 + k * 6 + 5, none⟩ = some (.bool x.gone) := g1 5 _ rfl
      have q0 : V.cell? ⟨b2, o2 + k * 6, none⟩ = some (.string x.user) := g2 0 _ rfl
      have q1 : V.cell? ⟨b2, o2 + k * 6 + 1, none⟩ = some (.string x.item.user) := g2 1 _ rfl
      have q2 : V.cell? ⟨b2, o2 + k * 6 + 2, none⟩ = some (.string x.item.name) := g2 2 _ rfl
      have q3 : V.cell? ⟨b2, o2 + k * 6 + 3, none⟩ = some (.int .i64 x.item.sub) := g2 3 _ rfl
      have q4 : V.cell? ⟨b2, o2 + k * 6 + 4, none⟩ = some (.bool x.item.asked) := g2 4 _ rfl
      have q5 : V.cell? ⟨b2, o2 + k * 6 + 5, none⟩ = some (.bool x.gone) := g2 5 _ rfl
      have hkI : (k : Int) < X.length := by omega
      have HV := Lib.hid hV
      clear g1 g2 Ha' Hb' hx hV
      go_wp2_with (fail)
      go_quiet (fail)
      go_wp2_with (fail)
      go_roundw
      case rel => exact ⟨k + 1, by omega, by go_num, m + nq, by rw [HV.out]; simp⟩
      case measure => simp [intOf]; omega
    · obtain rfl : k = X.length := by omega
      go_wp2_with (fail)
      go_ret
      exact ⟨rfl, m, rfl⟩
end Go.Proofs.Ytfedaolpanncoaa
