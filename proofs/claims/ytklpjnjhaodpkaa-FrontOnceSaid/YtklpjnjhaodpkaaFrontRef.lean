/- The reference's front: what it assigns, and what waits. Condition: IsRF, as New makes it and each call keeps it. -/
import Derived.Test.YtklpjnjhaodpkaaFrontBack
import Derived.Test.YtklpjnjhaodpkaaLedRef
import Derived.Test.YtklpjnjhaodpkaaCalmRef
import Derived.Deep.RegionLaw
namespace Go.Proofs.Ytklpjnjhaodpkaa
open Go.RowKit

structure RS where
  keeps : Bool
  A : List ByteArray
  done : Nat
  C : List (ByteArray × ByteArray)
  idle : Bool
  over : Bool
structure RFAt (w : World) (q lq cq : Nat) (vA : Value) (SL SC : Nat → Prop) (r : RS) : Prop where
  head : Row w q [.bool false, .bool r.over, .bool r.idle, .bool r.keeps, .pointer (some ⟨lq, 0, none⟩), .pointer (some ⟨cq, 0, none⟩), vA] 47
  led : IsLedRef SL w lq 12 0 r.done 0 r.A
  calm : IsCRef SC w cq 6 r.C
  own : Owns w 9 1 vA r.A.length (r.A.map Value.string)
  nl : ¬ SL q
  nc : ¬ SC q
  na : ¬ InBlock vA q
  lc : ∀ k, SL k → ¬ SC k
  la : ∀ k, SL k → ¬ InBlock vA k
  ca : ∀ k, SC k → ¬ InBlock vA k
def IsRF (S : Nat → Prop) (w : World) (q : Nat) (r : RS) : Prop := ∃ lq cq vA SL SC, RFAt w q lq cq vA SL SC r ∧ ∀ k, S k ↔ (k = q ∨ SL k ∨ SC k ∨ InBlock vA k)

section
variable {w w' : World} {q lq cq : Nat} {vA : Value} {S T SL SC : Nat → Prop} {r : RS}
theorem RFAt.fr (h : RFAt w q lq cq vA SL SC r) (F : Fr T w w') (hq : ¬ T q) (hl : ∀ k, SL k → ¬ T k) (hc : ∀ k, SC k → ¬ T k) (ha : ∀ k, InBlock vA k → ¬ T k) : RFAt w' q lq cq vA SL SC r :=
  ⟨h.head.fr F hq, h.led.fr F hl, h.calm.fr F hc, h.own.fr F ha, h.nl, h.nc, h.na, h.lc, h.la, h.ca⟩
theorem IsRF.fr (h : IsRF S w q r) (F : Fr T w w') (hd : ∀ k, S k → ¬ T k) : IsRF S w' q r := by
  obtain ⟨lq, cq, vA, SL, SC, ha, hS⟩ := h
  exact ⟨lq, cq, vA, SL, SC, ha.fr F (hd q ((hS q).2 (.inl rfl))) (fun k hk => hd k ((hS k).2 (.inr (.inl hk)))) (fun k hk => hd k ((hS k).2 (.inr (.inr (.inl hk))))) (fun k hk => hd k ((hS k).2 (.inr (.inr (.inr hk))))), hS⟩
theorem IsRF.quiet (h : IsRF S w q r) (F : Fr Nothing w w') : IsRF S w' q r := h.fr F (fun _ _ h => h)
theorem IsRF.lt (h : IsRF S w q r) {k : Nat} (hk : S k) : k < w.heap.size := by
  obtain ⟨lq, cq, vA, SL, SC, ha, hS⟩ := h
  rcases (hS k).1 hk with rfl | h1 | h1 | h1
  · exact ha.head.lt
  · exact ha.led.lt h1
  · exact ha.calm.lt h1
  · exact ha.own.lt h1
theorem IsRF.doneLe (h : IsRF S w q r) : r.done ≤ r.A.length := by
  obtain ⟨lq, cq, vA, SL, SC, ha, hS⟩ := h
  obtain ⟨v, hr, _⟩ := ha.led
  exact hr.dl
/-- The reference's front after a call: it has grown into new blocks alone. -/
def RFGone (S : Nat → Prop) (w : World) (q : Nat) (r' : RS) (w' : World) : Prop :=
  ∃ S', IsRF S' w' q r' ∧ (∀ k, S' k → S k ∨ w.heap.size ≤ k) ∧ Fr S w w'
theorem RFGone.same (h : IsRF S w q r) : RFGone S w q r w := ⟨S, h, fun _ h => .inl h, Fr.refl _ _⟩
theorem RFGone.trans {r' r2 : RS} {w2 : World} (h : RFGone S w q r' w') (h2 : ∀ S', IsRF S' w' q r' → RFGone S' w' q r2 w2) : RFGone S w q r2 w2 := by
  obtain ⟨S', h1, hS, f⟩ := h
  obtain ⟨S2, h3, hS2, f2⟩ := h2 S' h1
  refine ⟨S2, h3, fun k hk => ?_, f.trans f2 (fun k hk h => ?_)⟩
  · rcases hS2 k hk with h4 | h4
    · exact hS k h4
    · exact .inr (Nat.le_trans f.size h4)
  · rcases hS k h with h4 | h4
    · exact h4
    · omega

/-- A ledger that was turned, within the front. -/
theorem RFAt.leds {SL' : Nat → Prop} {d : Nat} {A' : List ByteArray} (h : RFAt w q lq cq vA SL SC r) (hl : IsLedRef SL' w' lq 12 0 d 0 A') (hs : ∀ k, SL' k → SL k ∨ w.heap.size ≤ k) (f : Fr SL w w')
    {vB : Value} {wB : World} (hB : Owns wB 9 1 vB A'.length (A'.map Value.string)) (fB : Fr (fun k => k = q ∨ InBlock vA k) w' wB) (hnB : NewOr w' vA vB)
    (hh : Row wB q [.bool false, .bool r.over, .bool r.idle, .bool r.keeps, .pointer (some ⟨lq, 0, none⟩), .pointer (some ⟨cq, 0, none⟩), vB] 47) :
    RFAt wB q lq cq vB SL' SC { r with A := A', done := d } := by
  have hlt := fun k hk => h.led.lt (k := k) hk
  have hct := fun k hk => h.calm.lt (k := k) hk
  have hat := fun k hk => h.own.lt (k := k) hk
  have hqt := h.head.lt
  have hlt' := fun k hk => hl.lt (k := k) hk
  have nq : ¬ SL' q := fun hk => by
    rcases hs q hk with h1 | h1
    · exact h.nl h1
    · omega
  have la' : ∀ k, SL' k → ¬ InBlock vA k := fun k hk ha => by
    rcases hs k hk with h1 | h1
    · exact h.la k h1 ha
    · have := hat k ha; omega
  have fs := f.size
  refine ⟨hh, hl.fr fB (fun k hk e => ?_), (h.calm.fr f (fun k hk hl => h.lc k hl hk)).fr fB (fun k hk e => ?_), hB, nq, h.nc, fun hb => ?_, fun k hk hc => ?_, fun k hk hb => ?_, fun k hk hb => ?_⟩
  · rcases e with rfl | e
    · exact nq hk
    · exact la' k hk e
  · rcases e with rfl | e
    · exact h.nc hk
    · exact h.ca k hk e
  · rcases hnB q hb with h1 | h1
    · exact h.na h1
    · omega
  · rcases hs k hk with h1 | h1
    · exact h.lc k h1 hc
    · have := hct k hc; omega
  · rcases hnB k hb with h1 | h1
    · exact la' k hk h1
    · have := hlt' k hk; omega
  · rcases hnB k hb with h1 | h1
    · exact h.ca k hk h1
    · have := hct k hk; omega

/-- What New gives. -/
def RFNew (w : World) (e : Ending) (w' : World) : Prop :=
  ∃ q S, e = .returned (.pointer (some ⟨q, 0, none⟩)) ∧ IsRF S w' q ⟨false, [], 0, [], false, false⟩ ∧ (∀ k, S k → w.heap.size ≤ k) ∧ Fr Nothing w w'
theorem rf_new (w : World) : Calls Try.prog 17 #[] w (RFNew w) := by
  go_enter Try.func17, Try.ntmps17
  go_wp2_with (fail)
  refine (lref_new 12 12 0 _ (by decide) ⟨by decide, by decide⟩).mono ?_
  rintro e w1 ⟨lq, SL, rfl, hl, hSL, f1⟩
  go_wp2_with (fail)
  refine (cref_new 6 6 _ (by decide)).mono ?_
  rintro e w2 ⟨cq, SC, rfl, hc, hSC, f2⟩
  go_wp2_with (fail)
  go_ret
  have fa := Fr.alloc Nothing w2 (.cells #[.bool false, .bool false, .bool false, .bool false, .pointer (some ⟨lq, 0, none⟩), .pointer (some ⟨cq, 0, none⟩), .slice none 0 0] 47)
  have hl2 := hl.fr f2 (fun _ _ h => h)
  have no : ∀ k, ¬ InBlock (.slice none 0 0) k := fun k hk => by simp [InBlock, Value.ownBlock] at hk
  refine ⟨w2.heap.size, fun k => k = w2.heap.size ∨ SL k ∨ SC k ∨ InBlock (.slice none 0 0) k, rfl, ⟨lq, cq, .slice none 0 0, SL, SC, ⟨Row.allocNew w2 [.bool false, .bool false, .bool false, .bool false, .pointer (some ⟨lq, 0, none⟩), .pointer (some ⟨cq, 0, none⟩), .slice none 0 0] _, hl2.fr fa (fun _ _ h => h), hc.fr fa (fun _ _ h => h), Owns.nil _ _ _,
    fun h => by have := hl2.lt h; omega, fun h => by have := hc.lt h; omega, no _, fun k h1 h2 => by have := hl.lt h1; have := hSC k h2; omega, fun k _ => no k, fun k _ => no k⟩, fun _ => Iff.rfl⟩, fun k hk => ?_, (f1.trans' f2).trans' fa⟩
  rcases hk with rfl | h | h | h
  · exact Nat.le_trans f1.size f2.size
  · exact hSL k h
  · exact Nat.le_trans f1.size (hSC k h)
  · exact absurd h (no k)

theorem rf_setKeeps (h : RFAt w q lq cq vA SL SC r) (b : Bool) : RFAt (w.setCell ⟨q, 3, none⟩ (.bool b)) q lq cq vA SL SC { r with keeps := b } := by
  have f : Fr (fun z => z = q) w (w.setCell ⟨q, 3, none⟩ (.bool b)) := Fr.setCell (S := fun z => z = q) (p := ⟨q, 3, none⟩) rfl _
  exact ⟨h.head.set 3 _, h.led.fr f (fun k hk e => h.nl (e ▸ hk)), h.calm.fr f (fun k hk e => h.nc (e ▸ hk)), h.own.fr f (fun k hk e => h.na (e ▸ hk)), h.nl, h.nc, h.na, h.lc, h.la, h.ca⟩
theorem rf_setIdle (h : RFAt w q lq cq vA SL SC r) (b : Bool) : RFAt (w.setCell ⟨q, 2, none⟩ (.bool b)) q lq cq vA SL SC { r with idle := b } := by
  have f : Fr (fun z => z = q) w (w.setCell ⟨q, 2, none⟩ (.bool b)) := Fr.setCell (S := fun z => z = q) (p := ⟨q, 2, none⟩) rfl _
  exact ⟨h.head.set 2 _, h.led.fr f (fun k hk e => h.nl (e ▸ hk)), h.calm.fr f (fun k hk e => h.nc (e ▸ hk)), h.own.fr f (fun k hk e => h.na (e ▸ hk)), h.nl, h.nc, h.na, h.lc, h.la, h.ca⟩
theorem rf_setOver (h : RFAt w q lq cq vA SL SC r) (b : Bool) : RFAt (w.setCell ⟨q, 1, none⟩ (.bool b)) q lq cq vA SL SC { r with over := b } := by
  have f : Fr (fun z => z = q) w (w.setCell ⟨q, 1, none⟩ (.bool b)) := Fr.setCell (S := fun z => z = q) (p := ⟨q, 1, none⟩) rfl _
  exact ⟨h.head.set 1 _, h.led.fr f (fun k hk e => h.nl (e ▸ hk)), h.calm.fr f (fun k hk e => h.nc (e ▸ hk)), h.own.fr f (fun k hk e => h.na (e ▸ hk)), h.nl, h.nc, h.na, h.lc, h.la, h.ca⟩

theorem rf_keep (h : IsRF S w q ⟨false, [], 0, [], false, false⟩) :
    Calls Try.prog 18 #[.pointer (some ⟨q, 0, none⟩)] w fun e w' => e = .returned (.int .i64 0) ∧ RFGone S w q ⟨true, [], 0, [], false, false⟩ w' := by
  obtain ⟨lq, cq, vA, SL, SC, ha, hS⟩ := h
  have h0 := ha.head.cell 0 rfl
  have h1 := ha.head.cell 1 rfl
  have h3 := ha.head.cell 3 rfl
  have p3 := ha.head.free 3
  have Ha := Lib.hid ha
  have HS := Lib.hid hS
  clear ha hS
  go_enter Try.func18, Try.ntmps18
  go_wp2_with (fail)
  go_ret
  exact ⟨rfl, S, ⟨lq, cq, vA, SL, SC, rf_setKeeps Ha.out true, HS.out⟩, fun _ h => .inl h, Fr.setCell (S := S) (p := ⟨q, 3, none⟩) ((HS.out q).2 (.inl rfl)) _⟩
end
end Go.Proofs.Ytklpjnjhaodpkaa
