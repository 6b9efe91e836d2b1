/- front.Front: a ledger or none, what waits, idle, away, over. No condition. -/
import Derived.Test.YtklpjnjhaodpkaaCalm
import Derived.Test.YtklpjnjhaodpkaaLedger
import Derived.Test.YtklpjnjhaodpkaaConcT
import Derived.Deep.LoopGhost
namespace Go.Proofs.Ytklpjnjhaodpkaa
open Go.RowKit

/-- A front's state. -/
structure FS where
  led : Option (Int × Int × List ByteArray)
  calm : List (ByteArray × ByteArray)
  idle : Bool
  away : Bool
  over : Bool
def LedOf (SL : Nat → Prop) (w : World) (lv : Value) : Option (Int × Int × List ByteArray) → Prop
  | none => lv = .pointer none ∧ ∀ k, ¬ SL k
  | some t => ∃ q, lv = .pointer (some ⟨q, 0, none⟩) ∧ IsLed SL w q 12 t.1 t.2.1 t.2.2
structure FrontAt (w : World) (p : Nat) (lv : Value) (cp : Nat) (SL SC : Nat → Prop) (s : FS) : Prop where
  head : Row w p [lv, .pointer (some ⟨cp, 0, none⟩), .bool s.idle, .bool s.away, .bool s.over] 52
  calm : IsCalm SC w cp 6 s.calm
  led : LedOf SL w lv s.led
  nc : ¬ SC p
  nl : ¬ SL p
  cl : ∀ k, SC k → ¬ SL k
def IsFront (S : Nat → Prop) (w : World) (p : Nat) (s : FS) : Prop := ∃ lv cp SL SC, FrontAt w p lv cp SL SC s ∧ ∀ k, S k ↔ (k = p ∨ SC k ∨ SL k)

section
variable {w w' : World} {p cp : Nat} {lv : Value} {S T SL SC : Nat → Prop} {s : FS}
theorem LedOf.fr {o : Option (Int × Int × List ByteArray)} (h : LedOf SL w lv o) (F : Fr T w w') (hd : ∀ k, SL k → ¬ T k) : LedOf SL w' lv o := by
  cases o with
  | none => exact h
  | some t => obtain ⟨q, h1, h2⟩ := h; exact ⟨q, h1, h2.fr F hd⟩
theorem LedOf.lt {o : Option (Int × Int × List ByteArray)} (h : LedOf SL w lv o) {k : Nat} (hk : SL k) : k < w.heap.size := by
  cases o with
  | none => exact absurd hk (h.2 k)
  | some t => obtain ⟨q, h1, h2⟩ := h; exact h2.lt hk
theorem FrontAt.fr (h : FrontAt w p lv cp SL SC s) (F : Fr T w w') (hp : ¬ T p) (hc : ∀ k, SC k → ¬ T k) (hl : ∀ k, SL k → ¬ T k) : FrontAt w' p lv cp SL SC s :=
  ⟨h.head.fr F hp, h.calm.fr F hc, h.led.fr F hl, h.nc, h.nl, h.cl⟩
theorem IsFront.fr (h : IsFront S w p s) (F : Fr T w w') (hd : ∀ k, S k → ¬ T k) : IsFront S w' p s := by
  obtain ⟨lv, cp, SL, SC, ha, hS⟩ := h
  exact ⟨lv, cp, SL, SC, ha.fr F (hd p ((hS p).2 (.inl rfl))) (fun k hk => hd k ((hS k).2 (.inr (.inl hk)))) (fun k hk => hd k ((hS k).2 (.inr (.inr hk)))), hS⟩
theorem IsFront.quiet (h : IsFront S w p s) (F : Fr Nothing w w') : IsFront S w' p s := h.fr F (fun _ _ h => h)
theorem IsFront.drewN (h : IsFront S w p s) (n : Nat) : IsFront S (w.drewN n) p s := h.quiet (Fr.drewN _ _ _)
theorem IsFront.lt (h : IsFront S w p s) {k : Nat} (hk : S k) : k < w.heap.size := by
  obtain ⟨lv, cp, SL, SC, ha, hS⟩ := h
  rcases (hS k).1 hk with rfl | h1 | h1
  · exact ha.head.lt
  · exact ha.calm.lt h1
  · exact ha.led.lt h1
theorem IsFront.calmLe (h : IsFront S w p s) : s.calm.length ≤ 6 := by
  obtain ⟨lv, cp, SL, SC, ha, hS⟩ := h
  obtain ⟨b, v, hr, _⟩ := ha.calm
  exact hr.le
theorem IsFront.calmNd (h : IsFront S w p s) : (s.calm.map Prod.fst).Nodup := by
  obtain ⟨lv, cp, SL, SC, ha, hS⟩ := h
  obtain ⟨b, v, hr, _⟩ := ha.calm
  exact hr.nd
theorem IsFront.ledLe (h : IsFront S w p s) {t : Int × Int × List ByteArray} (ht : s.led = some t) : t.2.2.length ≤ 12 := by
  obtain ⟨lv, cp, SL, SC, ha, hS⟩ := h
  have := ha.led
  rw [ht] at this
  obtain ⟨q, _, h2⟩ := this
  exact h2.le

/-- A front that a call left, and where it lies. -/
def FrontGone (S : Nat → Prop) (w : World) (p : Nat) (s' : FS) (w' : World) : Prop :=
  ∃ S', IsFront S' w' p s' ∧ (∀ k, S' k → S k ∨ w.heap.size ≤ k) ∧ Fr S w w'

theorem front_over (h : IsFront S w p s) :
    Calls Try.prog 21 #[.pointer (some ⟨p, 0, none⟩)] w fun e w' => e = .returned (.bool s.over) ∧ w = w' := by
  obtain ⟨lv, cp, SL, SC, ha, hS⟩ := h
  have h4 := ha.head.cell 4 rfl
  clear ha hS
  go_enter Try.func21, Try.ntmps21
  go_wp2_with (fail)
  go_ret
  exact ⟨rfl, rfl⟩
theorem front_there (h : IsFront S w p s) :
    Calls Try.prog 22 #[.pointer (some ⟨p, 0, none⟩)] w fun e w' => e = .returned (.bool (!s.over && !s.away)) ∧ w = w' := by
  have ho := front_over h
  obtain ⟨lv, cp, SL, SC, ha, hS⟩ := h
  have h3 := ha.head.cell 3 rfl
  clear ha hS
  cases hv : s.over <;> rw [hv] at ho
  · go_enter Try.func22, Try.ntmps22
    go_wp2_with (fail)
    refine ho.mono ?_
    rintro e w1 ⟨rfl, rfl⟩
    go_wp2_with (fail)
    go_ret
    exact ⟨by simp, rfl⟩
  · go_enter Try.func22, Try.ntmps22
    go_wp2_with (fail)
    refine ho.mono ?_
    rintro e w1 ⟨rfl, rfl⟩
    go_wp2_with (fail)
    go_ret
    exact ⟨by simp, rfl⟩
theorem front_waits (h : IsFront S w p s) :
    Calls Try.prog 10 #[.pointer (some ⟨p, 0, none⟩)] w fun e w' => e = .returned (.int .i64 s.calm.length) ∧ w = w' := by
  obtain ⟨lv, cp, SL, SC, ha, hS⟩ := h
  have h1 := ha.head.cell 1 rfl
  have hc := calm_len ha.calm
  clear ha hS
  go_enter Try.func10, Try.ntmps10
  go_wp2_with (fail)
  refine hc.mono ?_
  rintro e w1 ⟨rfl, rfl⟩
  go_wp2_with (fail)
  go_ret
  exact ⟨rfl, rfl⟩
def FS.keeps (s : FS) : Bool := !s.over && s.led.isSome
theorem front_keeps (h : IsFront S w p s) :
    Calls Try.prog 31 #[.pointer (some ⟨p, 0, none⟩)] w fun e w' => e = .returned (.bool s.keeps) ∧ w = w' := by
  obtain ⟨lv, cp, SL, SC, ha, hS⟩ := h
  have h4 := ha.head.cell 4 rfl
  have h0 := ha.head.cell 0 rfl
  have hl := ha.led
  clear ha hS
  cases hv : s.over <;> rw [hv] at h4 <;> cases hd : s.led <;> rw [hd] at hl
  · obtain ⟨rfl, _⟩ := hl
    have hk : s.keeps = false := by simp [FS.keeps, hd]
    rw [hk]
    clear hv hd hk
    go_enter Try.func31, Try.ntmps31
    go_wp2_with (fail)
    go_ret
    exact ⟨rfl, rfl⟩
  · obtain ⟨q, rfl, _⟩ := hl
    have hk : s.keeps = true := by simp [FS.keeps, hd, hv]
    rw [hk]
    clear hv hd hk
    go_enter Try.func31, Try.ntmps31
    go_wp2_with (fail)
    go_ret
    exact ⟨rfl, rfl⟩
  all_goals
    have hk : s.keeps = false := by simp [FS.keeps, hv]
    rw [hk]
    clear hv hd hk
    go_enter Try.func31, Try.ntmps31
    go_wp2_with (fail)
    go_ret
    exact ⟨rfl, rfl⟩
end
end Go.Proofs.Ytklpjnjhaodpkaa
