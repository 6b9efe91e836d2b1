/- sync.Once at a Replacer, not yet done: what it has done is done once. No condition. -/
import Derived.Test.YtbpbghmhenilcaaDoorOnce
import Derived.Shelf.Abstract
namespace Go.Proofs.YtbpbghmhenilcaaDoor
open Go.RowKit

theorem load_f (a : Addr) (x : Int) (w : World) (h : w.cell? a = some (.int .u32 x)) :
    Calls Tryd.prog 42 #[.pointer (some a)] w fun e w' => e = .returned (.bool (x != 0)) ∧ w' = w := by
  have hl := run_call_load (P := Tryd.prog) Tryd.func47 (by kernel_rfl) (by kernel_rfl) (by kernel_rfl) .u32 (by kernel_rfl) h
  obtain ⟨B, hB⟩ : ∃ B, B = (x != 0) := ⟨_, rfl⟩
  have HB := Lib.hid hB
  rw [← hB]
  have hx : (x != 0) = B := hB.symm
  clear hB
  go_enter Tryd.func42, Tryd.ntmps42
  go_wp2
  go_ret
  exact ⟨rfl, rfl⟩
/-- A Replacer's cells. -/
def RepRow (w : World) (b : Nat) (d s : Int) (v3 v4 : Value) : Prop := Row w b [.int .u32 d, .int .i32 s, .int .u32 0, v3, v4] 78
set_option maxRecDepth 100000 in
set_option maxHeartbeats 4000000 in
theorem slow_once {P : Value → World → Prop} (b : Nat) (hP : ∀ v w1 w2, P v w1 → Fr (fun q => q = b) w1 w2 → P v w2) (v3 v4 : Value) (w : World) (h : RepRow w b 0 0 v3 v4)
    (hF : ∀ W, Fr (fun q => q = b) w W → RepRow W b 0 1 v3 v4 → Calls Tryd.prog 38 #[.pointer (some ⟨b, 0, none⟩)] W fun e w' => e = .returned (.tuple #[]) ∧ ∃ v5, RepRow w' b 0 1 v5 (.slice none 0 0) ∧ Fr (fun q => q = b) W w' ∧ P v5 w') :
    Calls Tryd.prog 43 #[.pointer (some ⟨b, 0, none⟩), .func (.func 38) #[.pointer (some ⟨b, 0, none⟩)] #[]] w fun e w' => e = .returned (.tuple #[]) ∧ ∃ v5, RepRow w' b 1 0 v5 (.slice none 0 0) ∧ Fr (fun q => q = b) w w' ∧ P v5 w' := by
  have c1 := Row.cell h 1 rfl
  have f1 := Row.free h 1
  obtain ⟨w1, hw1⟩ : ∃ w1, w1 = w.setCell ⟨b, 1, none⟩ (.int .i32 1) := ⟨_, rfl⟩
  have h1 : RepRow w1 b 0 1 v3 v4 := by rw [hw1]; exact Row.set h 1 (.int .i32 1)
  have F1 : Fr (fun q => q = b) w w1 := by rw [hw1]; exact Fr.setCell (S := fun q => q = b) (p := ⟨b, 1, none⟩) rfl _
  have c0 := Row.cell h1 0 rfl
  have HLd := Lib.hid (load_f ⟨b, 0, none⟩ 0 w1 c0)
  have hnot : ∀ (x : Bool) (w : World), (Op.unary .not (.bool x)).run Tryd.prog w = .ok (.bool (!x)) w := fun _ _ => rfl
  have eg : ∀ args w, (callFunc 38 args).run Tryd.prog w = .ok (.enter 38 args) w := enters_of Tryd.func38 (by kernel_rfl) rfl
  have HF := Lib.hid (hF w1 F1 h1)
  have HW := Lib.hid hw1
  clear hF hw1
  go_enter_defers Tryd.func43, Tryd.ntmps43
  go_wp2_with (first
    | (go_at_call 48; refine (lock_free ⟨b, 1, none⟩ _ c1 f1).mono ?_; rintro e w' ⟨rfl, hw'⟩; rw [← HW.out] at hw'; subst hw')
    | (go_at_call 42; refine HLd.out.mono ?_; rintro e w'' ⟨rfl, hw''⟩; subst hw'')
    | (go_at_call 38; refine HF.out.mono ?_; rintro e w2 ⟨rfl, v5, h2, F2, p2⟩))
  refine leaves_cons (f := 50) (args := #[.pointer (some ⟨b, 0, none⟩), .bool true]) (by simp) (by simp [go_sem]) ?_
  refine (store_deferred ⟨b, 0, none⟩ (.int .u32 0) _ w2 (Row.cell h2 0 rfl) (Row.free h2 0)).mono ?_
  rintro e u' w3 ⟨rfl, rfl, hw3⟩
  have h3 : RepRow w3 b 1 1 v5 (.slice none 0 0) := by
    have := Row.set (Row.fr h2 (Fr.drew Nothing w2) (fun h => h)) 0 (.int .u32 1)
    rw [← hw3] at this; exact this
  have F3 : Fr (fun q => q = b) w2 w3 := by
    rw [hw3]
    exact (Fr.drew _ w2).trans' (Fr.setCell (S := fun q => q = b) (p := ⟨b, 0, none⟩) rfl _)
  refine leaves_cons (f := 49) (args := #[.pointer (some ⟨b, 1, none⟩)]) (by simp [settle]) (by simp [go_sem]) ?_
  refine (unlock_deferred ⟨b, 1, none⟩ _ w3 (Row.cell h3 1 rfl) (Row.free h3 1)).mono ?_
  rintro e u'' w4 ⟨rfl, rfl, hw4⟩
  have h4 : RepRow w4 b 1 0 v5 (.slice none 0 0) := by
    have := Row.set h3 1 (.int .i32 0)
    rw [← hw4] at this; exact this
  have F4 : Fr (fun q => q = b) w3 w4 := by rw [hw4]; exact Fr.setCell (S := fun q => q = b) (p := ⟨b, 1, none⟩) rfl _
  have key : ∃ v5, RepRow w4 b 1 0 v5 (.slice none 0 0) ∧ Fr (fun q => q = b) w w4 ∧ P v5 w4 := ⟨v5, h4, ((F1.trans' F2).trans' F3).trans' F4, hP v5 w2 w4 p2 (F3.trans' F4)⟩
  simp [Leaves, settle, results, Tryd.results43]
  exact key
set_option maxRecDepth 100000 in
set_option maxHeartbeats 4000000 in
theorem once_do {P : Value → World → Prop} (b : Nat) (hP : ∀ v w1 w2, P v w1 → Fr (fun q => q = b) w1 w2 → P v w2) (v3 v4 : Value) (w : World) (h : RepRow w b 0 0 v3 v4)
    (hF : ∀ W, Fr (fun q => q = b) w W → RepRow W b 0 1 v3 v4 → Calls Tryd.prog 38 #[.pointer (some ⟨b, 0, none⟩)] W fun e w' => e = .returned (.tuple #[]) ∧ ∃ v5, RepRow w' b 0 1 v5 (.slice none 0 0) ∧ Fr (fun q => q = b) W w' ∧ P v5 w') :
    Calls Tryd.prog 37 #[.pointer (some ⟨b, 0, none⟩), .func (.func 38) #[.pointer (some ⟨b, 0, none⟩)] #[]] w fun e w' => e = .returned (.tuple #[]) ∧ ∃ v5, RepRow w' b 1 0 v5 (.slice none 0 0) ∧ Fr (fun q => q = b) w w' ∧ P v5 w' := by
  have HL := Lib.hid (load_f ⟨b, 0, none⟩ 0 w (Row.cell h 0 rfl))
  have HS := Lib.hid (slow_once b hP v3 v4 w h hF)
  have hnot : ∀ (x : Bool) (w : World), (Op.unary .not (.bool x)).run Tryd.prog w = .ok (.bool (!x)) w := fun _ _ => rfl
  clear hF h
  go_enter Tryd.func37, Tryd.ntmps37
  go_wp2_with (first
    | (go_at_call 42; refine HL.out.mono ?_; rintro e w'' ⟨rfl, hw''⟩; subst hw'')
    | (go_at_call 43; refine HS.out.mono ?_; rintro e w2 ⟨rfl, hR⟩))
  go_end0
  exact ⟨rfl, hR⟩
end Go.Proofs.YtbpbghmhenilcaaDoor
