/- The Replacer that escapes: how it is made, and what stands behind its once. No condition. -/
import Derived.Test.YtbpbghmhenilcaaDoorRepl
namespace Go.Proofs.YtbpbghmhenilcaaDoor
open Go.RowKit

/-- The table at t, as it lies apart from block b. -/
structure TabOk (b t : Nat) (w : World) : Prop where
  ne : t ≠ b
  row : ∃ (v : Nat → Value) (tv : Value), Row w t (tabCells v tv) 99 ∧
    (∀ c, (∀ j, j < 5 → (keyB j).toNat ≠ c) → v c = .slice none 0 0) ∧
    (∀ j, j < 5 → ∃ g cap, v (keyB j).toNat = .slice (some ⟨g, 0, none⟩) (txtB j).size cap ∧ g ≠ b ∧ Sl w (some ⟨g, 0, none⟩) (byteCells (strB (txtB j)))) ∧
    Owns w 9 1 tv 5 ((keysR 5).map Value.string) ∧ (∀ k, InBlock tv k → k ≠ b)
theorem TabOk.fr {b t : Nat} {w w' : World} (h : TabOk b t w) (F : Fr (fun q => q = b) w w') : TabOk b t w' := by
  obtain ⟨hne, v, tv, h1, h2, h3, h4, h5⟩ := h
  refine ⟨hne, v, tv, h1.fr F hne, h2, fun j hj => ?_, h4.fr F (fun k hk e => h5 k hk e), h5⟩
  obtain ⟨g, cap, e1, e2, e3⟩ := h3 j hj
  exact ⟨g, cap, e1, e2, Sl.fr e3 F (fun ad h e => by cases h; exact e2 e)⟩
theorem TabAt.ok {w0 w : World} {t b : Nat} (hb : b < w0.heap.size) (h : TabAt w0 t 5 w) : TabOk b t w := by
  obtain ⟨v, tv, h1, h2, h3, O, hO, h4, h5⟩ := h.row
  have hn := h.new
  refine ⟨by omega, v, tv, h1, fun c hc => h2 c (fun j _ hj => hc j hj), fun j hj => ?_, by rw [← hO]; exact h4, fun k hk => by have := (h5 k hk).1; omega⟩
  obtain ⟨g, cap, e1, e2, e3, e4, e5⟩ := h3 j (by omega) hj
  exact ⟨g, cap, e1, by omega, e5⟩
/-- What stands in the Replacer behind its once. -/
def RepP (b : Nat) (v : Value) (w : World) : Prop := ∃ t, v = .iface 100 (.pointer (some ⟨t, 0, none⟩)) ∧ TabOk b t w
theorem repP_fr (b : Nat) (v : Value) (w1 w2 : World) (h : RepP b v w1) (F : Fr (fun q => q = b) w1 w2) : RepP b v w2 := by
  obtain ⟨t, e, h⟩ := h
  exact ⟨t, e, h.fr F⟩
set_option maxRecDepth 100000 in
set_option maxHeartbeats 4000000 in
theorem buildOnce_f (b : Nat) (v3 : Value) (a : Option Addr) (c : Nat) (w : World) (hR : RepRow w b 0 1 v3 (.slice a 10 c)) (hT : Txt w a oldnew) :
    Calls Tryd.prog 38 #[.pointer (some ⟨b, 0, none⟩)] w fun e w' => e = .returned (.tuple #[]) ∧ ∃ v5, RepRow w' b 0 1 v5 (.slice none 0 0) ∧ Fr (fun q => q = b) w w' ∧ RepP b v5 w' := by
  have HB := Lib.hid (build_f b v3 a c w hR hT)
  have hlt : b < w.heap.size := Row.lt hR
  go_enter Tryd.func38, Tryd.ntmps38
  go_wp2_with (go_at_call 44; refine HB.out.mono ?_)
  rintro e w1 ⟨t, rfl, hA⟩
  have h1 : RepRow w1 b 0 1 v3 (.slice a 10 c) := Row.fr hR hA.fr (fun h => h)
  have hok := hA.ok hlt
  have F1 := hA.fr
  have f3 := Row.free h1 3
  have f4 := Row.free h1 4
  have c3 := Row.cell h1 3 rfl
  have c4 := Row.cell h1 4 rfl
  have h2 := Row.set h1 3 (.iface 100 (.pointer (some ⟨t, 0, none⟩)))
  have h3 := Row.set h2 4 (.slice none 0 0)
  have F2 : Fr (fun q => q = b) w ((w1.setCell ⟨b, 3, none⟩ (.iface 100 (.pointer (some ⟨t, 0, none⟩)))).setCell ⟨b, 4, none⟩ (.slice none 0 0)) := by
    refine ((F1.mono (fun _ _ h => h.elim)).trans' (Fr.setCell (S := fun q => q = b) (p := ⟨b, 3, none⟩) rfl _)).trans' (Fr.setCell (S := fun q => q = b) (p := ⟨b, 4, none⟩) rfl _)
  have hok2 := (hok.fr (Fr.setCell (S := fun q => q = b) (p := ⟨b, 3, none⟩) rfl (.iface 100 (.pointer (some ⟨t, 0, none⟩))))).fr (Fr.setCell (S := fun q => q = b) (p := ⟨b, 4, none⟩) rfl (.slice none 0 0))
  have HK := Lib.hid (And.intro h3 (And.intro F2 hok2))
  clear h2 h3 F2 hok2 hok F1 h1 hA hR HB
  go_wp2_with (fail)
  go_end0
  exact ⟨rfl, _, HK.out.1, HK.out.2.1, t, rfl, HK.out.2.2⟩
theorem no_nil {w : World} {a : Option Addr} {c : Nat} (h : Txt w a oldnew) : a = none → 10 = 0 ∧ c = 0 := fun e => by
  rcases h with h2 | ⟨_, _, h3, _⟩
  · cases h2
  · rw [e] at h3; cases h3
theorem txt_lt {w : World} {a : Option Addr} (h : Txt w a oldnew) : ∀ ad, a = some ad → ad.block < w.heap.size := fun ad e => by
  rcases h with h2 | ⟨b, o, h3, h4⟩
  · cases h2
  · rw [e] at h3
    cases h3
    exact World.block_lt_of_cell? w _ (h4 0 (by decide))
set_option maxRecDepth 100000 in
set_option maxHeartbeats 4000000 in
theorem newRep_f (a : Option Addr) (c : Nat) (w : World) (hT : Txt w a oldnew) :
    Calls Tryd.prog 36 #[.slice a 10 c] w fun e w' => ∃ b a' c', e = .returned (.pointer (some ⟨b, 0, none⟩)) ∧ RepRow w' b 0 0 .nilIface (.slice a' 10 c') ∧ Txt w' a' oldnew ∧ (∀ ad, a' = some ad → ad.block ≠ b) ∧ Fr Nothing w w' ∧ w.heap.size ≤ b := by
  obtain ⟨i0, hi, hz0, hz1, hz2⟩ := infoTx
  have Hi := Lib.hid hi
  have Hz0 := Lib.hid hz0
  have Hz1 := Lib.hid hz1
  have Hz2 := Lib.hid hz2
  have HT := Lib.hid hT
  clear hi hz0 hz1 hz2 hT
  go_enter Tryd.func36, Tryd.ntmps36
  go_wp2_with (at_builtin; go_must (refine wpList_append_fp rfl (.const (.slice none 0 0)) (.tmp 8) 76 rfl 9 i0 (.string ByteArray.empty) 1 16 Tryd.underlying76 Hi.out Hz0.out Hz1.out Hz2.out rfl (by decide) _ _ _ rfl (Owns.nil w 9 1) _ 10 c (oldnew.map Value.string) rfl rfl (no_nil HT.out) HT.out (one_texts _) (by unfold maxLen; omega) (by omega) ?_))
  intro v7 w7 o7 f7 n7 s7 _
  obtain ⟨a7, c7, rfl, _, _⟩ := o7.shape
  have hs7 := o7.sl.2
  have F7 : Fr Nothing w w7 := Fr.ofNil f7
  go_wp2_with (fail)
  go_ret
  refine ⟨_, a7, c7, rfl, Row.allocNew w7 _ _, Sl.fr hs7 (Fr.alloc Nothing _ _) (fun _ _ h => h), fun ad e => Nat.ne_of_lt (txt_lt (w := w7) hs7 ad e), F7.trans' (Fr.alloc Nothing _ _), F7.size⟩
set_option maxRecDepth 100000 in
set_option maxHeartbeats 4000000 in
theorem escaper_f (w : World) :
    Calls Tryd.prog 27 #[] w fun e w' => ∃ b a' c', e = .returned (.pointer (some ⟨b, 0, none⟩)) ∧ RepRow w' b 0 0 .nilIface (.slice a' 10 c') ∧ Txt w' a' oldnew ∧ (∀ ad, a' = some ad → ad.block ≠ b) ∧ Fr Nothing w w' ∧ w.heap.size ≤ b := by
  have HN := Lib.hid (newRep_f (some ⟨w.heap.size, 0, none⟩) 10 (w.alloc (.cells (oldnew.map Value.string).toArray 9)) (Sl.ofRow (Row.allocNew w (oldnew.map Value.string) 9)))
  go_enter Tryd.func27, Tryd.ntmps27
  go_wp2_with (go_at_call 36; refine HN.out.mono ?_)
  rintro e w1 ⟨b, a', c', rfl, h1, h2, h3, h4, h5⟩
  have HK := Lib.hid (And.intro h1 (And.intro h2 (And.intro h3 (And.intro ((Fr.alloc Nothing w (.cells (oldnew.map Value.string).toArray 9)).trans' h4) h5))))
  clear h1 h2 h3 h4 h5
  go_wp2_with (fail)
  go_ret
  obtain ⟨h1, h2, h3, h4, h5⟩ := HK.out
  exact ⟨b, a', c', rfl, h1, h2, h3, h4, by simp at h5; omega⟩
end Go.Proofs.YtbpbghmhenilcaaDoor
