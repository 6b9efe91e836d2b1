/- lives of the digest's statements answers true and leaves all memory that was there as it was. No condition. -/
import Derived.Test.YtfedaolpanncoaaDigOf
import Derived.Test.YtfedaolpanncoaaDigSum
namespace Go.Proofs.Ytfedaolpanncoaa
open Go.RowKit

def itemU (c : UInt8) : Item := ⟨⟨#[c]⟩, ByteArray.empty, 0, false⟩
theorem lt78 : ltB (itemU 97).user (itemU 98).user = true := by rw [ltB_eq]; decide
theorem lt89 : ltB (itemU 98).user (itemU 99).user = true := by rw [ltB_eq]; decide
theorem rise1 : riseB [itemU 97, itemU 98] = true := by simp [riseB, lt78]
theorem rise2 : riseB [itemU 98, itemU 99] = true := by simp [riseB, lt89]
theorem live_of : ofL [itemU 97, itemU 98] [itemU 98, itemU 99] = [goneS (itemU 97), putS (itemU 99)] := by
  rw [ofL_lt lt78, ofL_eq (ltB_irrefl _) rfl (by decide), ofL_add]
  simp [ofL]

theorem items_row {w : World} {g : Nat} {l : List Item} {t : TypeId} (h : Row w g (l.flatMap Item.cells) t) : Items w (some ⟨g, 0, none⟩) l := ⟨Item.len, by decide, Sl.ofRow h⟩
theorem items_nil (w : World) (a : Option Addr) : Items w a [] := ⟨Item.len, by decide, Sl.nil _ _⟩

set_option maxRecDepth 100000 in
set_option maxHeartbeats 2000000 in
theorem dig_lives (w : World) : Calls Try.prog 9 #[] w fun e w' => e = .returned (.bool true) ∧ Fr Nothing w w' := by
  have hp37 : Try.prog.stoodInHeld 37 = false := by kernel_rfl
  have hg37 : Try.prog.eqGuardType Try.prog.depth 37 = false := by kernel_rfl
  have hp27 : Try.prog.stoodInHeld 27 = false := by kernel_rfl
  have hg27 : Try.prog.eqGuardType Try.prog.depth 27 = false := by kernel_rfl
  have hs0 : sumN [] = 2166136261 := rfl
  have Hs0 := Lib.hid hs0
  clear hs0
  go_enter Try.func9, Try.ntmps9
  go_wp2_with (fail)
  have r1 := (Row.allocNew w ([itemU 97, itemU 98].flatMap Item.cells) 27).allocOld (.cells ([itemU 98, itemU 99].flatMap Item.cells).toArray 27)
  have r2 := Row.allocNew (w.alloc (.cells ([itemU 97, itemU 98].flatMap Item.cells).toArray 27)) ([itemU 98, itemU 99].flatMap Item.cells) 27
  have f1 : Fr Nothing w ((w.alloc (.cells ([itemU 97, itemU 98].flatMap Item.cells).toArray 27)).alloc (.cells ([itemU 98, itemU 99].flatMap Item.cells).toArray 27)) := (Fr.alloc _ _ _).trans' (Fr.alloc _ _ _)
  have hsz : (w.alloc (.cells ([itemU 97, itemU 98].flatMap Item.cells).toArray 27)).heap.size = w.heap.size + 1 := by simp
  rw [hsz] at r2
  have hof := dig_of (some ⟨w.heap.size, 0, none⟩) (some ⟨w.heap.size + 1, 0, none⟩) 2 2 [itemU 97, itemU 98] [itemU 98, itemU 99] _ (items_row r1) (items_row r2) (by decide) (by decide) (by decide) (by decide) (by decide) (by decide) rise1 rise2
  rw [live_of] at hof
  have F1 := Lib.hid f1
  clear r1 r2 f1 hsz
  refine hof.mono ?_
  rintro e w1 ⟨a1, c1, rfl, co1⟩
  have hf1 : Fr Nothing w w1 := F1.out.trans' co1.fr
  have hsl := co1.own.sl.2
  obtain ⟨b, o, rfl, hc⟩ := Sl.at_ (i := 0) hsl (by simp [DStep.cells])
  have c0 : w1.cell? ⟨b, o, none⟩ = some (.string ⟨#[97]⟩) := hc 0 (by simp [DStep.cells])
  have c1 : w1.cell? ⟨b, o + 1, none⟩ = some (.string ⟨#[]⟩) := hc 1 (by simp [DStep.cells])
  have c2 : w1.cell? ⟨b, o + 2, none⟩ = some (.string ⟨#[]⟩) := hc 2 (by simp [DStep.cells])
  have c3 : w1.cell? ⟨b, o + 3, none⟩ = some (.int .i64 0) := hc 3 (by simp [DStep.cells])
  have c4 : w1.cell? ⟨b, o + 4, none⟩ = some (.bool false) := hc 4 (by simp [DStep.cells])
  have c5 : w1.cell? ⟨b, o + 5, none⟩ = some (.bool true) := hc 5 (by simp [DStep.cells])
  have c6 : w1.cell? ⟨b, o + 6, none⟩ = some (.string ⟨#[99]⟩) := hc 6 (by simp [DStep.cells])
  have c7 : w1.cell? ⟨b, o + 6 + 1, none⟩ = some (.string ⟨#[99]⟩) := hc 7 (by simp [DStep.cells])
  have c8 : w1.cell? ⟨b, o + 6 + 2, none⟩ = some (.string ⟨#[]⟩) := hc 8 (by simp [DStep.cells])
  have c9 : w1.cell? ⟨b, o + 6 + 3, none⟩ = some (.int .i64 0) := hc 9 (by simp [DStep.cells])
  have c10 : w1.cell? ⟨b, o + 6 + 4, none⟩ = some (.bool false) := hc 10 (by simp [DStep.cells])
  have c11 : w1.cell? ⟨b, o + 6 + 5, none⟩ = some (.bool false) := hc 11 (by simp [DStep.cells])
  have Hf1 := Lib.hid hf1
  clear hc hsl co1 hf1 hof F1
  go_wp2_with (fail)
  refine (dig_right none 0 [] _ (items_nil _ _) (by decide)).mono ?_
  rintro e w2 ⟨rfl, n2, rfl⟩
  go_wp2_with (fail)
  have hsum := dig_sum none 0 [] (w1.drewN n2) (items_nil _ _) (by decide) (fun x hx => by simp at hx)
  rw [Hs0.out] at hsum
  refine hsum.mono ?_
  rintro e w3 ⟨rfl, f3⟩
  go_wp2_with (fail)
  go_ret
  exact ⟨rfl, (Hf1.out.trans' (Fr.drewN _ _ _)).trans' f3⟩
end Go.Proofs.Ytfedaolpanncoaa
