/- Items and steps as they lie in memory; which items are a list. Condition: they lie as slices of records. -/
import Derived.Test.YtfedaolpanncoaaRows
import Derived.Test.YtfedaolpanncoaaColl
import Derived.Test.YtfedaolpanncoaaOpen
import Derived.ProofKit
import Derived.SizedLaws
import Derived.Sort.Walk0
namespace Go.Proofs.Ytfedaolpanncoaa
open Go.RowKit

structure Item where
  user : ByteArray
  name : ByteArray
  sub : Int
  asked : Bool
def Item.cells (x : Item) : List Value := [.string x.user, .string x.name, .int .i64 x.sub, .bool x.asked]
def Item.Good (x : Item) : Prop := x.user.size ≤ maxLen ∧ x.name.size ≤ maxLen ∧ (Lit.int .i64 x.sub).wf = true
theorem Item.len (x : Item) : x.cells.length = 4 := rfl
set_option maxRecDepth 100000 in
theorem item_dec {H : Type} {enc : TypeId × Value → H} {w : World} (n : Nat) (cs : List Value) (y : DataW H × List MemPlace)
    (h : DataW.trod enc Try.prog w 0 (fun _ => true) true n 27 cs = some y) : ∃ r : Item, cs = r.cells ∧ r.Good := by
  obtain ⟨xs, m, _, _, hl, hlen, hf⟩ := DataW.trod_struct Try.underlying27 h
  have hl' : cs.length = 4 := hl.trans (by kernel_rfl)
  have hx : xs.length = 4 := hlen
  match cs, hl', xs, hx with
  | [c0, c1, c2, c3], _, [y0, y1, y2, y3], _ =>
    obtain ⟨s, e0, _, ws⟩ := DataW.trod_string Try.underlying9 (hf 0 _ rfl)
    obtain ⟨t, e1, _, wt⟩ := DataW.trod_string Try.underlying9 (hf 1 _ rfl)
    obtain ⟨a, e2, _, wa⟩ := DataW.trod_int Try.underlying3 (hf 2 _ rfl)
    obtain ⟨b, e3, _⟩ := DataW.trod_bool Try.underlying4 (hf 3 _ rfl)
    have k0 : Try.prog.cellsOf 3 = 1 := by kernel_rfl
    have k3 : Try.prog.cellsOf 9 = 1 := by kernel_rfl
    have k4 : Try.prog.cellsOf 4 = 1 := by kernel_rfl
    simp [k0, k3, k4] at e0 e1 e2 e3
    subst e0 e1 e2 e3
    exact ⟨⟨s, t, a, b⟩, rfl, ws, wt, wa⟩

/-- The order of texts, as Go's own. -/
def ltB (x y : ByteArray) : Bool := Op.bytesLess x.toList y.toList
theorem ltB_eq (x y : ByteArray) : ltB x y = decide (x.data.toList < y.data.toList) := by
  unfold ltB; rw [bytesLess_eq, ByteArray.toList_eq, ByteArray.toList_eq]
theorem ltB_irrefl (x : ByteArray) : ltB x x = false := by rw [ltB_eq]; simp
theorem ltB_trans {x y z : ByteArray} (h : ltB x y = true) (h' : ltB y z = true) : ltB x z = true := by
  rw [ltB_eq] at *; simp only [decide_eq_true_eq] at *; exact List.lt_trans h h'
theorem ltB_asym {x y : ByteArray} (h : ltB x y = true) : ltB y x = false := by
  rw [ltB_eq] at *; simp only [decide_eq_true_eq, decide_eq_false_iff_not] at *; exact List.lt_asymm h
theorem ltB_total {x y : ByteArray} (h : ltB x y = false) (h' : ltB y x = false) : x = y := by
  rw [ltB_eq] at *; simp only [decide_eq_false_iff_not] at *
  have : x.data.toList = y.data.toList := List.le_antisymm h' h
  cases x; cases y; exact congrArg ByteArray.mk (Array.toList_inj.1 this)

/-- Items whose users rise. -/
def riseB : List Item → Bool
  | [] => true
  | [_] => true
  | x :: y :: l => ltB x.user y.user && riseB (y :: l)
theorem riseB_iff : ∀ (l : List Item), riseB l = true ↔ ∀ k, ∀ (h : k + 1 < l.length), ltB l[k].user l[k + 1].user = true
  | [] => by simp [riseB]
  | [_] => by simp [riseB]
  | x :: y :: l => by
    simp only [riseB, Bool.and_eq_true, riseB_iff (y :: l)]
    constructor
    · rintro ⟨h1, h2⟩ k hk
      cases k with
      | zero => exact h1
      | succ k => exact h2 k (by simpa using hk)
    · intro h
      exact ⟨h 0 (by simp), fun k hk => h (k + 1) (by simpa using hk)⟩
theorem riseB_no {l : List Item} {k : Nat} (h : k + 1 < l.length) (hn : ltB l[k].user l[k + 1].user = false) : riseB l = false := by
  cases hb : riseB l with
  | false => rfl
  | true => have := (riseB_iff l).1 hb k h; rw [hn] at this; exact absurd this (by simp)

abbrev Items (w : World) (a : Option Addr) (l : List Item) : Prop := Recs Item.cells 4 w a l

set_option maxHeartbeats 400000 in
theorem dig_right (a : Option Addr) (c : Nat) (l : List Item) (w : World) (h : Items w a l) (hl : l.length ≤ 1000) :
    Calls Try.prog 12 #[.slice a l.length c] w fun e w' => e = .returned (.bool (riseB l)) ∧ ∃ n, w' = w.drewN n := by
  have H := Lib.hid h
  clear h
  go_enter Try.func12, Try.ntmps12
  go_wp2
  go_loopw [3] (fun i wr => ∃ k : Nat, i = .int .i64 ((k : Int) + 1) ∧ Hid (∀ j, j < k → ∀ (h : j + 1 < l.length), ltB l[j].user l[j + 1].user = true) ∧ (∃ m, wr = w.drewN m)) (fun i _ => l.length - (intOf i).toNat)
  case atStart => exact ⟨0, rfl, (fun j hj => by omega), 0, rfl⟩
  case round =>
    obtain ⟨k, rfl, HA, m, rfl⟩ := hrel
    by_cases hlt : k + 1 < l.length
    · obtain ⟨b1, o1, rfl, hc⟩ := H.out.at_ hlt
      have h1 : w.cell? ⟨b1, o1 + (k + 1) * 4, none⟩ = some (.string l[k + 1].user) := hc 0 _ rfl
      obtain ⟨b2, o2, h2e, hc2⟩ := H.out.at_ (i := k) (by omega)
      obtain ⟨rfl, rfl⟩ : b1 = b2 ∧ o1 = o2 := by simpa using h2e
      have h2 : w.cell? ⟨b1, o1 + k * 4, none⟩ = some (.string l[k].user) := hc2 0 _ rfl
      obtain ⟨x, hx⟩ : ∃ x, x = l[k + 1].user := ⟨_, rfl⟩
      obtain ⟨y, hy⟩ : ∃ y, y = l[k].user := ⟨_, rfl⟩
      rw [← hx] at h1
      rw [← hy] at h2
      have Hx := Lib.hid hx
      have Hy := Lib.hid hy
      have w1 : IntKind.i64.wrap ((k : Int) + 1 - 1) = (k : Int) := by rw [show (k : Int) + 1 - 1 = k by omega]; exact IntWalk.i64_in _ (by omega)
      have w2 : IntKind.i64.wrap (k : Int) = (k : Int) := IntWalk.i64_in _ (by omega)
      have w3 : ((k : Int) + 1).toNat = k + 1 := by omega
      have w5 : k < l.length := by omega
      have w6 : (k : Int) + 1 < l.length := by omega
      have w7 : 0 ≤ (k : Int) + 1 := by omega
      clear hc hc2 h2e hx hy
      cases hless : Op.bytesLess y.toList x.toList with
      | true =>
        go_wp2
        go_quiet (fail)
        go_wp2
        go_roundw
        case rel => exact ⟨k + 1, by go_num, (fun j hj h => by
          by_cases hjk : j = k
          · subst hjk; rw [← Hx.out, ← Hy.out]; exact hless
          · exact HA.out j (by omega) h), m + nq, by simp⟩
        case measure => simp [intOf]; omega
      | false =>
        go_wp2
        go_quiet (fail)
        go_wp2
        go_ret
        refine ⟨?_, m + nq, by simp⟩
        rw [riseB_no hlt (by rw [← Hx.out, ← Hy.out]; exact hless)]; rfl
    · go_wp2
      go_ret
      refine ⟨?_, m, rfl⟩
      rw [(riseB_iff l).2 (fun j h => HA.out j (by omega) h)]; rfl
end Go.Proofs.Ytfedaolpanncoaa
