/- The dues of a wheel: Less, Swap, Push, Pop, and the heap over them. No condition. -/
import Derived.Test.YtgfphbehecpgpaaHeapP
import Derived.Test.YtgfphbehecpgpaaAppend
import Derived.Test.YtgfphbehecpgpaaOpen
import Derived.Test.YtgfphbehecpgpaaRows
import Derived.Laws.OwnMore
import Derived.Deep.RegionLaw
import Derived.Deep.LoopGhost
namespace Go.Proofs.Ytgfphbehecpgpaa
open Go.RowKit

def dcells (d : Due) : List Value := [.int .i64 d.1, .int .i64 d.2]
theorem dcells_len (d : Due) : (dcells d).length = 2 := rfl
theorem dcells_one (H : List Due) : ∀ u ∈ H.flatMap dcells, u.oneCell' = true := by
  intro u hu
  obtain ⟨x, _, hx⟩ := List.mem_flatMap.1 hu
  simp only [dcells, List.mem_cons, List.not_mem_nil, or_false] at hx
  rcases hx with rfl | rfl <;> rfl
theorem dflat_len (H : List Due) : (H.flatMap dcells).length = H.length * 2 := flat_len dcells 2 dcells_len H

set_option maxHeartbeats 400000 in
theorem cmp_nan (a : Int) (w : World) : Calls Try.prog 52 #[.int .i64 a] w fun e w' => e = .returned (.bool false) ∧ w = w' := by
  go_enter Try.func52, Try.ntmps52
  go_wp2_with (fail)
  go_ret
  exact ⟨rfl, rfl⟩
def cmpV (a b : Int) : Int := if a < b then -1 else if b < a then 1 else 0
theorem cmpV_lt {a b : Int} (h : a < b) : cmpV a b = -1 := if_pos h
theorem cmpV_gt {a b : Int} (h : b < a) : cmpV a b = 1 := by unfold cmpV; rw [if_neg (by omega), if_pos h]
theorem cmpV_eq (a : Int) : cmpV a a = 0 := by unfold cmpV; rw [if_neg (by omega), if_neg (by omega)]
set_option maxHeartbeats 400000 in
theorem cmp_int (a b : Int) (w : World) : Calls Try.prog 51 #[.int .i64 a, .int .i64 b] w fun e w' => e = .returned (.int .i64 (cmpV a b)) ∧ w = w' := by
  rcases Int.lt_trichotomy a b with h | h | h
  · rw [cmpV_lt h]
    go_enter Try.func51, Try.ntmps51
    go_wp2_with (go_at_call 52; refine (cmp_nan _ _).mono ?_; rintro e w1 ⟨rfl, rfl⟩)
    go_ret
    exact ⟨rfl, rfl⟩
  · subst h
    rw [cmpV_eq]
    have h1 : ¬ a < a := by omega
    go_enter Try.func51, Try.ntmps51
    go_wp2_with (go_at_call 52; refine (cmp_nan _ _).mono ?_; rintro e w1 ⟨rfl, rfl⟩)
    go_ret
    exact ⟨rfl, rfl⟩
  · rw [cmpV_gt h]
    have h1 : ¬ a < b := by omega
    go_enter Try.func51, Try.ntmps51
    go_wp2_with (go_at_call 52; refine (cmp_nan _ _).mono ?_; rintro e w1 ⟨rfl, rfl⟩)
    go_ret
    exact ⟨rfl, rfl⟩
def orV (x y : Int) : Int := if x = 0 then y else x
set_option maxHeartbeats 1000000 in
theorem cmp_or (x y : Int) (b : Nat) (w : World) (h : Row w b [.int .i64 x, .int .i64 y] 3) : Calls Try.prog 50 #[.slice (some ⟨b, 0, none⟩) 2 2] w fun e w' => e = .returned (.int .i64 (orV x y)) ∧ w = w' := by
  have h0 := h.cell 0 rfl
  have h1 := h.cell 1 rfl
  clear h
  go_enter Try.func50, Try.ntmps50
  go_wp2_with (fail)
  go_loop [8] (fun i => ∃ k : Nat, k ≤ 2 ∧ i = .int .i64 k ∧ Hid ((1 ≤ k → x = 0) ∧ (2 ≤ k → y = 0))) (fun i => 2 - (intOf i).toNat)
  case atStart => exact ⟨0, by omega, rfl, ⟨fun h => by omega, fun h => by omega⟩⟩
  case round =>
    obtain ⟨k, hk, rfl, Hz⟩ := hrel
    obtain rfl | rfl | rfl : k = 0 ∨ k = 1 ∨ k = 2 := by omega
    · cases hx : x == 0 with
      | true =>
        have hxn : (x != 0) = false := by simpa using hx
        go_wp2_with (fail)
        go_round
        case rel => exact ⟨1, by omega, by go_num, ⟨fun _ => by simpa using hx, fun h => by omega⟩⟩
        case measure => simp [intOf]
      | false =>
        have hxn : (x != 0) = true := by simpa using hx
        go_wp2_with (fail)
        go_ret
        exact ⟨ret_val (by unfold orV; rw [if_neg (by simpa using hx)]; rfl), rfl⟩
    · have hx0 := Hz.out.1 (by omega)
      cases hy : y == 0 with
      | true =>
        have hyn : (y != 0) = false := by simpa using hy
        clear hx0
        go_wp2_with (fail)
        go_round
        case rel => exact ⟨2, by omega, by go_num, ⟨fun _ => Hz.out.1 (by omega), fun _ => by simpa using hy⟩⟩
        case measure => simp [intOf]
      | false =>
        have hyn : (y != 0) = true := by simpa using hy
        clear hx0
        go_wp2_with (fail)
        go_ret
        exact ⟨ret_val (by unfold orV; rw [if_pos (Hz.out.1 (by omega))]; rfl), rfl⟩
    · go_wp2_with (fail)
      go_ret
      exact ⟨ret_val (by unfold orV; rw [if_pos (Hz.out.1 (by omega)), Hz.out.2 (by omega)]; rfl), rfl⟩

/-- The dues at a slice. -/
abbrev Dues (w : World) (a : Option Addr) (H : List Due) : Prop := Recs dcells 2 w a H
theorem less_val (a b : Due) : decide (orV (cmpV a.2 b.2) (cmpV a.1 b.1) < 0) = decide (dless a b) := by
  unfold orV cmpV dless
  congr 1
  apply propext
  split <;> split <;> (try split) <;> (try split) <;> omega

set_option maxHeartbeats 2000000 in
theorem dues_less (a : Option Addr) (c : Nat) (H : List Due) (i k : Nat) (w : World) (h : Dues w a H) (hi : i < H.length) (hk : k < H.length) :
    Calls Try.prog 48 #[.slice a H.length c, .int .i64 i, .int .i64 k] w fun e w' => e = .returned (.bool (decide (dless (gd H i) (gd H k)))) ∧ Fr Nothing w w' := by
  obtain ⟨b, o, rfl, hci⟩ := h.at_ hi
  obtain ⟨b', o', e, hck⟩ := h.at_ hk
  obtain ⟨rfl, rfl⟩ : b = b' ∧ o = o' := by simpa using e
  rw [← gd_at hi] at hci
  rw [← gd_at hk] at hck
  obtain ⟨x, hx⟩ : ∃ x, x = gd H i := ⟨_, rfl⟩
  obtain ⟨y, hy⟩ : ∃ y, y = gd H k := ⟨_, rfl⟩
  rw [← hx] at hci
  rw [← hy] at hck
  have c0 : w.cell? ⟨b, o + i * 2, none⟩ = some (.int .i64 x.1) := hci 0 _ rfl
  have c1 : w.cell? ⟨b, o + i * 2 + 1, none⟩ = some (.int .i64 x.2) := hci 1 _ rfl
  have d0 : w.cell? ⟨b, o + k * 2, none⟩ = some (.int .i64 y.1) := hck 0 _ rfl
  have d1 : w.cell? ⟨b, o + k * 2 + 1, none⟩ = some (.int .i64 y.2) := hck 1 _ rfl
  have iI : (i : Int) < H.length := by omega
  have kI : (k : Int) < H.length := by omega
  have hv := less_val x y
  rw [← hx, ← hy, ← hv]
  have hlt := World.block_lt_of_cell? w _ c0
  simp only at hlt
  have F := Fr.alloc Nothing w (.cells #[.int .i64 (cmpV x.2 y.2), .int .i64 (cmpV x.1 y.1)] 3)
  have e0 := cell_fr c0 F (fun h => h)
  have e1 := cell_fr c1 F (fun h => h)
  have e2 := cell_fr d0 F (fun h => h)
  have e3 := cell_fr d1 F (fun h => h)
  clear hci hck e hx hy h hv F
  go_enter Try.func48, Try.ntmps48
  go_wp2_with (fail)
  go_region_held3 (fun w' => w'.cell? ⟨b, o + i * 2, none⟩ = some (.int .i64 x.1) ∧ w'.cell? ⟨b, o + i * 2 + 1, none⟩ = some (.int .i64 x.2) ∧ w'.cell? ⟨b, o + k * 2, none⟩ = some (.int .i64 y.1) ∧ w'.cell? ⟨b, o + k * 2 + 1, none⟩ = some (.int .i64 y.2)) (first | exact ⟨c0, c1, d0, d1⟩ | exact ⟨e0, e1, e2, e3⟩)
    (first
      | (with_reducible (go_at_call 51; refine (cmp_int _ _ _).mono ?_; rintro e w1 ⟨rfl, rfl⟩))
      | (go_at_call 50; refine (cmp_or _ _ _ _ (by exact Row.drew (Row.allocNew w [.int .i64 (cmpV x.2 y.2), .int .i64 (cmpV x.1 y.1)] 3))).mono ?_; rintro e w1 ⟨rfl, rfl⟩))
  go_wp2_with (fail)
  go_ret
  have F := Fr.alloc Nothing w (.cells #[.int .i64 (cmpV x.2 y.2), .int .i64 (cmpV x.1 y.1)] 3)
  exact ⟨rfl, ⟨F.os, F.tape, F.output, F.size, F.block⟩⟩

/-- A row of dues that is the wheel's own. -/
abbrev Hp (w : World) (v : Value) (H : List Due) : Prop := Owns w 60 2 v H.length (H.flatMap dcells)
theorem Hp.dues {w : World} {a : Option Addr} {n c : Nat} {H : List Due} (h : Hp w (.slice a n c) H) : n = H.length ∧ Dues w a H := ⟨(Owns.sl h).1, dcells_len, by omega, (Owns.sl h).2⟩
theorem dflat_set (H : List Due) (i : Nat) (d : Due) (hi : i < H.length) : (H.set i d).flatMap dcells = ((H.flatMap dcells).set (i * 2) (.int .i64 d.1)).set (i * 2 + 1) (.int .i64 d.2) := by
  induction H generalizing i with
  | nil => simp at hi
  | cons x H ih =>
    cases i with
    | zero => rfl
    | succ i =>
      have e : (i + 1) * 2 = i * 2 + 2 := by omega
      rw [e, List.set_cons_succ, List.flatMap_cons, List.flatMap_cons, ih i (by simpa using hi)]
      rfl
theorem Hp.set {w : World} {g n c : Nat} {H : List Due} (h : Hp w (.slice (some ⟨g, 0, none⟩) n c) H) (i : Nat) (d : Due) (hi : i < H.length) :
    Hp ((w.setCell ⟨g, i * 2, none⟩ (.int .i64 d.1)).setCell ⟨g, i * 2 + 1, none⟩ (.int .i64 d.2)) (.slice (some ⟨g, 0, none⟩) n c) (H.set i d) := by
  obtain rfl := (Owns.sl h).1
  obtain ⟨h1, -⟩ := World.ownsRow.stored h (i * 2) (.int .i64 d.1)
  obtain ⟨h2, -⟩ := World.ownsRow.stored h1 (i * 2 + 1) (.int .i64 d.2)
  unfold Hp
  rw [dflat_set H i d hi, List.length_set]
  exact h2

theorem owns_cell {w : World} {e : TypeId} {size g n c : Nat} {xs : List Value} (h : Owns w e size (.slice (some ⟨g, 0, none⟩) n c) n xs) (j : Nat) (hj : j < n * size) : ∃ v, w.cell? ⟨g, j, none⟩ = some v :=
  ⟨xs[j]'(by rw [h.1]; exact hj), by rw [World.ownsRow.cellAt h j hj]; exact List.getElem?_eq_getElem _⟩

set_option maxHeartbeats 2000000 in
theorem dues_swap (g c : Nat) (H : List Due) (i k : Nat) (w : World) (h : Hp w (.slice (some ⟨g, 0, none⟩) H.length c) H) (hi : i < H.length) (hk : k < H.length) :
    Calls Try.prog 49 #[.slice (some ⟨g, 0, none⟩) H.length c, .int .i64 i, .int .i64 k] w fun e w' => e = .returned (.tuple #[]) ∧ Hp w' (.slice (some ⟨g, 0, none⟩) H.length c) (swp H i k) ∧ Fr (fun b => b = g) w w' := by
  obtain ⟨b, o, e, hci⟩ := h.dues.2.at_ hi
  obtain ⟨rfl, rfl⟩ : g = b ∧ 0 = o := by simpa using e
  obtain ⟨b', o', e', hck⟩ := h.dues.2.at_ hk
  obtain ⟨rfl, rfl⟩ : g = b' ∧ 0 = o' := by simpa using e'
  rw [← gd_at hi] at hci
  rw [← gd_at hk] at hck
  obtain ⟨x, hx⟩ : ∃ x, x = gd H i := ⟨_, rfl⟩
  obtain ⟨y, hy⟩ : ∃ y, y = gd H k := ⟨_, rfl⟩
  rw [← hx] at hci
  rw [← hy] at hck
  have c0 : w.cell? ⟨g, i * 2, none⟩ = some (.int .i64 x.1) := by have := hci 0 _ rfl; simpa using this
  have c1 : w.cell? ⟨g, i * 2 + 1, none⟩ = some (.int .i64 x.2) := by have := hci 1 _ rfl; simpa using this
  have d0 : w.cell? ⟨g, k * 2, none⟩ = some (.int .i64 y.1) := by have := hck 0 _ rfl; simpa using this
  have d1 : w.cell? ⟨g, k * 2 + 1, none⟩ = some (.int .i64 y.2) := by have := hck 1 _ rfl; simpa using this
  have fz : ∀ j, w.frozen? ⟨g, j, none⟩ = false := World.ownsRow.frozenAt h
  have iI : (i : Int) < H.length := by omega
  have kI : (k : Int) < H.length := by omega
  have H1 := h.set i y hi
  have H2 := H1.set k x (by simpa using hk)
  have hs : swp H i k = (H.set i y).set k x := by rw [hx, hy]; rfl
  rw [← hs] at H2
  obtain ⟨h1, -⟩ := World.ownsRow.stored h (i * 2) (.int .i64 y.1)
  obtain ⟨v1, f1⟩ := owns_cell h1 (k * 2) (by omega)
  obtain ⟨h2, -⟩ := World.ownsRow.stored h1 (i * 2 + 1) (.int .i64 y.2)
  obtain ⟨h3, -⟩ := World.ownsRow.stored h2 (k * 2) (.int .i64 x.1)
  obtain ⟨v2, f2⟩ := owns_cell h2 (k * 2 + 1) (by omega)
  obtain ⟨v3, f3⟩ := owns_cell h3 (k * 2 + 1) (by omega)
  obtain ⟨v4, f4⟩ := owns_cell h2 (k * 2) (by omega)
  obtain ⟨v5, f5⟩ := owns_cell h1 (k * 2 + 1) (by omega)
  rw [hx] at c0 c1 f3 H2
  rw [hy] at d0 d1 f1 f2 f3 f4 f5 H2
  clear hx hy
  clear hci hck e e' h H1 hs h1 h2 h3 x y
  go_enter Try.func49, Try.ntmps49
  go_wp2_with (fail)
  go_region
  go_wp2_with (fail)
  refine bodyPost_end (results_none rfl _ _ _) rfl ?_
  refine ⟨rfl, H2, ?_⟩
  have F : ∀ S : Nat → Prop, S g → ∀ a b c d, Fr S w ((((w.setCell ⟨g, i * 2, none⟩ a).setCell ⟨g, i * 2 + 1, none⟩ b).setCell ⟨g, k * 2, none⟩ c).setCell ⟨g, k * 2 + 1, none⟩ d).drew := fun S hg a b c d =>
    ((((Fr.setCell (p := ⟨g, i * 2, none⟩) hg a).trans' (Fr.setCell (p := ⟨g, i * 2 + 1, none⟩) hg b)).trans' (Fr.setCell (p := ⟨g, k * 2, none⟩) hg c)).trans' (Fr.setCell (p := ⟨g, k * 2 + 1, none⟩) hg d)).trans' (Fr.drew _ _)
  exact F (fun b => b = g) rfl _ _ _ _
end Go.Proofs.Ytgfphbehecpgpaa
