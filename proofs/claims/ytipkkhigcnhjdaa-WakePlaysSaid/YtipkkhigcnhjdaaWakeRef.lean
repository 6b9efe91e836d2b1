/- The reference's box of devices and row of calls. -/
import Derived.Test.YtipkkhigcnhjdaaWakeC
import Derived.Test.YtipkkhigcnhjdaaAhead
namespace Go.Proofs.Ytipkkhigcnhjdaa
open Go.RowKit

/-- A device of the reference. -/
structure RDev where
  name : ByteArray
  waits : Int
  called : Bool
  at_ : Int
def RDev.cells (d : RDev) : List Value := [.string d.name, .int .i64 d.waits, .bool d.called, .int .i64 d.at_]
theorem RDev.len (d : RDev) : d.cells.length = 4 := rfl
/-- The reference's box in memory. -/
structure RefAt (w : World) (q : Nat) (qt : Int) (vl vr : Value) (L : List RDev) (R : List ByteArray) : Prop where
  head : Row w q [vl, vr, .int .i64 qt] 50
  own : Owns w 52 4 vl L.length (L.flatMap RDev.cells)
  row : Owns w 9 1 vr R.length (R.map Value.string)
  nl : ∀ k, InBlock vl k → k ≠ q
  nr : ∀ k, InBlock vr k → k ≠ q
  nlr : ∀ k, InBlock vl k → ¬ InBlock vr k
  ll : L.length ≤ 100000
  lr : R.length ≤ 100000
def IsRef (S : Nat → Prop) (w : World) (q : Nat) (qt : Int) (L : List RDev) (R : List ByteArray) : Prop :=
  ∃ vl vr, RefAt w q qt vl vr L R ∧ ∀ k, S k ↔ k = q ∨ InBlock vl k ∨ InBlock vr k
section
variable {S T : Nat → Prop} {w w' : World} {q : Nat} {qt : Int} {vl vr : Value} {L : List RDev} {R : List ByteArray}
theorem RefAt.fr (h : RefAt w q qt vl vr L R) (F : Fr T w w') (hq : ¬ T q) (hl : ∀ k, InBlock vl k → ¬ T k) (hr : ∀ k, InBlock vr k → ¬ T k) : RefAt w' q qt vl vr L R :=
  ⟨h.head.fr F hq, h.own.fr F hl, h.row.fr F hr, h.nl, h.nr, h.nlr, h.ll, h.lr⟩
theorem IsRef.fr (h : IsRef S w q qt L R) (F : Fr T w w') (hd : ∀ k, S k → ¬ T k) : IsRef S w' q qt L R := by
  obtain ⟨vl, vr, h1, h2⟩ := h
  exact ⟨vl, vr, h1.fr F (hd _ ((h2 _).2 (.inl rfl))) (fun k hk => hd _ ((h2 _).2 (.inr (.inl hk)))) (fun k hk => hd _ ((h2 _).2 (.inr (.inr hk)))), h2⟩
/-- Where a device stands. -/
def atOf (L : List RDev) (k : ByteArray) : Int := match L.findIdx? (fun d => decide (d.name = k)) with | some j => j | none => -1
theorem atOf_some {j : Nat} (hj : j < L.length) {k : ByteArray} (h : L[j].name = k) (hn : ∀ i (hi : i < j), (L[i]'(by omega)).name ≠ k) : atOf L k = j := by
  have : L.findIdx? (fun d => decide (d.name = k)) = some j := by
    rw [List.findIdx?_eq_some_iff_getElem]
    exact ⟨hj, by simp [h], fun i hi => by simp [hn i hi]⟩
  unfold atOf; rw [this]
theorem atOf_none {k : ByteArray} (hn : ∀ i (hi : i < L.length), L[i].name ≠ k) : atOf L k = -1 := by
  have : L.findIdx? (fun d => decide (d.name = k)) = none := by
    rw [List.findIdx?_eq_none_iff]
    intro d hd
    obtain ⟨i, hi, rfl⟩ := List.mem_iff_getElem.1 hd
    simp [hn i hi]
  unfold atOf; rw [this]

set_option maxHeartbeats 1000000 in
theorem ref_at (k : ByteArray) (h : IsRef S w q qt L R) :
    Calls Try.prog 25 #[.pointer (some ⟨q, 0, none⟩), .string k] w fun e w' => e = .returned (.int .i64 (atOf L k)) ∧ w = w' := by
  obtain ⟨vl, vr, hb, _⟩ := h
  obtain ⟨al, cl, rfl, _, _⟩ := hb.own.shape
  have h0 := hb.head.cell 0 rfl
  have hll := hb.ll
  have slv : Recs RDev.cells 4 w al L := ⟨RDev.len, by decide, hb.own.sl.2⟩
  clear hb
  go_enter Try.func25, Try.ntmps25
  go_wp2_with (fail)
  go_loopg [5] L.length (fun g i wr => ∃ j : Nat, j ≤ L.length ∧ g = L.length - j ∧ i = .int .i64 j ∧ w = wr ∧ Hid (∀ i (hi : i < j) (hl : i < L.length), L[i].name ≠ k))
  case atStart => exact ⟨0, Nat.zero_le _, rfl, rfl, rfl, fun i hi _ => absurd hi (by omega)⟩
  case round =>
    obtain ⟨j, hj, rfl, rfl, rfl, HN⟩ := hrel
    by_cases hlt : j < L.length
    · obtain ⟨b1, o1, rfl, hc⟩ := slv.at_ hlt
      have c0 := hc 0 _ rfl
      rw [Nat.add_zero] at c0
      obtain ⟨x, hx⟩ : ∃ x, x = L[j].name := ⟨_, rfl⟩
      rw [← hx] at c0
      have Hx := Lib.hid hx
      clear hc slv hx
      by_cases he : x = k
      · have hd : (x.toList == k.toList) = true := by rw [same_text, decide_eq_true he]
        go_wp2_with (fail)
        go_ret
        rw [atOf_some hlt (Hx.out.symm.trans he) (fun i hi => HN.out i hi (by omega))]
        exact ⟨rfl, rfl⟩
      · have hd : (x.toList == k.toList) = false := by rw [same_text, decide_eq_false he]
        go_wp2_with (fail)
        go_roundg (L.length - (j + 1))
        case measure => omega
        case rel =>
          refine ⟨j + 1, by omega, rfl, by go_num, rfl, fun i hi hl => ?_⟩
          rcases Nat.lt_or_ge i j with h1 | h1
          · exact HN.out i h1 hl
          · obtain rfl : i = j := by omega
            rw [← Hx.out]; exact he
    · obtain rfl : j = L.length := by omega
      go_wp2_with (fail)
      go_ret
      rw [atOf_none fun i hi => HN.out i hi hi]
      exact ⟨rfl, rfl⟩

set_option maxHeartbeats 1000000 in
theorem ref_rowed (k : ByteArray) (h : IsRef S w q qt L R) :
    Calls Try.prog 36 #[.pointer (some ⟨q, 0, none⟩), .string k] w fun e w' => e = .returned (.bool (inR R k)) ∧ w = w' := by
  obtain ⟨vl, vr, hb, _⟩ := h
  obtain ⟨al, cl, rfl, _, _⟩ := hb.row.shape
  have h0 := hb.head.cell 1 rfl
  have hll := hb.lr
  have slv := hb.row.sl.2
  clear hb
  go_enter Try.func36, Try.ntmps36
  go_wp2_with (fail)
  go_loopg [5] R.length (fun g i wr => ∃ j : Nat, j ≤ R.length ∧ g = R.length - j ∧ i = .int .i64 j ∧ w = wr ∧ Hid (∀ i (hi : i < j) (hl : i < R.length), R[i] ≠ k))
  case atStart => exact ⟨0, Nat.zero_le _, rfl, rfl, rfl, fun i hi _ => absurd hi (by omega)⟩
  case round =>
    obtain ⟨j, hj, rfl, rfl, rfl, HN⟩ := hrel
    by_cases hlt : j < R.length
    · obtain ⟨b1, o1, rfl, c0⟩ := Sl.oneCell (j := j) (v := .string R[j]) slv (by simp [hlt])
      obtain ⟨x, hx⟩ : ∃ x, x = R[j] := ⟨_, rfl⟩
      rw [← hx] at c0
      have Hx := Lib.hid hx
      clear slv hx
      by_cases he : x = k
      · have hd : (x.toList == k.toList) = true := by rw [same_text, decide_eq_true he]
        go_wp2_with (fail)
        go_ret
        rw [show inR R k = true from inR_iff.2 (by rw [← he, Hx.out]; exact List.getElem_mem hlt)]
        exact ⟨rfl, rfl⟩
      · have hd : (x.toList == k.toList) = false := by rw [same_text, decide_eq_false he]
        go_wp2_with (fail)
        go_roundg (R.length - (j + 1))
        case measure => omega
        case rel =>
          refine ⟨j + 1, by omega, rfl, by go_num, rfl, fun i hi hl => ?_⟩
          rcases Nat.lt_or_ge i j with h1 | h1
          · exact HN.out i h1 hl
          · obtain rfl : i = j := by omega
            rw [← Hx.out]; exact he
    · obtain rfl : j = R.length := by omega
      go_wp2_with (fail)
      go_ret
      have hno : inR R k = false := by
        cases hc : inR R k with
        | false => rfl
        | true =>
          obtain ⟨i, hi, e⟩ := List.mem_iff_getElem.1 (inR_iff.1 hc)
          exact absurd e (HN.out i hi hi)
      rw [hno]
      exact ⟨rfl, rfl⟩

end

/-- What the reference's New gives. -/
def RefNew (qt : Int) (w : World) (e : Ending) (w' : World) : Prop :=
  ∃ q S, e = .returned (.pointer (some ⟨q, 0, none⟩)) ∧ IsRef S w' q qt [] [] ∧ (∀ k, S k → w.heap.size ≤ k) ∧ Fr Nothing w w'
set_option maxHeartbeats 400000 in
theorem ref_new (k qt : Int) (w : World) (hq : qt = min (max k 0) 1000) :
    Calls Try.prog 18 #[.int .i64 k] w (RefNew qt w) := by
  have Hq := Lib.hid hq
  clear hq
  have fin : ∀ z : Int, z = qt → RefNew qt w (.returned (.pointer (some ⟨w.heap.size, 0, none⟩))) (w.alloc (.cells #[.slice none 0 0, .slice none 0 0, .int .i64 z] 50)) := by
    rintro z rfl
    have hr := Row.allocNew w [.slice none 0 0, .slice none 0 0, .int .i64 z] 50
    have no : ∀ k, ¬ InBlock (.slice none 0 0) k := fun k hk => by simp [InBlock, Value.ownBlock] at hk
    refine ⟨w.heap.size, _, rfl, ⟨.slice none 0 0, .slice none 0 0, ⟨hr, Owns.nil _ _ _, Owns.nil _ _ _, fun k hk => (no k hk).elim, fun k hk => (no k hk).elim, fun k hk => (no k hk).elim, by simp, by simp⟩, fun k => Iff.rfl⟩, fun k hk => ?_, Fr.alloc _ _ _⟩
    rcases hk with rfl | hk | hk
    · exact Nat.le_refl _
    · exact (no k hk).elim
    · exact (no k hk).elim
  go_enter Try.func18, Try.ntmps18
  go_wp2_with (fail)
  all_goals (go_ret; have := Hq.out; exact fin _ (by omega))

end Go.Proofs.Ytipkkhigcnhjdaa
