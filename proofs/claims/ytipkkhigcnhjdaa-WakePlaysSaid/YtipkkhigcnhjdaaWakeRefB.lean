/- The reference's call of a device. -/
import Derived.Test.YtipkkhigcnhjdaaWakeRef
namespace Go.Proofs.Ytipkkhigcnhjdaa
open Go.RowKit

/-- Whether the reference's call puts it in the row. -/
def callsR (d : RDev) (R : List ByteArray) (now qt : Int) : Bool := decide (0 < d.waits) && !inR R d.name && (!d.called || decide (qt ≤ now - d.at_))
def RefGone (S : Nat → Prop) (w : World) (q : Nat) (qt : Int) (L : List RDev) (R : List ByteArray) (w' : World) : Prop :=
  ∃ S', IsRef S' w' q qt L R ∧ (∀ k, S' k → S k ∨ w.heap.size ≤ k) ∧ Fr S w w'
section
variable {S T : Nat → Prop} {w w' : World} {q : Nat} {qt : Int} {vl vr : Value} {L : List RDev} {R : List ByteArray}

set_option maxHeartbeats 2000000 in
theorem ref_call_no (j : Nat) (hj : j < L.length) (now : Int) (h0 : 0 ≤ now) (h9 : now ≤ 9223372036854775807) (ha0 : 0 ≤ L[j].at_) (ha9 : L[j].at_ ≤ 9223372036854775807) (h : IsRef S w q qt L R) (hc : callsR L[j] R now qt = false) :
    Calls Try.prog 30 #[.pointer (some ⟨q, 0, none⟩), .int .i64 j, .int .i64 now] w fun e w' => e = .returned (.tuple #[]) ∧ Fr Nothing w w' := by
  have hI := h
  obtain ⟨vl, vr, hb, _⟩ := h
  obtain ⟨al, cl, rfl, _, _⟩ := hb.own.shape
  have e0 := hb.head.cell 0 rfl
  have e2 := hb.head.cell 2 rfl
  have hll := hb.ll
  have slv : Recs RDev.cells 4 w al L := ⟨RDev.len, by decide, hb.own.sl.2⟩
  obtain ⟨b1, o1, rfl, hcs⟩ := slv.at_ hj
  have c0 := hcs 0 _ rfl
  rw [Nat.add_zero] at c0
  have c1 := hcs 1 _ rfl
  have c2 := hcs 2 _ rfl
  have c3 := hcs 3 _ rfl
  obtain ⟨d, hd⟩ : ∃ d, d = L[j] := ⟨_, rfl⟩
  rw [← hd] at c0 c1 c2 c3 hc ha0 ha9
  clear hb slv hcs hd
  unfold callsR at hc
  have Hc := Lib.hid hc
  have fa := Fr.alloc Nothing w (.cells #[Value.string d.name, Value.int .i64 d.waits, Value.bool d.called, Value.int .i64 d.at_] 52)
  have r0 : Row (w.alloc (.cells #[Value.string d.name, Value.int .i64 d.waits, Value.bool d.called, Value.int .i64 d.at_] 52)) w.heap.size [Value.string d.name, Value.int .i64 d.waits, Value.bool d.called, Value.int .i64 d.at_] 52 := Row.allocNew w d.cells 52
  have k0 := r0.cell 0 rfl
  have k1 := r0.cell 1 rfl
  have k2 := r0.cell 2 rfl
  have k3 := r0.cell 3 rfl
  have e2' := cell_fr e2 fa (fun h => h)
  have hI' := hI.fr fa (fun _ _ h => h)
  have hw64 : wrap64 (now - d.at_) = now - d.at_ := IntWalk.wrap64_in _ (by omega)
  have hw2 : IntKind.i64.wrap (now - d.at_) = now - d.at_ := IntWalk.i64_in _ (by omega)
  clear hc r0 e2 hI
  go_enter Try.func30, Try.ntmps30
  go_upto_region 1 with (fail)
  by_cases p1 : 0 < d.waits
  · have q1 : decide (0 < d.waits) = true := decide_eq_true p1
    cases p2 : inR R d.name with
    | false =>
      have hq : ∀ u, IsRef S u q qt L R → Calls Try.prog 36 #[.pointer (some ⟨q, 0, none⟩), .string d.name] u fun e w' => e = .returned (.bool false) ∧ w' = u := fun u hu => (ref_rowed d.name hu).mono fun e w' ⟨h1, h2⟩ => ⟨h1.trans (by rw [p2]), h2.symm⟩
      cases p3 : d.called with
      | false => exact absurd Hc.out (by simp [p1, p2, p3])
      | true =>
        have p4 : ¬ qt ≤ now - d.at_ := by simpa [p1, p2, p3] using Hc.out
        have q4 : decide (qt ≤ now - d.at_) = false := decide_eq_false p4
        rw [p3] at k0 k1 k2 k3 e2' hI' fa
        go_quiet ((go_at_call 36; exact Calls.quiet_of_same (hq _ (hI'.fr (Fr.drewN Nothing _ _) (fun _ _ h => h)))))
        go_wp2_with (fail)
        go_end0
        exact ⟨rfl, fa.trans' (Fr.drewN Nothing _ _)⟩
    | true =>
      have hq : ∀ u, IsRef S u q qt L R → Calls Try.prog 36 #[.pointer (some ⟨q, 0, none⟩), .string d.name] u fun e w' => e = .returned (.bool true) ∧ w' = u := fun u hu => (ref_rowed d.name hu).mono fun e w' ⟨h1, h2⟩ => ⟨h1.trans (by rw [p2]), h2.symm⟩
      go_quiet ((go_at_call 36; exact Calls.quiet_of_same (hq _ (hI'.fr (Fr.drewN Nothing _ _) (fun _ _ h => h)))))
      go_wp2_with (fail)
      go_end0
      exact ⟨rfl, fa.trans' (Fr.drewN Nothing _ _)⟩
  · have q1 : decide (0 < d.waits) = false := decide_eq_false p1
    go_quiet (fail)
    go_wp2_with (fail)
    go_end0
    exact ⟨rfl, fa.trans' (Fr.drewN Nothing _ _)⟩
end

end Go.Proofs.Ytipkkhigcnhjdaa
