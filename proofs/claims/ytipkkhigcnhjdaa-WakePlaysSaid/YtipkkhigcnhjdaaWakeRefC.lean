/- The reference's call of a device, done. -/
import Derived.Test.YtipkkhigcnhjdaaWakeRefB
import Derived.Deep.RegionLaw
import Derived.Deep.CutBlock
namespace Go.Proofs.Ytipkkhigcnhjdaa
open Go.RowKit
section
variable {S S1 T : Nat → Prop} {w w' wr wa w1 w2 w7 w8 : World} {q : Nat} {qt : Int} {vl vr v v7 v8 : Value} {L M : List RDev} {R R2 : List ByteArray} {x : ByteArray}
theorem grow_step (F : Fr Nothing w w1) (N : ∀ k, InBlock v k → w.heap.size ≤ k) (f : Fr (InBlock v) w1 w2) (n : NewOr w1 v v8) : Fr Nothing w w2 ∧ ∀ k, InBlock v8 k → w.heap.size ≤ k :=
  ⟨F.trans f (fun k hk hb => by have := N k hb; omega), fun k hk => (n k hk).elim (N k) (fun h => Nat.le_trans F.size h)⟩
theorem RefGone.trans {M2 : List RDev} (h : RefGone S w q qt L R w1) (h2 : ∀ S1, IsRef S1 w1 q qt L R → RefGone S1 w1 q qt M2 R2 w2) : RefGone S w q qt M2 R2 w2 := by
  obtain ⟨S1, a, g, f⟩ := h
  obtain ⟨S2, b, g2, f2⟩ := h2 S1 a
  refine ⟨S2, b, fun k hk => ?_, f.trans f2 (fun k hk h1 => ?_)⟩
  · rcases g2 k hk with h | h
    · exact g k h
    · exact .inr (Nat.le_trans f.size h)
  · rcases g k h1 with h | h
    · exact h
    · omega
theorem IsRef.quiet (h : IsRef S w q qt L R) (F : Fr Nothing w w') : RefGone S w q qt L R w' := ⟨S, h.fr F (fun _ _ h => h), fun _ hk => .inl hk, F.mono (fun _ _ h => h.elim)⟩
theorem RefAt.blt (h : RefAt w q qt vl vr L R) : q < w.heap.size ∧ (∀ k, InBlock vl k → k < w.heap.size) ∧ (∀ k, InBlock vr k → k < w.heap.size) := ⟨h.head.lt, fun _ hk => h.own.lt hk, fun _ hk => h.row.lt hk⟩
/-- The row laid anew, or longer. -/
theorem RefAt.rowed (h : RefAt w q qt vl vr L R) (hS : ∀ k, S k ↔ k = q ∨ InBlock vl k ∨ InBlock vr k) (f : Fr (InBlock vr) w w7) (o7 : Owns w7 9 1 v7 R2.length (R2.map Value.string)) (nn : NewOr w vr v7) (hl : R2.length ≤ 100000) :
    Row w7 q [vl, vr, .int .i64 qt] 50 ∧ RefGone S w q qt L R2 (w7.setCell ⟨q, 1, none⟩ v7) := by
  have hd := h.head.fr f (fun hq => h.nr q hq rfl)
  have hset : Fr (fun k => k = q) w7 (w7.setCell ⟨q, 1, none⟩ v7) := Fr.setCell (S := fun k => k = q) (p := ⟨q, 1, none⟩) rfl _
  obtain ⟨b0, b1, b2⟩ := h.blt
  have n7 : ∀ k, InBlock v7 k → k ≠ q := fun k hk e => (nn k hk).elim (fun h1 => h.nr k h1 e) (fun h1 => by omega)
  refine ⟨hd, fun k => k = q ∨ InBlock vl k ∨ InBlock v7 k, ⟨vl, v7, ⟨hd.set 1 _, ?_, o7.fr hset (fun k hk e => n7 k hk e), h.nl, n7, fun k h1 h2 => ?_, h.ll, hl⟩, fun k => Iff.rfl⟩, fun k hk => ?_, (f.mono (fun k _ hk => (hS k).2 (.inr (.inr hk)))).trans' (hset.mono (fun k _ e => (hS k).2 (.inl e)))⟩
  · exact (h.own.fr f (fun k hk hr => h.nlr k hk hr)).fr hset (fun k hk e => h.nl k hk e)
  · rcases nn k h2 with h3 | h3
    · exact h.nlr k h1 h3
    · have := b1 k h1; omega
  · rcases hk with rfl | hk | hk
    · exact .inl ((hS _).2 (.inl rfl))
    · exact .inl ((hS _).2 (.inr (.inl hk)))
    · rcases nn k hk with h3 | h3
      · exact .inl ((hS _).2 (.inr (.inr h3)))
      · exact .inr h3
/-- The devices laid anew. -/
theorem RefAt.relisted (h : RefAt w q qt vl vr L R) (hS : ∀ k, S k ↔ k = q ∨ InBlock vl k ∨ InBlock vr k) (F : Fr Nothing w w8) (N : ∀ k, InBlock v8 k → w.heap.size ≤ k) (o8 : Owns w8 52 4 v8 M.length (M.flatMap RDev.cells)) (hl : M.length ≤ 100000) :
    RefGone S w q qt M R (w8.setCell ⟨q, 0, none⟩ v8) := by
  have hd := h.head.fr F (fun h => h)
  have hset : Fr (fun k => k = q) w8 (w8.setCell ⟨q, 0, none⟩ v8) := Fr.setCell (S := fun k => k = q) (p := ⟨q, 0, none⟩) rfl _
  obtain ⟨b0, b1, b2⟩ := h.blt
  have n8 : ∀ k, InBlock v8 k → k ≠ q := fun k hk e => by have := N k hk; omega
  refine ⟨fun k => k = q ∨ InBlock v8 k ∨ InBlock vr k, ⟨v8, vr, ⟨hd.set 0 _, o8.fr hset (fun k hk e => n8 k hk e), ?_, n8, h.nr, fun k h1 h2 => ?_, hl, h.lr⟩, fun k => Iff.rfl⟩, fun k hk => ?_, (F.mono (fun _ _ h => h.elim)).trans' (hset.mono (fun k _ e => (hS k).2 (.inl e)))⟩
  · exact (h.row.fr F (fun _ _ h => h)).fr hset (fun k hk e => h.nr k hk e)
  · have := N k h1; have := b2 k h2; omega
  · rcases hk with rfl | hk | hk
    · exact .inl ((hS _).2 (.inl rfl))
    · exact .inr (N k hk)
    · exact .inl ((hS _).2 (.inr (.inr hk)))

set_option maxHeartbeats 2000000 in
theorem ref_call_yes (j : Nat) (hj : j < L.length) (now : Int) (h0 : 0 ≤ now) (h9 : now ≤ 9223372036854775807) (ha0 : 0 ≤ L[j].at_) (ha9 : L[j].at_ ≤ 9223372036854775807) (h : IsRef S w q qt L R) (hR : R.length ≤ 90000) (hc : callsR L[j] R now qt = true) :
    Calls Try.prog 30 #[.pointer (some ⟨q, 0, none⟩), .int .i64 j, .int .i64 now] w fun e w' => e = .returned (.tuple #[]) ∧ RefGone S w q qt L (R ++ [L[j].name]) w' := by
  obtain ⟨i0, hi, hz0, hz1, hz2⟩ := info_parts Try.infoText
  have Hz2 := Lib.hid hz2
  have Hz1 := Lib.hid hz1
  have Hz0 := Lib.hid hz0
  have Hi := Lib.hid hi
  clear hz2 hz1 hz0 hi
  have hI := h
  have HH := Lib.hid h
  obtain ⟨vl, vr, hb, hSS⟩ := h
  have HSS := Lib.hid hSS
  have HBX := Lib.hid hb
  obtain ⟨al, cl, rfl, _, _⟩ := hb.own.shape
  have e0 := hb.head.cell 0 rfl
  have e2 := hb.head.cell 2 rfl
  have hll := hb.ll
  have slv : Recs RDev.cells 4 w al L := ⟨RDev.len, by decide, hb.own.sl.2⟩
  obtain ⟨b1, o1, rfl, hcs⟩ := slv.at_ hj
  have c0 := hcs 0 _ rfl
  rw [Nat.add_zero] at c0
  have c1 := hcs 1 _ rfl
  have c2 := hcs 2 _ rfl
  have c3 := hcs 3 _ rfl
  obtain ⟨d, hd⟩ : ∃ d, d = L[j] := ⟨_, rfl⟩
  rw [← hd] at c0 c1 c2 c3 hc ha0 ha9
  have HDN : Hid (L[j].name = d.name) := Lib.hid (by rw [hd])
  clear hb slv hcs hd hSS
  unfold callsR at hc
  have Hc := Lib.hid hc
  have fa := Fr.alloc Nothing w (.cells #[Value.string d.name, Value.int .i64 d.waits, Value.bool d.called, Value.int .i64 d.at_] 52)
  have r0 : Row (w.alloc (.cells #[Value.string d.name, Value.int .i64 d.waits, Value.bool d.called, Value.int .i64 d.at_] 52)) w.heap.size [Value.string d.name, Value.int .i64 d.waits, Value.bool d.called, Value.int .i64 d.at_] 52 := Row.allocNew w d.cells 52
  have k0 := r0.cell 0 rfl
  have k1 := r0.cell 1 rfl
  have k2 := r0.cell 2 rfl
  have k3 := r0.cell 3 rfl
  have e2' := cell_fr e2 fa (fun h => h)
  have hI' := hI.fr fa (fun _ _ h => h)
  have hw64 : wrap64 (now - d.at_) = now - d.at_ := IntWalk.wrap64_in _ (by omega)
  have hw2 : IntKind.i64.wrap (now - d.at_) = now - d.at_ := IntWalk.i64_in _ (by omega)
  clear hc e2 hI
  go_enter Try.func30, Try.ntmps30
  go_upto_region 1 with (fail)
  have p1 : 0 < d.waits := by have := Hc.out; simp only [Bool.and_eq_true, decide_eq_true_iff] at this; exact this.1.1
  have p2 : inR R d.name = false := by have := Hc.out; simp only [Bool.and_eq_true, Bool.not_eq_true'] at this; exact this.1.2
  have q1 : decide (0 < d.waits) = true := decide_eq_true p1
  have hq : ∀ u, IsRef S u q qt L R → Calls Try.prog 36 #[.pointer (some ⟨q, 0, none⟩), .string d.name] u fun e w' => e = .returned (.bool false) ∧ w' = u := fun u hu => (ref_rowed d.name hu).mono fun e w' ⟨h1, h2⟩ => ⟨h1.trans (by rw [p2]), h2.symm⟩
  have Hq := Lib.hid hq
  clear p1 p2 hq
  go_cut [39] (fun s wx => s = .bool true ∧ ∃ m, wx = (w.alloc (.cells #[Value.string d.name, Value.int .i64 d.waits, Value.bool d.called, Value.int .i64 d.at_] 52)).drewN m)
  case first =>
    cases p3 : d.called with
    | false =>
      rw [p3] at k0 k1 k2 k3 e2' hI' fa r0
      go_quiet ((go_at_call 36; exact Calls.quiet_of_same (Hq.out _ (hI'.fr (Fr.drewN Nothing _ _) (fun _ _ h => h)))))
      go_wp2_with (fail)
      go_meet
      case rel => exact ⟨rfl, nq, by rw [p3]⟩
    | true =>
      have p4 : qt ≤ now - d.at_ := by have := Hc.out; simp only [Bool.and_eq_true, p3] at this; simpa using this.2
      have q4 : decide (qt ≤ now - d.at_) = true := decide_eq_true p4
      rw [p3] at k0 k1 k2 k3 e2' hI' fa r0
      go_quiet ((go_at_call 36; exact Calls.quiet_of_same (Hq.out _ (hI'.fr (Fr.drewN Nothing _ _) (fun _ _ h => h)))))
      go_wp2_with (fail)
      go_meet
      case rel => exact ⟨rfl, nq, by rw [p3]⟩
  case rest =>
    obtain ⟨rfl, m, rfl⟩ := hcut
    have Fw := Lib.hid (fa.trans' (Fr.drewN Nothing _ m))
    have R0 := r0.fr (Fr.drewN Nothing _ m) (fun h => h)
    obtain ⟨bo, hbo⟩ : ∃ bo, bo = w.heap.size := ⟨_, rfl⟩
    rw [← hbo] at R0 ⊢
    obtain ⟨wq, hwq⟩ : ∃ wq, wq = (w.alloc (.cells #[Value.string d.name, Value.int .i64 d.waits, Value.bool d.called, Value.int .i64 d.at_] 52)).drewN m := ⟨_, rfl⟩
    rw [← hwq] at R0 Fw ⊢
    clear hwq k0 k1 k2 k3 e2' hI' fa r0 q1 e0 c0 c1 c2 c3 hbo
    have HB := Lib.hid (HBX.out.fr Fw.out (fun h => h) (fun _ _ h => h) (fun _ _ h => h))
    have k0 := R0.cell 0 rfl
    have ka := (R0.fr (Fr.alloc Nothing _ (.cells #[Value.string d.name] 9)) (fun h => h)).cell 0 rfl
    obtain ⟨ar, cr, rfl, _, _⟩ := HB.out.row.shape
    have e1 := HB.out.head.cell 1 rfl
    have ea := (HB.out.head.fr (Fr.alloc Nothing _ (.cells #[Value.string d.name] 9)) (fun h => h)).cell 1 rfl
    have RR := Lib.hid R0
    clear R0
    go_wp2_with (fail)
    go_region_law
      ((first
        | (refine step_append_fp (by rfl) (.tmp 44) (.tmp 47) 22 (by rfl) 9 i0 (.string ByteArray.empty) 1 16 Try.underlying22 Hi.out Hz0.out Hz1.out Hz2.out rfl (by decide) _ R.length (R.map Value.string) (by rfl) (HB.out.row.fr ((Fr.drew Nothing wq).trans' (Fr.alloc Nothing _ (.cells #[Value.string d.name] 9))) (fun _ _ h => h)) _ 1 1 [Value.string d.name] (by rfl) rfl (by simp) (Sl.ofRow (Row.allocNew wq.drew [Value.string d.name] 9)) (by intro u hu; simp at hu; rw [hu]; rfl) (by unfold maxLen; omega) (by omega) ?_
           intro v7 w7 o7 f7 n7 s7 _
           have f7' := ((Fr.drew Nothing wq).trans' (Fr.alloc Nothing _ (.cells #[Value.string d.name] 9))).mono (T := InBlock (.slice ar R.length cr)) (fun _ _ h => h.elim)
           have G7 := HB.out.rowed (S := S) HSS.out (f7'.trans' f7) (R2 := R ++ [d.name]) (by simpa using o7) (fun k hk => (n7 k hk).elim .inl (fun h => .inr (by simp at h; omega))) (by simp; omega)
           have h7 := G7.1.cell 1 rfl
           have h8 := G7.1.free 1
           have GG := Lib.hid G7.2
           clear G7
           obtain ⟨a7, c7, rfl, _, _⟩ := o7.shape)))
    all_goals go_wp2_with (fail)
    all_goals
      go_end0
      refine ⟨rfl, ?_⟩
      rw [HDN.out]
      obtain ⟨S', i', g', f'⟩ := GG.out
      exact ⟨S', i', fun k hk => (g' k hk).elim .inl (fun h => .inr (Nat.le_trans Fw.out.size h)), (Fw.out.mono (fun _ _ h => h.elim)).trans' f'⟩
end
end Go.Proofs.Ytipkkhigcnhjdaa
