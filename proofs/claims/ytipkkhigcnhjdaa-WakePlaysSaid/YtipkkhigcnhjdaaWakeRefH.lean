/- The reference's call, whatever it does; Hint of a device that is known. -/
import Derived.Test.YtipkkhigcnhjdaaWakeRefD
namespace Go.Proofs.Ytipkkhigcnhjdaa
open Go.RowKit
theorem infoRDev : (Try.prog.info? 52).map (fun i => (i.zero, i.size, i.bytes)) = some (some (.agg #[.string ByteArray.empty, .int .i64 0, .bool false, .int .i64 0]), 4, 40) := by kernel_rfl
theorem rflat4 (L : List RDev) : (L.flatMap RDev.cells).length = L.length * 4 := flat_len RDev.cells 4 RDev.len L
theorem rdev_one (L : List RDev) : ∀ u ∈ L.flatMap RDev.cells, u.oneCell' = true := by
  intro u hu
  obtain ⟨d, _, hd⟩ := List.mem_flatMap.1 hu
  simp [RDev.cells] at hd
  rcases hd with rfl | rfl | rfl | rfl <;> rfl
/-- What lies behind the first n, as a slice of it reads. -/
theorem sl_rest {w : World} {L : List RDev} {b o c n : Nat} (h : Sl w (some ⟨b, o, none⟩) (L.flatMap RDev.cells)) (hn : n ≤ L.length) (hl : L.length ≤ c) : Sl w (if c = n then some ⟨b, o, none⟩ else some ⟨b, o + n * 4, none⟩) ((L.drop n).flatMap RDev.cells) := by
  by_cases hc : c = n
  · rw [if_pos hc]
    have : L.drop n = [] := List.drop_eq_nil_of_le (by omega)
    rw [this]; exact Sl.nil _ _
  · rw [if_neg hc]
    have h1 := h.drop (n * 4)
    have h2 : (L.flatMap RDev.cells).drop (n * 4) = (L.drop n).flatMap RDev.cells := by
      have e : L = L.take n ++ L.drop n := (List.take_append_drop n L).symm
      have hl2 : ((L.take n).flatMap RDev.cells).length = n * 4 := by rw [rflat4, List.length_take, Nat.min_eq_left hn]
      have e2 : L.flatMap RDev.cells = (L.take n).flatMap RDev.cells ++ (L.drop n).flatMap RDev.cells := by rw [← List.flatMap_append, ← e]
      rw [e2, List.drop_left' hl2]
    rw [h2] at h1; exact h1
/-- The row behind a call. -/
def calledR (d : RDev) (R : List ByteArray) (now qt : Int) : List ByteArray := if callsR d R now qt then R ++ [d.name] else R
def TimesOk (L : List RDev) : Prop := ∀ d ∈ L, 0 ≤ d.at_ ∧ d.at_ ≤ 9223372036854775807
section
variable {S : Nat → Prop} {w : World} {q : Nat} {qt : Int} {L : List RDev} {R : List ByteArray}
theorem ref_call (j : Nat) (hj : j < L.length) (now : Int) (h0 : 0 ≤ now) (h9 : now ≤ 9223372036854775807) (hT : TimesOk L) (h : IsRef S w q qt L R) (hR : R.length ≤ 90000) :
    Calls Try.prog 30 #[.pointer (some ⟨q, 0, none⟩), .int .i64 j, .int .i64 now] w fun e w' => e = .returned (.tuple #[]) ∧ RefGone S w q qt L (calledR L[j] R now qt) w' := by
  obtain ⟨t1, t2⟩ := hT _ (List.getElem_mem hj)
  unfold calledR
  cases hc : callsR L[j] R now qt with
  | true =>
    rw [if_pos rfl]
    exact ref_call_yes j hj now h0 h9 t1 t2 h hR hc
  | false =>
    rw [if_neg (by simp)]
    refine (ref_call_no j hj now h0 h9 t1 t2 h hc).mono ?_
    rintro e w' ⟨rfl, f⟩
    exact ⟨rfl, h.quiet f⟩
theorem RefGone.over {M : List RDev} {R2 : List ByteArray} {w2 w3 : World} (F : Fr S w w2) (h : RefGone S w2 q qt M R2 w3) : RefGone S w q qt M R2 w3 := by
  obtain ⟨S', i, g, f⟩ := h
  exact ⟨S', i, fun k hk => (g k hk).elim .inl (fun h => .inr (Nat.le_trans F.size h)), F.trans' f⟩
theorem RefGone.after {S1 : Nat → Prop} {M : List RDev} {R2 : List ByteArray} {w2 w3 : World} (g1 : ∀ k, S1 k → S k ∨ w.heap.size ≤ k) (f1 : Fr S w w2) (h : RefGone S1 w2 q qt M R2 w3) : RefGone S w q qt M R2 w3 := by
  obtain ⟨S', i, g, f⟩ := h
  refine ⟨S', i, fun k hk => ?_, f1.trans f (fun k hk h1 => ?_)⟩
  · rcases g k hk with h | h
    · exact g1 k h
    · exact .inr (Nat.le_trans f1.size h)
  · rcases g1 k h1 with h | h
    · exact h
    · omega
/-- One more waits. -/
def moreD (d : RDev) : RDev := { d with waits := d.waits + 1 }
theorem TimesOk.set {j : Nat} (h : TimesOk L) (hj : j < L.length) : TimesOk (L.set j (moreD L[j])) := by
  intro d hd
  rcases List.mem_or_eq_of_mem_set hd with h1 | rfl
  · exact h d h1
  · exact h L[j] (List.getElem_mem hj)
theorem ref_hint_empty (now : Int) (w : World) : Calls Try.prog 19 #[.pointer (some ⟨q, 0, none⟩), .string ByteArray.empty, .int .i64 now] w fun e w' => e = .returned (.int .i64 1) ∧ w = w' := by
  go_enter Try.func19, Try.ntmps19
  go_wp2_with (fail)
  go_ret
  exact ⟨rfl, rfl⟩
theorem ref_hint_early (k : ByteArray) (now : Int) (hn : now < 0) (w : World) : Calls Try.prog 19 #[.pointer (some ⟨q, 0, none⟩), .string k, .int .i64 now] w fun e w' => e = .returned (.int .i64 1) ∧ w = w' := by
  have hd : decide (now < 0) = true := decide_eq_true hn
  go_enter Try.func19, Try.ntmps19
  go_wp2_with (fail)
  all_goals
    go_ret
    exact ⟨rfl, rfl⟩
set_option maxHeartbeats 2000000 in
theorem ref_hint_known (k : ByteArray) (hk0 : k ≠ ByteArray.empty) (j : Nat) (hj : j < L.length) (_hjk : L[j].name = k) (hat : atOf L k = j) (now : Int) (h0 : 0 ≤ now) (h9 : now ≤ 9223372036854775807) (hT : TimesOk L) (hw : 0 ≤ L[j].waits ∧ L[j].waits ≤ 1000000) (h : IsRef S w q qt L R) (hR : R.length ≤ 90000) :
    Calls Try.prog 19 #[.pointer (some ⟨q, 0, none⟩), .string k, .int .i64 now] w fun e w' => e = .returned (.int .i64 0) ∧ RefGone S w q qt (L.set j (moreD L[j])) (calledR (moreD L[j]) R now qt) w' := by
  have HT := Lib.hid hT
  have HI1 := Lib.hid h
  have HAt := Lib.hid hat
  have HWt := Lib.hid hw
  have hkt : k.toList.isEmpty = false := text_cons hk0
  have hd0 : decide (now < 0) = false := by rw [decide_eq_false_iff_not]; omega
  have hatc := ref_at k h
  rw [hat] at hatc
  have HA := Lib.hid hatc
  clear hT h hat hw hatc _hjk
  go_enter Try.func19, Try.ntmps19
  go_upto_region 11 with (go_at_call 25; refine HA.out.mono ?_; rintro e w1 ⟨rfl, rfl⟩)
  obtain ⟨vl1, vr1, hb1, hS⟩ := HI1.out
  obtain ⟨al1, cl1, rfl, hl1, hm1⟩ := hb1.own.shape
  obtain ⟨gg, rfl⟩ : ∃ gg, al1 = some ⟨gg, 0, none⟩ := by
    rcases hb1.own.2 with ⟨h1, _⟩ | ⟨g', cap, cur, h1, _⟩
    · simp only [Value.slice.injEq] at h1; omega
    · simp only [Value.slice.injEq] at h1; exact ⟨g', h1.1⟩
  have x0 := hb1.head.cell 0 rfl
  have slv : Recs RDev.cells 4 w (some ⟨gg, 0, none⟩) L := ⟨RDev.len, by decide, hb1.own.sl.2⟩
  obtain ⟨bz, oz, hz, hcz⟩ := slv.at_ hj
  obtain ⟨rfl, rfl⟩ : gg = bz ∧ 0 = oz := by simpa using hz
  have x1 : w.cell? ⟨gg, j * 4 + 1, none⟩ = some (.int .i64 L[j].waits) := by have := hcz 1 _ rfl; simpa using this
  have hsum : IntKind.i64.wrap (L[j].waits + 1) = L[j].waits + 1 := IntWalk.i64_in _ (by have := HWt.out; omega)
  have hsum2 : wrap64 (L[j].waits + 1) = L[j].waits + 1 := IntWalk.wrap64_in _ (by have := HWt.out; omega)
  have DV := hb1.dev rfl hj (i := 1) (by omega) (v := .int .i64 (L[j].waits + 1)) (d := moreD L[j]) rfl
  have x2 := DV.2.1
  have hgS : S gg := (hS _).2 (.inr (.inl rfl))
  have I2 : IsRef S _ q qt (L.set j (moreD L[j])) R := ⟨_, vr1, DV.1, hS⟩
  have F2 := DV.2.2.mono (fun k _ e => (show S k from e ▸ hgS))
  have HI2 := Lib.hid I2
  have HF2 := Lib.hid F2
  have hjc : (j : Int) < L.length := by omega
  have hJc : (L.length : Int) ≤ cl1 := by omega
  have hcl9 : (cl1 : Int) ≤ 9223372036854775807 := by unfold maxLen at hm1; omega
  have hj2 : j < (L.set j (moreD L[j])).length := by rw [List.length_set]; exact hj
  have hnm : (L.set j (moreD L[j]))[j] = moreD L[j] := by simp
  have hcall := ref_call j hj2 now h0 h9 (HT.out.set hj) HI2.out hR
  rw [hnm] at hcall
  have HCall := Lib.hid hcall
  clear hb1 slv hcz hz DV hgS I2 F2 hnm hcall hS
  go_wp2_with (go_at_call 30; refine HCall.out.mono ?_; rintro e w5 ⟨rfl, G5⟩)
  go_ret
  exact ⟨rfl, RefGone.over HF2.out G5⟩
end
end Go.Proofs.Ytipkkhigcnhjdaa
