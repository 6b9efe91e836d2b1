/- The reference's Tick. -/
import Derived.Test.YtipkkhigcnhjdaaWakeRefH
namespace Go.Proofs.Ytipkkhigcnhjdaa
open Go.RowKit
/-- The row behind a tick. -/
def tickRR (L : List RDev) (R : List ByteArray) (now qt : Int) : List ByteArray := R ++ (L.filter (fun d => callsR d R now qt)).map RDev.name
theorem inR_append (A B : List ByteArray) (k : ByteArray) : inR (A ++ B) k = (inR A k || inR B k) := by simp [inR]
theorem tickRR_step {L : List RDev} {R : List ByteArray} {now qt : Int} (hn : (L.map RDev.name).Nodup) {j : Nat} (hj : j < L.length) : calledR L[j] (tickRR (L.take j) R now qt) now qt = tickRR (L.take (j + 1)) R now qt := by
  have e : L.take (j + 1) = L.take j ++ [L[j]] := List.take_succ_eq_append_getElem hj
  have hno : inR (((L.take j).filter (fun d => callsR d R now qt)).map RDev.name) L[j].name = false := by
    cases hc : inR (((L.take j).filter (fun d => callsR d R now qt)).map RDev.name) L[j].name with
    | false => rfl
    | true =>
      exfalso
      obtain ⟨d, hd, he⟩ := List.mem_map.1 (inR_iff.1 hc)
      have hd2 := (List.mem_filter.1 hd).1
      have e2 : L = L.take j ++ (L[j] :: L.drop (j + 1)) := by rw [← List.drop_eq_getElem_cons hj]; exact (List.take_append_drop j L).symm
      rw [e2, List.map_append, List.map_cons, List.nodup_append] at hn
      exact hn.2.2 _ (List.mem_map_of_mem hd2) _ (List.mem_cons_self ..) he
  have hcc : callsR L[j] (tickRR (L.take j) R now qt) now qt = callsR L[j] R now qt := by
    unfold callsR tickRR
    rw [inR_append, hno, Bool.or_false]
  unfold calledR
  rw [hcc]
  unfold tickRR
  rw [e, List.filter_append, List.map_append]
  cases hc : callsR L[j] R now qt with
  | true => simp [hc]
  | false => simp [hc]
section
variable {S : Nat → Prop} {w : World} {q : Nat} {qt : Int} {L : List RDev} {R : List ByteArray}
theorem ref_tick_early (now : Int) (hn : now < 0) (h : IsRef S w q qt L R) :
    Calls Try.prog 20 #[.pointer (some ⟨q, 0, none⟩), .int .i64 now] w fun e w' => e = .returned (.tuple #[]) ∧ w = w' := by
  obtain ⟨vl, vr, hb, _⟩ := h
  obtain ⟨al, cl, rfl, _, _⟩ := hb.own.shape
  have h0 := hb.head.cell 0 rfl
  have hll := hb.ll
  have hd : decide (0 ≤ now) = false := by rw [decide_eq_false_iff_not]; omega
  clear hb
  cases L with
  | nil =>
    simp only [List.length_nil] at h0
    go_enter Try.func20, Try.ntmps20
    go_wp2_with (fail)
    go_loopw [4] (fun i wr => i = .int .i64 0 ∧ w = wr) (fun _ _ => 0)
    case atStart => exact ⟨rfl, rfl⟩
    case round =>
      obtain ⟨rfl, rfl⟩ := hrel
      go_wp2_with (fail)
      go_end0
      exact ⟨rfl, rfl⟩
  | cons x L =>
    have hp : (0 : Int) < L.length + 1 := by omega
    simp only [List.length_cons] at h0
    go_enter Try.func20, Try.ntmps20
    go_wp2_with (fail)
    go_loopw [4] (fun i wr => i = .int .i64 0 ∧ w = wr) (fun _ _ => 0)
    case atStart => exact ⟨rfl, rfl⟩
    case round =>
      obtain ⟨rfl, rfl⟩ := hrel
      go_wp2_with (fail)
      go_end0
      exact ⟨rfl, rfl⟩
theorem ref_tick (now : Int) (h0 : 0 ≤ now) (h9 : now ≤ 9223372036854775807) (hT : TimesOk L) (hn : (L.map RDev.name).Nodup) (hl : L.length ≤ 64) (hR : R.length ≤ 80000) (h : IsRef S w q qt L R) :
    Calls Try.prog 20 #[.pointer (some ⟨q, 0, none⟩), .int .i64 now] w fun e w' => e = .returned (.tuple #[]) ∧ RefGone S w q qt L (tickRR L R now qt) w' := by
  have HT := Lib.hid hT
  have HN := Lib.hid hn
  have ST : Hid (RefGone S w q qt L (tickRR (L.take 0) R now qt) w) := Lib.hid (by
    have e : tickRR (L.take 0) R now qt = R := by simp [tickRR]
    rw [e]
    exact h.quiet (Fr.refl _ _))
  have hd : decide (0 ≤ now) = true := decide_eq_true h0
  clear hT hn h
  go_enter Try.func20, Try.ntmps20
  go_wp2_with (fail)
  go_loopg [4] L.length (fun g i wr => ∃ j : Nat, j ≤ L.length ∧ g = L.length - j ∧ i = .int .i64 j ∧ Hid (RefGone S w q qt L (tickRR (L.take j) R now qt) wr))
  case atStart => exact ⟨0, Nat.zero_le _, rfl, rfl, ST⟩
  case round =>
    obtain ⟨j, hj, rfl, rfl, HX⟩ := hrel
    obtain ⟨S1, hI, hg, hf⟩ := HX.out
    have HI := Lib.hid hI
    have Hg := Lib.hid hg
    have Hf := Lib.hid hf
    obtain ⟨vl, vr, hb, _⟩ := hI
    obtain ⟨al, cl, rfl, _, _⟩ := hb.own.shape
    have e0 := hb.head.cell 0 rfl
    clear hb hg hf
    by_cases hlt : j < L.length
    · have hjI : (j : Int) < L.length := by omega
      have hRj : (tickRR (L.take j) R now qt).length ≤ 90000 := by
        unfold tickRR
        rw [List.length_append, List.length_map]
        have h1 := List.length_filter_le (fun d => callsR d R now qt) (L.take j)
        have h2 : (L.take j).length ≤ 64 := by rw [List.length_take]; omega
        omega
      have hcall := ref_call j hlt now h0 h9 HT.out HI.out hRj
      rw [tickRR_step HN.out hlt] at hcall
      have HC := Lib.hid hcall
      clear hcall
      go_wp2_with (go_at_call 30; refine HC.out.mono ?_; rintro e w5 ⟨rfl, G5⟩)
      go_roundg (L.length - (j + 1))
      case measure => omega
      case rel => exact ⟨j + 1, by omega, rfl, by go_num, Lib.hid (RefGone.after Hg.out Hf.out G5)⟩
    · obtain rfl : j = L.length := by omega
      go_wp2_with (fail)
      go_end0
      have h1 := HX.out
      rw [List.take_length] at h1
      exact ⟨rfl, h1⟩
end
end Go.Proofs.Ytipkkhigcnhjdaa
