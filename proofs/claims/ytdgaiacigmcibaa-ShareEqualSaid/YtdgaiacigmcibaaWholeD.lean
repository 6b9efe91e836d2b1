/- share.Whole: its row as plain numbers; sorts of no numbers. No condition. -/
import Derived.Test.YtdgaiacigmcibaaWholeB
import Derived.Test.YtdgaiacigmcibaaWholeC
import Derived.Test.YtdgaiacigmcibaaNSortK
import Derived.Test.YtdgaiacigmcibaaTopP
import Derived.Test.YtdgaiacigmcibaaCover
import Derived.Sort.AssemblyPlain
namespace Go.Proofs.Ytdgaiacigmcibaa
open Go.RowKit Go.Sort
abbrev numsW (X : List Int) : List Value := X.map (.int .i64)
/-- The number that is parted. -/
def clampN (n : Int) : Nat := (min (max n 0) 1000000).toNat
theorem clamp_int (n : Int) : min (max n 0) 1000000 = (clampN n : Int) := by unfold clampN; omega
theorem clamp_le (n : Int) : clampN n ≤ 1000000 := by unfold clampN; omega
def outL (l : List Nat) (m : Nat) : List Int := (List.range l.length).map fun i => (outF l m i : Int)
def restL (l : List Nat) (m : Nat) : List Nat := (List.range l.length).map fun i => restF l m i
/-- The places that count, of which most is left first. -/
def takeL (l : List Nat) (m : Nat) : List Int := (stableF (ltC (cfT (restL l m))) (ats l l.length).length (ats l l.length).toArray).toList
def wholeL (l : List Nat) (n : Int) : List Int := wholeOf (outL l (clampN n)) (restL l (clampN n)) (takeL l (clampN n)) (clampN n)
theorem sort_top (l : List Nat) : Sort.sort ltInt (topL l).toArray = (ats l l.length).toArray := by
  apply Array.toList_inj.1
  rw [sortInt (topL l)]
  refine List.Perm.eq_of_pairwise (le := fun x y : Int => x ≤ y) (fun a b _ _ h1 h2 => by omega) ?_ ?_ ((List.mergeSort_perm _ _).trans (topL_perm l))
  · refine (List.pairwise_mergeSort (le := fun x y : Int => decide (x ≤ y)) ?_ ?_ _).imp ?_
    · intro a b c h1 h2
      rw [decide_eq_true_iff] at h1 h2 ⊢; omega
    · intro a b
      rw [Bool.or_eq_true, decide_eq_true_iff, decide_eq_true_iff]; omega
    · intro a b h
      exact decide_eq_true_iff.1 h
  · exact (ats_asc l l.length).imp fun h => by omega
theorem takeL_perm (l : List Nat) (m : Nat) : (takeL l m).Perm (ats l l.length) := by
  have := stable_prm (ltC (cfT (restL l m))) (ats l l.length).length (ats l l.length).toArray (by simp)
  unfold takeL
  exact this
theorem takeL_good {l : List Nat} {m : Nat} {x : Int} (h : x ∈ takeL l m) : GT l x := ats_good ((takeL_perm l m).mem_iff.1 h)
theorem take_inside (l : List Nat) (m : Nat) : Inside (takeL l m) (outL l m).length := by
  intro x hx
  have h := takeL_good hx
  exact ⟨h.1, by unfold outL; simpa using h.2.1⟩
theorem outL_nn (l : List Nat) (m : Nat) : NonNeg (outL l m) := by
  intro x hx
  unfold outL at hx
  obtain ⟨i, _, rfl⟩ := List.mem_map.1 hx
  omega
theorem take_rest {l : List Nat} {m i : Nat} (h : i < l.length) : (restL l m).getD i 0 = restF l m i := by
  unfold restL; simp [h]
theorem ats_rest {l : List Nat} (hw : ∀ z ∈ l, z < 18446744073709551616) {m : Nat} (hm : m ≤ 1000000) {x : Int} (h : x ∈ ats l l.length) : GR (restL l m) x := by
  have hg := ats_good h
  refine ⟨hg.1, by unfold restL; simpa using hg.2.1, ?_⟩
  rw [take_rest hg.2.1]
  exact (part_step hw hm hg.2.1).2.2.2.2
theorem sum_range_le (f : Nat → Int) (M : Int) : ∀ k : Nat, (∀ i, i < k → f i ≤ M) → ((List.range k).map f).sum ≤ k * M := by
  intro k
  induction k with
  | zero => intro _; simp
  | succ k ih =>
    intro h
    have h1 := ih (fun i hi => h i (by omega))
    have h2 := h k (by omega)
    rw [List.range_succ, List.map_append, List.sum_append]
    simp only [List.map_cons, List.map_nil, List.sum_cons, List.sum_nil]
    rw [show ((k + 1 : Nat) : Int) * M = k * M + M by rw [Int.natCast_add, Int.add_mul]; simp]
    omega
theorem out_sum_le {l : List Nat} (hw : ∀ z ∈ l, z < 18446744073709551616) {m : Nat} (hm : m ≤ 1000000) (k : Nat) (hk : k ≤ l.length) : ((List.range k).map fun i => (outF l m i : Int)).sum ≤ k * 1000000 :=
  sum_range_le _ 1000000 k fun i hi => by have := (part_step hw hm (i := i) (by omega)).2.2.1; omega
/-- The slices of no numbers. -/
theorem insOrd_zero (a : Option Addr) (c : Nat) (w : World) :
    Calls Try.prog 46 #[.slice a 0 c, .int .i64 0, .int .i64 0] w fun e w' => e = .returned (.tuple #[]) ∧ w' = w := by
  go_enter Try.func46, Try.ntmps46
  go_wp2_with (fail)
  go_loopg [6] 0 (fun g i wr => g = 0 ∧ i = .int .i64 1 ∧ wr = w)
  case atStart => exact ⟨rfl, rfl, rfl⟩
  case round =>
    obtain ⟨rfl, rfl, rfl⟩ := hrel
    go_wp2_with (fail)
    go_end0
    exact ⟨rfl, rfl⟩
theorem insC_zero (a : Option Addr) (c : Nat) (fv : Value) (w : World) :
    Calls Try.prog 44 #[.slice a 0 c, .int .i64 0, .int .i64 0, fv] w fun e w' => e = .returned (.tuple #[]) ∧ w' = w := by
  go_enter Try.func44, Try.ntmps44
  go_wp2_with (fail)
  go_loopg [8] 0 (fun g i wr => g = 0 ∧ i = .int .i64 1 ∧ wr = w)
  case atStart => exact ⟨rfl, rfl, rfl⟩
  case round =>
    obtain ⟨rfl, rfl, rfl⟩ := hrel
    go_wp2_with (fail)
    go_end0
    exact ⟨rfl, rfl⟩
theorem stable_zero (a : Option Addr) (c : Nat) (fv : Value) (w : World) :
    Calls Try.prog 26 #[.slice a 0 c, fv] w fun e w' => e = .returned (.tuple #[]) ∧ w' = w := by
  have hs : ∀ w, Calls Try.prog 33 #[.slice a 0 c, .int .i64 0, fv] w fun e w' => e = .returned (.tuple #[]) ∧ w' = w := by
    intro w
    go_enter Try.func33, Try.ntmps33
    go_wp2_with (fail)
    go_loopg [7, 8] 0 (fun g i j wr => g = 0 ∧ i = .int .i64 0 ∧ j = .int .i64 20 ∧ wr = w)
    case atStart => exact ⟨rfl, rfl, rfl, rfl⟩
    case round =>
      obtain ⟨rfl, rfl, rfl, rfl⟩ := hrel
      go_wp2_with (go_at_call 44; refine (insC_zero _ _ _ _).mono ?_; rintro e w1 ⟨rfl, rfl⟩)
      go_loopg [6] 0 (fun g i wr => g = 0 ∧ i = .int .i64 20 ∧ wr = w1)
      case atStart => exact ⟨rfl, rfl, rfl⟩
      case round =>
        obtain ⟨rfl, rfl, rfl⟩ := hrel
        go_wp2_with (fail)
        go_end0
        exact ⟨rfl, rfl⟩
  go_enter Try.func26, Try.ntmps26
  go_wp2_with (go_at_call 33; refine (hs _).mono ?_; rintro e w1 ⟨rfl, rfl⟩)
  go_end0
  exact ⟨rfl, rfl⟩
set_option maxRecDepth 100000 in
set_option maxHeartbeats 1000000 in
theorem sort_zero (a : Option Addr) (c : Nat) (w : World) :
    Calls Try.prog 29 #[.slice a 0 c] w fun e w' => e = .returned (.tuple #[]) ∧ w' = w := by
  have hB := Try.bits_Len 0 w (by omega) (by omega)
  rw [show Lib.bitLen (0 : Int).toNat = 0 from rfl] at hB
  have HB := Lib.hid hB
  have hp : ∀ w, Calls Try.prog 35 #[.slice a 0 c, .int .i64 0, .int .i64 0, .int .i64 0] w fun e w' => e = .returned (.tuple #[]) ∧ w' = w := by
    intro w
    go_enter Try.func35, Try.ntmps35
    go_wp2_with (fail)
    go_loopg [1, 2, 3, 8, 9] 0 (fun g s1 s2 s3 s8 s9 wr => g = 0 ∧ s1 = .int .i64 0 ∧ s2 = .int .i64 0 ∧ s3 = .int .i64 0 ∧ s8 = .bool true ∧ s9 = .bool true ∧ wr = w)
    case atStart => exact ⟨rfl, rfl, rfl, rfl, rfl, rfl, rfl⟩
    case round =>
      obtain ⟨rfl, rfl, rfl, rfl, rfl, rfl, rfl⟩ := hrel
      go_wp2_with (go_at_call 46; refine (insOrd_zero _ _ _).mono ?_; rintro e w1 ⟨rfl, rfl⟩)
      (try simp only [Exit.inBlock, Exit.then]); refine bodyPost_ret (results_none rfl _ _ _) rfl ?_
      exact ⟨rfl, rfl⟩
  clear hB
  go_enter Try.func29, Try.ntmps29
  go_wp2_with (first
    | (go_at_call 36; refine HB.out.mono ?_; rintro e w1 ⟨rfl, rfl⟩)
    | (go_at_call 35; refine (hp _).mono ?_; rintro e w2 ⟨rfl, rfl⟩))
  go_end0
  exact ⟨rfl, rfl⟩
end Go.Proofs.Ytdgaiacigmcibaa
