/- share.Whole: a whole number in parts. Condition: at most 60 weights. -/
import Derived.Test.YtdgaiacigmcibaaWholeD
import Derived.Lib.MinMax
import Derived.WalkMore
import Derived.StillTailTactics
namespace Go.Proofs.Ytdgaiacigmcibaa
open Go.RowKit Go.Sort

def outRow (l : List Nat) (m N k : Nat) : List Value := (List.range N).map fun i => Value.int .i64 (if i < k then (outF l m i : Int) else 0)
theorem outRow_get (l : List Nat) (m N k i : Nat) (h : i < N) : (outRow l m N k)[i]? = some (.int .i64 (if i < k then (outF l m i : Int) else 0)) := by
  unfold outRow
  rw [List.getElem?_map, List.getElem?_range h]; rfl
theorem outRow_len (l : List Nat) (m N k : Nat) : (outRow l m N k).length = N := by unfold outRow; simp
theorem outRow_zero (l : List Nat) (m N : Nat) : outRow l m N 0 = List.replicate N (.int .i64 0) := by
  unfold outRow
  simp only [Nat.not_lt_zero, if_false]
  rw [List.map_const', List.length_range]
theorem outRow_set (l : List Nat) (m N k : Nat) (h : k < N) : (outRow l m N k).set k (.int .i64 (outF l m k : Int)) = outRow l m N (k + 1) := by
  apply List.ext_getElem?
  intro i
  by_cases hi : i < N
  · by_cases hk : k = i
    · subst hk
      rw [List.getElem?_set_self (by rw [outRow_len]; exact h), outRow_get _ _ _ _ _ h, if_pos (by omega)]
    · rw [List.getElem?_set_ne hk, outRow_get _ _ _ _ _ hi, outRow_get _ _ _ _ _ hi]
      by_cases h1 : i < k
      · rw [if_pos h1, if_pos (by omega)]
      · rw [if_neg h1, if_neg (by omega)]
  · rw [List.getElem?_eq_none (by rw [List.length_set, outRow_len]; omega), List.getElem?_eq_none (by rw [outRow_len]; omega)]
theorem outRow_all (l : List Nat) (m : Nat) : outRow l m l.length l.length = numsW (outL l m) := by
  unfold outRow outL numsW
  rw [List.map_map]
  apply List.map_congr_left
  intro i hi
  rw [if_pos (List.mem_range.1 hi)]; rfl
theorem row2_zero (f : Nat → Nat) (N : Nat) : row2 f (fun _ => 0) N 0 = List.replicate N (.float .f64 0) := by
  unfold row2
  simp only [Nat.not_lt_zero, if_false]
  rw [List.map_const', List.length_range]
theorem row2_all (l : List Nat) (m : Nat) : row2 (restF l m) (fun _ => 0) l.length l.length = (restL l m).map fun x => Value.float .f64 x := by
  unfold row2 restL
  rw [List.map_map]
  apply List.map_congr_left
  intro i hi
  rw [if_pos (List.mem_range.1 hi)]; rfl
theorem nums_get {X : List Int} {i : Nat} (h : i < X.length) : (numsW X)[i]? = some (.int .i64 (X.getD i 0)) := by
  unfold numsW; simp [h]
theorem nums_bump (X : List Int) (p : Nat) (x : Int) : (numsW X).set p (.int .i64 (X.getD p 0 + x)) = numsW (bump X p x) := by
  unfold numsW bump; rw [List.map_set]
/-- Whole's answer in new memory. -/
def WholeTold (X : List Int) (w : World) (e : Ending) (w' : World) : Prop :=
  ∃ g, e = .returned (.slice (some ⟨g, 0, none⟩) X.length X.length) ∧ w.heap.size ≤ g ∧ Row w' g (numsW X) 3 ∧ Fr Nothing w w'
theorem infoN : ∃ i0, Try.prog.info? 3 = some i0 ∧ i0.zero = some (.int .i64 0) ∧ i0.size = 1 ∧ i0.bytes = 8 := by
  have hi := Try.infoInt
  cases h0 : Try.prog.info? 3 with
  | none => rw [h0] at hi; simp at hi
  | some i0 =>
    rw [h0] at hi
    simp only [Option.map_some, Option.some.injEq, Prod.mk.injEq] at hi
    exact ⟨i0, rfl, hi.1, hi.2.1, hi.2.2⟩
theorem infoFl : ∃ i0, Try.prog.info? 23 = some i0 ∧ i0.zero = some (.float .f64 0) ∧ i0.size = 1 ∧ i0.bytes = 8 := by
  have hi := Try.infoF
  cases h0 : Try.prog.info? 23 with
  | none => rw [h0] at hi; simp at hi
  | some i0 =>
    rw [h0] at hi
    simp only [Option.map_some, Option.some.injEq, Prod.mk.injEq] at hi
    exact ⟨i0, rfl, hi.1, hi.2.1, hi.2.2⟩
set_option maxHeartbeats 8000000 in
set_option maxRecDepth 100000 in
theorem whole_f (a : Option Addr) (l : List Nat) (c : Nat) (n : Int) (w : World) (hl : Fs w a l) (hw : ∀ z ∈ l, z < 18446744073709551616) (h60 : l.length ≤ 60) (hc : l.length ≤ c) :
    Calls Try.prog 19 #[.int .i64 n, .slice a l.length c] w (WholeTold (wholeL l n) w) := by
  obtain ⟨i0, hi, hz0, hz1, hz2⟩ := infoN
  obtain ⟨j0, hj, hy0, hy1, hy2⟩ := infoFl
  have Hi := Lib.hid hi
  have Hz0 := Lib.hid hz0
  have Hz1 := Lib.hid hz1
  have Hj := Lib.hid hj
  have Hy0 := Lib.hid hy0
  have Hy1 := Lib.hid hy1
  obtain ⟨N, hN⟩ : ∃ N, N = l.length := ⟨_, rfl⟩
  obtain ⟨m, hm⟩ : ∃ m, m = clampN n := ⟨_, rfl⟩
  have hmI : min (max n 0) 1000000 = (m : Int) := by rw [hm]; exact clamp_int n
  have hm6 : m ≤ 1000000 := by rw [hm]; exact clamp_le n
  have hm6I : (m : Int) ≤ 1000000 := by omega
  obtain ⟨T, hT⟩ : ∃ T, T = topL l := ⟨_, rfl⟩
  obtain ⟨M, hM⟩ : ∃ M, M = T.length := ⟨_, rfl⟩
  have hMN : M ≤ N := by rw [hM, hT, hN]; exact topL_len l
  have htk : T.take (min (max (N : Int) 0) (T.length : Int)).toNat = T := List.take_of_length_le (by omega)
  have hby : i0.bytes * N ≤ 281474976710656 := by rw [hz2]; omega
  have hby2 : j0.bytes * N ≤ 281474976710656 := by rw [hy2]; omega
  have hml : N ≤ maxLen := by unfold maxLen; omega
  have HP : Hid (∀ W, Fr Nothing w W → Calls Try.prog 12 #[.slice a N c] W fun e w' => ∃ g, e = .returned (.slice (some ⟨g, 0, none⟩) N N) ∧ W.heap.size ≤ g ∧ Row w' g (pRow l N) 23 ∧ Fr Nothing W w') := Lib.hid fun W F => by
    rw [hN]; exact parts_f a l c W (Sl.fr hl F (fun _ _ h => h)) hw (by omega)
  have HT : Hid (∀ W, Fr Nothing w W → Calls Try.prog 15 #[.slice a N c, .int .i64 (N : Int)] W (TopTold T W)) := Lib.hid fun W F => by
    have := top_f a l c (N : Int) W (Sl.fr hl F (fun _ _ h => h)) hw (by omega) hc
    rw [← hT, htk, ← hN] at this
    exact this
  obtain ⟨F, hF⟩ : ∃ F, F = nfF m := ⟨_, rfl⟩
  have hfo : floatOfInt .f64 (m : Int) = F := by rw [hF]; exact nf_of_int m
  have HNF := Lib.hid hF
  have HLN := Lib.hid hN.symm
  have HTL := Lib.hid hT
  have HTM := Lib.hid hM.symm
  have HW := Lib.hid hw
  have HMM := Lib.hid hm
  have hN9 : (N : Int) ≤ 60 := by omega
  have hM9 : (M : Int) ≤ 60 := by omega
  have hst := store_f
  rw [← hN] at h60 ⊢
  obtain ⟨RES, hRES⟩ : ∃ R, R = wholeL l n := ⟨_, rfl⟩
  have hRL : RES.length = N := by rw [hRES, hN]; unfold wholeL; rw [whole_len]; unfold outL; simp
  rw [← hRES]
  have HRL := Lib.hid hRL
  have HRES := Lib.hid hRES
  clear hi hz0 hz1 hz2 hj hy0 hy1 hy2 hN hm hT hM htk hl hw hc hF hRES hRL
  go_enter Try.func19, Try.ntmps19
  go_wp2_with (fail)
  go_step3
  go_wp2_with (at_make; go_must (refine wpList_make_row _ rfl _ _ 28 rfl 3 i0 (.int .i64 0) Try.underlying28 Hi.out Hz0.out Hz1.out rfl .i64 .i64 _ _ N rfl rfl rfl rfl hby hml ?_))
  intro w1 hr1 hf1 hlt1
  go_wp2_with (at_make; go_must (refine wpList_make_row _ rfl _ _ 22 rfl 23 j0 (.float .f64 0) Try.underlying22 Hj.out Hy0.out Hy1.out rfl .i64 .i64 _ _ N rfl rfl rfl rfl hby2 hml ?_))
  intro w2 hr2 hf2 hlt2
  obtain ⟨g, hg⟩ : ∃ g, g = w.heap.size := ⟨_, rfl⟩
  obtain ⟨r, hr⟩ : ∃ r, r = w1.heap.size := ⟨_, rfl⟩
  obtain ⟨b, hb⟩ : ∃ b, b = w2.heap.size := ⟨_, rfl⟩
  rw [← hg] at hr1 hlt1 ⊢
  rw [← hr] at hr2 hlt2 ⊢
  have hgr : g < r := by omega
  have hrb : r < b := by omega
  have F3 : Fr Nothing w (w2.alloc (.cells #[.slice (some ⟨r, 0, none⟩) N N] 22)) := (hf1.trans' hf2).trans' (Fr.alloc Nothing _ _)
  have hrow : Row (w2.alloc (.cells #[.slice (some ⟨r, 0, none⟩) N N] 22)) b [.slice (some ⟨r, 0, none⟩) N N] 22 := by rw [hb]; exact Row.allocNew w2 [.slice (some ⟨r, 0, none⟩) N N] _
  have hsz : (w2.alloc (.cells #[.slice (some ⟨r, 0, none⟩) N N] 22)).heap.size = b + 1 := by rw [hb]; simp
  have hr1' : Row (w2.alloc (.cells #[.slice (some ⟨r, 0, none⟩) N N] 22)) g (outRow l m N 0) 3 := by
    rw [outRow_zero]; exact hr1.fr (hf2.trans' (Fr.alloc Nothing _ _)) (fun h => h)
  have hr2' : Row (w2.alloc (.cells #[.slice (some ⟨r, 0, none⟩) N N] 22)) r (row2 (restF l m) (fun _ => 0) N 0) 23 := by
    rw [row2_zero]; exact hr2.fr (Fr.alloc Nothing _ _) (fun h => h)
  have HG := Lib.hid hg
  obtain ⟨w3, hw3⟩ : ∃ w3, w3 = w2.alloc (.cells #[.slice (some ⟨r, 0, none⟩) N N] 22) := ⟨_, rfl⟩
  rw [← hw3] at F3 hrow hsz hr1' hr2'
  have HW3 := Lib.hid hw3
  clear hr1 hr2 hf1 hf2 hlt1 hlt2 hg hr hw3
  go_wp2_with (go_at_call 12; rw [← HW3.out]; refine (HP.out _ F3).mono ?_; rintro _ w4 ⟨gp, rfl, hgp, hRP, F4⟩)
  rw [← hb]
  have FW4 := F3.trans' F4
  have HRO0 : Hid (Row w4 g (outRow l m N 0) 3) := Lib.hid (hr1'.fr F4 (fun h => h))
  have HRR0 : Hid (Row w4 r (row2 (restF l m) (fun _ => 0) N 0) 23) := Lib.hid (hr2'.fr F4 (fun h => h))
  have HB0 : Hid (Row w4 b [.slice (some ⟨r, 0, none⟩) N N] 22) := Lib.hid (hrow.fr F4 (fun h => h))
  have HRP0 := Lib.hid hRP
  have hgp2 : b < gp := by omega
  have HF0 := Lib.hid FW4
  clear hr1' hr2' hrow hRP F3 F4 FW4 hsz hgp hb HW3
  go_loopg [7, 29] N (fun gg vl vi wr => ∃ (k : Nat) (L : Int), k ≤ N ∧ gg = N - k ∧ vi = .int .i64 (k : Nat) ∧ vl = .int .i64 L ∧ Hid (L = (m : Int) - ((List.range k).map fun i => (outF l m i : Int)).sum) ∧ Hid (Row wr g (outRow l m N k) 3) ∧ Hid (Row wr r (row2 (restF l m) (fun _ => 0) N k) 23) ∧ Hid (Row wr b [.slice (some ⟨r, 0, none⟩) N N] 22) ∧ Hid (Row wr gp (pRow l N) 23) ∧ Hid (Fr Nothing w wr))
  case atStart => exact ⟨0, m, Nat.zero_le _, rfl, rfl, rfl, Lib.hid (by simp), HRO0, HRR0, HB0, HRP0, HF0⟩
  case round =>
    clear HRO0 HRR0 HB0 HRP0 HF0
    obtain ⟨k, L, hk, rfl, rfl, rfl, HS, HRO, HRR, HB, HRP, HF⟩ := hrel
    have hL1 : L ≤ 1000000 := by
      have h1 := HS.out
      have h2 : NonNeg ((List.range k).map fun i => (outF l m i : Int)) := fun x hx => by obtain ⟨i, _, rfl⟩ := List.mem_map.1 hx; omega
      have := h2.sum; omega
    have hL2 : -60000000 ≤ L := by
      have h1 := HS.out
      have := out_sum_le HW.out hm6 k (by rw [HLN.out]; exact hk); omega
    by_cases hlt : k < N
    · have hltI : (k : Int) < N := by omega
      obtain ⟨s1, s2, s3, s4, s5⟩ := part_step HW.out hm6 (i := k) (by rw [HLN.out]; exact hlt)
      obtain ⟨o, ho⟩ : ∃ o, o = outF l m k := ⟨_, rfl⟩
      obtain ⟨x, hx⟩ : ∃ x, x = xF l m k := ⟨_, rfl⟩
      obtain ⟨q, hq⟩ : ∃ q, q = restF l m k := ⟨_, rfl⟩
      obtain ⟨p, hp⟩ : ∃ p, p = pAt l k := ⟨_, rfl⟩
      obtain ⟨E, hE⟩ : ∃ E, E = nfF o := ⟨_, rfl⟩
      rw [← ho, ← hx, ← hq, ← hE] at s4
      rw [← HNF.out, ← hp, ← hx] at s1
      rw [← hx, ← ho] at s2
      rw [← ho] at s3
      have hfe : floatOfInt .f64 (o : Int) = E := by rw [hE]; exact nf_of_int o
      have hqm : ∀ w, (binOp .mul 23 (.float .f64 F) (.float .f64 p)).run Try.prog w = .ok (.float .f64 x) w := fun w => run_float_arith w .mul 23 .f64 F p x s1
      have hqs : ∀ w, (binOp .sub 23 (.float .f64 x) (.float .f64 E)).run Try.prog w = .ok (.float .f64 q) w := fun w => run_float_arith w .sub 23 .f64 x E q s4
      have hcv : ∀ w, (convert 23 3 (.float .f64 x)).run Try.prog w = .ok (.int .i64 o) w := fun w => run_convert_float_int w 23 3 .f64 .i64 x o (by rw [Try.underlying23]; rfl) Try.underlying3 s2
      have hoI : (o : Int) ≤ 1000000 := by omega
      have cp : wr.cell? ⟨gp, k, none⟩ = some (.float .f64 p) := HRP.out.cell k (by unfold pRow; rw [List.getElem?_map, List.getElem?_range hlt, hp]; rfl)
      have co := HRO.out.cell k (outRow_get l m N k k hlt)
      rw [if_neg (Nat.lt_irrefl _)] at co
      have cof := HRO.out.free k
      obtain ⟨w5, hw5⟩ : ∃ w5, w5 = wr.setCell ⟨g, k, none⟩ (.int .i64 (o : Nat)) := ⟨_, rfl⟩
      have F5 : Fr (fun q => q = g) wr w5 := by rw [hw5]; exact Fr.setCell (S := fun q => q = g) (p := ⟨g, k, none⟩) rfl _
      have HRO5 : Hid (Row w5 g (outRow l m N (k + 1)) 3) := Lib.hid (by
        have := HRO.out.set k (.int .i64 (o : Nat))
        rw [ho, outRow_set l m N k hlt, ← ho, ← hw5] at this; exact this)
      have HRR5 : Hid (Row w5 r (row2 (restF l m) (fun _ => 0) N k) 23) := Lib.hid (HRR.out.fr F5 (by omega))
      have HB5 : Hid (Row w5 b [.slice (some ⟨r, 0, none⟩) N N] 22) := Lib.hid (HB.out.fr F5 (by omega))
      have HRP5 : Hid (Row w5 gp (pRow l N) 23) := Lib.hid (HRP.out.fr F5 (by omega))
      have HF5 : Hid (Fr Nothing w w5) := Lib.hid (HF.out.trans F5 (fun q hq e => by have := HG.out; omega))
      have co5 := HRO5.out.cell k (outRow_get l m N (k + 1) k hlt)
      rw [if_pos (by omega), ← ho] at co5
      have cb5 := HB5.out.cell 0 rfl
      have cr5 := HRR5.out.cell k (row2_get _ _ N k k hlt)
      have crf5 := HRR5.out.free k
      rw [if_neg (Nat.lt_irrefl _)] at cr5
      have HW5 := Lib.hid hw5
      have HSS : Hid (L - (o : Int) = (m : Int) - ((List.range (k + 1)).map fun i => (outF l m i : Int)).sum) := Lib.hid (by
        rw [List.range_succ, List.map_append, List.sum_append, HS.out, ho]
        simp only [List.map_cons, List.map_nil, List.sum_cons, List.sum_nil]
        omega)
      obtain ⟨w7, hw7⟩ : ∃ w7, w7 = (w5.setCell ⟨r, k, none⟩ (.float .f64 q)).drew := ⟨_, rfl⟩
      have F6 : Fr (fun q => q = r) w5 (w5.setCell ⟨r, k, none⟩ (.float .f64 q)) := Fr.setCell (S := fun q => q = r) (p := ⟨r, k, none⟩) rfl _
      have F7 : Fr Nothing (w5.setCell ⟨r, k, none⟩ (.float .f64 q)) w7 := by rw [hw7]; exact Fr.drew _ _
      have cr6 : w5.drew.cell? ⟨r, k, none⟩ = some (.float .f64 0) := cell_fr cr5 (Fr.drew Nothing _) (fun h => h)
      have crf6 : w5.drew.frozen? ⟨r, k, none⟩ = false := (HRR5.out.fr (Fr.drew Nothing _) (fun h => h)).free k
      have HRR7 : Hid (Row w7 r (row2 (restF l m) (fun _ => 0) N (k + 1)) 23) := Lib.hid (by
        have := HRR5.out.set k (.float .f64 q)
        rw [hq, row2_set _ _ N k hlt, ← hq] at this; exact this.fr F7 (fun h => h))
      have HRO6 := HRO5.out.fr F6 (by omega)
      have HRO7 : Hid (Row w7 g (outRow l m N (k + 1)) 3) := Lib.hid (HRO6.fr F7 (fun h => h))
      have HB7 : Hid (Row w7 b [.slice (some ⟨r, 0, none⟩) N N] 22) := Lib.hid ((HB5.out.fr F6 (by omega)).fr F7 (fun h => h))
      have HRP7 : Hid (Row w7 gp (pRow l N) 23) := Lib.hid ((HRP5.out.fr F6 (by omega)).fr F7 (fun h => h))
      have HF7 : Hid (Fr Nothing w w7) := Lib.hid ((HF5.out.trans F6 (fun q hq e => by have := HG.out; omega)).trans' F7)
      have co7 : (w5.setCell ⟨r, k, none⟩ (.float .f64 q)).cell? ⟨g, k, none⟩ = some (.int .i64 (o : Nat)) := HRO6.cell k (by rw [outRow_get l m N (k + 1) k hlt, if_pos (by omega), ← ho])
      have HW7 := Lib.hid hw7
      clear s1 s2 s3 s4 s5 ho hx hq hp hE F5 F6 F7 HRO HRR HB HRP HF HRO5 HRR5 HB5 HRP5 HF5 HRO6 hw5 hw7
      go_wp2_with (fail)
      rw [← HW5.out]
      clear cp co cof
      go_still_tail 10, (by kernel_rfl)
      clear co5 cb5 cr5 crf5
      go_wp2_with (fail)
      rw [← HW7.out]
      go_roundg (N - (k + 1))
      case measure => omega
      case rel => exact ⟨k + 1, L - o, by omega, rfl, by go_num, by go_num, HSS, HRO7, HRR7, HB7, HRP7, HF7⟩
    · obtain rfl : N = k := by omega
      obtain ⟨X, hX⟩ : ∃ X, X = outL l m := ⟨_, rfl⟩
      obtain ⟨R, hR⟩ : ∃ R, R = restL l m := ⟨_, rfl⟩
      obtain ⟨A, hA⟩ : ∃ A, A = takeL l m := ⟨_, rfl⟩
      have hXN : X.length = N := by rw [hX, ← HLN.out]; unfold outL; simp
      have hRN : R.length = N := by rw [hR, ← HLN.out]; unfold restL; simp
      have hAM : A.length = M := by rw [hA, (takeL_perm l m).length_eq, ← topL_length, ← HTL.out, HTM.out]
      have hL : L = (m : Int) - X.sum := by rw [HS.out, hX]; unfold outL; rw [HLN.out]
      have hres : wholeOf X R A m = RES := by rw [HRES.out]; unfold wholeL; rw [← HMM.out, hX, hR, hA]
      have HROx : Hid (Row wr g (numsW X) 3) := Lib.hid (by rw [hX, ← outRow_all, HLN.out]; exact HRO.out)
      have HRRx : Hid (Fs wr (some ⟨r, 0, none⟩) R) := Lib.hid (by
        have := HRR.out
        rw [← HLN.out, row2_all, ← hR] at this
        exact Sl.ofRow this)
      have hnnx : NonNeg X := by rw [hX]; exact outL_nn l m
      have hins : Inside A N := by rw [hA, ← HLN.out]; have := take_inside l m; unfold outL at this; simpa using this
      have HX := Lib.hid hX
      have HXN := Lib.hid hXN
      have HRN := Lib.hid hRN
      have HAM := Lib.hid hAM
      have HL := Lib.hid hL
      have HRS := Lib.hid hres
      have HNN := Lib.hid hnnx
      have HIN := Lib.hid hins
      have HR := Lib.hid hR
      have HA := Lib.hid hA
      have hgw : w.heap.size ≤ g := by have := HG.out; omega
      have HGW := Lib.hid hgw
      have hbw := HB.out.lt
      have hrw := HRR.out.lt
      clear hX hR hA hXN hRN hAM hL hres hnnx hins HRR HRO HRP hgw
      go_wp2_with (go_at_call 15; refine (HT.out _ HF.out).mono ?_; rintro _ w5 ⟨at_, ct, rfl, h51, h52, hor, F5⟩; rw [HTM.out])
      by_cases hM0 : M = 0
      · have hA0 : A = [] := List.eq_nil_of_length_eq_zero (by rw [HAM.out, hM0])
        subst hM0
        clear hor
        go_wp2_with (first
          | (go_at_call 29; refine (sort_zero _ _ _).mono ?_; rintro _ w6 ⟨rfl, rfl⟩)
          | (go_at_call 26; refine (stable_zero _ _ _ _).mono ?_; rintro _ w7 ⟨rfl, rfl⟩))
        go_step3
        go_wp2_with (fail)
        go_loopg [7] 0 (fun gg vl wq => gg = 0 ∧ vl = .int .i64 L ∧ Fr Nothing wr wq)
        case atStart => exact ⟨rfl, rfl, F5⟩
        case round =>
          clear F5
          obtain ⟨wq, rfl⟩ : ∃ wq, wq = wr := ⟨_, rfl⟩
          obtain ⟨rfl, rfl, F5⟩ := hrel
          obtain ⟨Y, hY⟩ : ∃ Y, Y = X := ⟨_, rfl⟩
          have HROz : Hid (Row wq g (numsW Y) 3) := Lib.hid (by rw [hY]; exact HROx.out.fr F5 (fun h => h))
          have HRRz : Hid (Fs wq (some ⟨r, 0, none⟩) R) := Lib.hid (Sl.fr HRRx.out F5 (fun _ _ h => h))
          have HBz : Hid (Row wq b [.slice (some ⟨r, 0, none⟩) N N] 22) := Lib.hid (HB.out.fr F5 (fun h => h))
          have HFz : Hid (Fr Nothing w wq) := Lib.hid (HF.out.trans' F5)
          have HYN : Hid (Y.length = N) := Lib.hid (by rw [hY]; exact HXN.out)
          have HNNz : Hid (NonNeg Y) := Lib.hid (by rw [hY]; exact HNN.out)
          have hLz : L = (m : Int) - Y.sum := by rw [hY]; exact HL.out
          have HRSz : Hid (dnF R (Y.sum - m).toNat Y = RES) := Lib.hid (by rw [hY, ← HRS.out]; unfold wholeOf; rw [if_pos hA0])
          obtain ⟨Lz, hLz0⟩ : ∃ Lz, Lz = L := ⟨_, rfl⟩
          rw [← hLz0] at hLz hL1 hL2 ⊢
          clear hY hLz0 HX HROx HRRx HB HF HXN HNN HL HRS HIN HA HAM hA0 F5 HTM h51 h52
          obtain ⟨J, hJ⟩ : ∃ J, J = (Y.sum - m).toNat := ⟨_, rfl⟩
          have hJ1 : Lz < 0 → (J : Int) = - Lz := by omega
          have hJ2 : 0 ≤ Lz → J = 0 := by omega
          have hJ3 : (J : Int) ≤ 60000000 := by omega
          have hJ4 : (J : Int) ≤ Y.sum := by have := HNNz.out.sum; omega
          rw [← hJ] at HRSz
          have HLZ := Lib.hid hLz
          have HJ4 := Lib.hid hJ4
          have HJ1 := Lib.hid hJ1
          have HJ2 := Lib.hid hJ2
          clear hJ hLz hJ4 hJ1 hJ2
          go_wp2_with (fail)
          go_loopg [7] J (fun gg vl wq => ∃ (j : Nat) (Lj : Int), j ≤ J ∧ gg = J - j ∧ vl = .int .i64 Lj ∧ Lj = Lz + j ∧ Hid (Row wq g (numsW (dnF R j Y)) 3) ∧ Hid (Fs wq (some ⟨r, 0, none⟩) R) ∧ Hid (Row wq b [.slice (some ⟨r, 0, none⟩) N N] 22) ∧ Hid (Fr Nothing w wq))
          case atStart => exact ⟨0, Lz, Nat.zero_le _, rfl, rfl, by omega, HROz, HRRz, HBz, HFz⟩
          case round =>
            clear HROz HRRz HBz HFz
            obtain ⟨wy, rfl⟩ : ∃ wy, wy = wr := ⟨_, rfl⟩
            obtain ⟨j, Lj, hj, rfl, rfl, hLj, HROz, HRRz, HBz, HFz⟩ := hrel
            by_cases hlt : j < J
            · have hneg : Lj < 0 := by
                have h1 := HJ1.out
                have h2 := HJ2.out
                by_cases h3 : Lz < 0
                · have := h1 h3; omega
                · have := h2 (by omega); omega
              have hLj2 : -60000000 ≤ Lj := by omega
              obtain ⟨Z, hZ⟩ : ∃ Z, Z = dnF R j Y := ⟨_, rfl⟩
              obtain ⟨k1, k2⟩ := dn_ok R HNNz.out j (by have := HJ4.out; omega)
              rw [← hZ] at k1 k2 HROz
              have hZN : Z.length = N := by rw [hZ, dn_len]; exact HYN.out
              have hZs : 0 < Z.sum := by have := HJ4.out; omega
              have hZs2 : Z.sum ≤ 61000000 := by have := HLZ.out; omega
              have HZN := Lib.hid hZN
              have HZS := Lib.hid hZs
              have HZS2 := Lib.hid hZs2
              have HZNN := Lib.hid k1
              have HZ := Lib.hid hZ
              have HLJ := Lib.hid hLj
              clear k1 k2 hZ hZN hZs hZs2 hLj
              go_wp2_with (fail)
              go_loopg [14, 95] N (fun gg vw vi wq2 => ∃ k : Nat, k ≤ N ∧ gg = N - k ∧ vi = .int .i64 (k : Nat) ∧ vw = .int .i64 (worstF R Z k) ∧ ∃ q, wq2 = wy.drewN q)
              case atStart => exact ⟨0, Nat.zero_le _, rfl, rfl, rfl, 0, rfl⟩
              case round =>
                obtain ⟨k, hk, rfl, rfl, rfl, q, rfl⟩ := hrel
                by_cases hkN : k < N
                · have hkI : (k : Int) < N := by omega
                  obtain ⟨z, hz⟩ : ∃ z, z = Z.getD k 0 := ⟨_, rfl⟩
                  have cz : wy.cell? ⟨g, k, none⟩ = some (.int .i64 z) := by rw [hz]; exact HROz.out.cell k (nums_get (by rw [HZN.out]; exact hkN))
                  have hsp := worst_spec R Z k
                  have hst2 : worstF R Z (k + 1) = if 0 < z ∧ (worstF R Z k < 0 ∨ leF (R.getD k 0) (R.getD (worstF R Z k).toNat 0) = true) then (k : Int) else worstF R Z k := by rw [worstF, hz]
                  obtain ⟨P, hP⟩ : ∃ P, P = worstF R Z k := ⟨_, rfl⟩
                  obtain ⟨P2, hP2⟩ : ∃ P2, P2 = worstF R Z (k + 1) := ⟨_, rfl⟩
                  rw [← hP] at hsp hst2 ⊢
                  rw [← hP2] at hst2
                  have HP2 := Lib.hid hP2
                  clear hz hP hP2
                  by_cases hz0 : 0 < z
                  · rcases hsp with ⟨rfl, _⟩ | ⟨u, hu, rfl, _⟩
                    · rw [if_pos ⟨hz0, .inl (by omega)⟩] at hst2
                      have HST := Lib.hid hst2
                      clear hst2
                      go_wp2_with (fail)
                      go_quiet (fail)
                      go_wp2_with (fail)
                      go_roundg (N - (k + 1))
                      case measure => omega
                      case rel => exact ⟨k + 1, by omega, rfl, by go_num, by rw [← HP2.out, HST.out], q + nq, by simp⟩
                    · have huN : u < N := by omega
                      have huI : (u : Int) < N := by omega
                      have hu0 : ¬ ((u : Int) < 0) := by omega
                      have hu1 : decide ((u : Int) < 0) = false := decide_eq_false hu0
                      have cb := HBz.out.cell 0 rfl
                      obtain ⟨x, hx⟩ : ∃ x, x = R.getD k 0 := ⟨_, rfl⟩
                      obtain ⟨y, hy⟩ : ∃ y, y = R.getD u 0 := ⟨_, rfl⟩
                      rw [Int.toNat_natCast, ← hx, ← hy] at hst2
                      obtain ⟨bb, oo, hbo, cx⟩ := Fs.at_ HRRz.out (i := k) (by rw [HRN.out]; exact hkN)
                      obtain ⟨bb2, oo2, hbo2, cy⟩ := Fs.at_ HRRz.out (i := u) (by rw [HRN.out]; exact huN)
                      cases hbo
                      cases hbo2
                      rw [← getD_at (by rw [HRN.out]; exact hkN), ← hx, Nat.zero_add] at cx
                      rw [← getD_at (by rw [HRN.out]; exact huN), ← hy, Nat.zero_add] at cy
                      have hlf : leF x y = (ordF x y == some .lt || ordF x y == some .eq) := rfl
                      clear hx hy
                      cases hle : leF x y with
                      | true =>
                        rw [hle] at hlf
                        rw [if_pos ⟨hz0, .inr hle⟩] at hst2
                        have HST := Lib.hid hst2
                        have hlf2 := hlf.symm
                        clear hst2 hle hlf
                        go_wp2_with (fail)
                        go_quiet (fail)
                        go_wp2_with (fail)
                        go_roundg (N - (k + 1))
                        case measure => omega
                        case rel => exact ⟨k + 1, by omega, rfl, by go_num, by rw [← HP2.out, HST.out], q + nq, by simp⟩
                      | false =>
                        rw [hle] at hlf
                        rw [if_neg (fun h => by rcases h.2 with h | h; exact hu0 h; rw [hle] at h; exact Bool.false_ne_true h)] at hst2
                        have HST := Lib.hid hst2
                        have hlf2 := hlf.symm
                        clear hst2 hle hlf
                        go_wp2_with (fail)
                        go_quiet (fail)
                        go_wp2_with (fail)
                        go_roundg (N - (k + 1))
                        case measure => omega
                        case rel => exact ⟨k + 1, by omega, rfl, by go_num, by rw [← HP2.out, HST.out], q + nq, by simp⟩
                  · rw [if_neg (fun h => hz0 h.1)] at hst2
                    have HST := Lib.hid hst2
                    have hz1 : decide (0 < z) = false := decide_eq_false hz0
                    have hz2 : z ≤ 0 := by omega
                    clear hst2 hsp
                    go_wp2_with (fail)
                    go_quiet (fail)
                    go_wp2_with (fail)
                    go_roundg (N - (k + 1))
                    case measure => omega
                    case rel => exact ⟨k + 1, by omega, rfl, by go_num, by rw [← HP2.out, HST.out], q + nq, by simp⟩
                · obtain rfl : N = k := by omega
                  obtain ⟨p, hp, hpw, hpos⟩ := worst_at (r := R) (Y := Z) HZS.out
                  rw [HZN.out] at hp hpw
                  rw [hpw]
                  obtain ⟨z, hz⟩ : ∃ z, z = Z.getD p 0 := ⟨_, rfl⟩
                  have hpI : (p : Int) < N := by omega
                  rw [← hz] at hpos
                  have hz9 : z ≤ 61000000 := by have := HZNN.out.le_sum p; have h2 := HZS2.out; omega
                  obtain ⟨V, hV⟩ : ∃ V, V = wy.drewN q := ⟨_, rfl⟩
                  have FV : Fr Nothing wy V := by rw [hV]; exact Fr.drewN _ _ _
                  have HROV := HROz.out.fr FV (fun h => h)
                  have cz : V.cell? ⟨g, p, none⟩ = some (.int .i64 z) := by rw [hz]; exact HROV.cell p (nums_get (by rw [HZN.out]; exact hp))
                  have czf := HROV.free p
                  have FS : Fr (fun q => q = g) V (V.setCell ⟨g, p, none⟩ (.int .i64 (z - 1))) := Fr.setCell (S := fun q => q = g) (p := ⟨g, p, none⟩) rfl _
                  have HRO2 : Hid (Row (V.setCell ⟨g, p, none⟩ (.int .i64 (z - 1))) g (numsW (dnF R (j + 1) Y)) 3) := Lib.hid (by
                    have := HROV.set p (.int .i64 (z - 1))
                    have e : dnF R (j + 1) Y = bump Z p (-1) := by
                      rw [dnF, ← HZ.out, HZN.out, hpw, Int.toNat_natCast]
                    rw [e, ← nums_bump, ← hz]
                    exact this)
                  have HRR2 : Hid (Fs (V.setCell ⟨g, p, none⟩ (.int .i64 (z - 1))) (some ⟨r, 0, none⟩) R) := Lib.hid (Sl.fr (Sl.fr HRRz.out FV (fun _ _ h => h)) FS (fun ad h e => by cases h; simp only at e; omega))
                  have HB2 : Hid (Row (V.setCell ⟨g, p, none⟩ (.int .i64 (z - 1))) b [.slice (some ⟨r, 0, none⟩) N N] 22) := Lib.hid ((HBz.out.fr FV (fun h => h)).fr FS (by omega))
                  have HF2 : Hid (Fr Nothing w (V.setCell ⟨g, p, none⟩ (.int .i64 (z - 1)))) := Lib.hid ((HFz.out.trans' FV).trans FS (fun q hq e => by have := HGW.out; omega))
                  rw [← hV]
                  have HZZ := Lib.hid hz
                  clear hz hpw hV FV HROV FS hp
                  go_wp2_with (fail)
                  go_roundg (J - (j + 1))
                  case measure => omega
                  case rel => exact ⟨j + 1, Lj + 1, by omega, rfl, by go_num, by have := HLJ.out; omega, HRO2, HRR2, HB2, HF2⟩
            · obtain rfl : J = j := by omega
              have hnn : 0 ≤ Lj := by
                have h1 := HJ1.out
                by_cases h3 : Lz < 0
                · have := h1 h3; omega
                · omega
              have hnn2 : ¬ (Lj < 0) := by omega
              go_wp2_with (fail)
              try rw [Exit.noGoto_ret]
              go_ret
              refine ⟨g, ?_, HGW.out, by rw [← HRSz.out]; exact HROz.out, HFz.out⟩
              rw [HRL.out]
              rfl
      · obtain ⟨g2, rest, rfl, hg2, hIA⟩ : ∃ g2 rest, at_ = some ⟨g2, 0, none⟩ ∧ wr.heap.size ≤ g2 ∧ IA (fun _ => True) w5 g2 rest T.toArray := by
          rcases hor with ⟨_, hT0, _⟩ | h
          · exact absurd (by rw [← HTM.out, hT0]; rfl) hM0
          · exact h
        clear hor
        have hMp : 0 < M := by omega
        have hMpI : (0 : Int) < M := by omega
        have hg2g : g ≠ g2 := by have := HROx.out.lt; omega
        have hg2r : r ≠ g2 := by omega
        have hg2b : b ≠ g2 := by omega
        have HROy : Hid (Row w5 g (numsW X) 3) := Lib.hid (HROx.out.fr F5 (fun h => h))
        have HRRy : Hid (Fs w5 (some ⟨r, 0, none⟩) R) := Lib.hid (Sl.fr HRRx.out F5 (fun _ _ h => h))
        have HBy : Hid (Row w5 b [.slice (some ⟨r, 0, none⟩) N N] 22) := Lib.hid (HB.out.fr F5 (fun h => h))
        have HFy : Hid (Fr Nothing w w5) := Lib.hid (HF.out.trans' F5)
        have HSO := Lib.hid (NS.u_sort g2 ct rest T.toArray w5 hIA.1 (by have := HTM.out; simp only [List.size_toArray]; omega))
        have hts : T.toArray.size = M := by have := HTM.out; simpa using this
        have hso : Sort.sort ltInt T.toArray = (ats l l.length).toArray := by rw [HTL.out]; exact sort_top l
        have hal : (ats l l.length).length = M := by rw [← topL_length, ← HTL.out]; exact HTM.out
        rw [hts, hso] at HSO
        have HAL := Lib.hid hal
        have hg2w : w.heap.size ≤ g2 := by have := HFy.out.size; have h2 := F5.size; have h3 := HF.out.size; omega
        have HG2 := Lib.hid hg2w
        have hctM : (M : Int) ≤ ct := by have := HTM.out; omega
        have hct9 : (ct : Int) ≤ 9223372036854775807 := by unfold maxLen at h52; omega
        have HCS : Hid (∀ w6, NS.UA w6 g2 rest (ats l l.length).toArray → Fr (fun q => q = g2) w5 w6 → Calls Try.prog 26 #[.slice (some ⟨g2, 0, none⟩) M ct, .func (.func 30) #[] #[.pointer (some ⟨b, 0, none⟩)]] w6 fun e w' => e = .returned (.tuple #[]) ∧ IA (GR R) w' g2 rest (stableF (ltC (cfT R)) M (ats l l.length).toArray) ∧ Fr (fun q => q = g2) w6 w') := Lib.hid fun w6 hU6 F6 => by
          have hB6 : Row w6 b [.slice (some ⟨r, 0, none⟩) R.length N] 22 := by rw [HRN.out]; exact HBy.out.fr F6 hg2b
          have hR6 : Fs w6 (some ⟨r, 0, none⟩) R := Sl.fr HRRy.out F6 (fun ad h e => by cases h; exact hg2r e)
          have hI6 : IA (GR R) w6 g2 rest (ats l l.length).toArray := ⟨hU6, fun k hk => by
            rw [getElem!_pos _ k hk]
            have := ats_rest HW.out hm6 (x := (ats l l.length).toArray[k]) (by simp)
            rw [HR.out]; exact this⟩
          exact i_sortStable g2 ct M rest (ats l l.length).toArray w6 (cmp_rest R (some ⟨r, 0, none⟩) N b g2 w6 hB6 hR6 hg2b (fun ad h e => by cases h; exact hg2r e)) hI6 (by rw [List.size_toArray]; exact HAL.out) (by omega)
        clear hIA hts hso hal F5 HROx HRRx HB HF hg2w hg2 hrw
        go_wp2_with (first
          | (go_at_call 29; refine HSO.out.mono ?_; rintro _ w6 ⟨rfl, hU6, F6⟩)
          | (go_at_call 26; refine (HCS.out _ hU6 F6).mono ?_; rintro _ w7 ⟨rfl, hU7, F7⟩))
        have F67 : Fr (fun q => q = g2) w5 w7 := F6.trans' F7
        have HROy7 : Hid (Row w7 g (numsW X) 3) := Lib.hid (HROy.out.fr F67 hg2g)
        have HRRy7 : Hid (Fs w7 (some ⟨r, 0, none⟩) R) := Lib.hid (Sl.fr HRRy.out F67 (fun ad h e => by cases h; exact hg2r e))
        have HBy7 : Hid (Row w7 b [.slice (some ⟨r, 0, none⟩) N N] 22) := Lib.hid (HBy.out.fr F67 hg2b)
        have HFy7 : Hid (Fr Nothing w w7) := Lib.hid (HFy.out.trans F67 (fun q hq e => by have := HG2.out; omega))
        have HAy7 : Hid (Row w7 g2 (numsW A ++ rest) 3) := Lib.hid (by
          have := hU7.1
          have e : (stableF (ltC (cfT R)) M (ats l l.length).toArray).toList = A := by rw [HA.out, HR.out]; unfold takeL; rw [HAL.out]
          rw [e] at this; exact this)
        obtain ⟨J0, hJ0⟩ : ∃ J0, J0 = L.toNat := ⟨_, rfl⟩
        have HJ0 := Lib.hid hJ0
        have hJ09 : (J0 : Int) ≤ 1000000 := by omega
        have hA0 : A ≠ [] := fun h => hM0 (by rw [← HAM.out, h]; rfl)
        have HA0 := Lib.hid hA0
        clear hU7 F67 F7 F6 hU6 HSO HCS HROy HRRy HBy HFy hJ0 hA0
        go_step3
        go_wp2_with (fail)
        go_loopg [7] J0 (fun gg vl wr => ∃ (j : Nat) (Lj : Int), j ≤ J0 ∧ gg = J0 - j ∧ Hid (j % M = 0) ∧ vl = .int .i64 Lj ∧ Lj = L - j ∧ Hid (Row wr g (numsW (ovF A j X)) 3) ∧ Hid (Fs wr (some ⟨r, 0, none⟩) R) ∧ Hid (Row wr b [.slice (some ⟨r, 0, none⟩) N N] 22) ∧ Hid (Fr Nothing w wr) ∧ Hid (Row wr g2 (numsW A ++ rest) 3))
        case atStart => exact ⟨0, L, Nat.zero_le _, rfl, Lib.hid (Nat.zero_mod _), rfl, by omega, HROy7, HRRy7, HBy7, HFy7, HAy7⟩
        case round =>
          clear HROy7 HRRy7 HBy7 HFy7 HAy7
          obtain ⟨wx, rfl⟩ : ∃ wx, wx = wr := ⟨_, rfl⟩
          obtain ⟨j, Lj, hj, rfl, HJM, rfl, hLj, HROa, HRRa, HBa, HFa, HAa⟩ := hrel
          have HLJ := Lib.hid hLj
          have hLj1 : Lj ≤ 1000000 := by omega
          have hLj2 : -70000000 ≤ Lj := by omega
          go_wp2_with (fail)
          go_loopg [7, 74] M (fun gg vl vi wr => ∃ (k : Nat) (Lk : Int), k ≤ M ∧ gg = M - k ∧ j + k ≤ J0 ∧ vi = .int .i64 (k : Nat) ∧ vl = .int .i64 Lk ∧ Lk = Lj - k ∧ Hid (Row wr g (numsW (ovF A (j + k) X)) 3) ∧ Hid (Fs wr (some ⟨r, 0, none⟩) R) ∧ Hid (Row wr b [.slice (some ⟨r, 0, none⟩) N N] 22) ∧ Hid (Fr Nothing w wr) ∧ Hid (Row wr g2 (numsW A ++ rest) 3))
          case atStart => exact ⟨0, Lj, Nat.zero_le _, rfl, by omega, rfl, rfl, by omega, HROa, HRRa, HBa, HFa, HAa⟩
          case round =>
            clear HROa HRRa HBa HFa HAa
            obtain ⟨wx2, rfl⟩ : ∃ wx, wx = wr := ⟨_, rfl⟩
            obtain ⟨k, Lk, hk, rfl, hjk, rfl, rfl, hLk, HROa, HRRa, HBa, HFa, HAa⟩ := hrel
            have hLk1 : Lk ≤ 1000000 := by omega
            have hLk2 : -80000000 ≤ Lk := by omega
            by_cases hkM : k < M
            · have hkI : (k : Int) < M := by omega
              have hkA : k < A.length := by rw [HAM.out]; exact hkM
              obtain ⟨t, ht⟩ : ∃ t, t = (A[k]).toNat := ⟨_, rfl⟩
              have hin := HIN.out A[k] (List.getElem_mem hkA)
              rw [← ht] at hin
              have htN : t < N := hin.2
              have htI : (t : Int) < N := by omega
              have hAk : A[k] = (t : Int) := by have := hin.1; omega
              have ca : wx2.cell? ⟨g2, k, none⟩ = some (.int .i64 (t : Nat)) := HAa.out.cell k (by
                rw [List.getElem?_append_left (by simpa [numsW] using hkA)]
                simp [numsW, hkA, hAk])
              by_cases hlt : j + k < J0
              · have hpos : 0 < Lk := by have h1 := HJ0.out; have h2 := HLJ.out; omega
                have hpos2 : ¬ (Lk ≤ 0) := by omega
                have hpos3 : decide (Lk ≤ 0) = false := decide_eq_false hpos2
                obtain ⟨Z, hZ⟩ : ∃ Z, Z = ovF A (j + k) X := ⟨_, rfl⟩
                have hZN : Z.length = N := by rw [hZ, ov_len]; exact HXN.out
                have hZnn : NonNeg Z := by rw [hZ]; exact ov_nn A _ HNN.out
                have hZs : Z.sum ≤ 1000000 := by
                  rw [hZ, ov_sum (by rw [HXN.out]; exact HIN.out) HA0.out]
                  have h1 := HJ0.out
                  have h2 := HL.out
                  omega
                obtain ⟨z, hz⟩ : ∃ z, z = Z.getD t 0 := ⟨_, rfl⟩
                have hz0 : 0 ≤ z := by rw [hz]; exact hZnn.getD t
                have hz9 : z ≤ 1000000 := by rw [hz]; exact Int.le_trans (hZnn.le_sum t) hZs
                rw [← hZ] at HROa
                have cz : wx2.cell? ⟨g, t, none⟩ = some (.int .i64 z) := by rw [hz]; exact HROa.out.cell t (nums_get (by rw [hZN]; exact htN))
                have czf := HROa.out.free t
                have hturn : turn A (j + k) = t := by
                  unfold turn
                  rw [HAM.out, Nat.add_mod, HJM.out, Nat.zero_add, Nat.mod_mod, Nat.mod_eq_of_lt hkM, ht]
                  simp [hkA]
                have FS : Fr (fun q => q = g) wx2 (wx2.setCell ⟨g, t, none⟩ (.int .i64 (z + 1))) := Fr.setCell (S := fun q => q = g) (p := ⟨g, t, none⟩) rfl _
                have HRO2 : Hid (Row (wx2.setCell ⟨g, t, none⟩ (.int .i64 (z + 1))) g (numsW (ovF A (j + (k + 1)) X)) 3) := Lib.hid (by
                  have := HROa.out.set t (.int .i64 (z + 1))
                  have e : ovF A (j + (k + 1)) X = bump Z t 1 := by
                    rw [← Nat.add_assoc, ovF, hturn, ← hZ]
                  rw [e, ← nums_bump, ← hz]
                  exact this)
                have HRR2 : Hid (Fs (wx2.setCell ⟨g, t, none⟩ (.int .i64 (z + 1))) (some ⟨r, 0, none⟩) R) := Lib.hid (Sl.fr HRRa.out FS (fun ad h e => by cases h; simp only at e; omega))
                have HB2 : Hid (Row (wx2.setCell ⟨g, t, none⟩ (.int .i64 (z + 1))) b [.slice (some ⟨r, 0, none⟩) N N] 22) := Lib.hid (HBa.out.fr FS (by omega))
                have HF2 : Hid (Fr Nothing w (wx2.setCell ⟨g, t, none⟩ (.int .i64 (z + 1)))) := Lib.hid (HFa.out.trans FS (fun q hq e => by have := HGW.out; omega))
                have HA2 : Hid (Row (wx2.setCell ⟨g, t, none⟩ (.int .i64 (z + 1))) g2 (numsW A ++ rest) 3) := Lib.hid (HAa.out.fr FS (fun e => hg2g e.symm))
                have HLK := Lib.hid hLk
                clear ht hin htN hAk hZ hZN hZnn hZs hz hturn FS HROa HRRa HBa HFa HAa hLk
                go_wp2_with (fail)
                go_roundg (M - (k + 1))
                case measure => omega
                case rel => exact ⟨k + 1, Lk - 1, by omega, rfl, by omega, by go_num, rfl, by have := HLK.out; omega, HRO2, HRR2, HB2, HF2, HA2⟩
              · obtain ⟨Y, hY⟩ : ∃ Y, Y = ovF A (j + k) X := ⟨_, rfl⟩
                have hle : Lk ≤ 0 := by have h1 := HJ0.out; have h2 := HLJ.out; omega
                have hLk3 : -60000000 ≤ Lk := by have h1 := HJ0.out; have h2 := HLJ.out; omega
                have HROz : Hid (Row wx2 g (numsW Y) 3) := Lib.hid (by rw [hY]; exact HROa.out)
                have HRRz := HRRa
                have HBz := HBa
                have HFz := HFa
                have HYN : Hid (Y.length = N) := Lib.hid (by rw [hY, ov_len]; exact HXN.out)
                have HNNz : Hid (NonNeg Y) := Lib.hid (by rw [hY]; exact ov_nn A _ HNN.out)
                have hYs : Y.sum = X.sum + (j + k : Nat) := by rw [hY, ov_sum (by rw [HXN.out]; exact HIN.out) HA0.out]
                have hLz : Lk = (m : Int) - Y.sum := by
                  have h1 := HLJ.out
                  have h2 := HL.out
                  rw [hYs]; omega
                have HRSz : Hid (dnF R (Y.sum - m).toNat Y = RES) := Lib.hid (by
                  rw [← HRS.out]; unfold wholeOf; rw [if_neg HA0.out]
                  have h1 := HJ0.out
                  have h2 := HL.out
                  have e1 : (m - X.sum).toNat = j + k := by omega
                  have e2 : (Y.sum - m).toNat = (X.sum - m).toNat := by rw [hYs]; omega
                  rw [e1, e2, hY])
                obtain ⟨Lz, hLz0⟩ : ∃ Lz, Lz = Lk := ⟨_, rfl⟩
                rw [← hLz0] at hLz hLk1 hLk3 hle ⊢
                clear hY hLz0 HX HXN HNN HL HRS HIN HA HAM HA0 HTM h51 h52 HROa HRRa HBa HFa HAa ht hin hAk hYs hLk hLk2
                obtain ⟨J, hJ⟩ : ∃ J, J = (Y.sum - m).toNat := ⟨_, rfl⟩
                have hJ1 : Lz < 0 → (J : Int) = - Lz := by omega
                have hJ2 : 0 ≤ Lz → J = 0 := by omega
                have hJ3 : (J : Int) ≤ 60000000 := by omega
                have hJ4 : (J : Int) ≤ Y.sum := by have := HNNz.out.sum; omega
                rw [← hJ] at HRSz
                have HLZ := Lib.hid hLz
                have HJ4 := Lib.hid hJ4
                have HJ1 := Lib.hid hJ1
                have HJ2 := Lib.hid hJ2
                clear hJ hLz hJ4 hJ1 hJ2
                go_wp2_with (fail)
                go_loopg [7] J (fun gg vl wq => ∃ (j : Nat) (Lj : Int), j ≤ J ∧ gg = J - j ∧ vl = .int .i64 Lj ∧ Lj = Lz + j ∧ Hid (Row wq g (numsW (dnF R j Y)) 3) ∧ Hid (Fs wq (some ⟨r, 0, none⟩) R) ∧ Hid (Row wq b [.slice (some ⟨r, 0, none⟩) N N] 22) ∧ Hid (Fr Nothing w wq))
                case atStart => exact ⟨0, Lz, Nat.zero_le _, rfl, rfl, by omega, HROz, HRRz, HBz, HFz⟩
                case round =>
                  clear HROz HRRz HBz HFz
                  obtain ⟨wy, rfl⟩ : ∃ wy, wy = wr := ⟨_, rfl⟩
                  obtain ⟨j, Lj, hj, rfl, rfl, hLj, HROz, HRRz, HBz, HFz⟩ := hrel
                  by_cases hlt : j < J
                  · have hneg : Lj < 0 := by
                      have h1 := HJ1.out
                      have h2 := HJ2.out
                      by_cases h3 : Lz < 0
                      · have := h1 h3; omega
                      · have := h2 (by omega); omega
                    have hLj2 : -60000000 ≤ Lj := by omega
                    obtain ⟨Z, hZ⟩ : ∃ Z, Z = dnF R j Y := ⟨_, rfl⟩
                    obtain ⟨k1, k2⟩ := dn_ok R HNNz.out j (by have := HJ4.out; omega)
                    rw [← hZ] at k1 k2 HROz
                    have hZN : Z.length = N := by rw [hZ, dn_len]; exact HYN.out
                    have hZs : 0 < Z.sum := by have := HJ4.out; omega
                    have hZs2 : Z.sum ≤ 61000000 := by have := HLZ.out; omega
                    have HZN := Lib.hid hZN
                    have HZS := Lib.hid hZs
                    have HZS2 := Lib.hid hZs2
                    have HZNN := Lib.hid k1
                    have HZ := Lib.hid hZ
                    have HLJ := Lib.hid hLj
                    clear k1 k2 hZ hZN hZs hZs2 hLj
                    go_wp2_with (fail)
                    go_loopg [14, 95] N (fun gg vw vi wq2 => ∃ k : Nat, k ≤ N ∧ gg = N - k ∧ vi = .int .i64 (k : Nat) ∧ vw = .int .i64 (worstF R Z k) ∧ ∃ q, wq2 = wy.drewN q)
                    case atStart => exact ⟨0, Nat.zero_le _, rfl, rfl, rfl, 0, rfl⟩
                    case round =>
                      obtain ⟨k, hk, rfl, rfl, rfl, q, rfl⟩ := hrel
                      by_cases hkN : k < N
                      · have hkI : (k : Int) < N := by omega
                        obtain ⟨z, hz⟩ : ∃ z, z = Z.getD k 0 := ⟨_, rfl⟩
                        have cz : wy.cell? ⟨g, k, none⟩ = some (.int .i64 z) := by rw [hz]; exact HROz.out.cell k (nums_get (by rw [HZN.out]; exact hkN))
                        have hsp := worst_spec R Z k
                        have hst2 : worstF R Z (k + 1) = if 0 < z ∧ (worstF R Z k < 0 ∨ leF (R.getD k 0) (R.getD (worstF R Z k).toNat 0) = true) then (k : Int) else worstF R Z k := by rw [worstF, hz]
                        obtain ⟨P, hP⟩ : ∃ P, P = worstF R Z k := ⟨_, rfl⟩
                        obtain ⟨P2, hP2⟩ : ∃ P2, P2 = worstF R Z (k + 1) := ⟨_, rfl⟩
                        rw [← hP] at hsp hst2 ⊢
                        rw [← hP2] at hst2
                        have HP2 := Lib.hid hP2
                        clear hz hP hP2
                        by_cases hz0 : 0 < z
                        · rcases hsp with ⟨rfl, _⟩ | ⟨u, hu, rfl, _⟩
                          · rw [if_pos ⟨hz0, .inl (by omega)⟩] at hst2
                            have HST := Lib.hid hst2
                            clear hst2
                            go_wp2_with (fail)
                            go_quiet (fail)
                            go_wp2_with (fail)
                            go_roundg (N - (k + 1))
                            case measure => omega
                            case rel => exact ⟨k + 1, by omega, rfl, by go_num, by rw [← HP2.out, HST.out], q + nq, by simp⟩
                          · have huN : u < N := by omega
                            have huI : (u : Int) < N := by omega
                            have hu0 : ¬ ((u : Int) < 0) := by omega
                            have hu1 : decide ((u : Int) < 0) = false := decide_eq_false hu0
                            have cb := HBz.out.cell 0 rfl
                            obtain ⟨x, hx⟩ : ∃ x, x = R.getD k 0 := ⟨_, rfl⟩
                            obtain ⟨y, hy⟩ : ∃ y, y = R.getD u 0 := ⟨_, rfl⟩
                            rw [Int.toNat_natCast, ← hx, ← hy] at hst2
                            obtain ⟨bb, oo, hbo, cx⟩ := Fs.at_ HRRz.out (i := k) (by rw [HRN.out]; exact hkN)
                            obtain ⟨bb2, oo2, hbo2, cy⟩ := Fs.at_ HRRz.out (i := u) (by rw [HRN.out]; exact huN)
                            cases hbo
                            cases hbo2
                            rw [← getD_at (by rw [HRN.out]; exact hkN), ← hx, Nat.zero_add] at cx
                            rw [← getD_at (by rw [HRN.out]; exact huN), ← hy, Nat.zero_add] at cy
                            have hlf : leF x y = (ordF x y == some .lt || ordF x y == some .eq) := rfl
                            clear hx hy
                            cases hle : leF x y with
                            | true =>
                              rw [hle] at hlf
                              rw [if_pos ⟨hz0, .inr hle⟩] at hst2
                              have HST := Lib.hid hst2
                              have hlf2 := hlf.symm
                              clear hst2 hle hlf
                              go_wp2_with (fail)
                              go_quiet (fail)
                              go_wp2_with (fail)
                              go_roundg (N - (k + 1))
                              case measure => omega
                              case rel => exact ⟨k + 1, by omega, rfl, by go_num, by rw [← HP2.out, HST.out], q + nq, by simp⟩
                            | false =>
                              rw [hle] at hlf
                              rw [if_neg (fun h => by rcases h.2 with h | h; exact hu0 h; rw [hle] at h; exact Bool.false_ne_true h)] at hst2
                              have HST := Lib.hid hst2
                              have hlf2 := hlf.symm
                              clear hst2 hle hlf
                              go_wp2_with (fail)
                              go_quiet (fail)
                              go_wp2_with (fail)
                              go_roundg (N - (k + 1))
                              case measure => omega
                              case rel => exact ⟨k + 1, by omega, rfl, by go_num, by rw [← HP2.out, HST.out], q + nq, by simp⟩
                        · rw [if_neg (fun h => hz0 h.1)] at hst2
                          have HST := Lib.hid hst2
                          have hz1 : decide (0 < z) = false := decide_eq_false hz0
                          have hz2 : z ≤ 0 := by omega
                          clear hst2 hsp
                          go_wp2_with (fail)
                          go_quiet (fail)
                          go_wp2_with (fail)
                          go_roundg (N - (k + 1))
                          case measure => omega
                          case rel => exact ⟨k + 1, by omega, rfl, by go_num, by rw [← HP2.out, HST.out], q + nq, by simp⟩
                      · obtain rfl : N = k := by omega
                        obtain ⟨p, hp, hpw, hpos⟩ := worst_at (r := R) (Y := Z) HZS.out
                        rw [HZN.out] at hp hpw
                        rw [hpw]
                        obtain ⟨z, hz⟩ : ∃ z, z = Z.getD p 0 := ⟨_, rfl⟩
                        have hpI : (p : Int) < N := by omega
                        rw [← hz] at hpos
                        have hz9 : z ≤ 61000000 := by have := HZNN.out.le_sum p; have h2 := HZS2.out; omega
                        obtain ⟨V, hV⟩ : ∃ V, V = wy.drewN q := ⟨_, rfl⟩
                        have FV : Fr Nothing wy V := by rw [hV]; exact Fr.drewN _ _ _
                        have HROV := HROz.out.fr FV (fun h => h)
                        have cz : V.cell? ⟨g, p, none⟩ = some (.int .i64 z) := by rw [hz]; exact HROV.cell p (nums_get (by rw [HZN.out]; exact hp))
                        have czf := HROV.free p
                        have FS : Fr (fun q => q = g) V (V.setCell ⟨g, p, none⟩ (.int .i64 (z - 1))) := Fr.setCell (S := fun q => q = g) (p := ⟨g, p, none⟩) rfl _
                        have HRO2 : Hid (Row (V.setCell ⟨g, p, none⟩ (.int .i64 (z - 1))) g (numsW (dnF R (j + 1) Y)) 3) := Lib.hid (by
                          have := HROV.set p (.int .i64 (z - 1))
                          have e : dnF R (j + 1) Y = bump Z p (-1) := by
                            rw [dnF, ← HZ.out, HZN.out, hpw, Int.toNat_natCast]
                          rw [e, ← nums_bump, ← hz]
                          exact this)
                        have HRR2 : Hid (Fs (V.setCell ⟨g, p, none⟩ (.int .i64 (z - 1))) (some ⟨r, 0, none⟩) R) := Lib.hid (Sl.fr (Sl.fr HRRz.out FV (fun _ _ h => h)) FS (fun ad h e => by cases h; simp only at e; omega))
                        have HB2 : Hid (Row (V.setCell ⟨g, p, none⟩ (.int .i64 (z - 1))) b [.slice (some ⟨r, 0, none⟩) N N] 22) := Lib.hid ((HBz.out.fr FV (fun h => h)).fr FS (by omega))
                        have HF2 : Hid (Fr Nothing w (V.setCell ⟨g, p, none⟩ (.int .i64 (z - 1)))) := Lib.hid ((HFz.out.trans' FV).trans FS (fun q hq e => by have := HGW.out; omega))
                        rw [← hV]
                        have HZZ := Lib.hid hz
                        clear hz hpw hV FV HROV FS hp
                        go_wp2_with (fail)
                        go_roundg (J - (j + 1))
                        case measure => omega
                        case rel => exact ⟨j + 1, Lj + 1, by omega, rfl, by go_num, by have := HLJ.out; omega, HRO2, HRR2, HB2, HF2⟩
                  · obtain rfl : J = j := by omega
                    have hnn : 0 ≤ Lj := by
                      have h1 := HJ1.out
                      by_cases h3 : Lz < 0
                      · have := h1 h3; omega
                      · omega
                    have hnn2 : ¬ (Lj < 0) := by omega
                    go_wp2_with (fail)
                    try rw [Exit.noGoto_ret]
                    go_ret
                    refine ⟨g, ?_, HGW.out, by rw [← HRSz.out]; exact HROz.out, HFz.out⟩
                    rw [HRL.out]
                    rfl
            · obtain rfl : M = k := by omega
              have HLK := Lib.hid hLk
              have hm9 : (j + M) % M = 0 := by rw [Nat.add_mod_right]; exact HJM.out
              go_wp2_with (fail)
              go_roundg (J0 - (j + M))
              case measure => omega
              case rel => exact ⟨j + M, Lk, hjk, rfl, Lib.hid hm9, rfl, by have h1 := HLK.out; have h2 := HLJ.out; omega, HROa, HRRa, HBa, HFa, HAa⟩
end Go.Proofs.Ytdgaiacigmcibaa
