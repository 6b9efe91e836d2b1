/- share.Parts: what part of all each weight is. Condition: at most 1000 weights. -/
import Derived.Test.YtdgaiacigmcibaaFltD
import Derived.Test.YtdgaiacigmcibaaParts
namespace Go.Proofs.Ytdgaiacigmcibaa
open Go.RowKit Go.Sort

def row2 (f h : Nat → Nat) (N k : Nat) : List Value := (List.range N).map fun i => Value.float .f64 (if i < k then f i else h i)
theorem row2_len (f h : Nat → Nat) (N k : Nat) : (row2 f h N k).length = N := by unfold row2; simp
theorem row2_get (f h : Nat → Nat) (N k i : Nat) (hi : i < N) : (row2 f h N k)[i]? = some (.float .f64 (if i < k then f i else h i)) := by
  unfold row2
  rw [List.getElem?_map, List.getElem?_range hi]; rfl
theorem row2_set (f h : Nat → Nat) (N k : Nat) (hk : k < N) : (row2 f h N k).set k (.float .f64 (f k)) = row2 f h N (k + 1) := by
  apply List.ext_getElem?
  intro i
  by_cases hi : i < N
  · by_cases he : k = i
    · subst he
      rw [List.getElem?_set_self (by rw [row2_len]; exact hk), row2_get _ _ _ _ _ hk, if_pos (by omega)]
    · rw [List.getElem?_set_ne he, row2_get _ _ _ _ _ hi, row2_get _ _ _ _ _ hi]
      by_cases h1 : i < k
      · rw [if_pos h1, if_pos (by omega)]
      · rw [if_neg h1, if_neg (by omega)]
  · rw [List.getElem?_eq_none (by rw [List.length_set, row2_len]; omega), List.getElem?_eq_none (by rw [row2_len]; omega)]
/-- What weights are divided by ahead. -/
def dF (l : List Nat) : Nat := if (ordF (wSum l oneF l.length) 9218868437227405311 == some .gt) = true then lessF else oneF
def pAt (l : List Nat) (i : Nat) : Nat := if (ordF (wSum l (dF l) l.length) 0 == some .eq) = true then wAt l (dF l) i else divF (wAt l (dF l) i) (wSum l (dF l) l.length)
def pRow (l : List Nat) (N : Nat) : List Value := (List.range N).map fun i => Value.float .f64 (pAt l i)
theorem wAt_fin {l : List Nat} (hw : ∀ z ∈ l, z < 18446744073709551616) {d : Nat} (hd : ∀ x, Fin x → Fin (divF x d)) (k : Nat) : Fin (wAt l d k) := by
  unfold wAt
  split
  · rename_i h
    by_cases hi : k < l.length
    · have hx : l.getD k 0 < 18446744073709551616 := by rw [getD_at hi]; exact hw _ (List.getElem_mem hi)
      exact hd _ ((ct_iff hx).1 h).2
    · rw [show l.getD k 0 = 0 by simp [hi]] at h
      exact absurd h (by decide +kernel)
  · decide
theorem fin_div_one (x : Nat) (h : Fin x) : Fin (divF x oneF) := by rw [div_one h]; exact h
theorem fin_div_less (x : Nat) (h : Fin x) : Fin (divF x lessF) := Nat.lt_of_le_of_lt (div_less h) h
set_option maxHeartbeats 4000000 in
set_option maxRecDepth 100000 in
theorem parts_f (a : Option Addr) (l : List Nat) (c : Nat) (w : World) (hl : Fs w a l) (hw : ∀ z ∈ l, z < 18446744073709551616) (h1000 : l.length ≤ 1000) :
    Calls Try.prog 12 #[.slice a l.length c] w fun e w' => ∃ g, e = .returned (.slice (some ⟨g, 0, none⟩) l.length l.length) ∧ w.heap.size ≤ g ∧ Row w' g (pRow l l.length) 23 ∧ Fr Nothing w w' := by
  obtain ⟨N, hN⟩ : ∃ N, N = l.length := ⟨_, rfl⟩
  have HLN := Lib.hid hN.symm
  have HL := Lib.hid hl
  have HW := Lib.hid hw
  have HC1 : Hid (∀ W, Fr Nothing w W → Calls Try.prog 22 #[.slice a N c, .float .f64 4607182418800017408] W fun e w' => ∃ g, e = .returned (.tuple #[.slice (some ⟨g, 0, none⟩) N N, .float .f64 (wSum l oneF N)]) ∧ W.heap.size ≤ g ∧ Row w' g (wRow l oneF N N) 23 ∧ Fr Nothing W w') := Lib.hid fun W F => by
    rw [hN]; exact weights_f a l c oneF W (Sl.fr hl F (fun _ _ h => h)) hw h1000 fin_one (by decide)
  have HC2 : Hid (∀ W, Fr Nothing w W → Calls Try.prog 22 #[.slice a N c, .float .f64 4877398396442247168] W fun e w' => ∃ g, e = .returned (.tuple #[.slice (some ⟨g, 0, none⟩) N N, .float .f64 (wSum l lessF N)]) ∧ W.heap.size ≤ g ∧ Row w' g (wRow l lessF N N) 23 ∧ Fr Nothing W w') := Lib.hid fun W F => by
    rw [hN]; exact weights_f a l c lessF W (Sl.fr hl F (fun _ _ h => h)) hw h1000 fin_less (by decide)
  rw [← hN] at h1000 ⊢
  have hN9 : (N : Int) ≤ 1000 := by omega
  obtain ⟨s1, hs1⟩ : ∃ s, s = wSum l oneF N := ⟨_, rfl⟩
  rw [← hs1] at HC1
  have HS1 := Lib.hid hs1
  have hst := store_f
  have F00 := Fr.refl Nothing w
  clear hl hw hN hs1
  cases hb : (ordF s1 9218868437227405311 == some .gt) with
  | true =>
    have HI : Hid (∀ W, Calls Try.prog 23 #[.float .f64 s1, .int .i64 1] W fun e w' => e = .returned (.bool true) ∧ w' = W) := Lib.hid fun W => by rw [← hb]; exact is_inf1 s1 W
    have HB : Hid ((ordF s1 9218868437227405311 == some .gt) = true) := Lib.hid hb
    clear hb
    obtain ⟨d, hdd⟩ : ∃ d, d = lessF := ⟨_, rfl⟩
    have hD : d = dF l := by rw [hdd]; unfold dF; rw [HLN.out, ← HS1.out, if_pos HB.out]
    have HND : Hid (NN d) := Lib.hid (by rw [hdd]; decide)
    have H0 : Hid (0 < d) := Lib.hid (by rw [hdd]; decide)
    have HFIN : Hid (∀ k, Fin (wAt l d k)) := Lib.hid (fun k => by rw [hdd]; exact wAt_fin HW.out fin_div_less k)
    obtain ⟨s, hs⟩ : ∃ s, s = wSum l d N := ⟨_, rfl⟩
    have hsn : NN s := by rw [hs]; exact wSum_nn HW.out HND.out H0.out N
    rw [← hdd, ← hs] at HC2
    cases hz : (ordF s 0 == some .eq) with
    | true =>
      have HE : Hid (pRow l N = wRow l d N N) := Lib.hid (by
        unfold pRow wRow
        apply List.map_congr_left
        intro i hi
        rw [if_pos (List.mem_range.1 hi)]
        congr 1
        unfold pAt
        rw [← hD, HLN.out, ← hs, if_pos hz])
      clear hdd hD hs hsn
      go_enter Try.func12, Try.ntmps12
      go_wp2_with (first
        | (go_at_call 22; with_reducible refine (HC1.out _ F00).mono ?_; rintro _ w1 ⟨g1, rfl, hg1, hR1, F1⟩)
        | (go_at_call 23; with_reducible refine (HI.out _).mono ?_; rintro _ w2 ⟨rfl, rfl⟩)
        | (go_at_call 22; with_reducible refine (HC2.out _ F1).mono ?_; rintro _ w3 ⟨g, rfl, hg, hR, F3⟩; have F := F1.trans' F3; have HGW : Hid (w.heap.size ≤ g) := Lib.hid (Nat.le_trans F1.size hg)))
      go_ret
      exact ⟨g, rfl, HGW.out, by rw [HE.out]; exact hR, F⟩
    | false =>
      have hs0 : 0 < s := by
        by_cases h0 : s = 0
        · rw [h0, ord_eq (by decide : Fin 0)] at hz; exact absurd hz (by decide)
        · omega
      have HSN := Lib.hid (And.intro hsn hs0)
      have HE : Hid (pRow l N = row2 (fun i => divF (wAt l d i) s) (wAt l d) N N) := Lib.hid (by
        unfold pRow row2
        apply List.map_congr_left
        intro i hi
        rw [if_pos (List.mem_range.1 hi)]
        congr 1
        unfold pAt
        rw [← hD, HLN.out, ← hs, if_neg (by rw [hz]; exact Bool.false_ne_true)])
      have HR00 : Hid (row2 (fun i => divF (wAt l d i) s) (wAt l d) N 0 = wRow l d N N) := Lib.hid (by
        unfold row2 wRow
        apply List.map_congr_left
        intro i hi
        rw [if_neg (Nat.not_lt_zero _), if_pos (List.mem_range.1 hi)])
      clear hsn hs0 hdd hD hs
      go_enter Try.func12, Try.ntmps12
      go_wp2_with (first
        | (go_at_call 22; with_reducible refine (HC1.out _ F00).mono ?_; rintro _ w1 ⟨g1, rfl, hg1, hR1, F1⟩)
        | (go_at_call 23; with_reducible refine (HI.out _).mono ?_; rintro _ w2 ⟨rfl, rfl⟩)
        | (go_at_call 22; with_reducible refine (HC2.out _ F1).mono ?_; rintro _ w3 ⟨g, rfl, hg, hR, F3⟩; have F := F1.trans' F3; have HGW : Hid (w.heap.size ≤ g) := Lib.hid (Nat.le_trans F1.size hg)))
      rw [← HR00.out] at hR
      have HR0 := Lib.hid hR
      clear hR
      go_loopg [23] N (fun gg vi wr => ∃ k, k ≤ N ∧ gg = N - k ∧ vi = .int .i64 (k : Nat) ∧ Hid (Row wr g (row2 (fun i => divF (wAt l d i) s) (wAt l d) N k) 23) ∧ Fr Nothing w wr)
      case atStart => exact ⟨0, Nat.zero_le _, rfl, rfl, HR0, F⟩
      case round =>
        clear HR0 F
        obtain ⟨k, hk, rfl, rfl, HR, F⟩ := hrel
        by_cases hlt : k < N
        · have hltI : (k : Int) < N := by omega
          have p0 := HR.out.cell k (row2_get _ _ N k k hlt)
          rw [if_neg (Nat.lt_irrefl _)] at p0
          have pf := HR.out.free k
          obtain ⟨x, hx⟩ : ∃ x, x = wAt l d k := ⟨_, rfl⟩
          have hxf : Fin x := by rw [hx]; exact HFIN.out k
          obtain ⟨r, hr⟩ : ∃ r, r = divF x s := ⟨_, rfl⟩
          have hdiv : FloatKind.f64.format.div x s = some r := by rw [hr]; exact (div_nn hxf HSN.out.1 HSN.out.2).1
          have hqr : ∀ w, (binOp .quo 23 (.float .f64 x) (.float .f64 s)).run Try.prog w = .ok (.float .f64 r) w := fun w => run_float_arith w .quo 23 .f64 x s r hdiv
          rw [← hx] at p0
          have HR2 : Hid (Row (wr.setCell ⟨g, k, none⟩ (.float .f64 r)) g (row2 (fun i => divF (wAt l d i) s) (wAt l d) N (k + 1)) 23) := Lib.hid (by
            have := HR.out.set k (.float .f64 (divF (wAt l d k) s))
            rw [row2_set (fun i => divF (wAt l d i) s) (wAt l d) N k hlt] at this
            rw [hr, hx]; exact this)
          have HF2 : Hid (Fr Nothing w (wr.setCell ⟨g, k, none⟩ (.float .f64 r))) := Lib.hid (F.trans (Fr.setCell (S := fun q => q = g) (p := ⟨g, k, none⟩) rfl _) (fun q hq e => by have := HGW.out; omega))
          clear hx hxf hr hdiv HR F
          go_wp2_with (fail)
          go_roundg (N - (k + 1))
          case measure => omega
          case rel => exact ⟨k + 1, by omega, rfl, by go_num, HR2, HF2.out⟩
        · obtain rfl : k = N := by omega
          go_wp2_with (fail)
          go_ret
          exact ⟨g, rfl, HGW.out, by rw [HE.out]; exact HR.out, F⟩
  | false =>
    have HI : Hid (∀ W, Calls Try.prog 23 #[.float .f64 s1, .int .i64 1] W fun e w' => e = .returned (.bool false) ∧ w' = W) := Lib.hid fun W => by rw [← hb]; exact is_inf1 s1 W
    have HB : Hid (¬ (ordF s1 9218868437227405311 == some .gt) = true) := Lib.hid (by rw [hb]; exact Bool.false_ne_true)
    clear hb
    obtain ⟨d, hdd⟩ : ∃ d, d = oneF := ⟨_, rfl⟩
    have hD : d = dF l := by rw [hdd]; unfold dF; rw [HLN.out, ← HS1.out, if_neg HB.out]
    have HND : Hid (NN d) := Lib.hid (by rw [hdd]; decide)
    have H0 : Hid (0 < d) := Lib.hid (by rw [hdd]; decide)
    have HFIN : Hid (∀ k, Fin (wAt l d k)) := Lib.hid (fun k => by rw [hdd]; exact wAt_fin HW.out fin_div_one k)
    obtain ⟨s, hs⟩ : ∃ s, s = wSum l d N := ⟨_, rfl⟩
    have hsn : NN s := by rw [hs]; exact wSum_nn HW.out HND.out H0.out N
    rw [HS1.out, ← hdd, ← hs] at HC1 HI
    cases hz : (ordF s 0 == some .eq) with
    | true =>
      have HE : Hid (pRow l N = wRow l d N N) := Lib.hid (by
        unfold pRow wRow
        apply List.map_congr_left
        intro i hi
        rw [if_pos (List.mem_range.1 hi)]
        congr 1
        unfold pAt
        rw [← hD, HLN.out, ← hs, if_pos hz])
      clear hdd hD hs hsn
      go_enter Try.func12, Try.ntmps12
      go_wp2_with (first
        | (go_at_call 22; with_reducible refine (HC1.out _ F00).mono ?_; rintro _ w1 ⟨g, rfl, hg, hR, F⟩; have HGW : Hid (w.heap.size ≤ g) := Lib.hid hg)
        | (go_at_call 23; with_reducible refine (HI.out _).mono ?_; rintro _ w2 ⟨rfl, rfl⟩))
      go_ret
      exact ⟨g, rfl, HGW.out, by rw [HE.out]; exact hR, F⟩
    | false =>
      have hs0 : 0 < s := by
        by_cases h0 : s = 0
        · rw [h0, ord_eq (by decide : Fin 0)] at hz; exact absurd hz (by decide)
        · omega
      have HSN := Lib.hid (And.intro hsn hs0)
      have HE : Hid (pRow l N = row2 (fun i => divF (wAt l d i) s) (wAt l d) N N) := Lib.hid (by
        unfold pRow row2
        apply List.map_congr_left
        intro i hi
        rw [if_pos (List.mem_range.1 hi)]
        congr 1
        unfold pAt
        rw [← hD, HLN.out, ← hs, if_neg (by rw [hz]; exact Bool.false_ne_true)])
      have HR00 : Hid (row2 (fun i => divF (wAt l d i) s) (wAt l d) N 0 = wRow l d N N) := Lib.hid (by
        unfold row2 wRow
        apply List.map_congr_left
        intro i hi
        rw [if_neg (Nat.not_lt_zero _), if_pos (List.mem_range.1 hi)])
      clear hsn hs0 hdd hD hs
      go_enter Try.func12, Try.ntmps12
      go_wp2_with (first
        | (go_at_call 22; with_reducible refine (HC1.out _ F00).mono ?_; rintro _ w1 ⟨g, rfl, hg, hR, F⟩; have HGW : Hid (w.heap.size ≤ g) := Lib.hid hg)
        | (go_at_call 23; with_reducible refine (HI.out _).mono ?_; rintro _ w2 ⟨rfl, rfl⟩))
      rw [← HR00.out] at hR
      have HR0 := Lib.hid hR
      clear hR
      go_loopg [23] N (fun gg vi wr => ∃ k, k ≤ N ∧ gg = N - k ∧ vi = .int .i64 (k : Nat) ∧ Hid (Row wr g (row2 (fun i => divF (wAt l d i) s) (wAt l d) N k) 23) ∧ Fr Nothing w wr)
      case atStart => exact ⟨0, Nat.zero_le _, rfl, rfl, HR0, F⟩
      case round =>
        clear HR0 F
        obtain ⟨k, hk, rfl, rfl, HR, F⟩ := hrel
        by_cases hlt : k < N
        · have hltI : (k : Int) < N := by omega
          have p0 := HR.out.cell k (row2_get _ _ N k k hlt)
          rw [if_neg (Nat.lt_irrefl _)] at p0
          have pf := HR.out.free k
          obtain ⟨x, hx⟩ : ∃ x, x = wAt l d k := ⟨_, rfl⟩
          have hxf : Fin x := by rw [hx]; exact HFIN.out k
          obtain ⟨r, hr⟩ : ∃ r, r = divF x s := ⟨_, rfl⟩
          have hdiv : FloatKind.f64.format.div x s = some r := by rw [hr]; exact (div_nn hxf HSN.out.1 HSN.out.2).1
          have hqr : ∀ w, (binOp .quo 23 (.float .f64 x) (.float .f64 s)).run Try.prog w = .ok (.float .f64 r) w := fun w => run_float_arith w .quo 23 .f64 x s r hdiv
          rw [← hx] at p0
          have HR2 : Hid (Row (wr.setCell ⟨g, k, none⟩ (.float .f64 r)) g (row2 (fun i => divF (wAt l d i) s) (wAt l d) N (k + 1)) 23) := Lib.hid (by
            have := HR.out.set k (.float .f64 (divF (wAt l d k) s))
            rw [row2_set (fun i => divF (wAt l d i) s) (wAt l d) N k hlt] at this
            rw [hr, hx]; exact this)
          have HF2 : Hid (Fr Nothing w (wr.setCell ⟨g, k, none⟩ (.float .f64 r))) := Lib.hid (F.trans (Fr.setCell (S := fun q => q = g) (p := ⟨g, k, none⟩) rfl _) (fun q hq e => by have := HGW.out; omega))
          clear hx hxf hr hdiv HR F
          go_wp2_with (fail)
          go_roundg (N - (k + 1))
          case measure => omega
          case rel => exact ⟨k + 1, by omega, rfl, by go_num, HR2, HF2.out⟩
        · obtain rfl : k = N := by omega
          go_wp2_with (fail)
          go_ret
          exact ⟨g, rfl, HGW.out, by rw [HE.out]; exact HR.out, F⟩
end Go.Proofs.Ytdgaiacigmcibaa
