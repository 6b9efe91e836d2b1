/- ShareEqual's walk. No condition. -/
import Derived.Test.YtdgaiacigmcibaaEqualA
import Derived.Test.YtdgaiacigmcibaaShLives
import Derived.Test.YtdgaiacigmcibaaShArgs
namespace Go.Proofs.Ytdgaiacigmcibaa
open Go.RowKit Go.Sort

theorem row2_const (x N : Nat) : row2 (fun _ => x) (fun _ => 0) N N = (List.replicate N x).map fun x => Value.float .f64 x := by
  unfold row2
  rw [List.map_replicate, List.eq_replicate_iff]
  refine ⟨by simp, fun v hv => ?_⟩
  obtain ⟨i, hi, rfl⟩ := List.mem_map.1 hv
  rw [if_pos (List.mem_range.1 hi)]
theorem row2_nought (f : Nat → Nat) (N : Nat) : row2 f (fun _ => 0) N 0 = List.replicate N (.float .f64 0) := by
  unfold row2
  simp only [Nat.not_lt_zero, if_false]
  rw [List.map_const', List.length_range]
set_option maxHeartbeats 8000000 in
set_option maxRecDepth 100000 in
theorem shareequal_any (n many : Int) (X : Nat) (w : World) (_w0 : (Lit.int .i64 n).wf = true) (_w1 : (Lit.int .i64 many).wf = true) (w2f : (Lit.float .f64 X).wf = true) :
    Calls Try.prog 8 #[.int .i64 n, .int .i64 many, .float .f64 X] w fun e w' => e = .returned (.bool true) ∧ Below w.heap.size w w' := by
  have hX64 : X < 18446744073709551616 := by
    have : X < 2 ^ 64 := by simpa [Lit.wf] using w2f
    exact this
  obtain ⟨i0, hi, hz0, hz1, hz2⟩ := infoFl
  have Hi := Lib.hid hi
  have Hz0 := Lib.hid hz0
  have Hz1 := Lib.hid hz1
  obtain ⟨q, hq, eq'⟩ := umod many 30 (by decide) (by decide)
  have eq : wrap64 ((IntKind.u64.wrap many).tmod 30) = (q : Int) := eq'
  obtain ⟨N, hN⟩ : ∃ N, N = 1 + q := ⟨_, rfl⟩
  have hNq : (1 : Int) + (q : Int) = (N : Int) := by omega
  have hN1 : 1 ≤ N := by omega
  have hN30 : N ≤ 30 := by omega
  have hN9 : (N : Int) ≤ 30 := by omega
  have hN0 : (0 : Int) < N := by omega
  have hby : i0.bytes * N ≤ 281474976710656 := by rw [hz2]; omega
  have hml : N ≤ maxLen := by unfold maxLen; omega
  have hst := store_f
  have HQ9 := Lib.hid hq
  have HNQ := Lib.hid hN
  clear hi hz0 hz1 hz2 eq' w2f hN
  have cases4 : ((ordF X 0 == some Ordering.gt) = false ∨ ((ordF X 0 == some Ordering.gt) = true ∧ (ordF X 7598952565167317594 == some Ordering.gt) = true) ∨ ((ordF X 0 == some Ordering.gt) = true ∧ (ordF X 7598952565167317594 == some Ordering.gt) = false ∧ (ordF X 1614679632300144556 == some Ordering.lt) = true)) ∨ ((ordF X 0 == some Ordering.gt) = true ∧ (ordF X 7598952565167317594 == some Ordering.gt) = false ∧ (ordF X 1614679632300144556 == some Ordering.lt) = false) := by
    cases (ordF X 0 == some Ordering.gt) <;> cases (ordF X 7598952565167317594 == some Ordering.gt) <;> cases (ordF X 1614679632300144556 == some Ordering.lt) <;> simp
  rcases cases4 with (hc | ⟨hc, hd⟩ | ⟨hc, hd, he⟩) | ⟨hc, hd, he⟩
  · have HRG : Hid (1614679632300144556 ≤ 4607182418800017408 ∧ 4607182418800017408 ≤ 7598952565167317594) := Lib.hid (by omega)
    obtain ⟨E, hE⟩ : ∃ E, E = eqP 4607182418800017408 N := ⟨_, rfl⟩
    obtain ⟨Y, hY⟩ : ∃ Y, Y = wholeL (List.replicate N 4607182418800017408) n := ⟨_, rfl⟩
    have hYl : Y.length = N := by rw [hY, wholeL_len]; simp
    have hEf : (ordF E E != some Ordering.eq) = false := by
      have h1 : E ≤ oneF := by
        rw [hE, ← eq_pAt HRG.out.1 HRG.out.2 hN30 (show 0 < N by omega)]
        exact pAt_le_one (eq_words HRG.out.1 HRG.out.2) (by simp; omega)
      rw [ord_eq (Nat.lt_of_le_of_lt h1 (by decide))]; rfl
    have HLAW : Hid (∀ i, i + 1 < N → ¬ Y.getD i 0 < Y.getD (i + 1) 0 ∧ ¬ Y.getD (i + 1) 0 < Y.getD 0 0 - 1) := Lib.hid (fun i hi => by rw [hY]; exact eq_law HRG.out.1 HRG.out.2 hN1 hN30 n i hi)
    have HYN : Hid (NonNeg Y ∧ Y.sum ≤ 1000000) := Lib.hid ⟨by rw [hY]; exact wholeL_nn _ _, by rw [hY]; exact wholeL_le _ _⟩
    have HPC : Hid (∀ (a : Option Addr) (W : World), Fs W a (List.replicate N 4607182418800017408) → Calls Try.prog 12 #[.slice a N N] W fun e w' => ∃ g, e = .returned (.slice (some ⟨g, 0, none⟩) N N) ∧ Row w' g (List.replicate N (.float .f64 E)) 23 ∧ Fr Nothing W w') := Lib.hid (fun a W h => by
      have := parts_f a (List.replicate N 4607182418800017408) N W h (eq_words HRG.out.1 HRG.out.2) (by simp; omega)
      rw [List.length_replicate] at this
      refine this.mono ?_
      rintro e w' ⟨g, rfl, _, hR, hF⟩
      refine ⟨g, rfl, ?_, hF⟩
      have e1 : pRow (List.replicate N 4607182418800017408) N = List.replicate N (.float .f64 E) := by
        unfold pRow
        rw [List.eq_replicate_iff]
        refine ⟨by simp, fun v hv => ?_⟩
        obtain ⟨i, hi, rfl⟩ := List.mem_map.1 hv
        rw [eq_pAt HRG.out.1 HRG.out.2 hN30 (List.mem_range.1 hi), hE]
      rw [← e1]; exact hR)
    have HWC : Hid (∀ (a : Option Addr) (W : World), Fs W a (List.replicate N 4607182418800017408) → Calls Try.prog 19 #[.int .i64 n, .slice a N N] W (WholeTold Y W)) := Lib.hid (fun a W h => by
      have := whole_f a (List.replicate N 4607182418800017408) N n W h (eq_words HRG.out.1 HRG.out.2) (by simp; omega) (by simp)
      rw [List.length_replicate, ← hY] at this
      exact this)
    have HYL := Lib.hid hYl
    obtain ⟨z0, hz0⟩ : ∃ z, z = Y.getD 0 0 := ⟨_, rfl⟩
    have HZ0 := Lib.hid hz0
    have hz0a : 0 ≤ z0 := by rw [hz0]; exact HYN.out.1.getD 0
    have hz0b : z0 ≤ 1000000 := by rw [hz0]; exact Int.le_trans (HYN.out.1.le_sum 0) HYN.out.2
    clear hE hY hYl hz0 hX64
    go_enter Try.func8, Try.ntmps8
    go_wp2_with (first
      | (go_at_call 9; refine (share_lives _).mono ?_; rintro _ w1 ⟨rfl, F1⟩)
      | (at_make; go_must (refine wpList_make_row _ rfl _ _ 22 rfl 23 i0 (.float .f64 0) Try.underlying22 Hi.out Hz0.out Hz1.out rfl .i64 .i64 _ _ N rfl rfl rfl rfl hby hml ?_)))
    intro w2 hr2 hf2 hlt2
    try rw [eq]
    try rw [hNq]
    obtain ⟨g, hg⟩ : ∃ g, g = w1.heap.size := ⟨_, rfl⟩
    rw [← hg] at hr2 hlt2 ⊢
    have HG : Hid (w.heap.size ≤ g) := Lib.hid (by rw [hg]; exact F1.size)
    have HR2 : Hid (Row w2 g (row2 (fun _ => 4607182418800017408) (fun _ => 0) N 0) 23) := Lib.hid (by rw [row2_nought]; exact hr2)
    have HF2 := Lib.hid (F1.trans' hf2)
    clear hr2 hf2 hlt2 hg F1
    go_wp2_with (fail)
    go_loopg [8] N (fun gg vi wr => ∃ k, k ≤ N ∧ gg = N - k ∧ vi = .int .i64 (k : Nat) ∧ Hid (Row wr g (row2 (fun _ => 4607182418800017408) (fun _ => 0) N k) 23) ∧ Hid (Fr Nothing w wr))
    case atStart => exact ⟨0, Nat.zero_le _, rfl, rfl, HR2, HF2⟩
    case round =>
      clear HR2 HF2
      obtain ⟨k, hk, rfl, rfl, HR, HF⟩ := hrel
      by_cases hlt : k < N
      · have hltI : (k : Int) < N := by omega
        have p0 := HR.out.cell k (row2_get _ _ N k k hlt)
        rw [if_neg (Nat.lt_irrefl _)] at p0
        have pf := HR.out.free k
        have HR3 : Hid (Row (wr.setCell ⟨g, k, none⟩ (.float .f64 4607182418800017408)) g (row2 (fun _ => 4607182418800017408) (fun _ => 0) N (k + 1)) 23) := Lib.hid (by
          have := HR.out.set k (.float .f64 4607182418800017408)
          rw [row2_set (fun _ => 4607182418800017408) (fun _ => 0) N k hlt] at this
          exact this)
        have HF3 : Hid (Fr Nothing w (wr.setCell ⟨g, k, none⟩ (.float .f64 4607182418800017408))) := Lib.hid (HF.out.trans (Fr.setCell (S := fun q => q = g) (p := ⟨g, k, none⟩) rfl _) (fun q hq e => by have := HG.out; omega))
        clear HR HF
        go_wp2_with (fail)
        go_roundg (N - (k + 1))
        case measure => omega
        case rel => exact ⟨k + 1, by omega, rfl, by go_num, HR3, HF3⟩
      · obtain rfl : N = k := by omega
        have HFS : Hid (Fs wr (some ⟨g, 0, none⟩) (List.replicate N 4607182418800017408)) := Lib.hid (by
          have := HR.out
          rw [row2_const] at this
          exact Sl.ofRow this)
        clear HR
        go_wp2_with (first
          | (go_at_call 12; refine (HPC.out _ _ HFS.out).mono ?_; rintro _ w4 ⟨g4, rfl, hR4, F4⟩)
          | (go_at_call 19; refine (HWC.out _ _ (Sl.fr HFS.out F4 (fun _ _ h => h))).mono ?_; rintro _ w5 ⟨g5, rfl, _, hR5, F5⟩; rw [HYL.out]))
        have HR4 : Hid (Row w5 g4 (List.replicate N (.float .f64 E)) 23) := Lib.hid (hR4.fr F5 (fun h => h))
        have HR5 := Lib.hid hR5
        have HF5 := Lib.hid ((HF.out.trans' F4).trans' F5)
        have cp0 := HR4.out.cell 0 (by rw [List.getElem?_replicate, if_pos (by omega)])
        have cw0 : w5.cell? ⟨g5, 0, none⟩ = some (.int .i64 z0) := by rw [HZ0.out]; exact HR5.out.cell 0 (nums_get (by rw [HYL.out]; omega))
        clear hR4 hR5 F4 F5
        go_loopg [11] (N - 1) (fun gg vi wr => ∃ k m, 1 ≤ k ∧ k ≤ N ∧ gg = N - k ∧ vi = .int .i64 (k : Nat) ∧ wr = w5.drewN m)
        case atStart => exact ⟨1, 0, Nat.le_refl _, by omega, by omega, rfl, rfl⟩
        case round =>
          obtain ⟨k, m, hk1, hk, rfl, rfl, rfl⟩ := hrel
          by_cases hlt2 : k < N
          · obtain ⟨j, rfl⟩ : ∃ j, k = j + 1 := ⟨k - 1, by omega⟩
            have hltI : (j : Int) + 1 < N := by omega
            have hltJ : (j : Int) < N := by omega
            obtain ⟨q1, q2⟩ := HLAW.out j (by omega)
            obtain ⟨y, hy⟩ : ∃ y, y = Y.getD j 0 := ⟨_, rfl⟩
            obtain ⟨z, hz⟩ : ∃ z, z = Y.getD (j + 1) 0 := ⟨_, rfl⟩
            rw [← hy, ← hz] at q1
            rw [← hz, ← HZ0.out] at q2
            have cpj := HR4.out.cell (j + 1) (by rw [List.getElem?_replicate, if_pos (by omega)])
            have cwj : w5.cell? ⟨g5, j + 1, none⟩ = some (.int .i64 z) := by rw [hz]; exact HR5.out.cell (j + 1) (nums_get (by rw [HYL.out]; omega))
            have cwi : w5.cell? ⟨g5, j, none⟩ = some (.int .i64 y) := by rw [hy]; exact HR5.out.cell j (nums_get (by rw [HYL.out]; omega))
            have q1b : decide (y < z) = false := decide_eq_false (by omega)
            have q2b : decide (z < z0 - 1) = false := decide_eq_false (by omega)
            clear hy hz
            go_wp2_with (fail)
            go_quiet (fail)
            go_wp2_with (fail)
            go_roundg (N - (j + 1 + 1))
            case measure => omega
            case rel => exact ⟨j + 1 + 1, m + nq, by omega, by omega, rfl, by go_num, by simp⟩
          · obtain rfl : N = k := by omega
            have hnn : ((N : Int) == N) = true := by simp
            go_wp2_with (fail)
            go_ret
            exact ⟨rfl, (HF5.out.trans' (Fr.drewN _ _ _)).fromN.belowB⟩
  · have HRG : Hid (1614679632300144556 ≤ 4607182418800017408 ∧ 4607182418800017408 ≤ 7598952565167317594) := Lib.hid (by omega)
    obtain ⟨E, hE⟩ : ∃ E, E = eqP 4607182418800017408 N := ⟨_, rfl⟩
    obtain ⟨Y, hY⟩ : ∃ Y, Y = wholeL (List.replicate N 4607182418800017408) n := ⟨_, rfl⟩
    have hYl : Y.length = N := by rw [hY, wholeL_len]; simp
    have hEf : (ordF E E != some Ordering.eq) = false := by
      have h1 : E ≤ oneF := by
        rw [hE, ← eq_pAt HRG.out.1 HRG.out.2 hN30 (show 0 < N by omega)]
        exact pAt_le_one (eq_words HRG.out.1 HRG.out.2) (by simp; omega)
      rw [ord_eq (Nat.lt_of_le_of_lt h1 (by decide))]; rfl
    have HLAW : Hid (∀ i, i + 1 < N → ¬ Y.getD i 0 < Y.getD (i + 1) 0 ∧ ¬ Y.getD (i + 1) 0 < Y.getD 0 0 - 1) := Lib.hid (fun i hi => by rw [hY]; exact eq_law HRG.out.1 HRG.out.2 hN1 hN30 n i hi)
    have HYN : Hid (NonNeg Y ∧ Y.sum ≤ 1000000) := Lib.hid ⟨by rw [hY]; exact wholeL_nn _ _, by rw [hY]; exact wholeL_le _ _⟩
    have HPC : Hid (∀ (a : Option Addr) (W : World), Fs W a (List.replicate N 4607182418800017408) → Calls Try.prog 12 #[.slice a N N] W fun e w' => ∃ g, e = .returned (.slice (some ⟨g, 0, none⟩) N N) ∧ Row w' g (List.replicate N (.float .f64 E)) 23 ∧ Fr Nothing W w') := Lib.hid (fun a W h => by
      have := parts_f a (List.replicate N 4607182418800017408) N W h (eq_words HRG.out.1 HRG.out.2) (by simp; omega)
      rw [List.length_replicate] at this
      refine this.mono ?_
      rintro e w' ⟨g, rfl, _, hR, hF⟩
      refine ⟨g, rfl, ?_, hF⟩
      have e1 : pRow (List.replicate N 4607182418800017408) N = List.replicate N (.float .f64 E) := by
        unfold pRow
        rw [List.eq_replicate_iff]
        refine ⟨by simp, fun v hv => ?_⟩
        obtain ⟨i, hi, rfl⟩ := List.mem_map.1 hv
        rw [eq_pAt HRG.out.1 HRG.out.2 hN30 (List.mem_range.1 hi), hE]
      rw [← e1]; exact hR)
    have HWC : Hid (∀ (a : Option Addr) (W : World), Fs W a (List.replicate N 4607182418800017408) → Calls Try.prog 19 #[.int .i64 n, .slice a N N] W (WholeTold Y W)) := Lib.hid (fun a W h => by
      have := whole_f a (List.replicate N 4607182418800017408) N n W h (eq_words HRG.out.1 HRG.out.2) (by simp; omega) (by simp)
      rw [List.length_replicate, ← hY] at this
      exact this)
    have HYL := Lib.hid hYl
    obtain ⟨z0, hz0⟩ : ∃ z, z = Y.getD 0 0 := ⟨_, rfl⟩
    have HZ0 := Lib.hid hz0
    have hz0a : 0 ≤ z0 := by rw [hz0]; exact HYN.out.1.getD 0
    have hz0b : z0 ≤ 1000000 := by rw [hz0]; exact Int.le_trans (HYN.out.1.le_sum 0) HYN.out.2
    clear hE hY hYl hz0 hX64
    go_enter Try.func8, Try.ntmps8
    go_wp2_with (first
      | (go_at_call 9; refine (share_lives _).mono ?_; rintro _ w1 ⟨rfl, F1⟩)
      | (at_make; go_must (refine wpList_make_row _ rfl _ _ 22 rfl 23 i0 (.float .f64 0) Try.underlying22 Hi.out Hz0.out Hz1.out rfl .i64 .i64 _ _ N rfl rfl rfl rfl hby hml ?_)))
    intro w2 hr2 hf2 hlt2
    try rw [eq]
    try rw [hNq]
    obtain ⟨g, hg⟩ : ∃ g, g = w1.heap.size := ⟨_, rfl⟩
    rw [← hg] at hr2 hlt2 ⊢
    have HG : Hid (w.heap.size ≤ g) := Lib.hid (by rw [hg]; exact F1.size)
    have HR2 : Hid (Row w2 g (row2 (fun _ => 4607182418800017408) (fun _ => 0) N 0) 23) := Lib.hid (by rw [row2_nought]; exact hr2)
    have HF2 := Lib.hid (F1.trans' hf2)
    clear hr2 hf2 hlt2 hg F1
    go_wp2_with (fail)
    go_loopg [8] N (fun gg vi wr => ∃ k, k ≤ N ∧ gg = N - k ∧ vi = .int .i64 (k : Nat) ∧ Hid (Row wr g (row2 (fun _ => 4607182418800017408) (fun _ => 0) N k) 23) ∧ Hid (Fr Nothing w wr))
    case atStart => exact ⟨0, Nat.zero_le _, rfl, rfl, HR2, HF2⟩
    case round =>
      clear HR2 HF2
      obtain ⟨k, hk, rfl, rfl, HR, HF⟩ := hrel
      by_cases hlt : k < N
      · have hltI : (k : Int) < N := by omega
        have p0 := HR.out.cell k (row2_get _ _ N k k hlt)
        rw [if_neg (Nat.lt_irrefl _)] at p0
        have pf := HR.out.free k
        have HR3 : Hid (Row (wr.setCell ⟨g, k, none⟩ (.float .f64 4607182418800017408)) g (row2 (fun _ => 4607182418800017408) (fun _ => 0) N (k + 1)) 23) := Lib.hid (by
          have := HR.out.set k (.float .f64 4607182418800017408)
          rw [row2_set (fun _ => 4607182418800017408) (fun _ => 0) N k hlt] at this
          exact this)
        have HF3 : Hid (Fr Nothing w (wr.setCell ⟨g, k, none⟩ (.float .f64 4607182418800017408))) := Lib.hid (HF.out.trans (Fr.setCell (S := fun q => q = g) (p := ⟨g, k, none⟩) rfl _) (fun q hq e => by have := HG.out; omega))
        clear HR HF
        go_wp2_with (fail)
        go_roundg (N - (k + 1))
        case measure => omega
        case rel => exact ⟨k + 1, by omega, rfl, by go_num, HR3, HF3⟩
      · obtain rfl : N = k := by omega
        have HFS : Hid (Fs wr (some ⟨g, 0, none⟩) (List.replicate N 4607182418800017408)) := Lib.hid (by
          have := HR.out
          rw [row2_const] at this
          exact Sl.ofRow this)
        clear HR
        go_wp2_with (first
          | (go_at_call 12; refine (HPC.out _ _ HFS.out).mono ?_; rintro _ w4 ⟨g4, rfl, hR4, F4⟩)
          | (go_at_call 19; refine (HWC.out _ _ (Sl.fr HFS.out F4 (fun _ _ h => h))).mono ?_; rintro _ w5 ⟨g5, rfl, _, hR5, F5⟩; rw [HYL.out]))
        have HR4 : Hid (Row w5 g4 (List.replicate N (.float .f64 E)) 23) := Lib.hid (hR4.fr F5 (fun h => h))
        have HR5 := Lib.hid hR5
        have HF5 := Lib.hid ((HF.out.trans' F4).trans' F5)
        have cp0 := HR4.out.cell 0 (by rw [List.getElem?_replicate, if_pos (by omega)])
        have cw0 : w5.cell? ⟨g5, 0, none⟩ = some (.int .i64 z0) := by rw [HZ0.out]; exact HR5.out.cell 0 (nums_get (by rw [HYL.out]; omega))
        clear hR4 hR5 F4 F5
        go_loopg [11] (N - 1) (fun gg vi wr => ∃ k m, 1 ≤ k ∧ k ≤ N ∧ gg = N - k ∧ vi = .int .i64 (k : Nat) ∧ wr = w5.drewN m)
        case atStart => exact ⟨1, 0, Nat.le_refl _, by omega, by omega, rfl, rfl⟩
        case round =>
          obtain ⟨k, m, hk1, hk, rfl, rfl, rfl⟩ := hrel
          by_cases hlt2 : k < N
          · obtain ⟨j, rfl⟩ : ∃ j, k = j + 1 := ⟨k - 1, by omega⟩
            have hltI : (j : Int) + 1 < N := by omega
            have hltJ : (j : Int) < N := by omega
            obtain ⟨q1, q2⟩ := HLAW.out j (by omega)
            obtain ⟨y, hy⟩ : ∃ y, y = Y.getD j 0 := ⟨_, rfl⟩
            obtain ⟨z, hz⟩ : ∃ z, z = Y.getD (j + 1) 0 := ⟨_, rfl⟩
            rw [← hy, ← hz] at q1
            rw [← hz, ← HZ0.out] at q2
            have cpj := HR4.out.cell (j + 1) (by rw [List.getElem?_replicate, if_pos (by omega)])
            have cwj : w5.cell? ⟨g5, j + 1, none⟩ = some (.int .i64 z) := by rw [hz]; exact HR5.out.cell (j + 1) (nums_get (by rw [HYL.out]; omega))
            have cwi : w5.cell? ⟨g5, j, none⟩ = some (.int .i64 y) := by rw [hy]; exact HR5.out.cell j (nums_get (by rw [HYL.out]; omega))
            have q1b : decide (y < z) = false := decide_eq_false (by omega)
            have q2b : decide (z < z0 - 1) = false := decide_eq_false (by omega)
            clear hy hz
            go_wp2_with (fail)
            go_quiet (fail)
            go_wp2_with (fail)
            go_roundg (N - (j + 1 + 1))
            case measure => omega
            case rel => exact ⟨j + 1 + 1, m + nq, by omega, by omega, rfl, by go_num, by simp⟩
          · obtain rfl : N = k := by omega
            have hnn : ((N : Int) == N) = true := by simp
            go_wp2_with (fail)
            go_ret
            exact ⟨rfl, (HF5.out.trans' (Fr.drewN _ _ _)).fromN.belowB⟩
  · have HRG : Hid (1614679632300144556 ≤ 4607182418800017408 ∧ 4607182418800017408 ≤ 7598952565167317594) := Lib.hid (by omega)
    obtain ⟨E, hE⟩ : ∃ E, E = eqP 4607182418800017408 N := ⟨_, rfl⟩
    obtain ⟨Y, hY⟩ : ∃ Y, Y = wholeL (List.replicate N 4607182418800017408) n := ⟨_, rfl⟩
    have hYl : Y.length = N := by rw [hY, wholeL_len]; simp
    have hEf : (ordF E E != some Ordering.eq) = false := by
      have h1 : E ≤ oneF := by
        rw [hE, ← eq_pAt HRG.out.1 HRG.out.2 hN30 (show 0 < N by omega)]
        exact pAt_le_one (eq_words HRG.out.1 HRG.out.2) (by simp; omega)
      rw [ord_eq (Nat.lt_of_le_of_lt h1 (by decide))]; rfl
    have HLAW : Hid (∀ i, i + 1 < N → ¬ Y.getD i 0 < Y.getD (i + 1) 0 ∧ ¬ Y.getD (i + 1) 0 < Y.getD 0 0 - 1) := Lib.hid (fun i hi => by rw [hY]; exact eq_law HRG.out.1 HRG.out.2 hN1 hN30 n i hi)
    have HYN : Hid (NonNeg Y ∧ Y.sum ≤ 1000000) := Lib.hid ⟨by rw [hY]; exact wholeL_nn _ _, by rw [hY]; exact wholeL_le _ _⟩
    have HPC : Hid (∀ (a : Option Addr) (W : World), Fs W a (List.replicate N 4607182418800017408) → Calls Try.prog 12 #[.slice a N N] W fun e w' => ∃ g, e = .returned (.slice (some ⟨g, 0, none⟩) N N) ∧ Row w' g (List.replicate N (.float .f64 E)) 23 ∧ Fr Nothing W w') := Lib.hid (fun a W h => by
      have := parts_f a (List.replicate N 4607182418800017408) N W h (eq_words HRG.out.1 HRG.out.2) (by simp; omega)
      rw [List.length_replicate] at this
      refine this.mono ?_
      rintro e w' ⟨g, rfl, _, hR, hF⟩
      refine ⟨g, rfl, ?_, hF⟩
      have e1 : pRow (List.replicate N 4607182418800017408) N = List.replicate N (.float .f64 E) := by
        unfold pRow
        rw [List.eq_replicate_iff]
        refine ⟨by simp, fun v hv => ?_⟩
        obtain ⟨i, hi, rfl⟩ := List.mem_map.1 hv
        rw [eq_pAt HRG.out.1 HRG.out.2 hN30 (List.mem_range.1 hi), hE]
      rw [← e1]; exact hR)
    have HWC : Hid (∀ (a : Option Addr) (W : World), Fs W a (List.replicate N 4607182418800017408) → Calls Try.prog 19 #[.int .i64 n, .slice a N N] W (WholeTold Y W)) := Lib.hid (fun a W h => by
      have := whole_f a (List.replicate N 4607182418800017408) N n W h (eq_words HRG.out.1 HRG.out.2) (by simp; omega) (by simp)
      rw [List.length_replicate, ← hY] at this
      exact this)
    have HYL := Lib.hid hYl
    obtain ⟨z0, hz0⟩ : ∃ z, z = Y.getD 0 0 := ⟨_, rfl⟩
    have HZ0 := Lib.hid hz0
    have hz0a : 0 ≤ z0 := by rw [hz0]; exact HYN.out.1.getD 0
    have hz0b : z0 ≤ 1000000 := by rw [hz0]; exact Int.le_trans (HYN.out.1.le_sum 0) HYN.out.2
    clear hE hY hYl hz0 hX64
    go_enter Try.func8, Try.ntmps8
    go_wp2_with (first
      | (go_at_call 9; refine (share_lives _).mono ?_; rintro _ w1 ⟨rfl, F1⟩)
      | (at_make; go_must (refine wpList_make_row _ rfl _ _ 22 rfl 23 i0 (.float .f64 0) Try.underlying22 Hi.out Hz0.out Hz1.out rfl .i64 .i64 _ _ N rfl rfl rfl rfl hby hml ?_)))
    intro w2 hr2 hf2 hlt2
    try rw [eq]
    try rw [hNq]
    obtain ⟨g, hg⟩ : ∃ g, g = w1.heap.size := ⟨_, rfl⟩
    rw [← hg] at hr2 hlt2 ⊢
    have HG : Hid (w.heap.size ≤ g) := Lib.hid (by rw [hg]; exact F1.size)
    have HR2 : Hid (Row w2 g (row2 (fun _ => 4607182418800017408) (fun _ => 0) N 0) 23) := Lib.hid (by rw [row2_nought]; exact hr2)
    have HF2 := Lib.hid (F1.trans' hf2)
    clear hr2 hf2 hlt2 hg F1
    go_wp2_with (fail)
    go_loopg [8] N (fun gg vi wr => ∃ k, k ≤ N ∧ gg = N - k ∧ vi = .int .i64 (k : Nat) ∧ Hid (Row wr g (row2 (fun _ => 4607182418800017408) (fun _ => 0) N k) 23) ∧ Hid (Fr Nothing w wr))
    case atStart => exact ⟨0, Nat.zero_le _, rfl, rfl, HR2, HF2⟩
    case round =>
      clear HR2 HF2
      obtain ⟨k, hk, rfl, rfl, HR, HF⟩ := hrel
      by_cases hlt : k < N
      · have hltI : (k : Int) < N := by omega
        have p0 := HR.out.cell k (row2_get _ _ N k k hlt)
        rw [if_neg (Nat.lt_irrefl _)] at p0
        have pf := HR.out.free k
        have HR3 : Hid (Row (wr.setCell ⟨g, k, none⟩ (.float .f64 4607182418800017408)) g (row2 (fun _ => 4607182418800017408) (fun _ => 0) N (k + 1)) 23) := Lib.hid (by
          have := HR.out.set k (.float .f64 4607182418800017408)
          rw [row2_set (fun _ => 4607182418800017408) (fun _ => 0) N k hlt] at this
          exact this)
        have HF3 : Hid (Fr Nothing w (wr.setCell ⟨g, k, none⟩ (.float .f64 4607182418800017408))) := Lib.hid (HF.out.trans (Fr.setCell (S := fun q => q = g) (p := ⟨g, k, none⟩) rfl _) (fun q hq e => by have := HG.out; omega))
        clear HR HF
        go_wp2_with (fail)
        go_roundg (N - (k + 1))
        case measure => omega
        case rel => exact ⟨k + 1, by omega, rfl, by go_num, HR3, HF3⟩
      · obtain rfl : N = k := by omega
        have HFS : Hid (Fs wr (some ⟨g, 0, none⟩) (List.replicate N 4607182418800017408)) := Lib.hid (by
          have := HR.out
          rw [row2_const] at this
          exact Sl.ofRow this)
        clear HR
        go_wp2_with (first
          | (go_at_call 12; refine (HPC.out _ _ HFS.out).mono ?_; rintro _ w4 ⟨g4, rfl, hR4, F4⟩)
          | (go_at_call 19; refine (HWC.out _ _ (Sl.fr HFS.out F4 (fun _ _ h => h))).mono ?_; rintro _ w5 ⟨g5, rfl, _, hR5, F5⟩; rw [HYL.out]))
        have HR4 : Hid (Row w5 g4 (List.replicate N (.float .f64 E)) 23) := Lib.hid (hR4.fr F5 (fun h => h))
        have HR5 := Lib.hid hR5
        have HF5 := Lib.hid ((HF.out.trans' F4).trans' F5)
        have cp0 := HR4.out.cell 0 (by rw [List.getElem?_replicate, if_pos (by omega)])
        have cw0 : w5.cell? ⟨g5, 0, none⟩ = some (.int .i64 z0) := by rw [HZ0.out]; exact HR5.out.cell 0 (nums_get (by rw [HYL.out]; omega))
        clear hR4 hR5 F4 F5
        go_loopg [11] (N - 1) (fun gg vi wr => ∃ k m, 1 ≤ k ∧ k ≤ N ∧ gg = N - k ∧ vi = .int .i64 (k : Nat) ∧ wr = w5.drewN m)
        case atStart => exact ⟨1, 0, Nat.le_refl _, by omega, by omega, rfl, rfl⟩
        case round =>
          obtain ⟨k, m, hk1, hk, rfl, rfl, rfl⟩ := hrel
          by_cases hlt2 : k < N
          · obtain ⟨j, rfl⟩ : ∃ j, k = j + 1 := ⟨k - 1, by omega⟩
            have hltI : (j : Int) + 1 < N := by omega
            have hltJ : (j : Int) < N := by omega
            obtain ⟨q1, q2⟩ := HLAW.out j (by omega)
            obtain ⟨y, hy⟩ : ∃ y, y = Y.getD j 0 := ⟨_, rfl⟩
            obtain ⟨z, hz⟩ : ∃ z, z = Y.getD (j + 1) 0 := ⟨_, rfl⟩
            rw [← hy, ← hz] at q1
            rw [← hz, ← HZ0.out] at q2
            have cpj := HR4.out.cell (j + 1) (by rw [List.getElem?_replicate, if_pos (by omega)])
            have cwj : w5.cell? ⟨g5, j + 1, none⟩ = some (.int .i64 z) := by rw [hz]; exact HR5.out.cell (j + 1) (nums_get (by rw [HYL.out]; omega))
            have cwi : w5.cell? ⟨g5, j, none⟩ = some (.int .i64 y) := by rw [hy]; exact HR5.out.cell j (nums_get (by rw [HYL.out]; omega))
            have q1b : decide (y < z) = false := decide_eq_false (by omega)
            have q2b : decide (z < z0 - 1) = false := decide_eq_false (by omega)
            clear hy hz
            go_wp2_with (fail)
            go_quiet (fail)
            go_wp2_with (fail)
            go_roundg (N - (j + 1 + 1))
            case measure => omega
            case rel => exact ⟨j + 1 + 1, m + nq, by omega, by omega, rfl, by go_num, by simp⟩
          · obtain rfl : N = k := by omega
            have hnn : ((N : Int) == N) = true := by simp
            go_wp2_with (fail)
            go_ret
            exact ⟨rfl, (HF5.out.trans' (Fr.drewN _ _ _)).fromN.belowB⟩
  · have HRG : Hid (1614679632300144556 ≤ X ∧ X ≤ 7598952565167317594) := Lib.hid (mid_range hX64 hc hd he)
    obtain ⟨E, hE⟩ : ∃ E, E = eqP X N := ⟨_, rfl⟩
    obtain ⟨Y, hY⟩ : ∃ Y, Y = wholeL (List.replicate N X) n := ⟨_, rfl⟩
    have hYl : Y.length = N := by rw [hY, wholeL_len]; simp
    have hEf : (ordF E E != some Ordering.eq) = false := by
      have h1 : E ≤ oneF := by
        rw [hE, ← eq_pAt HRG.out.1 HRG.out.2 hN30 (show 0 < N by omega)]
        exact pAt_le_one (eq_words HRG.out.1 HRG.out.2) (by simp; omega)
      rw [ord_eq (Nat.lt_of_le_of_lt h1 (by decide))]; rfl
    have HLAW : Hid (∀ i, i + 1 < N → ¬ Y.getD i 0 < Y.getD (i + 1) 0 ∧ ¬ Y.getD (i + 1) 0 < Y.getD 0 0 - 1) := Lib.hid (fun i hi => by rw [hY]; exact eq_law HRG.out.1 HRG.out.2 hN1 hN30 n i hi)
    have HYN : Hid (NonNeg Y ∧ Y.sum ≤ 1000000) := Lib.hid ⟨by rw [hY]; exact wholeL_nn _ _, by rw [hY]; exact wholeL_le _ _⟩
    have HPC : Hid (∀ (a : Option Addr) (W : World), Fs W a (List.replicate N X) → Calls Try.prog 12 #[.slice a N N] W fun e w' => ∃ g, e = .returned (.slice (some ⟨g, 0, none⟩) N N) ∧ Row w' g (List.replicate N (.float .f64 E)) 23 ∧ Fr Nothing W w') := Lib.hid (fun a W h => by
      have := parts_f a (List.replicate N X) N W h (eq_words HRG.out.1 HRG.out.2) (by simp; omega)
      rw [List.length_replicate] at this
      refine this.mono ?_
      rintro e w' ⟨g, rfl, _, hR, hF⟩
      refine ⟨g, rfl, ?_, hF⟩
      have e1 : pRow (List.replicate N X) N = List.replicate N (.float .f64 E) := by
        unfold pRow
        rw [List.eq_replicate_iff]
        refine ⟨by simp, fun v hv => ?_⟩
        obtain ⟨i, hi, rfl⟩ := List.mem_map.1 hv
        rw [eq_pAt HRG.out.1 HRG.out.2 hN30 (List.mem_range.1 hi), hE]
      rw [← e1]; exact hR)
    have HWC : Hid (∀ (a : Option Addr) (W : World), Fs W a (List.replicate N X) → Calls Try.prog 19 #[.int .i64 n, .slice a N N] W (WholeTold Y W)) := Lib.hid (fun a W h => by
      have := whole_f a (List.replicate N X) N n W h (eq_words HRG.out.1 HRG.out.2) (by simp; omega) (by simp)
      rw [List.length_replicate, ← hY] at this
      exact this)
    have HYL := Lib.hid hYl
    obtain ⟨z0, hz0⟩ : ∃ z, z = Y.getD 0 0 := ⟨_, rfl⟩
    have HZ0 := Lib.hid hz0
    have hz0a : 0 ≤ z0 := by rw [hz0]; exact HYN.out.1.getD 0
    have hz0b : z0 ≤ 1000000 := by rw [hz0]; exact Int.le_trans (HYN.out.1.le_sum 0) HYN.out.2
    clear hE hY hYl hz0 hX64
    go_enter Try.func8, Try.ntmps8
    go_wp2_with (first
      | (go_at_call 9; refine (share_lives _).mono ?_; rintro _ w1 ⟨rfl, F1⟩)
      | (at_make; go_must (refine wpList_make_row _ rfl _ _ 22 rfl 23 i0 (.float .f64 0) Try.underlying22 Hi.out Hz0.out Hz1.out rfl .i64 .i64 _ _ N rfl rfl rfl rfl hby hml ?_)))
    intro w2 hr2 hf2 hlt2
    try rw [eq]
    try rw [hNq]
    obtain ⟨g, hg⟩ : ∃ g, g = w1.heap.size := ⟨_, rfl⟩
    rw [← hg] at hr2 hlt2 ⊢
    have HG : Hid (w.heap.size ≤ g) := Lib.hid (by rw [hg]; exact F1.size)
    have HR2 : Hid (Row w2 g (row2 (fun _ => X) (fun _ => 0) N 0) 23) := Lib.hid (by rw [row2_nought]; exact hr2)
    have HF2 := Lib.hid (F1.trans' hf2)
    clear hr2 hf2 hlt2 hg F1
    go_wp2_with (fail)
    go_loopg [8] N (fun gg vi wr => ∃ k, k ≤ N ∧ gg = N - k ∧ vi = .int .i64 (k : Nat) ∧ Hid (Row wr g (row2 (fun _ => X) (fun _ => 0) N k) 23) ∧ Hid (Fr Nothing w wr))
    case atStart => exact ⟨0, Nat.zero_le _, rfl, rfl, HR2, HF2⟩
    case round =>
      clear HR2 HF2
      obtain ⟨k, hk, rfl, rfl, HR, HF⟩ := hrel
      by_cases hlt : k < N
      · have hltI : (k : Int) < N := by omega
        have p0 := HR.out.cell k (row2_get _ _ N k k hlt)
        rw [if_neg (Nat.lt_irrefl _)] at p0
        have pf := HR.out.free k
        have HR3 : Hid (Row (wr.setCell ⟨g, k, none⟩ (.float .f64 X)) g (row2 (fun _ => X) (fun _ => 0) N (k + 1)) 23) := Lib.hid (by
          have := HR.out.set k (.float .f64 X)
          rw [row2_set (fun _ => X) (fun _ => 0) N k hlt] at this
          exact this)
        have HF3 : Hid (Fr Nothing w (wr.setCell ⟨g, k, none⟩ (.float .f64 X))) := Lib.hid (HF.out.trans (Fr.setCell (S := fun q => q = g) (p := ⟨g, k, none⟩) rfl _) (fun q hq e => by have := HG.out; omega))
        clear HR HF
        go_wp2_with (fail)
        go_roundg (N - (k + 1))
        case measure => omega
        case rel => exact ⟨k + 1, by omega, rfl, by go_num, HR3, HF3⟩
      · obtain rfl : N = k := by omega
        have HFS : Hid (Fs wr (some ⟨g, 0, none⟩) (List.replicate N X)) := Lib.hid (by
          have := HR.out
          rw [row2_const] at this
          exact Sl.ofRow this)
        clear HR
        go_wp2_with (first
          | (go_at_call 12; refine (HPC.out _ _ HFS.out).mono ?_; rintro _ w4 ⟨g4, rfl, hR4, F4⟩)
          | (go_at_call 19; refine (HWC.out _ _ (Sl.fr HFS.out F4 (fun _ _ h => h))).mono ?_; rintro _ w5 ⟨g5, rfl, _, hR5, F5⟩; rw [HYL.out]))
        have HR4 : Hid (Row w5 g4 (List.replicate N (.float .f64 E)) 23) := Lib.hid (hR4.fr F5 (fun h => h))
        have HR5 := Lib.hid hR5
        have HF5 := Lib.hid ((HF.out.trans' F4).trans' F5)
        have cp0 := HR4.out.cell 0 (by rw [List.getElem?_replicate, if_pos (by omega)])
        have cw0 : w5.cell? ⟨g5, 0, none⟩ = some (.int .i64 z0) := by rw [HZ0.out]; exact HR5.out.cell 0 (nums_get (by rw [HYL.out]; omega))
        clear hR4 hR5 F4 F5
        go_loopg [11] (N - 1) (fun gg vi wr => ∃ k m, 1 ≤ k ∧ k ≤ N ∧ gg = N - k ∧ vi = .int .i64 (k : Nat) ∧ wr = w5.drewN m)
        case atStart => exact ⟨1, 0, Nat.le_refl _, by omega, by omega, rfl, rfl⟩
        case round =>
          obtain ⟨k, m, hk1, hk, rfl, rfl, rfl⟩ := hrel
          by_cases hlt2 : k < N
          · obtain ⟨j, rfl⟩ : ∃ j, k = j + 1 := ⟨k - 1, by omega⟩
            have hltI : (j : Int) + 1 < N := by omega
            have hltJ : (j : Int) < N := by omega
            obtain ⟨q1, q2⟩ := HLAW.out j (by omega)
            obtain ⟨y, hy⟩ : ∃ y, y = Y.getD j 0 := ⟨_, rfl⟩
            obtain ⟨z, hz⟩ : ∃ z, z = Y.getD (j + 1) 0 := ⟨_, rfl⟩
            rw [← hy, ← hz] at q1
            rw [← hz, ← HZ0.out] at q2
            have cpj := HR4.out.cell (j + 1) (by rw [List.getElem?_replicate, if_pos (by omega)])
            have cwj : w5.cell? ⟨g5, j + 1, none⟩ = some (.int .i64 z) := by rw [hz]; exact HR5.out.cell (j + 1) (nums_get (by rw [HYL.out]; omega))
            have cwi : w5.cell? ⟨g5, j, none⟩ = some (.int .i64 y) := by rw [hy]; exact HR5.out.cell j (nums_get (by rw [HYL.out]; omega))
            have q1b : decide (y < z) = false := decide_eq_false (by omega)
            have q2b : decide (z < z0 - 1) = false := decide_eq_false (by omega)
            clear hy hz
            go_wp2_with (fail)
            go_quiet (fail)
            go_wp2_with (fail)
            go_roundg (N - (j + 1 + 1))
            case measure => omega
            case rel => exact ⟨j + 1 + 1, m + nq, by omega, by omega, rfl, by go_num, by simp⟩
          · obtain rfl : N = k := by omega
            have hnn : ((N : Int) == N) = true := by simp
            go_wp2_with (fail)
            go_ret
            exact ⟨rfl, (HF5.out.trans' (Fr.drewN _ _ _)).fromN.belowB⟩
end Go.Proofs.Ytdgaiacigmcibaa
