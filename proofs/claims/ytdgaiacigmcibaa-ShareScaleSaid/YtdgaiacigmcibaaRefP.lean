/- The reference's parts of weights are the program's; its comparison of two lists of floats, where they are alike. Condition: at most 1000 weights. -/
import Derived.Test.YtdgaiacigmcibaaFltS
import Derived.Test.YtdgaiacigmcibaaParts
import Derived.Test.YtdgaiacigmcibaaCover
import Derived.Laws.Externs
namespace Go.Proofs.Ytdgaiacigmcibaa
open Go.RowKit Go.Sort

theorem rcounts_f (x : Nat) (w : World) :
    Calls Try.prog 24 #[.float .f64 x] w fun e w' => e = .returned (.bool (ctF x)) ∧ w' = w := by
  have hc : ctF x = ((ordF x 0 == some .gt) && !(ordF x 9218868437227405311 == some .gt)) := rfl
  cases h : (ordF x 0 == some .gt) with
  | true =>
    rw [h] at hc
    rw [hc]
    go_enter Try.func24, Try.ntmps24
    go_wp2_with (go_at_call 23; refine (is_inf1 x _).mono ?_; rintro e w1 ⟨rfl, rfl⟩)
    go_ret
    exact ⟨rfl, rfl⟩
  | false =>
    rw [h] at hc
    rw [hc]
    go_enter Try.func24, Try.ntmps24
    go_wp2_with (fail)
    go_ret
    exact ⟨rfl, rfl⟩
theorem wAt_one {l : List Nat} (hw : ∀ z ∈ l, z < 18446744073709551616) {i : Nat} (h : i < l.length) (hc : ctF (l.getD i 0) = true) : wAt l oneF i = l.getD i 0 := by
  have hfin := (ct_iff (by rw [getD_at h]; exact hw _ (List.getElem_mem h))).1 hc
  unfold wAt; rw [if_pos hc, div_one hfin.2]
theorem pRow_row2 (l : List Nat) (N : Nat) : row2 (pAt l) (fun _ => 0) N N = pRow l N := by
  unfold row2 pRow
  apply List.map_congr_left
  intro i hi
  rw [if_pos (List.mem_range.1 hi)]
theorem row2_none (f : Nat → Nat) (N : Nat) : row2 f (fun _ => 0) N 0 = List.replicate N (.float .f64 0) := by
  unfold row2
  simp only [Nat.not_lt_zero, if_false]
  rw [List.map_const', List.length_range]
theorem row2_skip (f : Nat → Nat) (N k : Nat) (h : f k = 0) : row2 f (fun _ => 0) N k = row2 f (fun _ => 0) N (k + 1) := by
  unfold row2
  apply List.map_congr_left
  intro i _
  by_cases hk : i = k
  · subst hk; rw [if_neg (Nat.lt_irrefl _), if_pos (by omega), h]
  · by_cases h1 : i < k
    · rw [if_pos h1, if_pos (by omega)]
    · rw [if_neg h1, if_neg (by omega)]
set_option maxHeartbeats 8000000 in
set_option maxRecDepth 100000 in
theorem rparts_f (a : Option Addr) (l : List Nat) (c : Nat) (w : World) (hl : Fs w a l) (hw : ∀ z ∈ l, z < 18446744073709551616) (h1000 : l.length ≤ 1000) :
    Calls Try.prog 13 #[.slice a l.length c] w fun e w' => ∃ g, e = .returned (.slice (some ⟨g, 0, none⟩) l.length l.length) ∧ w.heap.size ≤ g ∧ Row w' g (pRow l l.length) 23 ∧ Fr Nothing w w' := by
  obtain ⟨i0, hi, hz0, hz1, hz2⟩ : ∃ i0, Try.prog.info? 23 = some i0 ∧ i0.zero = some (.float .f64 0) ∧ i0.size = 1 ∧ i0.bytes = 8 := by
    have hi := Try.infoF
    cases h0 : Try.prog.info? 23 with
    | none => rw [h0] at hi; simp at hi
    | some i0 =>
      rw [h0] at hi
      simp only [Option.map_some, Option.some.injEq, Prod.mk.injEq] at hi
      exact ⟨i0, rfl, hi.1, hi.2.1, hi.2.2⟩
  have Hz1 := Lib.hid hz1
  have Hz0 := Lib.hid hz0
  have Hi := Lib.hid hi
  obtain ⟨N, hN⟩ : ∃ N, N = l.length := ⟨_, rfl⟩
  have HLN := Lib.hid hN.symm
  have HL := Lib.hid hl
  have HW := Lib.hid hw
  have hby : i0.bytes * N ≤ 281474976710656 := by rw [hz2]; omega
  have hml : N ≤ maxLen := by unfold maxLen; omega
  rw [← hN] at h1000 ⊢
  have hN9 : (N : Int) ≤ 1000 := by omega
  have hst := store_f
  obtain ⟨s1, hs1⟩ : ∃ s, s = wSum l oneF N := ⟨_, rfl⟩
  have HS1 := Lib.hid hs1
  obtain ⟨d, hd⟩ : ∃ d, d = dF l := ⟨_, rfl⟩
  obtain ⟨s, hs⟩ : ∃ s, s = wSum l d N := ⟨_, rfl⟩
  obtain ⟨hdo, hd0, hdf⟩ := dF_ok l
  rw [← hd] at hdo hd0 hdf
  have hsn : NN s := by rw [hs]; exact wSum_nn hw hdo hd0 N
  have HSN := Lib.hid hsn
  have HDO := Lib.hid hdo
  have HD0 := Lib.hid hd0
  have HDF := Lib.hid hdf
  have HSP : Hid (∀ i, i < N → ctF (l.getD i 0) = true → 0 < s) := Lib.hid (fun i h1 h2 => by rw [hs, hd, hN]; exact sum_pos hw (by omega) (by omega) h2)
  have HPA : Hid (∀ i, i < N → pAt l i = if ctF (l.getD i 0) = true then divF (divF (l.getD i 0) d) s else 0) := Lib.hid (fun i h => by rw [pAt_ref hw (by omega) (by omega), ← hd, ← hN, ← hs])
  have hd2 : d = if (ordF s1 9218868437227405311 == some .gt) = true then lessF else oneF := by rw [hd]; unfold dF; rw [← hN, ← hs1]
  have HS := Lib.hid hs
  clear hi hz0 hz1 hz2 hN hl hw hd hs hdo hd0 hdf hsn hs1
  obtain ⟨g, hg⟩ : ∃ g, g = w.heap.size := ⟨_, rfl⟩
  have HG := Lib.hid hg
  have key : ∀ (wq : World) (vs : List Nat), True := fun _ _ => trivial
  clear key
  cases hb : (ordF s1 9218868437227405311 == some .gt) with
  | true =>
    have HI : Hid (∀ W, Calls Try.prog 23 #[.float .f64 s1, .int .i64 1] W fun e w' => e = .returned (.bool true) ∧ w' = W) := Lib.hid fun W => by rw [← hb]; exact is_inf1 s1 W
    have hdl : d = lessF := by rw [hd2, hb]; rfl
    have HDL := Lib.hid hdl
    clear hd2 hdl hb
    go_enter Try.func13, Try.ntmps13
    go_wp2_with (at_make; go_must (refine wpList_make_row _ rfl _ _ 22 rfl 23 i0 (.float .f64 0) Try.underlying22 Hi.out Hz0.out Hz1.out rfl .i64 .i64 _ _ N rfl rfl rfl rfl hby hml ?_))
    intro w1 hr1 hf1 hlt1
    rw [← hg] at hr1 ⊢
    have HR1 : Hid (Row w1 g (row2 (pAt l) (fun _ => 0) N 0) 23) := Lib.hid (by rw [row2_none]; exact hr1)
    have HF1 := Lib.hid hf1
    clear hr1 hf1 hlt1 hg
    go_wp2_with (fail)
    go_loopg [4, 5] N (fun gg vs vi wr => ∃ k, k ≤ N ∧ gg = N - k ∧ vi = .int .i64 (k : Nat) ∧ vs = .float .f64 (wSum l oneF k) ∧ wr = w1)
    case atStart => exact ⟨0, Nat.zero_le _, rfl, rfl, rfl, rfl⟩
    case round =>
      obtain ⟨k, hk, rfl, rfl, rfl, rfl⟩ := hrel
      by_cases hlt : k < N
      · have hltI : (k : Int) < N := by omega
        have hkl : k < l.length := by rw [HLN.out]; exact hlt
        obtain ⟨b, o, rfl, c0⟩ := HL.out.at_ hkl
        have c1 := cell_fr c0 HF1.out (fun h => h)
        obtain ⟨x, hx⟩ : ∃ x, x = l.getD k 0 := ⟨_, rfl⟩
        have hx64 : x < 18446744073709551616 := by rw [hx, getD_at hkl]; exact HW.out _ (List.getElem_mem _)
        rw [← getD_at hkl, ← hx] at c1
        have HC := Lib.hid (rcounts_f x)
        obtain ⟨u, hu⟩ : ∃ u, u = wSum l oneF k := ⟨_, rfl⟩
        have hun : NN u := by rw [hu]; exact wSum_nn HW.out (by decide) (by decide) k
        have hss : wSum l oneF (k + 1) = if ctF x = true then addF u (wAt l oneF k) else u := by rw [wSum, hx, hu]
        rw [← hu]
        clear c0
        cases hct : ctF x with
        | true =>
          rw [hct] at HC
          have hfin := (ct_iff hx64).1 hct
          have hwa : wAt l oneF k = x := by rw [wAt_one HW.out hkl (by rw [← hx]; exact hct), hx]
          obtain ⟨u2, hu2⟩ : ∃ u2, u2 = addF u x := ⟨_, rfl⟩
          have hadd : FloatKind.f64.format.add u x = some u2 := by rw [hu2]; exact (add_nn hun (Nat.le_of_lt hfin.2)).1
          have hqa : ∀ w, (binOp .add 23 (.float .f64 u) (.float .f64 x)).run Try.prog w = .ok (.float .f64 u2) w := fun w => run_float_arith w .add 23 .f64 u x u2 hadd
          have HS2 : Hid (wSum l oneF (k + 1) = u2) := Lib.hid (by rw [hss, if_pos hct, hwa, hu2])
          clear hx hu hss hct hwa hfin hu2 hun hx64 hadd
          go_wp2_with (go_at_call 24; refine (HC.out _).mono ?_; rintro e w2 ⟨rfl, rfl⟩)
          go_roundg (N - (k + 1))
          case measure => omega
          case rel => exact ⟨k + 1, by omega, rfl, by go_num, by rw [HS2.out], rfl⟩
        | false =>
          rw [hct] at HC
          have HS2 : Hid (wSum l oneF (k + 1) = u) := Lib.hid (by rw [hss, if_neg (by rw [hct]; exact Bool.false_ne_true)])
          clear hx hu hss hct hun hx64
          go_wp2_with (go_at_call 24; refine (HC.out _).mono ?_; rintro e w2 ⟨rfl, rfl⟩)
          go_roundg (N - (k + 1))
          case measure => omega
          case rel => exact ⟨k + 1, by omega, rfl, by go_num, by rw [HS2.out], rfl⟩
      · obtain rfl : N = k := by omega
        rw [← HS1.out]
        go_wp2_with (go_at_call 23; refine (HI.out _).mono ?_; rintro _ w2 ⟨rfl, rfl⟩)
        go_loopg [4, 7] N (fun gg vs vi wr2 => ∃ k, k ≤ N ∧ gg = N - k ∧ vi = .int .i64 (k : Nat) ∧ vs = .float .f64 (wSum l lessF k) ∧ wr2 = w2)
        case atStart => exact ⟨0, Nat.zero_le _, rfl, rfl, rfl, rfl⟩
        case round =>
          obtain ⟨k, hk, rfl, rfl, rfl, rfl⟩ := hrel
          by_cases hlt : k < N
          · have hltI : (k : Int) < N := by omega
            have hkl : k < l.length := by rw [HLN.out]; exact hlt
            obtain ⟨b, o, rfl, c0⟩ := HL.out.at_ hkl
            have c1 := cell_fr c0 HF1.out (fun h => h)
            obtain ⟨x, hx⟩ : ∃ x, x = l.getD k 0 := ⟨_, rfl⟩
            have hx64 : x < 18446744073709551616 := by rw [hx, getD_at hkl]; exact HW.out _ (List.getElem_mem _)
            rw [← getD_at hkl, ← hx] at c1
            have HC := Lib.hid (rcounts_f x)
            obtain ⟨u, hu⟩ : ∃ u, u = wSum l lessF k := ⟨_, rfl⟩
            have hun : NN u := by rw [hu]; exact wSum_nn HW.out (by decide) (by decide) k
            have hss : wSum l lessF (k + 1) = if ctF x = true then addF u (wAt l lessF k) else u := by rw [wSum, hx, hu]
            rw [← hu]
            clear c0
            cases hct : ctF x with
            | true =>
              rw [hct] at HC
              have hfin := (ct_iff hx64).1 hct
              have hwa : wAt l lessF k = divF x lessF := by unfold wAt; rw [← hx, if_pos hct]
              obtain ⟨v, hv⟩ : ∃ v, v = divF x lessF := ⟨_, rfl⟩
              obtain ⟨e1, e2⟩ := div_nn hfin.2 (show NN lessF by decide) (by decide)
              rw [← hv] at e1 e2 hwa
              have hq1 : ∀ w, (binOp .quo 23 (.float .f64 x) (.float .f64 4877398396442247168)).run Try.prog w = .ok (.float .f64 v) w := fun w => run_float_arith w .quo 23 .f64 x 4877398396442247168 v e1
              obtain ⟨u2, hu2⟩ : ∃ u2, u2 = addF u v := ⟨_, rfl⟩
              have hadd : FloatKind.f64.format.add u v = some u2 := by rw [hu2]; exact (add_nn hun e2).1
              have hqa : ∀ w, (binOp .add 23 (.float .f64 u) (.float .f64 v)).run Try.prog w = .ok (.float .f64 u2) w := fun w => run_float_arith w .add 23 .f64 u v u2 hadd
              have HS2 : Hid (wSum l lessF (k + 1) = u2) := Lib.hid (by rw [hss, if_pos hct, hwa, hu2])
              clear hx hu hss hct hwa hfin hu2 hun hx64 hadd hv e1 e2
              go_wp2_with (go_at_call 24; refine (HC.out _).mono ?_; rintro e w2 ⟨rfl, rfl⟩)
              go_roundg (N - (k + 1))
              case measure => omega
              case rel => exact ⟨k + 1, by omega, rfl, by go_num, by rw [HS2.out], rfl⟩
            | false =>
              rw [hct] at HC
              have HS2 : Hid (wSum l lessF (k + 1) = u) := Lib.hid (by rw [hss, if_neg (by rw [hct]; exact Bool.false_ne_true)])
              clear hx hu hss hct hun hx64
              go_wp2_with (go_at_call 24; refine (HC.out _).mono ?_; rintro e w2 ⟨rfl, rfl⟩)
              go_roundg (N - (k + 1))
              case measure => omega
              case rel => exact ⟨k + 1, by omega, rfl, by go_num, by rw [HS2.out], rfl⟩
          · obtain rfl : N = k := by omega
            have hse : wSum l lessF N = s := by rw [HS.out, HDL.out]
            rw [hse]
            clear hse
            go_wp2_with (fail)
            go_loopg [8] N (fun gg vi wr => ∃ k, k ≤ N ∧ gg = N - k ∧ vi = .int .i64 (k : Nat) ∧ Hid (Row wr g (row2 (pAt l) (fun _ => 0) N k) 23) ∧ Hid (Fr Nothing w wr))
            case atStart => exact ⟨0, Nat.zero_le _, rfl, rfl, HR1, HF1⟩
            case round =>
              clear HR1 HF1
              obtain ⟨k, hk, rfl, rfl, HR, HF⟩ := hrel
              by_cases hlt : k < N
              · have hltI : (k : Int) < N := by omega
                have hkl : k < l.length := by rw [HLN.out]; exact hlt
                obtain ⟨b, o, rfl, c0⟩ := HL.out.at_ hkl
                have c1 := cell_fr c0 HF.out (fun h => h)
                obtain ⟨x, hx⟩ : ∃ x, x = l.getD k 0 := ⟨_, rfl⟩
                have hx64 : x < 18446744073709551616 := by rw [hx, getD_at hkl]; exact HW.out _ (List.getElem_mem _)
                rw [← getD_at hkl, ← hx] at c1
                have HC := Lib.hid (rcounts_f x)
                have hpa := HPA.out k hlt
                have hsp := HSP.out k hlt
                rw [← hx] at hpa hsp
                clear c0
                cases hct : ctF x with
                | true =>
                  rw [hct] at HC
                  rw [if_pos hct] at hpa
                  have hsp0 := hsp hct
                  have hfin := (ct_iff hx64).1 hct
                  obtain ⟨v, hv⟩ : ∃ v, v = divF x d := ⟨_, rfl⟩
                  have hvf : Fin v := by rw [hv]; exact HDF.out x hfin.2
                  have e1 := (div_nn hfin.2 HDO.out HD0.out).1
                  rw [← hv, HDL.out] at e1
                  rw [← hv] at hpa
                  have hq1 : ∀ w, (binOp .quo 23 (.float .f64 x) (.float .f64 4877398396442247168)).run Try.prog w = .ok (.float .f64 v) w := fun w => run_float_arith w .quo 23 .f64 x 4877398396442247168 v e1
                  obtain ⟨r, hr⟩ : ∃ r, r = divF v s := ⟨_, rfl⟩
                  have e2 := (div_nn hvf HSN.out hsp0).1
                  rw [← hr] at e2 hpa
                  have hq2 : ∀ w, (binOp .quo 23 (.float .f64 v) (.float .f64 s)).run Try.prog w = .ok (.float .f64 r) w := fun w => run_float_arith w .quo 23 .f64 v s r e2
                  have p0 := HR.out.cell k (row2_get _ _ N k k hlt)
                  rw [if_neg (Nat.lt_irrefl _)] at p0
                  have pf := HR.out.free k
                  have HR2 : Hid (Row (wr.setCell ⟨g, k, none⟩ (.float .f64 r)) g (row2 (pAt l) (fun _ => 0) N (k + 1)) 23) := Lib.hid (by
                    have := HR.out.set k (.float .f64 (pAt l k))
                    rw [row2_set _ _ N k hlt, hpa] at this; exact this)
                  have HF2 : Hid (Fr Nothing w (wr.setCell ⟨g, k, none⟩ (.float .f64 r))) := Lib.hid (HF.out.trans (Fr.setCell (S := fun q => q = g) (p := ⟨g, k, none⟩) rfl _) (fun q hq e => by have := HG.out; omega))
                  clear hx hct hpa hsp hsp0 hfin hv hvf e1 hr e2 hx64 HR HF
                  go_wp2_with (go_at_call 24; refine (HC.out _).mono ?_; rintro e w2 ⟨rfl, rfl⟩)
                  go_roundg (N - (k + 1))
                  case measure => omega
                  case rel => exact ⟨k + 1, by omega, rfl, by go_num, HR2, HF2⟩
                | false =>
                  rw [hct] at HC
                  rw [if_neg (by rw [hct]; exact Bool.false_ne_true)] at hpa
                  have HR2 : Hid (Row wr g (row2 (pAt l) (fun _ => 0) N (k + 1)) 23) := Lib.hid (by rw [← row2_skip _ _ _ hpa]; exact HR.out)
                  clear hx hct hpa hsp hx64 HR
                  go_wp2_with (go_at_call 24; refine (HC.out _).mono ?_; rintro e w2 ⟨rfl, rfl⟩)
                  go_roundg (N - (k + 1))
                  case measure => omega
                  case rel => exact ⟨k + 1, by omega, rfl, by go_num, HR2, HF⟩
              · obtain rfl : N = k := by omega
                go_wp2_with (fail)
                go_ret
                exact ⟨g, rfl, by have := HG.out; omega, by rw [← pRow_row2]; exact HR.out, HF.out⟩
  | false =>
    have HI : Hid (∀ W, Calls Try.prog 23 #[.float .f64 s1, .int .i64 1] W fun e w' => e = .returned (.bool false) ∧ w' = W) := Lib.hid fun W => by rw [← hb]; exact is_inf1 s1 W
    have hdl : d = oneF := by rw [hd2, hb]; rfl
    have HDL := Lib.hid hdl
    clear hd2 hdl hb
    go_enter Try.func13, Try.ntmps13
    go_wp2_with (at_make; go_must (refine wpList_make_row _ rfl _ _ 22 rfl 23 i0 (.float .f64 0) Try.underlying22 Hi.out Hz0.out Hz1.out rfl .i64 .i64 _ _ N rfl rfl rfl rfl hby hml ?_))
    intro w1 hr1 hf1 hlt1
    rw [← hg] at hr1 ⊢
    have HR1 : Hid (Row w1 g (row2 (pAt l) (fun _ => 0) N 0) 23) := Lib.hid (by rw [row2_none]; exact hr1)
    have HF1 := Lib.hid hf1
    clear hr1 hf1 hlt1 hg
    go_wp2_with (fail)
    go_loopg [4, 5] N (fun gg vs vi wr => ∃ k, k ≤ N ∧ gg = N - k ∧ vi = .int .i64 (k : Nat) ∧ vs = .float .f64 (wSum l oneF k) ∧ wr = w1)
    case atStart => exact ⟨0, Nat.zero_le _, rfl, rfl, rfl, rfl⟩
    case round =>
      obtain ⟨k, hk, rfl, rfl, rfl, rfl⟩ := hrel
      by_cases hlt : k < N
      · have hltI : (k : Int) < N := by omega
        have hkl : k < l.length := by rw [HLN.out]; exact hlt
        obtain ⟨b, o, rfl, c0⟩ := HL.out.at_ hkl
        have c1 := cell_fr c0 HF1.out (fun h => h)
        obtain ⟨x, hx⟩ : ∃ x, x = l.getD k 0 := ⟨_, rfl⟩
        have hx64 : x < 18446744073709551616 := by rw [hx, getD_at hkl]; exact HW.out _ (List.getElem_mem _)
        rw [← getD_at hkl, ← hx] at c1
        have HC := Lib.hid (rcounts_f x)
        obtain ⟨u, hu⟩ : ∃ u, u = wSum l oneF k := ⟨_, rfl⟩
        have hun : NN u := by rw [hu]; exact wSum_nn HW.out (by decide) (by decide) k
        have hss : wSum l oneF (k + 1) = if ctF x = true then addF u (wAt l oneF k) else u := by rw [wSum, hx, hu]
        rw [← hu]
        clear c0
        cases hct : ctF x with
        | true =>
          rw [hct] at HC
          have hfin := (ct_iff hx64).1 hct
          have hwa : wAt l oneF k = x := by rw [wAt_one HW.out hkl (by rw [← hx]; exact hct), hx]
          obtain ⟨u2, hu2⟩ : ∃ u2, u2 = addF u x := ⟨_, rfl⟩
          have hadd : FloatKind.f64.format.add u x = some u2 := by rw [hu2]; exact (add_nn hun (Nat.le_of_lt hfin.2)).1
          have hqa : ∀ w, (binOp .add 23 (.float .f64 u) (.float .f64 x)).run Try.prog w = .ok (.float .f64 u2) w := fun w => run_float_arith w .add 23 .f64 u x u2 hadd
          have HS2 : Hid (wSum l oneF (k + 1) = u2) := Lib.hid (by rw [hss, if_pos hct, hwa, hu2])
          clear hx hu hss hct hwa hfin hu2 hun hx64 hadd
          go_wp2_with (go_at_call 24; refine (HC.out _).mono ?_; rintro e w2 ⟨rfl, rfl⟩)
          go_roundg (N - (k + 1))
          case measure => omega
          case rel => exact ⟨k + 1, by omega, rfl, by go_num, by rw [HS2.out], rfl⟩
        | false =>
          rw [hct] at HC
          have HS2 : Hid (wSum l oneF (k + 1) = u) := Lib.hid (by rw [hss, if_neg (by rw [hct]; exact Bool.false_ne_true)])
          clear hx hu hss hct hun hx64
          go_wp2_with (go_at_call 24; refine (HC.out _).mono ?_; rintro e w2 ⟨rfl, rfl⟩)
          go_roundg (N - (k + 1))
          case measure => omega
          case rel => exact ⟨k + 1, by omega, rfl, by go_num, by rw [HS2.out], rfl⟩
      · obtain rfl : N = k := by omega
        rw [← HS1.out]
        go_wp2_with (go_at_call 23; refine (HI.out _).mono ?_; rintro _ w2 ⟨rfl, rfl⟩)
        have hse : s1 = s := by rw [HS.out, HDL.out]; exact HS1.out
        rw [hse]
        clear hse
        go_loopg [8] N (fun gg vi wr => ∃ k, k ≤ N ∧ gg = N - k ∧ vi = .int .i64 (k : Nat) ∧ Hid (Row wr g (row2 (pAt l) (fun _ => 0) N k) 23) ∧ Hid (Fr Nothing w wr))
        case atStart => exact ⟨0, Nat.zero_le _, rfl, rfl, HR1, HF1⟩
        case round =>
          clear HR1 HF1
          obtain ⟨k, hk, rfl, rfl, HR, HF⟩ := hrel
          by_cases hlt : k < N
          · have hltI : (k : Int) < N := by omega
            have hkl : k < l.length := by rw [HLN.out]; exact hlt
            obtain ⟨b, o, rfl, c0⟩ := HL.out.at_ hkl
            have c1 := cell_fr c0 HF.out (fun h => h)
            obtain ⟨x, hx⟩ : ∃ x, x = l.getD k 0 := ⟨_, rfl⟩
            have hx64 : x < 18446744073709551616 := by rw [hx, getD_at hkl]; exact HW.out _ (List.getElem_mem _)
            rw [← getD_at hkl, ← hx] at c1
            have HC := Lib.hid (rcounts_f x)
            have hpa := HPA.out k hlt
            have hsp := HSP.out k hlt
            rw [← hx] at hpa hsp
            clear c0
            cases hct : ctF x with
            | true =>
              rw [hct] at HC
              rw [if_pos hct] at hpa
              have hsp0 := hsp hct
              have hfin := (ct_iff hx64).1 hct
              obtain ⟨v, hv⟩ : ∃ v, v = divF x d := ⟨_, rfl⟩
              have hvf : Fin v := by rw [hv]; exact HDF.out x hfin.2
              have e1 := (div_nn hfin.2 HDO.out HD0.out).1
              rw [← hv, HDL.out] at e1
              rw [← hv] at hpa
              have hq1 : ∀ w, (binOp .quo 23 (.float .f64 x) (.float .f64 4607182418800017408)).run Try.prog w = .ok (.float .f64 v) w := fun w => run_float_arith w .quo 23 .f64 x 4607182418800017408 v e1
              obtain ⟨r, hr⟩ : ∃ r, r = divF v s := ⟨_, rfl⟩
              have e2 := (div_nn hvf HSN.out hsp0).1
              rw [← hr] at e2 hpa
              have hq2 : ∀ w, (binOp .quo 23 (.float .f64 v) (.float .f64 s)).run Try.prog w = .ok (.float .f64 r) w := fun w => run_float_arith w .quo 23 .f64 v s r e2
              have p0 := HR.out.cell k (row2_get _ _ N k k hlt)
              rw [if_neg (Nat.lt_irrefl _)] at p0
              have pf := HR.out.free k
              have HR2 : Hid (Row (wr.setCell ⟨g, k, none⟩ (.float .f64 r)) g (row2 (pAt l) (fun _ => 0) N (k + 1)) 23) := Lib.hid (by
                have := HR.out.set k (.float .f64 (pAt l k))
                rw [row2_set _ _ N k hlt, hpa] at this; exact this)
              have HF2 : Hid (Fr Nothing w (wr.setCell ⟨g, k, none⟩ (.float .f64 r))) := Lib.hid (HF.out.trans (Fr.setCell (S := fun q => q = g) (p := ⟨g, k, none⟩) rfl _) (fun q hq e => by have := HG.out; omega))
              clear hx hct hpa hsp hsp0 hfin hv hvf e1 hr e2 hx64 HR HF
              go_wp2_with (go_at_call 24; refine (HC.out _).mono ?_; rintro e w2 ⟨rfl, rfl⟩)
              go_roundg (N - (k + 1))
              case measure => omega
              case rel => exact ⟨k + 1, by omega, rfl, by go_num, HR2, HF2⟩
            | false =>
              rw [hct] at HC
              rw [if_neg (by rw [hct]; exact Bool.false_ne_true)] at hpa
              have HR2 : Hid (Row wr g (row2 (pAt l) (fun _ => 0) N (k + 1)) 23) := Lib.hid (by rw [← row2_skip _ _ _ hpa]; exact HR.out)
              clear hx hct hpa hsp hx64 HR
              go_wp2_with (go_at_call 24; refine (HC.out _).mono ?_; rintro e w2 ⟨rfl, rfl⟩)
              go_roundg (N - (k + 1))
              case measure => omega
              case rel => exact ⟨k + 1, by omega, rfl, by go_num, HR2, HF⟩
          · obtain rfl : N = k := by omega
            go_wp2_with (fail)
            go_ret
            exact ⟨g, rfl, by have := HG.out; omega, by rw [← pRow_row2]; exact HR.out, HF.out⟩
theorem run_bits (x : Nat) (w : World) : (callFunc 21 #[.float .f64 x]).run Try.prog w = .ok (.value (.int .u64 (x : Nat))) w := by
  rw [run_callFunc_extern Try.func21 (by kernel_rfl) (by kernel_rfl) (by kernel_rfl) (e := Extern.MathFloatBits.float64bits) (by kernel_rfl)]
  rfl
set_option maxHeartbeats 1000000 in
theorem rsame_f (a b : Option Addr) (X : List Nat) (ca cb : Nat) (w : World) (ha : Fs w a X) (hb : Fs w b X) (hl : (X.length : Int) ≤ 9223372036854775807) :
    Calls Try.prog 11 #[.slice a X.length ca, .slice b X.length cb] w fun e w' => e = .returned (.bool true) ∧ ∃ m, w' = w.drewN m := by
  have Ha := Lib.hid ha
  have Hb := Lib.hid hb
  obtain ⟨N, hN⟩ : ∃ N, N = X.length := ⟨_, rfl⟩
  have HN := Lib.hid hN
  rw [← hN] at hl ⊢
  have hbits := run_bits
  clear ha hb hN
  go_enter Try.func11, Try.ntmps11
  go_wp2_with (fail)
  go_loopg [5] N (fun gg i wr => ∃ k : Nat, k ≤ N ∧ gg = N - k ∧ i = .int .i64 k ∧ ∃ m, wr = w.drewN m)
  case atStart => exact ⟨0, Nat.zero_le _, rfl, rfl, 0, rfl⟩
  case round =>
    obtain ⟨k, hk, rfl, rfl, m, rfl⟩ := hrel
    by_cases hlt : k < N
    · have hlI : (k : Int) < N := by omega
      have hkX : k < X.length := by have := HN.out; omega
      obtain ⟨b1, o1, rfl, h1⟩ := Fs.at_ Ha.out hkX
      obtain ⟨b2, o2, rfl, h2⟩ := Fs.at_ Hb.out hkX
      obtain ⟨x, hx⟩ : ∃ x, x = X[k] := ⟨_, rfl⟩
      rw [← hx] at h1 h2
      have hne : ((x : Int) != (x : Int)) = false := by simp
      clear hx
      go_wp2_with (fail)
      go_quiet (fail)
      go_wp2_with (fail)
      go_roundg (N - (k + 1))
      case measure => omega
      case rel => exact ⟨k + 1, by omega, rfl, by go_num, m + nq, by simp⟩
    · go_wp2_with (fail)
      go_ret
      exact ⟨rfl, m, rfl⟩
end Go.Proofs.Ytdgaiacigmcibaa
