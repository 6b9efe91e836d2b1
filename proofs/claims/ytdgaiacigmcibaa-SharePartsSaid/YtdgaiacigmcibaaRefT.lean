/- The reference's places of the greatest are the program's; how many it takes, too. Condition: at most 60 weights. -/
import Derived.Test.YtdgaiacigmcibaaRefP
import Derived.Test.YtdgaiacigmcibaaTopP
import Derived.Test.YtdgaiacigmcibaaShArgs
import Derived.Deep.RegionLaw
import Derived.Deep.CutBlock
import Derived.Deep.CutRange
import Derived.Lib.MinMax
namespace Go.Proofs.Ytdgaiacigmcibaa
open Go.RowKit Go.Sort

/-- The greater first, of as many the one ahead. -/
def gtK (l : List Nat) (x y : Int) : Prop := keyF l y < keyF l x ∨ (keyF l y = keyF l x ∧ x < y)
/-- The places among the first j that count, the greatest first. -/
def Best (l : List Nat) (j : Nat) (O : List Int) : Prop := O.Perm (ats l j) ∧ O.Pairwise (gtK l)
theorem best_top {l : List Nat} (h60 : l.length ≤ 60) {O : List Int} (h : Best l l.length O) : O = topL l := by
  refine List.Perm.eq_of_pairwise (le := gtK l) (fun a b _ _ h1 h2 => ?_) h.2 ?_ (h.1.trans (topL_perm l).symm)
  · unfold gtK at h1 h2; omega
  · rw [List.pairwise_iff_getElem]
    intro i j hi hj hij
    have := topL_sorted l h60 i j hij hj
    exact this
theorem ats_lt {l : List Nat} {j : Nat} {x : Int} (h : x ∈ ats l j) : x < j := by
  unfold ats at h
  obtain ⟨i, hi, rfl⟩ := List.mem_map.1 h
  have := List.mem_range.1 (List.mem_filter.1 hi).1
  omega
theorem best_skip {l : List Nat} {j : Nat} {O : List Int} (h : Best l j O) (hc : ¬ ctF (l.getD j 0) = true) : Best l (j + 1) O := by
  refine ⟨?_, h.2⟩
  rw [ats_succ, if_neg hc]; exact h.1
theorem best_step {l : List Nat} {j : Nat} {O : List Int} (h : Best l j O) (hc : ctF (l.getD j 0) = true) {k : Nat} (hk : k ≤ O.length) (h1 : ∀ x ∈ O.drop k, keyF l x < keyF l (j : Int)) (h2 : k = 0 ∨ ∃ hk : k - 1 < O.length, ¬ keyF l O[k - 1] < keyF l (j : Int)) :
    Best l (j + 1) (O.take k ++ [(j : Int)] ++ O.drop k) := by
  have hlt : ∀ x ∈ O, x < (j : Int) := fun x hx => ats_lt (h.1.mem_iff.1 hx)
  have hp := h.2
  rw [← List.take_append_drop k O, List.pairwise_append] at hp
  obtain ⟨p1, p2, p3⟩ := hp
  have hge : ∀ x ∈ O.take k, ¬ keyF l x < keyF l (j : Int) := by
    rcases h2 with h2 | ⟨hk1, h2⟩
    · rw [h2]; intro x hx; simp at hx
    · intro x hx
      obtain ⟨i, hi, rfl⟩ := List.mem_iff_getElem.1 hx
      rw [List.length_take] at hi
      rw [List.getElem_take]
      by_cases he : i = k - 1
      · subst he; exact h2
      · have h3 := h.2
        rw [List.pairwise_iff_getElem] at h3
        have := h3 i (k - 1) (by omega) hk1 (by omega)
        unfold gtK at this
        omega
  refine ⟨?_, ?_⟩
  · rw [ats_succ, if_pos hc, List.append_assoc]
    have e1 : (O.take k ++ ([(j : Int)] ++ O.drop k)).Perm ((j : Int) :: (O.take k ++ O.drop k)) := List.perm_middle
    rw [List.take_append_drop] at e1
    refine e1.trans ?_
    refine (List.Perm.cons _ h.1).trans ?_
    exact (List.perm_append_comm (l₁ := [(j : Int)]) (l₂ := ats l j))
  · rw [List.append_assoc, List.pairwise_append]
    refine ⟨p1, ?_, ?_⟩
    · rw [List.singleton_append, List.pairwise_cons]
      refine ⟨fun y hy => .inl (h1 y hy), p2⟩
    · intro x hx y hy
      rw [List.singleton_append, List.mem_cons] at hy
      rcases hy with rfl | hy
      · have g1 := hge x hx
        have g2 := hlt x (List.mem_of_mem_take hx)
        unfold gtK; omega
      · exact p3 x hx y hy
theorem grow_step {w w1 w2 : World} {v v8 : Value} (F : Fr Nothing w w1) (N : ∀ k, InBlock v k → w.heap.size ≤ k) (f : Fr (InBlock v) w1 w2) (n : NewOr w1 v v8) : Fr Nothing w w2 ∧ ∀ k, InBlock v8 k → w.heap.size ≤ k :=
  ⟨F.trans f (fun k hk hb => by have := N k hb; omega), fun k hk => (n k hk).elim (N k) (fun h => Nat.le_trans F.size h)⟩
theorem ints_rest {w : World} {L : List Int} {b o c n : Nat} (h : Sl w (some ⟨b, o, none⟩) (L.map (Value.int .i64))) (hl : L.length ≤ c) : Sl w (if c = n then some ⟨b, o, none⟩ else some ⟨b, o + n * 1, none⟩) ((L.drop n).map (Value.int .i64)) := by
  by_cases hc : c = n
  · rw [if_pos hc]
    have : L.drop n = [] := List.drop_eq_nil_of_le (by omega)
    rw [this]; exact Sl.nil _ _
  · rw [if_neg hc, Nat.mul_one, List.map_drop]
    exact h.drop n
theorem one_ints (L : List Int) : ∀ u ∈ L.map (Value.int .i64), u.oneCell' = true := by
  intro u hu
  obtain ⟨x, _, rfl⟩ := List.mem_map.1 hu
  rfl
set_option maxHeartbeats 8000000 in
set_option maxRecDepth 100000 in
theorem rtop_f (a : Option Addr) (l : List Nat) (c : Nat) (n : Int) (w : World) (hl : Fs w a l) (hw : ∀ z ∈ l, z < 18446744073709551616) (h60 : l.length ≤ 60) :
    Calls Try.prog 16 #[.slice a l.length c, .int .i64 n] w fun e w' => ∃ (a' : Option Addr) (c' : Nat), e = .returned (.slice a' ((topL l).take (min (max n 0) (topL l).length).toNat).length c') ∧ Sl w' a' (((topL l).take (min (max n 0) (topL l).length).toNat).map (Value.int .i64)) ∧ Fr Nothing w w' := by
  obtain ⟨i0, hi, hz0, hz1, hz2⟩ : ∃ i0, Try.prog.info? 3 = some i0 ∧ i0.zero = some (.int .i64 0) ∧ i0.size = 1 ∧ i0.bytes = 8 := by
    have hi := Try.infoInt
    cases h0 : Try.prog.info? 3 with
    | none => rw [h0] at hi; simp at hi
    | some i0 =>
      rw [h0] at hi
      simp only [Option.map_some, Option.some.injEq, Prod.mk.injEq] at hi
      exact ⟨i0, rfl, hi.1, hi.2.1, hi.2.2⟩
  have Hi := Lib.hid hi
  have Hz0 := Lib.hid hz0
  have Hz1 := Lib.hid hz1
  have Hz2 := Lib.hid hz2
  obtain ⟨N, hN⟩ : ∃ N, N = l.length := ⟨_, rfl⟩
  have HLN := Lib.hid hN.symm
  have HL := Lib.hid hl
  have HW := Lib.hid hw
  rw [← hN] at h60 ⊢
  have hN9 : (N : Int) ≤ 60 := by omega
  obtain ⟨T, hT⟩ : ∃ T, T = topL l := ⟨_, rfl⟩
  have HT := Lib.hid hT
  obtain ⟨K, hK⟩ : ∃ K, K = (min (max n 0) (T.length : Int)).toNat := ⟨_, rfl⟩
  have hKI : min (max n 0) (T.length : Int) = K := by omega
  have hKM : K ≤ T.length := by omega
  rw [← hT, ← hK]
  obtain ⟨M, hM⟩ : ∃ M, M = T.length := ⟨_, rfl⟩
  rw [← hM] at hKI hKM
  have HM := Lib.hid hM.symm
  clear hi hz0 hz1 hz2 hN hl hw hT hK hM
  go_enter Try.func16, Try.ntmps16
  go_wp2_with (fail)
  go_loopg [5, 6] N (fun gg va vi wr => ∃ (j : Nat) (O : List Int), j ≤ N ∧ gg = N - j ∧ vi = .int .i64 (j : Nat) ∧ Hid (Best l j O) ∧ Hid (Owns wr 3 1 va O.length (O.map (Value.int .i64))) ∧ Hid ((∀ k, InBlock va k → w.heap.size ≤ k) ∧ Fr Nothing w wr))
  case atStart => exact ⟨0, [], Nat.zero_le _, rfl, rfl, Lib.hid ⟨List.Perm.refl _, List.Pairwise.nil⟩, Lib.hid (Owns.nil _ _ _), Lib.hid ⟨fun k hk => by simp [InBlock, Value.ownBlock] at hk, Fr.refl _ _⟩⟩
  case round =>
    obtain ⟨wx, rfl⟩ : ∃ wx, wx = wr := ⟨_, rfl⟩
    obtain ⟨j, O, hj, rfl, rfl, HBE, HO, HNF⟩ := hrel
    obtain ⟨a5, c5, rfl, hOc, hc5⟩ := HO.out.shape
    have hON : O.length ≤ 60 := by
      have h1 := HBE.out.1.length_eq
      have h2 := ats_len l j
      omega
    obtain ⟨q, hq⟩ : ∃ q, q = O.length := ⟨_, rfl⟩
    rw [← hq] at hOc hON ⊢
    have HQ := Lib.hid hq.symm
    have HO2 : Hid (Owns wx 3 1 (.slice a5 q c5) O.length (O.map (Value.int .i64))) := Lib.hid (by rw [hq]; exact HO.out)
    have HNF2 : Hid ((∀ k, InBlock (.slice a5 q c5) k → w.heap.size ≤ k) ∧ Fr Nothing w wx) := Lib.hid (by rw [hq]; exact HNF.out)
    have hq60 : (q : Int) ≤ 60 := by omega
    have hqc : (q : Int) ≤ c5 := by omega
    have hc59 : (c5 : Int) ≤ 9223372036854775807 := by unfold maxLen at hc5; omega
    clear hq
    by_cases hlt : j < N
    · have hltI : (j : Int) < N := by omega
      have hjl : j < l.length := by rw [HLN.out]; exact hlt
      obtain ⟨b, o, rfl, c0⟩ := HL.out.at_ hjl
      have c1 := cell_fr c0 HNF.out.2 (fun h => h)
      obtain ⟨x, hx⟩ : ∃ x, x = l.getD j 0 := ⟨_, rfl⟩
      have hx64 : x < 18446744073709551616 := by rw [hx, getD_at hjl]; exact HW.out _ (List.getElem_mem _)
      rw [← getD_at hjl, ← hx] at c1
      have HC := Lib.hid (rcounts_f x)
      have HX := Lib.hid hx
      clear c0
      cases hct : ctF x with
      | false =>
        rw [hct] at HC
        have HB2 : Hid (Best l (j + 1) O) := Lib.hid (best_skip HBE.out (by rw [← hx, hct]; exact Bool.false_ne_true))
        clear hct hx hx64
        go_wp2_with (go_at_call 24; refine (HC.out _).mono ?_; rintro e w2 ⟨rfl, h2⟩; obtain rfl := h2.symm)
        go_roundg (N - (j + 1))
        case measure => omega
        case rel => exact ⟨j + 1, O, by omega, rfl, by go_num, HB2, HO2, HNF2⟩
      | true =>
        rw [hct] at HC
        have HFX := Lib.hid ((ct_iff hx64).1 hct).2
        have HCT : Hid (ctF (l.getD j 0) = true) := Lib.hid (by rw [← hx]; exact hct)
        clear hct hx hx64
        go_wp2_with (go_at_call 24; refine (HC.out _).mono ?_; rintro e w2 ⟨rfl, h2⟩; obtain rfl := h2.symm)
        go_loopg [7] q (fun gg vk wr => ∃ (k m : Nat), k ≤ q ∧ k = gg ∧ vk = .int .i64 (k : Nat) ∧ wr = wx.drewN m ∧ Hid (∀ y ∈ O.drop k, keyF l y < keyF l (j : Int)))
        case atStart => exact ⟨q, 0, Nat.le_refl _, rfl, rfl, rfl, Lib.hid (fun y hy => by rw [List.drop_eq_nil_of_le (by have := HQ.out; omega)] at hy; simp at hy)⟩
        case round =>
          obtain ⟨k, m, hk, rfl, rfl, rfl, HA⟩ := hrel
          obtain ⟨B, hB⟩ : ∃ B : Bool, B = (decide (0 < k) && decide (keyF l (O.getD (k - 1) 0) < keyF l (j : Int))) := ⟨_, rfl⟩
          have HB := Lib.hid hB
          clear hB
          go_upto_region 7 with (fail)
          go_cut [38] from 22 to 40 (fun s38 wz => s38 = .bool B ∧ ∃ m2, wz = wx.drewN m2)
          case first =>
            cases k with
            | zero =>
              obtain rfl : B = false := by rw [HB.out]; rfl
              go_quiet (fail)
              go_wp2_with (fail)
              go_meet
              case rel => exact ⟨rfl, m + nq, by simp⟩
            | succ k =>
              have hkO : k < O.length := by have := HQ.out; omega
              obtain ⟨y, hy⟩ : ∃ y, y = O[k] := ⟨_, rfl⟩
              have hym : y ∈ O := by rw [hy]; exact List.getElem_mem hkO
              have hyj := ats_lt (HBE.out.1.mem_iff.1 hym)
              have hyg : ∃ i : Nat, y = (i : Int) ∧ ctF (l.getD i 0) = true := by
                have h1 := HBE.out.1.mem_iff.1 hym
                unfold ats at h1
                obtain ⟨i, h2, h3⟩ := List.mem_map.1 h1
                exact ⟨i, h3.symm, (List.mem_filter.1 h2).2⟩
              obtain ⟨p, hp, hpc⟩ := hyg
              have hpj : p < j := by omega
              have hpN : p < N := by omega
              have hpI : (p : Int) < N := by omega
              have hpl : p < l.length := by rw [HLN.out]; exact hpN
              obtain ⟨z, hz⟩ : ∃ z, z = l.getD p 0 := ⟨_, rfl⟩
              have hzf : Fin z := by rw [hz]; exact ((ct_iff (by rw [getD_at hpl]; exact HW.out _ (List.getElem_mem hpl))).1 hpc).2
              have hsl : Sl wx a5 (O.map (Value.int .i64)) := HO2.out.sl.2
              obtain ⟨b5, o5, rfl, cy⟩ := Sl.oneCell hsl (j := k) (v := .int .i64 (p : Nat)) (by rw [List.getElem?_map, List.getElem?_eq_getElem hkO, ← hy, hp]; rfl)
              obtain ⟨b6, o6, hb6, cz⟩ := HL.out.at_ hpl
              cases hb6
              have cz1 := cell_fr cz HNF2.out.2 (fun h => h)
              rw [← getD_at hpl, ← hz] at cz1
              have hkI : (k : Int) < q := by omega
              have hBv : B = decide (z < x) := by
                rw [HB.out, Nat.add_sub_cancel]
                have e1 : O.getD k 0 = (p : Int) := by rw [← hp, hy]; simp [hkO]
                have e2 : decide (0 < k + 1) = true := by simp
                rw [e1, e2, Bool.true_and]
                unfold keyF
                rw [Int.toNat_natCast, Int.toNat_natCast, ← hz, ← HX.out]
              clear hy hym hyj hp hpc hz hsl cz
              by_cases hzx : z < x
              · have ho : (ordF z x == some .lt) = true := by rw [ord_lt hzf HFX.out hzx]; rfl
                obtain rfl : B = true := by rw [hBv]; exact decide_eq_true hzx
                clear hBv hzx hzf
                go_quiet (fail)
                go_wp2_with (fail)
                go_meet
                case rel => exact ⟨rfl, m + nq, by simp⟩
              · have ho : (ordF z x == some .lt) = false := by
                  by_cases he : z = x
                  · rw [he, ord_eq HFX.out]; rfl
                  · rw [ord_gt hzf HFX.out (by omega)]; rfl
                obtain rfl : B = false := by rw [hBv]; exact decide_eq_false hzx
                clear hBv hzx hzf
                go_quiet (fail)
                go_wp2_with (fail)
                go_meet
                case rel => exact ⟨rfl, m + nq, by simp⟩
          case rest =>
            obtain ⟨rfl, m2, rfl⟩ := hcut
            cases B with
            | true =>
              have hB2 := HB.out
              rw [eq_comm, Bool.and_eq_true, decide_eq_true_iff, decide_eq_true_iff] at hB2
              obtain ⟨hk0, hkey⟩ := hB2
              obtain ⟨k, rfl⟩ : ∃ k', k = k' + 1 := ⟨k - 1, by omega⟩
              have HA2 : Hid (∀ y ∈ O.drop k, keyF l y < keyF l (j : Int)) := Lib.hid (fun y hy => by
                have hkO : k < O.length := by have := HQ.out; omega
                rw [List.drop_eq_getElem_cons hkO] at hy
                rcases List.mem_cons.1 hy with rfl | hy
                · rw [Nat.add_sub_cancel] at hkey
                  have e1 : O.getD k 0 = O[k] := by simp [hkO]
                  rw [← e1]; exact hkey
                · exact HA.out y hy)
              clear hk0 hkey
              go_wp2_with (fail)
              go_roundg k
              case measure => omega
              case rel => exact ⟨k, m2, by omega, rfl, by go_num, rfl, HA2⟩
            | false =>
              have hB2 := HB.out
              obtain ⟨J, hJ⟩ : ∃ J, J = O.take k ++ [(j : Int)] ++ O.drop k := ⟨_, rfl⟩
              have hkO : k ≤ O.length := by have := HQ.out; omega
              have HBJ : Hid (Best l (j + 1) J) := Lib.hid (by
                rw [hJ]
                refine best_step HBE.out HCT.out hkO HA.out ?_
                by_cases h0 : k = 0
                · exact .inl h0
                · refine .inr ⟨by omega, fun h => ?_⟩
                  have e1 : O.getD (k - 1) 0 = O[k - 1]'(by omega) := by simp [show k - 1 < O.length by omega]
                  have e2 : decide (0 < k) = true := decide_eq_true (by omega)
                  rw [e2, e1, decide_eq_true h] at hB2
                  exact absurd hB2.symm (by decide))
              have HJ := Lib.hid hJ
              have hkqI : (k : Int) ≤ q := by omega
              have hkcI : (k : Int) ≤ c5 := by omega
              obtain ⟨wq, hwq⟩ : ∃ wq, wq = wx.drewN m2 := ⟨_, rfl⟩
              have Fq : Fr Nothing wx wq := by rw [hwq]; exact Fr.drewN _ _ _
              have HNFq : Hid ((∀ k, InBlock (.slice a5 q c5) k → w.heap.size ≤ k) ∧ Fr Nothing w wq) := Lib.hid ⟨HNF2.out.1, HNF2.out.2.trans' Fq⟩
              have HOq : Hid (Owns wq 3 1 (.slice a5 q c5) q (O.map (Value.int .i64))) := Lib.hid (by
                have := HO2.out.fr Fq (fun _ _ h => h)
                rw [HQ.out] at this; exact this)
              have hXl : Hid ((O.take k).length = k) := Lib.hid (by rw [List.length_take]; omega)
              have hYl : Hid ((O.drop k).length = q - k) := Lib.hid (by rw [List.length_drop, HQ.out])
              rw [← hwq]
              clear hJ hB2 hkO hwq Fq HA
              rcases HOq.out.2 with ⟨hv, hq0⟩ | ⟨g, cap, cur, hv, _⟩
              · simp only [Value.slice.injEq] at hv
                obtain ⟨rfl, h00, rfl⟩ := hv
                subst h00
                obtain rfl : k = 0 := by omega
                have KX : Hid (Sl wq.drew none []) := Lib.hid (Sl.nil _ _)
                clear hq0
                go_wp2_with (fail)
                go_region_law
                  ((first
                    | (refine step_append_fp (w := wq.drew) (by rfl) (.const (.slice none 0 0)) (.tmp 43) 28 (by rfl) 3 i0 (.int .i64 0) 1 8 Try.underlying28 Hi.out Hz0.out Hz1.out Hz2.out rfl (by decide) (.slice none 0 0) 0 [] (by rfl) (Owns.nil _ _ _) none 0 0 [] (by rfl) rfl (fun _ => ⟨rfl, rfl⟩) KX.out (by simp) (by unfold maxLen; omega) (by omega) ?_
                       intro v7 w7 o7 f7 n7 s7 _
                       have G7 := Lib.hid (grow_step (Fr.drew Nothing wq) (fun k hk => by simp [InBlock, Value.ownBlock] at hk) f7 n7)
                       have FA := Lib.hid (G7.out.1.trans' (Fr.alloc Nothing w7 (.cells #[Value.int .i64 (j : Nat)] 3)))
                       have O7 := Lib.hid (o7.fr (Fr.alloc Nothing w7 (.cells #[Value.int .i64 (j : Nat)] 3)) (fun _ _ h => h))
                       have HS7 := Lib.hid (Sl.ofRow (Row.allocNew w7 [Value.int .i64 (j : Nat)] 3))
                       clear o7)
                    | (refine step_append_fp (w := wq.drew.alloc (.cells #[Value.int .i64 (j : Nat)] 3)) (by rfl) (.const (.slice none 0 0)) (.tmp 43) 28 (by rfl) 3 i0 (.int .i64 0) 1 8 Try.underlying28 Hi.out Hz0.out Hz1.out Hz2.out rfl (by decide) (.slice none 0 0) 0 [] (by rfl) (Owns.nil _ _ _) none 0 0 [] (by rfl) rfl (fun _ => ⟨rfl, rfl⟩) (KX.out.fr (Fr.alloc Nothing _ _) (fun _ _ h => h)) (by simp) (by unfold maxLen; omega) (by omega) ?_
                       intro v7 w7 o7 f7 n7 s7 _
                       have G7 := Lib.hid (grow_step ((Fr.drew Nothing wq).trans' (Fr.alloc Nothing _ (.cells #[Value.int .i64 (j : Nat)] 3))) (fun k hk => by simp [InBlock, Value.ownBlock] at hk) f7 n7)
                       have FA := Lib.hid G7.out.1
                       have O7 := Lib.hid o7
                       have HS7 := Lib.hid ((Sl.ofRow (Row.allocNew wq.drew [Value.int .i64 (j : Nat)] 3)).fr f7.ofNil (fun _ _ h => h))
                       clear o7)
                    | (refine step_append_fp (by rfl) (.tmp 44) (.tmp 46) 28 (by rfl) 3 i0 (.int .i64 0) 1 8 Try.underlying28 Hi.out Hz0.out Hz1.out Hz2.out rfl (by decide) v7 _ _ (by rfl) O7.out _ 1 1 [Value.int .i64 (j : Nat)] (by rfl) rfl (by simp) HS7.out (by intro u hu; simp at hu; subst hu; rfl) (by unfold maxLen; omega) (by omega) ?_
                       intro v8 w8 o8 f8 n8 s8 _
                       have G8 := Lib.hid (grow_step FA.out G7.out.2 f8 n8)
                       have O8 := Lib.hid o8
                       clear o8)
                    | (refine step_append_fp (by rfl) (.tmp 47) (.tmp 50) 28 (by rfl) 3 i0 (.int .i64 0) 1 8 Try.underlying28 Hi.out Hz0.out Hz1.out Hz2.out rfl (by decide) v8 _ _ (by rfl) O8.out none 0 0 [] (by rfl) rfl (fun _ => ⟨rfl, rfl⟩) (Sl.nil _ _) (by simp) (by unfold maxLen; omega) (by omega) ?_
                       intro v9 w9 o9 f9 n9 s9 _
                       have G9 := Lib.hid (grow_step G8.out.1 G8.out.2 f9 n9)
                       have O9 : Hid (Owns w9 3 1 v9 J.length (J.map (Value.int .i64))) := Lib.hid (by
                         have hOn : O = [] := List.eq_nil_of_length_eq_zero HQ.out
                         rw [HJ.out, hOn]
                         exact o9)
                       clear o9)))
                all_goals go_wp2_with (fail)
                all_goals
                  go_roundg (N - (j + 1))
                  case measure => omega
                  case rel => exact ⟨j + 1, J, by omega, rfl, by go_num, HBJ, O9, Lib.hid ⟨fun k hk => Nat.le_trans HNFq.out.2.size (G9.out.2 k hk), HNFq.out.2.trans' G9.out.1⟩⟩
              · simp only [Value.slice.injEq] at hv
                obtain ⟨rfl, -, rfl⟩ := hv
                have hOs : Sl wq (some ⟨g, 0, none⟩) (O.map (Value.int .i64)) := HOq.out.sl.2
                have KX : Hid (Sl wq.drew (some ⟨g, 0, none⟩) ((O.take k).map (Value.int .i64))) := Lib.hid (by
                  rw [List.map_take]; exact (hOs.take k).fr (Fr.drew Nothing _) (fun _ _ h => h))
                have KY : Hid (Sl wq _ ((O.drop k).map (Value.int .i64))) := Lib.hid (ints_rest (n := k) (c := c5) hOs (by rw [HQ.out]; omega))
                have HnY : Hid ((if c5 = k then some (⟨g, 0, none⟩ : Addr) else some ⟨g, 0 + k * 1, none⟩) = none → q - k = 0 ∧ c5 - k = 0) := Lib.hid (fun h => by by_cases hcj : c5 = k <;> simp [hcj] at h)
                rw [Nat.zero_add, Nat.mul_one] at KY HnY
                clear hOs
                go_wp2_with (fail)
                go_region_law
                  ((first
                    | (refine step_append_fp (w := wq.drew) (by rfl) (.const (.slice none 0 0)) (.tmp 43) 28 (by rfl) 3 i0 (.int .i64 0) 1 8 Try.underlying28 Hi.out Hz0.out Hz1.out Hz2.out rfl (by decide) (.slice none 0 0) 0 [] (by rfl) (Owns.nil _ _ _) (some ⟨g, 0, none⟩) k c5 ((O.take k).map (Value.int .i64)) (by rfl) (by rw [List.length_map, hXl.out, Nat.mul_one]) (by simp) KX.out (one_ints _) (by unfold maxLen; omega) (by omega) ?_
                       intro v7 w7 o7 f7 n7 s7 _
                       have G7 := Lib.hid (grow_step (Fr.drew Nothing wq) (fun k hk => by simp [InBlock, Value.ownBlock] at hk) f7 n7)
                       have FA := Lib.hid (G7.out.1.trans' (Fr.alloc Nothing w7 (.cells #[Value.int .i64 (j : Nat)] 3)))
                       have O7 := Lib.hid (o7.fr (Fr.alloc Nothing w7 (.cells #[Value.int .i64 (j : Nat)] 3)) (fun _ _ h => h))
                       have HS7 := Lib.hid (Sl.ofRow (Row.allocNew w7 [Value.int .i64 (j : Nat)] 3))
                       clear o7)
                    | (refine step_append_fp (w := wq.drew.alloc (.cells #[Value.int .i64 (j : Nat)] 3)) (by rfl) (.const (.slice none 0 0)) (.tmp 43) 28 (by rfl) 3 i0 (.int .i64 0) 1 8 Try.underlying28 Hi.out Hz0.out Hz1.out Hz2.out rfl (by decide) (.slice none 0 0) 0 [] (by rfl) (Owns.nil _ _ _) (some ⟨g, 0, none⟩) k c5 ((O.take k).map (Value.int .i64)) (by rfl) (by rw [List.length_map, hXl.out, Nat.mul_one]) (by simp) (KX.out.fr (Fr.alloc Nothing _ _) (fun _ _ h => h)) (one_ints _) (by unfold maxLen; omega) (by omega) ?_
                       intro v7 w7 o7 f7 n7 s7 _
                       have G7 := Lib.hid (grow_step ((Fr.drew Nothing wq).trans' (Fr.alloc Nothing _ (.cells #[Value.int .i64 (j : Nat)] 3))) (fun k hk => by simp [InBlock, Value.ownBlock] at hk) f7 n7)
                       have FA := Lib.hid G7.out.1
                       have O7 := Lib.hid o7
                       have HS7 := Lib.hid ((Sl.ofRow (Row.allocNew wq.drew [Value.int .i64 (j : Nat)] 3)).fr f7.ofNil (fun _ _ h => h))
                       clear o7)
                    | (refine step_append_fp (by rfl) (.tmp 44) (.tmp 46) 28 (by rfl) 3 i0 (.int .i64 0) 1 8 Try.underlying28 Hi.out Hz0.out Hz1.out Hz2.out rfl (by decide) v7 _ _ (by rfl) O7.out _ 1 1 [Value.int .i64 (j : Nat)] (by rfl) rfl (by simp) HS7.out (by intro u hu; simp at hu; subst hu; rfl) (by unfold maxLen; omega) (by omega) ?_
                       intro v8 w8 o8 f8 n8 s8 _
                       have G8 := Lib.hid (grow_step FA.out G7.out.2 f8 n8)
                       have O8 := Lib.hid o8
                       clear o8)
                    | (refine step_append_fp (by rfl) (.tmp 47) (.tmp 50) 28 (by rfl) 3 i0 (.int .i64 0) 1 8 Try.underlying28 Hi.out Hz0.out Hz1.out Hz2.out rfl (by decide) v8 _ _ (by rfl) O8.out _ (q - k) _ ((O.drop k).map (Value.int .i64)) (by rfl) (by rw [List.length_map, hYl.out, Nat.mul_one]) HnY.out (KY.out.fr G8.out.1 (fun _ _ h => h)) (one_ints _) (by unfold maxLen; omega) (by omega) ?_
                       intro v9 w9 o9 f9 n9 s9 _
                       have G9 := Lib.hid (grow_step G8.out.1 G8.out.2 f9 n9)
                       have O9 : Hid (Owns w9 3 1 v9 J.length (J.map (Value.int .i64))) := Lib.hid (by
                         rw [HJ.out, List.map_append, List.map_append]
                         have e1 : (O.take k ++ [(j : Int)] ++ O.drop k).length = 0 + k + 1 + (q - k) := by rw [List.length_append, List.length_append, hXl.out, hYl.out]; simp
                         rw [e1]
                         exact o9)
                       clear o9)))
                all_goals go_wp2_with (fail)
                all_goals
                  go_roundg (N - (j + 1))
                  case measure => omega
                  case rel => exact ⟨j + 1, J, by omega, rfl, by go_num, HBJ, O9, Lib.hid ⟨fun k hk => Nat.le_trans HNFq.out.2.size (G9.out.2 k hk), HNFq.out.2.trans' G9.out.1⟩⟩
    · obtain rfl : N = j := by omega
      have hOT : O = T := by rw [HT.out]; exact best_top (by rw [HLN.out]; exact h60) (by rw [HLN.out]; exact HBE.out)
      obtain rfl : M = q := by rw [← HM.out, ← hOT]; exact HQ.out
      have HOT := Lib.hid hOT
      have hKMI : (K : Int) ≤ M := by omega
      have hKc : (K : Int) ≤ c5 := by omega
      have hTk : (T.take K).length = K := by rw [List.length_take, HM.out]; omega
      have HTK := Lib.hid hTk
      clear hOT hTk
      rcases HO2.out.2 with ⟨hv, _⟩ | ⟨g, cap, cur, hv, _⟩
      · simp only [Value.slice.injEq] at hv
        obtain ⟨rfl, h00, rfl⟩ := hv
        subst h00
        obtain rfl : K = 0 := by omega
        go_wp2_with (fail)
        go_ret
        exact ⟨none, 0, by rw [HTK.out]; exact congrArg (fun z => Ending.returned (Value.slice none z 0)) (show (min (max n 0) 0).toNat = 0 by omega), by rw [List.take_zero]; exact Sl.nil _ _, HNF2.out.2⟩
      · simp only [Value.slice.injEq] at hv
        obtain ⟨rfl, -, rfl⟩ := hv
        have hOs : Sl wx (some ⟨g, 0, none⟩) ((T.take K).map (Value.int .i64)) := by
          rw [← HOT.out, List.map_take]; exact HO2.out.sl.2.take K
        have HOS := Lib.hid hOs
        clear hOs
        go_wp2_with (fail)
        go_ret
        exact ⟨some ⟨g, 0, none⟩, c5, by rw [HTK.out]; rfl, HOS.out, HNF2.out.2⟩
end Go.Proofs.Ytdgaiacigmcibaa
