/- share.Cover: how many of the greatest it takes. Condition: at most 1000 weights. -/
import Derived.Test.YtdgaiacigmcibaaPartsB
namespace Go.Proofs.Ytdgaiacigmcibaa
open Go.RowKit Go.Sort

def geF (x y : Nat) : Bool := ordF x y == some .gt || ordF x y == some .eq
/-- The sum of the first k parts, the greatest first. -/
def cs (l : List Nat) : Nat → Nat
  | 0 => 0
  | k + 1 => addF (cs l k) (pAt l ((topL l).getD k 0).toNat)
theorem pAt_nn {l : List Nat} (hw : ∀ z ∈ l, z < 18446744073709551616) (i : Nat) : NN (pAt l i) := by
  have hd : NN (dF l) ∧ 0 < dF l ∧ ∀ x, Fin x → Fin (divF x (dF l)) := by
    unfold dF
    split
    · exact ⟨by decide, by decide, fin_div_less⟩
    · exact ⟨by decide, by decide, fin_div_one⟩
  have hf := wAt_fin hw hd.2.2 i
  unfold pAt
  split
  · unfold NN; unfold Fin at hf; omega
  · rename_i hz
    have hs := wSum_nn hw hd.1 hd.2.1 l.length
    refine (div_nn hf hs ?_).2
    by_cases h0 : wSum l (dF l) l.length = 0
    · rw [h0, ord_eq (by decide : Fin 0)] at hz; exact absurd rfl hz
    · omega
theorem cs_nn {l : List Nat} (hw : ∀ z ∈ l, z < 18446744073709551616) (k : Nat) : NN (cs l k) := by
  induction k with
  | zero => unfold cs NN; omega
  | succ k ih => exact (add_nn ih (pAt_nn hw _)).2
theorem stable_perm_size (lt : Int → Int → Bool) (n : Nat) (d : Array Int) : (stableF lt n d).size = d.size := by
  unfold stableF
  have h : ∀ (k s : Nat) (d : Array Int), (merges lt n k s d).size = d.size := by
    intro k
    induction k with
    | zero => intro s d; rfl
    | succ k ih =>
      intro s d
      rw [merges]
      split
      · rw [ih, pairs_size]
      · rfl
  rw [h, blocks_size]
def CovIs (l : List Nat) (part : Nat) (z : Int) : Prop :=
  (z = 0 ∧ geF 0 part = true) ∨ (geF 0 part = false ∧ ∃ k, k < (topL l).length ∧ z = (k : Int) + 1 ∧ geF (cs l (k + 1)) part = true ∧ ∀ j, j < k → geF (cs l (j + 1)) part = false) ∨
  (z = -1 ∧ geF 0 part = false ∧ ∀ j, j < (topL l).length → geF (cs l (j + 1)) part = false)
def CovTold (l : List Nat) (part : Nat) (w : World) (e : Ending) (w' : World) : Prop := ∃ z : Int, e = .returned (.int .i64 z) ∧ CovIs l part z ∧ Fr Nothing w w'
set_option maxHeartbeats 4000000 in
set_option maxRecDepth 100000 in
theorem cover_f (a : Option Addr) (l : List Nat) (c part : Nat) (w : World) (hl : Fs w a l) (hw : ∀ z ∈ l, z < 18446744073709551616) (h1000 : l.length ≤ 1000) (hc : l.length ≤ c) (hgood : ∀ x ∈ topL l, GT l x) :
    Calls Try.prog 17 #[.slice a l.length c, .float .f64 part] w (CovTold l part w) := by
  obtain ⟨N, hN⟩ : ∃ N, N = l.length := ⟨_, rfl⟩
  obtain ⟨T, hT⟩ : ∃ T, T = topL l := ⟨_, rfl⟩
  obtain ⟨M, hM⟩ : ∃ M, M = T.length := ⟨_, rfl⟩
  have hMN : M ≤ N := by rw [hM, hT, hN]; exact topL_len l
  have htk : T.take (min (max (N : Int) 0) (T.length : Int)).toNat = T := List.take_of_length_le (by omega)
  have HP : Hid (Calls Try.prog 12 #[.slice a N c] w fun e w' => ∃ g, e = .returned (.slice (some ⟨g, 0, none⟩) N N) ∧ w.heap.size ≤ g ∧ Row w' g (pRow l N) 23 ∧ Fr Nothing w w') := Lib.hid (by rw [hN]; exact parts_f a l c w hl hw h1000)
  have HT : Hid (∀ W, Fr Nothing w W → Calls Try.prog 15 #[.slice a N c, .int .i64 (N : Int)] W (TopTold T W)) := Lib.hid fun W F => by
    have := top_f a l c (N : Int) W (Sl.fr hl F (fun _ _ h => h)) hw h1000 hc
    rw [← hT, htk, ← hN] at this
    exact this
  have HLN := Lib.hid hN.symm
  have HTL := Lib.hid hT
  have HTM := Lib.hid hM.symm
  have HW := Lib.hid hw
  have HGD := Lib.hid hgood
  have hN9 : (N : Int) ≤ 1000 := by omega
  have hM9 : (M : Int) ≤ 1000 := by omega
  have hMN2 : (M : Int) ≤ N := by omega
  clear hl hw h1000 hc hgood htk
  rw [← hN]
  by_cases hg0 : geF 0 part = true
  · have hx : (ordF 0 part == some Ordering.gt || ordF 0 part == some Ordering.eq) = true := hg0
    have HG0 := Lib.hid hg0
    clear hg0 hN hT hM
    go_enter Try.func17, Try.ntmps17
    go_wp2_with (go_at_call 12; refine HP.out.mono ?_; rintro _ w1 ⟨g, rfl, hg, hR, F1⟩)
    go_ret
    exact ⟨0, rfl, .inl ⟨rfl, HG0.out⟩, F1⟩
  · have hg1 : geF 0 part = false := by simpa using hg0
    have hx : (ordF 0 part == some Ordering.gt || ordF 0 part == some Ordering.eq) = false := hg1
    have HG0 := Lib.hid hg1
    clear hg0 hg1 hN hT hM
    go_enter Try.func17, Try.ntmps17
    go_wp2_with (first
      | (go_at_call 12; refine HP.out.mono ?_; rintro _ w1 ⟨g, rfl, hg, hR, F1⟩)
      | (go_at_call 15; refine (HT.out _ F1).mono ?_; rintro _ w2 ⟨at_, ct_, rfl, hc1, hc2, hor, F2⟩; rw [HTM.out]))
    have F := F1.trans' F2
    have HGW := Lib.hid hg
    have HR : Hid (Row w2 g (pRow l N) 23) := Lib.hid (hR.fr F2 (fun h => h))
    have HTS : Hid (Sl w2 at_ (T.map (Value.int .i64))) := Lib.hid (by
      rcases hor with ⟨_, h2, _⟩ | ⟨g2, rest, rfl, _, h3⟩
      · rw [h2]; exact Sl.nil _ _
      · refine .inr ⟨g2, 0, rfl, fun i hi => ?_⟩
        have hi' : i < T.length := by simpa using hi
        have := h3.cell (i := i) (by simpa using hi')
        rw [Nat.zero_add, this, List.getElem?_map, List.getElem?_eq_getElem hi', getElem!_pos T.toArray i (by simpa using hi')]
        simp)
    have hMc : (M : Int) ≤ ct_ := by have := HTM.out; omega
    have hc9 : (ct_ : Int) ≤ 9223372036854775807 := by unfold maxLen at hc2; omega
    clear hg hR hor F1 F2
    go_loopg [6, 19] M (fun gg vs vi wr => ∃ k, k ≤ M ∧ gg = M - k ∧ vi = .int .i64 (k : Nat) ∧ vs = .float .f64 (cs l k) ∧ Hid (∀ j, j < k → geF (cs l (j + 1)) part = false) ∧ wr = w2)
    case atStart => exact ⟨0, Nat.zero_le _, rfl, rfl, rfl, Lib.hid (fun _ h => by omega), rfl⟩
    case round =>
      obtain ⟨k, hk, rfl, rfl, rfl, HA, rfl⟩ := hrel
      by_cases hlt : k < M
      · have hltI : (k : Int) < M := by omega
        have hkT : k < T.length := by rw [HTM.out]; exact hlt
        obtain ⟨x, hx⟩ : ∃ x, x = (T[k]).toNat := ⟨_, rfl⟩
        have hgd := HGD.out T[k] (by rw [← HTL.out]; exact List.getElem_mem hkT)
        have hxN : x < N := by rw [hx]; have := hgd.2.1; rw [HLN.out] at this; exact this
        have hxI : (T[k] : Int) = (x : Nat) := by rw [hx]; have := hgd.1; omega
        obtain ⟨b2, o2, rfl, c0⟩ := Sl.oneCell HTS.out (j := k) (v := .int .i64 (T[k])) (by simp [hkT])
        rw [hxI] at c0
        obtain ⟨s, hs⟩ : ∃ s, s = cs l k := ⟨_, rfl⟩
        obtain ⟨q, hq⟩ : ∃ q, q = pAt l x := ⟨_, rfl⟩
        have c1 : wr.cell? ⟨g, x, none⟩ = some (.float .f64 q) := HR.out.cell x (by
          unfold pRow
          rw [List.getElem?_map, List.getElem?_range hxN, hq]; rfl)
        obtain ⟨s2, hs2⟩ : ∃ s2, s2 = cs l (k + 1) := ⟨_, rfl⟩
        have hadd : FloatKind.f64.format.add s q = some s2 := by
          have h1 : cs l (k + 1) = addF s q := by
            rw [cs, hs, hq, hx, ← HTL.out]
            congr 3
            simp [hkT]
          rw [hs2, h1]
          exact (add_nn (by rw [hs]; exact cs_nn HW.out k) (by rw [hq]; exact pAt_nn HW.out x)).1
        have hqa : ∀ w, (binOp .add 23 (.float .f64 s) (.float .f64 q)).run Try.prog w = .ok (.float .f64 s2) w := fun w => run_float_arith w .add 23 .f64 s q s2 hadd
        have hxNI : (x : Int) < N := by omega
        have HS2 := Lib.hid hs2
        rw [← hs]
        clear hgd hs hq hadd hs2 hxI hx hkT
        by_cases hge : geF s2 part = true
        · have hz : (ordF s2 part == some Ordering.gt || ordF s2 part == some Ordering.eq) = true := hge
          have HGE := Lib.hid hge
          clear hge
          go_wp2_with (fail)
          go_ret
          exact ⟨(k : Int) + 1, rfl, .inr (.inl ⟨HG0.out, k, by rw [← HTL.out, HTM.out]; exact hlt, rfl, by rw [← HS2.out]; exact HGE.out, HA.out⟩), F⟩
        · have hge2 : geF s2 part = false := by simpa using hge
          have hz : (ordF s2 part == some Ordering.gt || ordF s2 part == some Ordering.eq) = false := hge2
          have HGE := Lib.hid hge2
          clear hge hge2
          go_wp2_with (fail)
          go_roundg (M - (k + 1))
          case measure => omega
          case rel =>
            refine ⟨k + 1, by omega, rfl, by go_num, by rw [HS2.out], Lib.hid (fun j hj => ?_), rfl⟩
            by_cases hjk : j < k
            · exact HA.out j hjk
            · obtain rfl : j = k := by omega
              rw [← HS2.out]; exact HGE.out
      · obtain rfl : k = M := by omega
        go_wp2_with (fail)
        go_ret
        exact ⟨-1, rfl, .inr (.inr ⟨rfl, HG0.out, fun j hj => HA.out j (by rw [← HTL.out, HTM.out] at hj; exact hj)⟩), F⟩
end Go.Proofs.Ytdgaiacigmcibaa
