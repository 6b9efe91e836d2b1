/- TokenKnown answers true for every input and changes no memory that was there. No condition. -/
import Derived.Test.YtajpicbaoicpfaaTokArgs
import Derived.Test.YtajpicbaoicpfaaUSortK
import Derived.Test.YtajpicbaoicpfaaTokenBack
namespace Go.Proofs.Ytajpicbaoicpfaa
open Go.RowKit

def addN (N : List Nat) (x : Nat) : List Nat := if x ∈ N then N else N ++ [x]
/-- The numbers that differ, each where it comes first. -/
def ded (L : List Nat) : List Nat := L.foldl addN []
theorem mem_addN {N : List Nat} {x y : Nat} : y ∈ addN N x ↔ y ∈ N ∨ y = x := by
  unfold addN
  split
  · rename_i h
    constructor
    · exact .inl
    · rintro (h1 | rfl)
      · exact h1
      · exact h
  · simp
theorem mem_fold {L N : List Nat} {y : Nat} : y ∈ L.foldl addN N ↔ y ∈ N ∨ y ∈ L := by
  induction L generalizing N with
  | nil => simp
  | cons x L ih => rw [List.foldl_cons, ih, mem_addN, List.mem_cons, or_assoc]
theorem mem_ded {L : List Nat} {y : Nat} : y ∈ ded L ↔ y ∈ L := by unfold ded; rw [mem_fold]; simp
theorem nodup_fold {L N : List Nat} (h : N.Nodup) : (L.foldl addN N).Nodup := by
  induction L generalizing N with
  | nil => exact h
  | cons x L ih =>
    rw [List.foldl_cons]
    refine ih ?_
    unfold addN
    split
    · exact h
    · rename_i hx
      rw [List.nodup_append]
      exact ⟨h, by simp, fun a ha b hb e => by rw [List.mem_singleton] at hb; subst hb; subst e; exact hx ha⟩
theorem len_fold {L N : List Nat} : (L.foldl addN N).length ≤ N.length + L.length := by
  induction L generalizing N with
  | nil => simp
  | cons x L ih =>
    rw [List.foldl_cons]
    refine Nat.le_trans ih ?_
    have : (addN N x).length ≤ N.length + 1 := by unfold addN; split <;> simp
    rw [List.length_cons]; omega
theorem ded_len (L : List Nat) : (ded L).length ≤ L.length := by have := len_fold (L := L) (N := []); simpa [ded] using this
theorem ded_succ {L : List Nat} {j : Nat} (h : j < L.length) : (ded (L.take (j + 1))).length = if L[j] ∈ L.take j then (ded (L.take j)).length else (ded (L.take j)).length + 1 := by
  rw [List.take_succ_eq_append_getElem h]
  show (List.foldl addN [] (L.take j ++ [L[j]])).length = _
  rw [List.foldl_append]
  show (addN (ded (L.take j)) L[j]).length = _
  unfold addN
  by_cases hm : L[j] ∈ L.take j
  · rw [if_pos hm, if_pos (mem_ded.2 hm)]
  · rw [if_neg hm, if_neg (fun h => hm (mem_ded.1 h))]; simp
theorem fold_in {L N : List Nat} (h : ∀ x ∈ L, x ∈ N) : L.foldl addN N = N := by
  induction L with
  | nil => rfl
  | cons x L ih =>
    rw [List.foldl_cons, show addN N x = N from if_pos (h x (by simp))]
    exact ih fun y hy => h y (by simp [hy])
theorem fold_new {L N : List Nat} {i : Nat} (hi : i < L.length) (h : ∀ j (hj : j < i), L[j]'(by omega) ∈ N) (hn : L[i] ∉ N) : L.foldl addN N = (L.drop (i + 1)).foldl addN (N ++ [L[i]]) := by
  induction i generalizing L with
  | zero =>
    cases L with
    | nil => simp at hi
    | cons x L =>
      rw [List.foldl_cons]
      show List.foldl addN (addN N x) L = _
      rw [show addN N x = N ++ [x] from if_neg hn]; rfl
  | succ i ih =>
    cases L with
    | nil => simp at hi
    | cons x L =>
      rw [List.foldl_cons, show addN N x = N from if_pos (h 0 (by omega))]
      have := ih (L := L) (by simpa using hi) (fun j hj => by have := h (j + 1) (by omega); simpa using this) (by simpa using hn)
      rw [this]; rfl
theorem inK_map {N : List Nat} {x : Nat} (hN : ∀ y ∈ N, y < 2 ^ 64) (hx : x < 2 ^ 64) : inK (N.map tokB) (tokB x) = decide (x ∈ N) := by
  rw [Bool.eq_iff_iff, inK_iff, decide_eq_true_iff, List.mem_map]
  constructor
  · rintro ⟨y, hy, e⟩
    rw [tokB_inj (hN y hy) hx] at e; subst e; exact hy
  · exact fun h => ⟨x, h, rfl⟩
/-- What a draw does: it takes the first that is not among N, or none is left. -/
theorem draw_ways (R N : List Nat) (hR : ∀ y ∈ R, y < 2 ^ 64) (hN : ∀ y ∈ N, y < 2 ^ 64) :
    (∃ i, ∃ hi : i < R.length, drawV R (N.map tokB) = .tuple #[.string (tokB R[i]), .int .i64 (i + 1 : Nat), .int .i64 0] ∧ R.foldl addN N = (R.drop (i + 1)).foldl addN (N ++ [R[i]]) ∧ R[i] ∉ N) ∨
    (drawV R (N.map tokB) = .tuple #[.string { data := #[] }, .int .i64 R.length, .int .i64 14] ∧ R.foldl addN N = N) := by
  by_cases h : ∃ i, ∃ hi : i < R.length, R[i] ∉ N
  · obtain ⟨i, ⟨hi, hn⟩, hmin⟩ : ∃ i, (∃ hi : i < R.length, R[i] ∉ N) ∧ ∀ j, j < i → ¬ ∃ hj : j < R.length, R[j] ∉ N := by
      obtain ⟨i, hi⟩ := h
      induction i using Nat.strongRecOn with
      | _ i ih =>
        by_cases hs : ∃ j, j < i ∧ ∃ hj : j < R.length, R[j] ∉ N
        · obtain ⟨j, hj, hjj⟩ := hs
          exact ih j hj hjj
        · exact ⟨i, hi, fun j hj hjj => hs ⟨j, hj, hjj⟩⟩
    have hb : ∀ j (hj : j < i), R[j]'(by omega) ∈ N := fun j hj => Decidable.byContradiction fun hx => hmin j hj ⟨by omega, hx⟩
    refine .inl ⟨i, hi, drawV_some hi ?_ ?_, fold_new hi hb hn, hn⟩
    · rw [inK_map hN (hR _ (List.getElem_mem _))]; exact decide_eq_false hn
    · exact fun j hj => by rw [inK_map hN (hR _ (List.getElem_mem _))]; exact decide_eq_true (hb j hj)
  · have hall : ∀ x ∈ R, x ∈ N := fun x hx => by
      obtain ⟨i, hi, rfl⟩ := List.getElem_of_mem hx
      exact Decidable.byContradiction fun hn => h ⟨i, hi, hn⟩
    refine .inr ⟨drawV_none fun j hj => ?_, fold_in hall⟩
    rw [inK_map hN (hR _ (List.getElem_mem _))]; exact decide_eq_true (hall _ (List.getElem_mem _))
theorem txt_map {w : World} {a : Option Addr} {N : List Nat} (h : Sl w a (N.map (Value.string ∘ tokB))) : Txt w a (N.map tokB) := by
  unfold Txt; rw [List.map_map]; exact h
set_option maxHeartbeats 8000000 in
set_option maxRecDepth 100000 in
theorem tokenknown_any (a0 : Option Addr) (L0 : List UN) (c0 : Nat) (w : World)
    (n0 : L0.length ≤ c0) (m0 : c0 ≤ maxLen) (t0 : Recs UN.cells 1 w a0 L0) (z0 : ∀ r ∈ L0, r.Good) :
    Calls Try.prog 6 #[.slice a0 L0.length c0] w fun e w' => e = .returned (.bool true) ∧ Below w.heap.size w w' := by
  obtain ⟨i0, hi, hz0, hz1, hz2⟩ := info_parts Try.infoU
  have Hz2 := Lib.hid hz2
  have Hz1 := Lib.hid hz1
  have Hz0 := Lib.hid hz0
  have Hi := Lib.hid hi
  obtain ⟨j0, gi, gz0, gz1, gz2⟩ := info_parts Try.infoText
  have Gz2 := Lib.hid gz2
  have Gz1 := Lib.hid gz1
  have Gz0 := Lib.hid gz0
  have Gi := Lib.hid gi
  obtain ⟨l0, hl0⟩ : ∃ l, l = L0.length := ⟨_, rfl⟩
  obtain ⟨L, hL⟩ : ∃ L, L = (L0.map UN.n).take 40 := ⟨_, rfl⟩
  obtain ⟨l, hl⟩ : ∃ l, l = L.length := ⟨_, rfl⟩
  have hll : min (l0 : Int) 40 = l := by rw [hl, hL, List.length_take, List.length_map, ← hl0]; omega
  have HU : Hid (Us w a0 L) := Lib.hid (by rw [hL]; exact (un_us t0).take 40)
  have HG : Hid (∀ x ∈ L, x < 2 ^ 64) := Lib.hid (fun x hx => by
    rw [hL] at hx
    obtain ⟨r, hr, rfl⟩ := List.mem_map.1 (List.mem_of_mem_take hx)
    exact z0 r hr)
  have HLN := Lib.hid hl.symm
  have hc0 : (c0 : Int) ≤ 9223372036854775807 := by unfold maxLen at m0; omega
  have hl0c : l0 ≤ c0 := by omega
  have hl0c' : (l0 : Int) ≤ c0 := by omega
  have hlI : (l : Int) ≤ 40 ∧ (l : Int) ≤ c0 := by omega
  obtain ⟨D, hD⟩ : ∃ D, D = ded L := ⟨_, rfl⟩
  obtain ⟨m, hm⟩ : ∃ m, m = D.length := ⟨_, rfl⟩
  have hm40 : m ≤ 40 := by rw [hm, hD]; have := ded_len L; omega
  have HDnd : Hid D.Nodup := Lib.hid (by rw [hD]; exact nodup_fold (by simp))
  have HD64 : Hid (∀ x ∈ D, x < 2 ^ 64) := Lib.hid fun x hx => HG.out x (by rw [hD] at hx; exact mem_ded.1 hx)
  have HDL : Hid (D = ded L) := Lib.hid hD
  have HDm : Hid (D.length = m) := Lib.hid hm.symm
  have HF0 : Hid (L.foldl addN [] = D) := Lib.hid hD.symm
  rw [← hl0]
  clear hL hl t0 z0 hl0 n0 m0 hD hm hi hz0 hz1 hz2 gi gz0 gz1 gz2
  go_enter Try.func6, Try.ntmps6
  go_wp2_with (go_at_call 8; refine (tok_lives _).mono ?_; rintro e w1 ⟨rfl, F1⟩)
  go_loopg [3, 4] l (fun g vk vr wr => ∃ (kv : Value) (q nl : Nat) (R N : List Nat) (ar ak : Option Addr) (cr ck : Nat), kv = vk ∧ q = g ∧ Hid (R.length = q) ∧ q + nl ≤ 40 ∧ Hid ((N.map tokB).length = nl) ∧ Hid (kv = .slice ak nl ck) ∧ nl ≤ ck ∧ ck ≤ maxLen ∧ vr = .slice ar q cr ∧ q ≤ cr ∧ (cr : Int) ≤ 9223372036854775807 ∧ Hid (∀ x ∈ R, x < 2 ^ 64) ∧ Hid (∀ x ∈ N, x < 2 ^ 64) ∧ Hid (R.foldl addN N = D) ∧ Hid (Us w ar R) ∧ CollE w 9 1 kv nl (N.map (Value.string ∘ tokB)) wr)
  case atStart => exact ⟨_, l, 0, L, [], a0, none, c0, 0, rfl, rfl, HLN, by omega, Lib.hid rfl, Lib.hid rfl, Nat.le_refl _, by unfold maxLen; omega, rfl, by omega, hc0, HG, Lib.hid (fun _ h => by simp at h), HF0, HU, (CollE.start _ _ _).quiet F1⟩
  case round =>
    obtain ⟨kv, q, nl, R, N, ar, ak, cr, ck, rfl, rfl, HRQ, hgN, HNL, HKV, hck1, hck2, rfl, hgc, hcr, HR64, HN64, HFD, HUR, co⟩ := hrel
    by_cases hg0 : 0 < q
    · have hg0I : (0 : Int) < q := by omega
      have hqI : (q : Int) ≤ cr := by omega
      have hdr := tok_draw ar R cr ak (N.map tokB) ck 100 wr (HUR.out.fr co.fr (fun _ _ h => h)) HR64.out (txt_map (Owns.sl (by rw [HKV.out] at co; exact co.own)).2) (by rw [HRQ.out]; exact hgc) hcr (by rw [HNL.out]; unfold maxLen at hck2; omega)
      have h100 : R.take (min (max (100 : Int) 1) 100).toNat = R := List.take_of_length_le (by rw [HRQ.out]; show q ≤ 100; omega)
      rw [h100, HRQ.out, HNL.out, ← HKV.out] at hdr
      rcases draw_ways R N HR64.out HN64.out with ⟨i, hi, hv, hf, hni⟩ | ⟨hv, hf⟩
      · rw [hv] at hdr
        rw [HFD.out] at hf
        have HFD2 := Lib.hid hf.symm
        have hiq : i < q := by rw [← HRQ.out]; exact hi
        obtain ⟨x, hx⟩ : ∃ x, x = R[i] := ⟨_, rfl⟩
        have hx64 := HR64.out _ (List.getElem_mem hi)
        rw [← hx] at hdr HFD2 hx64
        have HX64 := Lib.hid hx64
        have HDR := Lib.hid hdr
        obtain ⟨z, hz⟩ : ∃ z, z = i + 1 := ⟨_, rfl⟩
        rw [← hz] at HDR HFD2
        have hz1 : (1 : Int) ≤ z := by omega
        have hz1' : 1 ≤ z := by omega
        have hzq : z ≤ q := by omega
        have hzI : (z : Int) ≤ q := by omega
        have hzC : (z : Int) ≤ cr := by omega
        obtain ⟨b, o, rfl, hcell⟩ := HUR.out.at_ (i := i) hi
        have HI := Lib.hid hi
        clear hcell hv hf hni hdr hx hx64 h100 HFD hi hiq hz
        by_cases hcn : cr = z
        · obtain ⟨rfl, rfl⟩ : z = q ∧ cr = z := by omega
          clear hcn
          have HUD : Hid (Us w (some ⟨b, o, none⟩) (R.drop cr)) := Lib.hid (by rw [List.drop_eq_nil_of_le (by rw [HRQ.out]; exact Nat.le_refl _)]; exact Sl.nil _ _)
          go_wp2_with (first
            | (go_at_call 13; refine HDR.out.mono ?_; rintro _ w2 ⟨rfl, F2⟩; have co2 := co.quiet F2; have hsl1 : Sl (w2.alloc (.cells #[Value.string (tokB x)] 9)) (some ⟨w2.heap.size, 0, none⟩) [Value.string (tokB x)] := Sl.ofRow (Row.allocNew w2 [Value.string (tokB x)] 9); have own1 := (co2.quiet (Fr.alloc Nothing w2 (.cells #[Value.string (tokB x)] 9))).own; clear co)
            | (at_builtin; go_must (refine wpList_append_fp rfl (.tmp 47) (.tmp 49) 29 rfl 9 j0 (.string ByteArray.empty) 1 16 Try.underlying29 Gi.out Gz0.out Gz1.out Gz2.out rfl (by decide) _ _ _ rfl own1 _ 1 1 [Value.string (tokB x)] rfl rfl (by simp) hsl1 (by simp [Value.oneCell']) (by unfold maxLen; omega) (by omega) ?_)))
          intro v7 w7 o7 f7 n7 s7 _
          have co7 := co2.more (Fr.alloc Nothing w2 (.cells #[Value.string (tokB x)] 9)) o7 f7 n7
          obtain ⟨a7, c7, h7v, h71, h72⟩ := o7.shape
          have H7V := Lib.hid h7v
          clear co2 own1 hsl1 o7 f7 n7 s7 h7v
          go_wp2_with (fail)
          go_roundg 0
          case measure => omega
          case rel =>
            refine ⟨v7, 0, nl + 1, R.drop cr, N ++ [x], _, a7, 0, c7, rfl, rfl, Lib.hid (by rw [List.length_drop, HRQ.out, Nat.sub_self]), by omega, Lib.hid (by rw [List.map_append, List.length_append, HNL.out]; rfl), H7V, h71, h72, rfl, by omega, by omega, Lib.hid (fun y hy => HR64.out y (List.mem_of_mem_drop hy)), Lib.hid (fun y hy => ?_), HFD2, HUD, ?_⟩
            · rcases List.mem_append.1 hy with hy | hy
              · exact HN64.out y hy
              · rw [List.mem_singleton] at hy; subst hy; exact HX64.out
            · rw [List.map_append]; exact co7
        · have HUD : Hid (Us w (some ⟨b, o + z, none⟩) (R.drop z)) := Lib.hid (by
            have := Sl.drop HUR.out z
            rw [← List.map_drop] at this; exact this)
          go_wp2_with (first
            | (go_at_call 13; refine HDR.out.mono ?_; rintro _ w2 ⟨rfl, F2⟩; have co2 := co.quiet F2; have hsl1 : Sl (w2.alloc (.cells #[Value.string (tokB x)] 9)) (some ⟨w2.heap.size, 0, none⟩) [Value.string (tokB x)] := Sl.ofRow (Row.allocNew w2 [Value.string (tokB x)] 9); have own1 := (co2.quiet (Fr.alloc Nothing w2 (.cells #[Value.string (tokB x)] 9))).own; clear co)
            | (at_builtin; go_must (refine wpList_append_fp rfl (.tmp 47) (.tmp 49) 29 rfl 9 j0 (.string ByteArray.empty) 1 16 Try.underlying29 Gi.out Gz0.out Gz1.out Gz2.out rfl (by decide) _ _ _ rfl own1 _ 1 1 [Value.string (tokB x)] rfl rfl (by simp) hsl1 (by simp [Value.oneCell']) (by unfold maxLen; omega) (by omega) ?_)))
          intro v7 w7 o7 f7 n7 s7 _
          have co7 := co2.more (Fr.alloc Nothing w2 (.cells #[Value.string (tokB x)] 9)) o7 f7 n7
          obtain ⟨a7, c7, h7v, h71, h72⟩ := o7.shape
          have H7V := Lib.hid h7v
          clear co2 own1 hsl1 o7 f7 n7 s7 h7v
          go_wp2_with (fail)
          go_roundg (q - z)
          case measure => omega
          case rel =>
            refine ⟨v7, q - z, nl + 1, R.drop z, N ++ [x], _, a7, _, c7, rfl, rfl, Lib.hid (by rw [List.length_drop, HRQ.out]), by omega, Lib.hid (by rw [List.map_append, List.length_append, HNL.out]; rfl), H7V, h71, h72, rfl, by omega, by omega, Lib.hid (fun y hy => HR64.out y (List.mem_of_mem_drop hy)), Lib.hid (fun y hy => ?_), HFD2, HUD, ?_⟩
            · rcases List.mem_append.1 hy with hy | hy
              · exact HN64.out y hy
              · rw [List.mem_singleton] at hy; subst hy; exact HX64.out
            · rw [List.map_append]; exact co7
      · rw [hv] at hdr
        rw [HFD.out] at hf
        have HDN := Lib.hid hf
        have HDR := Lib.hid hdr
        have hq1 : (1 : Int) ≤ q := by omega
        have hq1' : 1 ≤ q := by omega
        obtain ⟨b, o, rfl, hcell⟩ := HUR.out.at_ (i := 0) (by rw [HRQ.out]; exact hg0)
        rw [HRQ.out] at HDR
        clear hcell hv hf hdr h100 HFD HF0
        by_cases hcn : cr = q
        · subst hcn
          go_wp2_with (go_at_call 13; refine HDR.out.mono ?_; rintro _ w2 ⟨rfl, F2⟩; have co9 := co.quiet F2; clear co)
          have hkv := HKV.out
          subst hkv
          have HTK : Hid (Txt w2 ak (D.map tokB)) := Lib.hid (by rw [HDN.out]; exact txt_map co9.own.sl.2)
          obtain rfl : nl = m := by rw [← HNL.out, List.length_map, ← HDN.out]; exact HDm.out
          have FW := co9.fr
          clear co9 HNL
          obtain ⟨w1, hw1⟩ : ∃ w1, w1 = w2 := ⟨_, rfl⟩
          rw [← hw1] at HTK FW ⊢
          clear hw1
          go_wp2_with (fail)
          go_loopg [8, 9] nl (fun g vb vi wr => ∃ k : Nat, k ≤ nl ∧ g = nl - k ∧ vi = .int .i64 k ∧ CollE w1 22 1 vb k ((D.map uV).take k) wr)
          case atStart => exact ⟨0, Nat.zero_le _, rfl, rfl, CollE.start _ _ _⟩
          case round =>
            obtain ⟨k, hk, rfl, rfl, co⟩ := hrel
            by_cases hlt : k < nl
            · have hltI : (k : Int) < nl := by omega
              obtain ⟨x, hx⟩ : ∃ x, x = D[k]'(by rw [HDm.out]; exact hlt) := ⟨_, rfl⟩
              obtain ⟨b, o, rfl, c0⟩ := HTK.out.at_ (i := k) (by rw [List.length_map, HDm.out]; exact hlt)
              rw [List.getElem_map, ← hx] at c0
              have c1 := cell_fr c0 co.fr (fun h => h)
              have hx64 : x < 2 ^ 64 := by rw [hx]; exact HD64.out _ (List.getElem_mem _)
              have hrd := rdV_tok hx64
              have HRD : Hid (∀ W, Calls Try.prog 9 #[.string (tokB x)] W fun r w' => r = .returned (.tuple #[.int .u64 x, .bool true]) ∧ Fr Nothing W w') := Lib.hid fun W => by rw [← hrd]; exact tok_read _ W
              have HX := Lib.hid hx
              clear hx c0 hx64 hrd
              go_wp2_with (first
                | (go_at_call 9; refine (HRD.out _).mono ?_; rintro _ w2 ⟨rfl, F2⟩; have co2 := co.quiet F2; have hsl1 : Sl (w2.alloc (.cells #[Value.int .u64 x] 22)) (some ⟨w2.heap.size, 0, none⟩) [Value.int .u64 x] := Sl.ofRow (Row.allocNew w2 [Value.int .u64 x] 22); have own1 := (co2.quiet (Fr.alloc Nothing w2 (.cells #[Value.int .u64 x] 22))).own; clear co)
                | (at_builtin; go_must (refine wpList_append_fp rfl (.tmp 67) (.tmp 69) 28 rfl 22 i0 (.int .u64 0) 1 8 Try.underlying28 Hi.out Hz0.out Hz1.out Hz2.out rfl (by decide) _ _ _ rfl own1 _ 1 1 [Value.int .u64 x] rfl rfl (by simp) hsl1 (by simp [Value.oneCell']) (by unfold maxLen; omega) (by omega) ?_)))
              intro v7 w7 o7 f7 n7 s7 _
              have co7 := co2.more (Fr.alloc Nothing w2 (.cells #[Value.int .u64 x] 22)) o7 f7 n7
              clear co2 own1 hsl1 o7 f7 n7 s7
              go_wp2_with (fail)
              go_roundg (nl - (k + 1))
              case measure => omega
              case rel =>
                refine ⟨k + 1, by omega, rfl, by go_num, ?_⟩
                have e : (D.map uV).take (k + 1) = (D.map uV).take k ++ [Value.int .u64 x] := by
                  rw [List.take_succ_eq_append_getElem (by rw [List.length_map, HDm.out]; exact hlt), List.getElem_map, ← HX.out]
                rw [e]
                exact co7
            · obtain rfl : k = nl := by omega
              have hDk : (D.map uV).take k = D.map uV := List.take_of_length_le (by rw [List.length_map, HDm.out]; exact Nat.le_refl _)
              rw [hDk] at co
              obtain ⟨ab, cb, hvb, _, _⟩ := co.own.shape
              subst hvb
              have HB : Hid (Us wr ab D) := Lib.hid co.own.sl.2
              have FB := FW.trans' co.fr
              obtain ⟨w3, hw3⟩ : ∃ w3, w3 = wr := ⟨_, rfl⟩
              rw [← hw3] at HB FB ⊢
              have HAP : Hid (∀ W, Fr Nothing w3 W → Calls Try.prog 15 #[.slice ab k cb] W fun r w' => r = .returned (.bool true) ∧ Fr Nothing W w') := Lib.hid fun W F => by
                have := apart_u D (by rw [HDm.out]; omega) ab cb W (HB.out.fr F (fun _ _ h => h))
                rw [HDm.out, decide_eq_true HDnd.out] at this
                exact this
              clear hw3 co hDk
              go_wp2_with (fail)
              go_loopg [12, 13] l (fun g vd vi wr => ∃ j : Nat, j ≤ l ∧ g = l - j ∧ vi = .int .i64 j ∧ vd = .int .i64 (ded (L.take j)).length ∧ Fr Nothing w3 wr)
              case atStart => exact ⟨0, Nat.zero_le _, rfl, rfl, rfl, Fr.refl _ _⟩
              case round =>
                obtain ⟨j, hj, rfl, rfl, rfl, F⟩ := hrel
                by_cases hjl : j < l
                · have hjlI : (j : Int) < l := by omega
                  obtain ⟨cnt, hcnt⟩ : ∃ c, c = (ded (L.take j)).length := ⟨_, rfl⟩
                  have hcl : cnt ≤ 40 := by rw [hcnt]; refine Nat.le_trans (ded_len _) ?_; rw [List.length_take]; omega
                  rw [← hcnt]
                  obtain ⟨x, hx⟩ : ∃ x, x = L[j]'(by rw [HLN.out]; exact hjl) := ⟨_, rfl⟩
                  have hst : (ded (L.take (j + 1))).length = if x ∈ L.take j then cnt else cnt + 1 := by rw [hx, hcnt]; exact ded_succ _
                  obtain ⟨b, o, rfl, c0⟩ := HU.out.at_ (i := j) (by rw [HLN.out]; exact hjl)
                  rw [← hx] at c0
                  have c1 := cell_fr c0 (FB.trans' F) (fun h => h)
                  have HX := Lib.hid hx
                  have HST := Lib.hid hst
                  have HC1 : Hid (wr.cell? ⟨b, o + j, none⟩ = some (.int .u64 x)) := Lib.hid c1
                  clear hx hst hcnt c0 c1
                  go_wp2_with (fail)
                  go_loopg [14, 15] j (fun g vf vi wr => ∃ q : Nat, q ≤ j ∧ g = j - q ∧ vi = .int .i64 q ∧ vf = .bool (decide (x ∉ L.take q)) ∧ Hid (wr.cell? ⟨b, o + j, none⟩ = some (.int .u64 x)) ∧ Fr Nothing w3 wr)
                  case atStart => exact ⟨0, Nat.zero_le _, rfl, rfl, by simp, HC1, F⟩
                  case round =>
                    clear HC1 F
                    obtain ⟨q, hq, rfl, rfl, rfl, HC1, F⟩ := hrel
                    by_cases hqj : q < j
                    · have hqjI : (q : Int) < j := by omega
                      have hql : (q : Int) < l := by omega
                      obtain ⟨y, hy⟩ : ∃ y, y = L[q]'(by rw [HLN.out]; omega) := ⟨_, rfl⟩
                      obtain ⟨b2, o2, hb2, c0⟩ := HU.out.at_ (i := q) (by rw [HLN.out]; omega)
                      cases hb2
                      rw [← hy] at c0
                      have c2 := cell_fr c0 (FB.trans' F) (fun h => h)
                      have c1 := HC1.out
                      have hne : ((y : Int) != (x : Int)) = decide (y ≠ x) := by
                        rw [Bool.eq_iff_iff, bne_iff_ne, decide_eq_true_iff]; omega
                      have htk : decide (x ∉ L.take (q + 1)) = (decide (x ∉ L.take q) && decide (y ≠ x)) := by
                        have e : x ∈ L.take (q + 1) ↔ (x ∈ L.take q ∨ x = y) := by rw [List.take_succ_eq_append_getElem (by rw [HLN.out]; omega), List.mem_append, List.mem_singleton, hy]
                        rw [Bool.eq_iff_iff, Bool.and_eq_true, decide_eq_true_iff, decide_eq_true_iff, decide_eq_true_iff, e]
                        constructor
                        · intro h; exact ⟨fun hx => h (.inl hx), fun hx => h (.inr hx.symm)⟩
                        · rintro ⟨h1, h2⟩ (h | h)
                          · exact h1 h
                          · exact h2 h.symm
                      have HTK2 := Lib.hid htk
                      clear hy c0 htk
                      cases hf : decide (x ∉ L.take q) with
                      | true =>
                        have HF := Lib.hid hf
                        clear hf
                        go_wp2_with (fail)
                        go_quiet (fail)
                        go_wp2_with (fail)
                        go_roundg (j - (q + 1))
                        case measure => omega
                        case rel => exact ⟨q + 1, by omega, rfl, by go_num, by rw [HTK2.out, HF.out, Bool.true_and]; first | rw [hne] | (refine congrArg Value.bool ?_; rw [Bool.eq_iff_iff]; simp; done), HC1, F.trans' (Fr.drewN _ _ _)⟩
                      | false =>
                        have HF := Lib.hid hf
                        clear hf
                        go_wp2_with (fail)
                        go_quiet (fail)
                        go_wp2_with (fail)
                        go_roundg (j - (q + 1))
                        case measure => omega
                        case rel => exact ⟨q + 1, by omega, rfl, by go_num, by rw [HTK2.out, HF.out, Bool.false_and], HC1, F.trans' (Fr.drewN _ _ _)⟩
                    · obtain rfl : q = j := by omega
                      have hqj2 : ¬ ((q : Int) < q) := by omega
                      cases hf : decide (x ∉ L.take q) with
                      | true =>
                        have hf2 : x ∉ L.take q := of_decide_eq_true hf
                        have HST2 : Hid ((ded (L.take (q + 1))).length = cnt + 1) := Lib.hid (by rw [HST.out, if_neg hf2])
                        clear hf hf2
                        go_wp2_with (fail)
                        go_roundg (l - (q + 1))
                        case measure => omega
                        case rel => exact ⟨q + 1, by omega, rfl, by go_num, by rw [HST2.out]; go_num, F⟩
                      | false =>
                        have hf2 : x ∈ L.take q := by have := of_decide_eq_false hf; exact Decidable.not_not.1 this
                        have HST2 : Hid ((ded (L.take (q + 1))).length = cnt) := Lib.hid (by rw [HST.out, if_pos hf2])
                        clear hf hf2
                        go_wp2_with (fail)
                        go_roundg (l - (q + 1))
                        case measure => omega
                        case rel => exact ⟨q + 1, by omega, rfl, by go_num, by rw [HST2.out], F⟩
                · obtain rfl : j = l := by omega
                  have hdl : (ded (L.take j)).length = k := by
                    rw [List.take_of_length_le (by rw [HLN.out]; exact Nat.le_refl _), ← HDL.out]; exact HDm.out
                  rw [hdl]
                  clear hdl
                  go_wp2_with (go_at_call 15; refine (HAP.out _ F).mono ?_; rintro _ w9 ⟨rfl, F9⟩)
                  go_ret
                  exact ⟨rfl, ((FB.trans' F).trans' F9).fromN.belowB⟩
        · go_wp2_with (go_at_call 13; refine HDR.out.mono ?_; rintro _ w2 ⟨rfl, F2⟩; have co9 := co.quiet F2; clear co)
          have hkv := HKV.out
          subst hkv
          have HTK : Hid (Txt w2 ak (D.map tokB)) := Lib.hid (by rw [HDN.out]; exact txt_map co9.own.sl.2)
          obtain rfl : nl = m := by rw [← HNL.out, List.length_map, ← HDN.out]; exact HDm.out
          have FW := co9.fr
          clear co9 HNL
          obtain ⟨w1, hw1⟩ : ∃ w1, w1 = w2 := ⟨_, rfl⟩
          rw [← hw1] at HTK FW ⊢
          clear hw1
          go_wp2_with (fail)
          go_loopg [8, 9] nl (fun g vb vi wr => ∃ k : Nat, k ≤ nl ∧ g = nl - k ∧ vi = .int .i64 k ∧ CollE w1 22 1 vb k ((D.map uV).take k) wr)
          case atStart => exact ⟨0, Nat.zero_le _, rfl, rfl, CollE.start _ _ _⟩
          case round =>
            obtain ⟨k, hk, rfl, rfl, co⟩ := hrel
            by_cases hlt : k < nl
            · have hltI : (k : Int) < nl := by omega
              obtain ⟨x, hx⟩ : ∃ x, x = D[k]'(by rw [HDm.out]; exact hlt) := ⟨_, rfl⟩
              obtain ⟨b, o, rfl, c0⟩ := HTK.out.at_ (i := k) (by rw [List.length_map, HDm.out]; exact hlt)
              rw [List.getElem_map, ← hx] at c0
              have c1 := cell_fr c0 co.fr (fun h => h)
              have hx64 : x < 2 ^ 64 := by rw [hx]; exact HD64.out _ (List.getElem_mem _)
              have hrd := rdV_tok hx64
              have HRD : Hid (∀ W, Calls Try.prog 9 #[.string (tokB x)] W fun r w' => r = .returned (.tuple #[.int .u64 x, .bool true]) ∧ Fr Nothing W w') := Lib.hid fun W => by rw [← hrd]; exact tok_read _ W
              have HX := Lib.hid hx
              clear hx c0 hx64 hrd
              go_wp2_with (first
                | (go_at_call 9; refine (HRD.out _).mono ?_; rintro _ w2 ⟨rfl, F2⟩; have co2 := co.quiet F2; have hsl1 : Sl (w2.alloc (.cells #[Value.int .u64 x] 22)) (some ⟨w2.heap.size, 0, none⟩) [Value.int .u64 x] := Sl.ofRow (Row.allocNew w2 [Value.int .u64 x] 22); have own1 := (co2.quiet (Fr.alloc Nothing w2 (.cells #[Value.int .u64 x] 22))).own; clear co)
                | (at_builtin; go_must (refine wpList_append_fp rfl (.tmp 67) (.tmp 69) 28 rfl 22 i0 (.int .u64 0) 1 8 Try.underlying28 Hi.out Hz0.out Hz1.out Hz2.out rfl (by decide) _ _ _ rfl own1 _ 1 1 [Value.int .u64 x] rfl rfl (by simp) hsl1 (by simp [Value.oneCell']) (by unfold maxLen; omega) (by omega) ?_)))
              intro v7 w7 o7 f7 n7 s7 _
              have co7 := co2.more (Fr.alloc Nothing w2 (.cells #[Value.int .u64 x] 22)) o7 f7 n7
              clear co2 own1 hsl1 o7 f7 n7 s7
              go_wp2_with (fail)
              go_roundg (nl - (k + 1))
              case measure => omega
              case rel =>
                refine ⟨k + 1, by omega, rfl, by go_num, ?_⟩
                have e : (D.map uV).take (k + 1) = (D.map uV).take k ++ [Value.int .u64 x] := by
                  rw [List.take_succ_eq_append_getElem (by rw [List.length_map, HDm.out]; exact hlt), List.getElem_map, ← HX.out]
                rw [e]
                exact co7
            · obtain rfl : k = nl := by omega
              have hDk : (D.map uV).take k = D.map uV := List.take_of_length_le (by rw [List.length_map, HDm.out]; exact Nat.le_refl _)
              rw [hDk] at co
              obtain ⟨ab, cb, hvb, _, _⟩ := co.own.shape
              subst hvb
              have HB : Hid (Us wr ab D) := Lib.hid co.own.sl.2
              have FB := FW.trans' co.fr
              obtain ⟨w3, hw3⟩ : ∃ w3, w3 = wr := ⟨_, rfl⟩
              rw [← hw3] at HB FB ⊢
              have HAP : Hid (∀ W, Fr Nothing w3 W → Calls Try.prog 15 #[.slice ab k cb] W fun r w' => r = .returned (.bool true) ∧ Fr Nothing W w') := Lib.hid fun W F => by
                have := apart_u D (by rw [HDm.out]; omega) ab cb W (HB.out.fr F (fun _ _ h => h))
                rw [HDm.out, decide_eq_true HDnd.out] at this
                exact this
              clear hw3 co hDk
              go_wp2_with (fail)
              go_loopg [12, 13] l (fun g vd vi wr => ∃ j : Nat, j ≤ l ∧ g = l - j ∧ vi = .int .i64 j ∧ vd = .int .i64 (ded (L.take j)).length ∧ Fr Nothing w3 wr)
              case atStart => exact ⟨0, Nat.zero_le _, rfl, rfl, rfl, Fr.refl _ _⟩
              case round =>
                obtain ⟨j, hj, rfl, rfl, rfl, F⟩ := hrel
                by_cases hjl : j < l
                · have hjlI : (j : Int) < l := by omega
                  obtain ⟨cnt, hcnt⟩ : ∃ c, c = (ded (L.take j)).length := ⟨_, rfl⟩
                  have hcl : cnt ≤ 40 := by rw [hcnt]; refine Nat.le_trans (ded_len _) ?_; rw [List.length_take]; omega
                  rw [← hcnt]
                  obtain ⟨x, hx⟩ : ∃ x, x = L[j]'(by rw [HLN.out]; exact hjl) := ⟨_, rfl⟩
                  have hst : (ded (L.take (j + 1))).length = if x ∈ L.take j then cnt else cnt + 1 := by rw [hx, hcnt]; exact ded_succ _
                  obtain ⟨b, o, rfl, c0⟩ := HU.out.at_ (i := j) (by rw [HLN.out]; exact hjl)
                  rw [← hx] at c0
                  have c1 := cell_fr c0 (FB.trans' F) (fun h => h)
                  have HX := Lib.hid hx
                  have HST := Lib.hid hst
                  have HC1 : Hid (wr.cell? ⟨b, o + j, none⟩ = some (.int .u64 x)) := Lib.hid c1
                  clear hx hst hcnt c0 c1
                  go_wp2_with (fail)
                  go_loopg [14, 15] j (fun g vf vi wr => ∃ q : Nat, q ≤ j ∧ g = j - q ∧ vi = .int .i64 q ∧ vf = .bool (decide (x ∉ L.take q)) ∧ Hid (wr.cell? ⟨b, o + j, none⟩ = some (.int .u64 x)) ∧ Fr Nothing w3 wr)
                  case atStart => exact ⟨0, Nat.zero_le _, rfl, rfl, by simp, HC1, F⟩
                  case round =>
                    clear HC1 F
                    obtain ⟨q, hq, rfl, rfl, rfl, HC1, F⟩ := hrel
                    by_cases hqj : q < j
                    · have hqjI : (q : Int) < j := by omega
                      have hql : (q : Int) < l := by omega
                      obtain ⟨y, hy⟩ : ∃ y, y = L[q]'(by rw [HLN.out]; omega) := ⟨_, rfl⟩
                      obtain ⟨b2, o2, hb2, c0⟩ := HU.out.at_ (i := q) (by rw [HLN.out]; omega)
                      cases hb2
                      rw [← hy] at c0
                      have c2 := cell_fr c0 (FB.trans' F) (fun h => h)
                      have c1 := HC1.out
                      have hne : ((y : Int) != (x : Int)) = decide (y ≠ x) := by
                        rw [Bool.eq_iff_iff, bne_iff_ne, decide_eq_true_iff]; omega
                      have htk : decide (x ∉ L.take (q + 1)) = (decide (x ∉ L.take q) && decide (y ≠ x)) := by
                        have e : x ∈ L.take (q + 1) ↔ (x ∈ L.take q ∨ x = y) := by rw [List.take_succ_eq_append_getElem (by rw [HLN.out]; omega), List.mem_append, List.mem_singleton, hy]
                        rw [Bool.eq_iff_iff, Bool.and_eq_true, decide_eq_true_iff, decide_eq_true_iff, decide_eq_true_iff, e]
                        constructor
                        · intro h; exact ⟨fun hx => h (.inl hx), fun hx => h (.inr hx.symm)⟩
                        · rintro ⟨h1, h2⟩ (h | h)
                          · exact h1 h
                          · exact h2 h.symm
                      have HTK2 := Lib.hid htk
                      clear hy c0 htk
                      cases hf : decide (x ∉ L.take q) with
                      | true =>
                        have HF := Lib.hid hf
                        clear hf
                        go_wp2_with (fail)
                        go_quiet (fail)
                        go_wp2_with (fail)
                        go_roundg (j - (q + 1))
                        case measure => omega
                        case rel => exact ⟨q + 1, by omega, rfl, by go_num, by rw [HTK2.out, HF.out, Bool.true_and]; first | rw [hne] | (refine congrArg Value.bool ?_; rw [Bool.eq_iff_iff]; simp; done), HC1, F.trans' (Fr.drewN _ _ _)⟩
                      | false =>
                        have HF := Lib.hid hf
                        clear hf
                        go_wp2_with (fail)
                        go_quiet (fail)
                        go_wp2_with (fail)
                        go_roundg (j - (q + 1))
                        case measure => omega
                        case rel => exact ⟨q + 1, by omega, rfl, by go_num, by rw [HTK2.out, HF.out, Bool.false_and], HC1, F.trans' (Fr.drewN _ _ _)⟩
                    · obtain rfl : q = j := by omega
                      have hqj2 : ¬ ((q : Int) < q) := by omega
                      cases hf : decide (x ∉ L.take q) with
                      | true =>
                        have hf2 : x ∉ L.take q := of_decide_eq_true hf
                        have HST2 : Hid ((ded (L.take (q + 1))).length = cnt + 1) := Lib.hid (by rw [HST.out, if_neg hf2])
                        clear hf hf2
                        go_wp2_with (fail)
                        go_roundg (l - (q + 1))
                        case measure => omega
                        case rel => exact ⟨q + 1, by omega, rfl, by go_num, by rw [HST2.out]; go_num, F⟩
                      | false =>
                        have hf2 : x ∈ L.take q := by have := of_decide_eq_false hf; exact Decidable.not_not.1 this
                        have HST2 : Hid ((ded (L.take (q + 1))).length = cnt) := Lib.hid (by rw [HST.out, if_pos hf2])
                        clear hf hf2
                        go_wp2_with (fail)
                        go_roundg (l - (q + 1))
                        case measure => omega
                        case rel => exact ⟨q + 1, by omega, rfl, by go_num, by rw [HST2.out], F⟩
                · obtain rfl : j = l := by omega
                  have hdl : (ded (L.take j)).length = k := by
                    rw [List.take_of_length_le (by rw [HLN.out]; exact Nat.le_refl _), ← HDL.out]; exact HDm.out
                  rw [hdl]
                  clear hdl
                  go_wp2_with (go_at_call 15; refine (HAP.out _ F).mono ?_; rintro _ w9 ⟨rfl, F9⟩)
                  go_ret
                  exact ⟨rfl, ((FB.trans' F).trans' F9).fromN.belowB⟩
    · obtain rfl : q = 0 := by omega
      have HDN : Hid (D = N) := Lib.hid (by
        have h := HFD.out
        rw [List.eq_nil_of_length_eq_zero HRQ.out] at h
        exact h.symm)
      clear HFD HF0
      go_wp2_with (fail)
      have co9 := co
      clear co
      have hkv := HKV.out
      subst hkv
      have HTK : Hid (Txt wr ak (D.map tokB)) := Lib.hid (by rw [HDN.out]; exact txt_map co9.own.sl.2)
      obtain rfl : nl = m := by rw [← HNL.out, List.length_map, ← HDN.out]; exact HDm.out
      have FW := co9.fr
      clear co9 HNL
      obtain ⟨w1, hw1⟩ : ∃ w1, w1 = wr := ⟨_, rfl⟩
      rw [← hw1] at HTK FW ⊢
      clear hw1
      go_wp2_with (fail)
      go_loopg [8, 9] nl (fun g vb vi wr => ∃ k : Nat, k ≤ nl ∧ g = nl - k ∧ vi = .int .i64 k ∧ CollE w1 22 1 vb k ((D.map uV).take k) wr)
      case atStart => exact ⟨0, Nat.zero_le _, rfl, rfl, CollE.start _ _ _⟩
      case round =>
        obtain ⟨k, hk, rfl, rfl, co⟩ := hrel
        by_cases hlt : k < nl
        · have hltI : (k : Int) < nl := by omega
          obtain ⟨x, hx⟩ : ∃ x, x = D[k]'(by rw [HDm.out]; exact hlt) := ⟨_, rfl⟩
          obtain ⟨b, o, rfl, c0⟩ := HTK.out.at_ (i := k) (by rw [List.length_map, HDm.out]; exact hlt)
          rw [List.getElem_map, ← hx] at c0
          have c1 := cell_fr c0 co.fr (fun h => h)
          have hx64 : x < 2 ^ 64 := by rw [hx]; exact HD64.out _ (List.getElem_mem _)
          have hrd := rdV_tok hx64
          have HRD : Hid (∀ W, Calls Try.prog 9 #[.string (tokB x)] W fun r w' => r = .returned (.tuple #[.int .u64 x, .bool true]) ∧ Fr Nothing W w') := Lib.hid fun W => by rw [← hrd]; exact tok_read _ W
          have HX := Lib.hid hx
          clear hx c0 hx64 hrd
          go_wp2_with (first
            | (go_at_call 9; refine (HRD.out _).mono ?_; rintro _ w2 ⟨rfl, F2⟩; have co2 := co.quiet F2; have hsl1 : Sl (w2.alloc (.cells #[Value.int .u64 x] 22)) (some ⟨w2.heap.size, 0, none⟩) [Value.int .u64 x] := Sl.ofRow (Row.allocNew w2 [Value.int .u64 x] 22); have own1 := (co2.quiet (Fr.alloc Nothing w2 (.cells #[Value.int .u64 x] 22))).own; clear co)
            | (at_builtin; go_must (refine wpList_append_fp rfl (.tmp 67) (.tmp 69) 28 rfl 22 i0 (.int .u64 0) 1 8 Try.underlying28 Hi.out Hz0.out Hz1.out Hz2.out rfl (by decide) _ _ _ rfl own1 _ 1 1 [Value.int .u64 x] rfl rfl (by simp) hsl1 (by simp [Value.oneCell']) (by unfold maxLen; omega) (by omega) ?_)))
          intro v7 w7 o7 f7 n7 s7 _
          have co7 := co2.more (Fr.alloc Nothing w2 (.cells #[Value.int .u64 x] 22)) o7 f7 n7
          clear co2 own1 hsl1 o7 f7 n7 s7
          go_wp2_with (fail)
          go_roundg (nl - (k + 1))
          case measure => omega
          case rel =>
            refine ⟨k + 1, by omega, rfl, by go_num, ?_⟩
            have e : (D.map uV).take (k + 1) = (D.map uV).take k ++ [Value.int .u64 x] := by
              rw [List.take_succ_eq_append_getElem (by rw [List.length_map, HDm.out]; exact hlt), List.getElem_map, ← HX.out]
            rw [e]
            exact co7
        · obtain rfl : k = nl := by omega
          have hDk : (D.map uV).take k = D.map uV := List.take_of_length_le (by rw [List.length_map, HDm.out]; exact Nat.le_refl _)
          rw [hDk] at co
          obtain ⟨ab, cb, hvb, _, _⟩ := co.own.shape
          subst hvb
          have HB : Hid (Us wr ab D) := Lib.hid co.own.sl.2
          have FB := FW.trans' co.fr
          obtain ⟨w3, hw3⟩ : ∃ w3, w3 = wr := ⟨_, rfl⟩
          rw [← hw3] at HB FB ⊢
          have HAP : Hid (∀ W, Fr Nothing w3 W → Calls Try.prog 15 #[.slice ab k cb] W fun r w' => r = .returned (.bool true) ∧ Fr Nothing W w') := Lib.hid fun W F => by
            have := apart_u D (by rw [HDm.out]; omega) ab cb W (HB.out.fr F (fun _ _ h => h))
            rw [HDm.out, decide_eq_true HDnd.out] at this
            exact this
          clear hw3 co hDk
          go_wp2_with (fail)
          go_loopg [12, 13] l (fun g vd vi wr => ∃ j : Nat, j ≤ l ∧ g = l - j ∧ vi = .int .i64 j ∧ vd = .int .i64 (ded (L.take j)).length ∧ Fr Nothing w3 wr)
          case atStart => exact ⟨0, Nat.zero_le _, rfl, rfl, rfl, Fr.refl _ _⟩
          case round =>
            obtain ⟨j, hj, rfl, rfl, rfl, F⟩ := hrel
            by_cases hjl : j < l
            · have hjlI : (j : Int) < l := by omega
              obtain ⟨cnt, hcnt⟩ : ∃ c, c = (ded (L.take j)).length := ⟨_, rfl⟩
              have hcl : cnt ≤ 40 := by rw [hcnt]; refine Nat.le_trans (ded_len _) ?_; rw [List.length_take]; omega
              rw [← hcnt]
              obtain ⟨x, hx⟩ : ∃ x, x = L[j]'(by rw [HLN.out]; exact hjl) := ⟨_, rfl⟩
              have hst : (ded (L.take (j + 1))).length = if x ∈ L.take j then cnt else cnt + 1 := by rw [hx, hcnt]; exact ded_succ _
              obtain ⟨b, o, rfl, c0⟩ := HU.out.at_ (i := j) (by rw [HLN.out]; exact hjl)
              rw [← hx] at c0
              have c1 := cell_fr c0 (FB.trans' F) (fun h => h)
              have HX := Lib.hid hx
              have HST := Lib.hid hst
              have HC1 : Hid (wr.cell? ⟨b, o + j, none⟩ = some (.int .u64 x)) := Lib.hid c1
              clear hx hst hcnt c0 c1
              go_wp2_with (fail)
              go_loopg [14, 15] j (fun g vf vi wr => ∃ q : Nat, q ≤ j ∧ g = j - q ∧ vi = .int .i64 q ∧ vf = .bool (decide (x ∉ L.take q)) ∧ Hid (wr.cell? ⟨b, o + j, none⟩ = some (.int .u64 x)) ∧ Fr Nothing w3 wr)
              case atStart => exact ⟨0, Nat.zero_le _, rfl, rfl, by simp, HC1, F⟩
              case round =>
                clear HC1 F
                obtain ⟨q, hq, rfl, rfl, rfl, HC1, F⟩ := hrel
                by_cases hqj : q < j
                · have hqjI : (q : Int) < j := by omega
                  have hql : (q : Int) < l := by omega
                  obtain ⟨y, hy⟩ : ∃ y, y = L[q]'(by rw [HLN.out]; omega) := ⟨_, rfl⟩
                  obtain ⟨b2, o2, hb2, c0⟩ := HU.out.at_ (i := q) (by rw [HLN.out]; omega)
                  cases hb2
                  rw [← hy] at c0
                  have c2 := cell_fr c0 (FB.trans' F) (fun h => h)
                  have c1 := HC1.out
                  have hne : ((y : Int) != (x : Int)) = decide (y ≠ x) := by
                    rw [Bool.eq_iff_iff, bne_iff_ne, decide_eq_true_iff]; omega
                  have htk : decide (x ∉ L.take (q + 1)) = (decide (x ∉ L.take q) && decide (y ≠ x)) := by
                    have e : x ∈ L.take (q + 1) ↔ (x ∈ L.take q ∨ x = y) := by rw [List.take_succ_eq_append_getElem (by rw [HLN.out]; omega), List.mem_append, List.mem_singleton, hy]
                    rw [Bool.eq_iff_iff, Bool.and_eq_true, decide_eq_true_iff, decide_eq_true_iff, decide_eq_true_iff, e]
                    constructor
                    · intro h; exact ⟨fun hx => h (.inl hx), fun hx => h (.inr hx.symm)⟩
                    · rintro ⟨h1, h2⟩ (h | h)
                      · exact h1 h
                      · exact h2 h.symm
                  have HTK2 := Lib.hid htk
                  clear hy c0 htk
                  cases hf : decide (x ∉ L.take q) with
                  | true =>
                    have HF := Lib.hid hf
                    clear hf
                    go_wp2_with (fail)
                    go_quiet (fail)
                    go_wp2_with (fail)
                    go_roundg (j - (q + 1))
                    case measure => omega
                    case rel => exact ⟨q + 1, by omega, rfl, by go_num, by rw [HTK2.out, HF.out, Bool.true_and]; first | rw [hne] | (refine congrArg Value.bool ?_; rw [Bool.eq_iff_iff]; simp; done), HC1, F.trans' (Fr.drewN _ _ _)⟩
                  | false =>
                    have HF := Lib.hid hf
                    clear hf
                    go_wp2_with (fail)
                    go_quiet (fail)
                    go_wp2_with (fail)
                    go_roundg (j - (q + 1))
                    case measure => omega
                    case rel => exact ⟨q + 1, by omega, rfl, by go_num, by rw [HTK2.out, HF.out, Bool.false_and], HC1, F.trans' (Fr.drewN _ _ _)⟩
                · obtain rfl : q = j := by omega
                  have hqj2 : ¬ ((q : Int) < q) := by omega
                  cases hf : decide (x ∉ L.take q) with
                  | true =>
                    have hf2 : x ∉ L.take q := of_decide_eq_true hf
                    have HST2 : Hid ((ded (L.take (q + 1))).length = cnt + 1) := Lib.hid (by rw [HST.out, if_neg hf2])
                    clear hf hf2
                    go_wp2_with (fail)
                    go_roundg (l - (q + 1))
                    case measure => omega
                    case rel => exact ⟨q + 1, by omega, rfl, by go_num, by rw [HST2.out]; go_num, F⟩
                  | false =>
                    have hf2 : x ∈ L.take q := by have := of_decide_eq_false hf; exact Decidable.not_not.1 this
                    have HST2 : Hid ((ded (L.take (q + 1))).length = cnt) := Lib.hid (by rw [HST.out, if_pos hf2])
                    clear hf hf2
                    go_wp2_with (fail)
                    go_roundg (l - (q + 1))
                    case measure => omega
                    case rel => exact ⟨q + 1, by omega, rfl, by go_num, by rw [HST2.out], F⟩
            · obtain rfl : j = l := by omega
              have hdl : (ded (L.take j)).length = k := by
                rw [List.take_of_length_le (by rw [HLN.out]; exact Nat.le_refl _), ← HDL.out]; exact HDm.out
              rw [hdl]
              clear hdl
              go_wp2_with (go_at_call 15; refine (HAP.out _ F).mono ?_; rintro _ w9 ⟨rfl, F9⟩)
              go_ret
              exact ⟨rfl, ((FB.trans' F).trans' F9).fromN.belowB⟩
end Go.Proofs.Ytajpicbaoicpfaa
