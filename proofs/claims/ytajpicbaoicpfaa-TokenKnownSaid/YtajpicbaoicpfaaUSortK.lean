/- The library's sort at uint64: slices.Sort, slices.Sorted over slices.Values; whether no number is there twice. Condition: at most 1000 numbers. -/
import Derived.Test.YtajpicbaoicpfaaUSortJ
import Derived.Test.YtajpicbaoicpfaaTokLives
namespace Go.Proofs.Ytajpicbaoicpfaa
open Go.RowKit Go.Sort

set_option maxHeartbeats 1000000 in
set_option maxRecDepth 100000 in
theorem u_sort (g c : Nat) (rest : List Value) (d : Array Int) (w : World) (h : UA w g rest d) (hd : (d.size : Int) ≤ 1000) :
    Calls Try.prog 29 #[.slice (some ⟨g, 0, none⟩) d.size c] w fun e w' => e = .returned (.tuple #[]) ∧ UA w' g rest (Sort.sort ltInt d) ∧ Fr (fun q => q = g) w w' := by
  obtain ⟨n, hn⟩ : ∃ n, n = d.size := ⟨_, rfl⟩
  have hlen : Lib.bitLen (n : Int).toNat = bitsLen n := by rw [Int.toNat_natCast, bits_len_eq _ (by omega)]
  have hk : bitsLen n ≤ 10 := (bitsLen_le_iff n 10).2 (by omega)
  have HC := Lib.hid (u_pdq (n + 1) g c n 0 n (bitsLen n) rest d w (by omega) h (by omega) (Nat.le_refl _) hn.symm (by omega) (by omega) (.inl rfl))
  have HB := Lib.hid (Try.bits_Len (n : Int) w (by omega) (by omega))
  rw [hlen] at HB
  have hS : pdq ltInt d 0 n (bitsLen n) true true = Sort.sort ltInt d := by rw [hn]; rfl
  rw [hS] at HC
  rw [← hn]
  have hn1 : (n : Int) ≤ 1000 := by omega
  clear hS hlen hn hd h
  go_enter Try.func29, Try.ntmps29
  go_wp2_with (first
    | (go_at_call 34; refine HB.out.mono ?_; rintro e w1 ⟨rfl, rfl⟩)
    | (go_at_call 33; refine HC.out.mono ?_; rintro e w2 ⟨rfl, hS⟩))
  go_end0
  exact ⟨rfl, hS.1, hS.2⟩
theorem owns_ua {W : World} {base n : Nat} {v : Value} {zs : List Int} (h : W.ownsRow base 22 1 v n (zs.map (Value.int .u64))) (hne : 0 < n) :
    ∃ g cap rest, v = .slice (some ⟨g, 0, none⟩) n cap ∧ base ≤ g ∧ n ≤ cap ∧ cap ≤ maxLen ∧ UA W g rest zs.toArray := by
  obtain ⟨hl, ⟨_, h0⟩ | ⟨g, cap, cur, rfl, hg, hh, hc, hm, hs, ht⟩⟩ := h
  · omega
  · refine ⟨g, cap, cur.toList.drop (n * 1), rfl, hg, hc, hm, ?_⟩
    show W.heap[g]? = _
    rw [hh]
    congr 2
    apply Array.toList_inj.1
    show cur.toList = zs.map (Value.int .u64) ++ cur.toList.drop (n * 1)
    rw [← ht, List.take_append_drop]
theorem UA.holds {w : World} {g : Nat} {rest : List Value} {d : Array Int} (h : UA w g rest d) : Holds (Value.int .u64) w g 0 d := fun j hj => by
  rw [Nat.zero_add]; exact ⟨h.cell hj, h.free j⟩
theorem fr_putRow (w : World) (g o q : Nat) (d : Array Int) : Fr (fun k => k = g) w (putRow (Value.int .u64) (Sort.ahead w q) g o d) :=
  ⟨rfl, rfl, rfl, by simp [putRow, mapBlock, Sort.ahead], fun k _ hn => by
    show (putRow (Value.int .u64) (Sort.ahead w q) g o d).heap[k]? = _
    simp [putRow, mapBlock, Sort.ahead, Array.getElem?_modify, Ne.symm hn]⟩
theorem sorted_u (zs : List Nat) (hne : 0 < zs.length) (h1000 : zs.length ≤ 1000) (Bs : Nat) (a : Option Addr) (c : Nat) (w : World) (hBs : Bs < w.heap.size) (hc : w.cell? ⟨Bs, 0, none⟩ = some (.slice a zs.length c)) (hI : Us w a zs) :
    Calls Try.prog 22 #[.func (.func 30) #[] #[.pointer (some ⟨Bs, 0, none⟩)]] w fun e w' =>
      ∃ g cap rest, e = .returned (.slice (some ⟨g, 0, none⟩) zs.length cap) ∧ w.heap.size ≤ g ∧ UA w' g rest (Sort.sort ltInt (zs.map fun n : Nat => (n : Int)).toArray) ∧ Fr Nothing w w' := by
  have hmap : zs.map uV = (zs.map fun n : Nat => (n : Int)).map (Value.int .u64) := by rw [List.map_map]; rfl
  have hsz : (zs.map fun n : Nat => (n : Int)).toArray.size = zs.length := by simp
  have HCU := Lib.hid (collect_u zs Bs a c w (by omega) hBs hc hI)
  rw [hmap] at HCU
  have HMP := Lib.hid hsz
  clear hmap hsz
  go_enter Try.func22, Try.ntmps22
  go_wp2_with (go_at_call 28; refine HCU.out.mono ?_; rintro e w1 ⟨v, rfl, h1, h3, h2⟩; obtain ⟨g, cap, rest, rfl, hg, hc1, hc2, hU⟩ := owns_ua h1 hne)
  have HC := Lib.hid (u_sort g cap rest _ w1 hU (by rw [HMP.out]; omega))
  rw [HMP.out] at HC
  go_wp2_with (go_at_call 29; refine HC.out.mono ?_; rintro e w2 ⟨rfl, hU2, hF2⟩)
  go_ret
  refine ⟨g, cap, rest, rfl, hg, hU2, ?_⟩
  have F1 : Fr Nothing w w1 := (Fr.of_below h2).mono (fun k hk h => by omega)
  exact F1.trans hF2 (fun k hk e => by omega)
/-- What is sorted: of as many, whether two beside each other are like says whether two are. -/
theorem compact_len (zs : List Int) : decide ((Lib.compactUpTo (Sort.sort ltInt zs.toArray) zs.length).length = zs.length) = decide zs.Nodup := by
  have hP := sortInt zs
  have hS := (sort_sorts ltInt swo_ltInt zs.toArray).2
  have hz : (Sort.sort ltInt zs.toArray).size = zs.length := by
    have := (sort_sorts ltInt swo_ltInt zs.toArray).1.1; simpa using this
  obtain ⟨D, hD⟩ : ∃ D, D = Sort.sort ltInt zs.toArray := ⟨_, rfl⟩
  rw [← hD] at hP hS hz ⊢
  have hN : zs.Nodup ↔ D.toList.Nodup := by rw [hP]; exact (List.mergeSort_perm zs _).nodup_iff.symm
  have hL : (Lib.compactUpTo D zs.length).length = zs.length ↔ ∀ j, j < zs.length → Lib.keeps D j = true := by
    unfold Lib.compactUpTo
    rw [List.length_map]
    conv => lhs; rhs; rw [← List.length_range (n := zs.length)]
    rw [List.length_filter_eq_length_iff]
    constructor
    · exact fun h j hj => h j (List.mem_range.2 hj)
    · exact fun h j hj => h j (List.mem_range.1 hj)
  have hK : (∀ j, j < zs.length → Lib.keeps D j = true) ↔ D.toList.Nodup := by
    unfold List.Nodup
    rw [List.pairwise_iff_getElem]
    have hle : ∀ i j, i < j → j < zs.length → D[i]! ≤ D[j]! := fun i j hi hj => by
      have := hS i j (Nat.zero_le _) hi (by simpa using hj)
      unfold ltInt at this
      have := of_decide_eq_false this
      omega
    constructor
    · intro hk i j hi hj hij e
      have hj' : j < zs.length := by rw [← hz]; simpa using hj
      have k1 := hk j hj'
      unfold Lib.keeps at k1
      have k2 := (of_decide_eq_true k1).resolve_left (by omega)
      have l1 : D[i]! ≤ D[j - 1]! := by
        by_cases hx : i = j - 1
        · rw [hx]; exact Int.le_refl _
        · exact hle i (j - 1) (by omega) (by omega)
      have l2 := hle (j - 1) j (by omega) hj'
      have e2 : D[i]! = D[j]! := by
        rw [getElem!_pos D i (by rw [hz]; omega), getElem!_pos D j (by rw [hz]; omega)]; simpa using e
      omega
    · intro h j hj
      unfold Lib.keeps
      apply decide_eq_true
      by_cases h0 : j = 0
      · exact .inl h0
      · refine .inr fun e => h (j - 1) j (by simp; omega) (by simp; omega) (by omega) ?_
        rw [getElem!_pos D j (by omega), getElem!_pos D (j - 1) (by omega)] at e
        simpa using e.symm
  rw [decide_eq_decide, hL, hK, hN]
theorem sorted_e (Bs : Nat) (a : Option Addr) (c : Nat) (w : World) (hBs : Bs < w.heap.size) (hc : w.cell? ⟨Bs, 0, none⟩ = some (.slice a 0 c)) :
    Calls Try.prog 22 #[.func (.func 30) #[] #[.pointer (some ⟨Bs, 0, none⟩)]] w fun e w' => e = .returned (.slice none 0 0) ∧ Fr Nothing w w' := by
  go_enter Try.func22, Try.ntmps22
  go_wp2_with (first
    | (go_at_call 28; refine (collect_u [] Bs a c _ (by simp) hBs hc (Sl.nil _ _)).mono ?_; rintro e w1 ⟨v, rfl, h1, h3, h2⟩; obtain rfl := h3.2 rfl)
    | (go_at_call 29; refine (sort_nil _ _ _).mono ?_; rintro e w2 ⟨rfl, rfl⟩))
  go_ret
  exact ⟨rfl, (Fr.of_below h2).mono (fun k hk h => by omega)⟩
theorem clone_u (g c : Nat) (rest : List Value) (zs : List Int) (w : World) (h : UA w g rest zs.toArray) (hd : zs.length ≤ 1000) :
    Calls Try.prog 25 #[.slice (some ⟨g, 0, none⟩) zs.length c] w fun e w' => ∃ v', e = .returned v' ∧ w'.ownsRow w.heap.size 22 1 v' zs.length (zs.map (Value.int .u64)) ∧ v' ≠ .slice none 0 0 ∧ Below w.heap.size w w' := by
  have hi := Try.infoU
  cases h0 : Try.prog.info? 22 with
  | none => rw [h0] at hi; simp at hi
  | some i0 =>
    rw [h0] at hi
    simp only [Option.map_some, Option.some.injEq, Prod.mk.injEq] at hi
    refine Try.slices_Clone i0 (.int .u64 0) 1 8 h0 hi.1 hi.2.1 hi.2.2 rfl (by decide) (fun _ => rfl) g 0 zs.length c (zs.map (Value.int .u64)) w (by simp) (by unfold maxLen; omega) (by omega) ?_ (by intro u hu; obtain ⟨x, _, rfl⟩ := List.mem_map.1 hu; rfl)
    intro j u hu
    have hj : j < zs.length := by
      by_cases hj : j < zs.length
      · exact hj
      · rw [List.getElem?_eq_none (by simpa using hj)] at hu; cases hu
    have hc := h.cell (i := j) (by simpa using hj)
    rw [Nat.zero_add, hc]
    rw [List.getElem?_map, List.getElem?_eq_getElem hj] at hu
    simp only [Option.map_some, Option.some.injEq] at hu
    rw [← hu, getElem!_pos zs.toArray j (by simpa using hj)]
    simp
theorem compact_u (g c : Nat) (rest : List Value) (zs : List Int) (w : World) (h : UA w g rest zs.toArray) (hd : zs.length ≤ 1000) (hc : zs.length ≤ c) :
    Calls Try.prog 24 #[.slice (some ⟨g, 0, none⟩) zs.length c] w fun e w' => e = .returned (.slice (some ⟨g, 0, none⟩) (Lib.compactUpTo zs.toArray zs.length).length c) ∧ Fr (fun q => q = g) w w' := by
  have := Try.slices_Compact (Value.int .u64) (fun _ => rfl) (EqlAt.int _ _ _) (NeqAt.int _ _ _) 0 (fun _ => rfl) g 0 c zs.toArray w h.holds (by simp; omega) (by simpa using hc)
  refine Calls.mono (by simpa using this) ?_
  rintro e w' ⟨rfl, q, rfl⟩
  exact ⟨rfl, fr_putRow _ _ _ _ _⟩
set_option maxHeartbeats 2000000 in
set_option maxRecDepth 100000 in
theorem apart_u (zs : List Nat) (h1000 : zs.length ≤ 1000) (a : Option Addr) (c : Nat) (w : World) (hI : Us w a zs) :
    Calls Try.prog 15 #[.slice a zs.length c] w fun e w' => e = .returned (.bool (decide zs.Nodup)) ∧ Fr Nothing w w' := by
  by_cases h0 : zs = []
  · subst h0
    have F0 := Fr.alloc Nothing w (.cells #[.slice a 0 c] 28)
    go_enter Try.func15, Try.ntmps15
    go_wp2_with (first
      | (go_at_call 23; refine (vals_make _ _ _ _).mono ?_; rintro e w1 ⟨rfl, rfl⟩)
      | (go_at_call 22; refine (sorted_e w.heap.size a c _ (by simp) ((Row.allocNew w [.slice a 0 c] 28).cell 0 rfl)).mono ?_; rintro e w2 ⟨rfl, F1⟩)
      | (go_at_call 25; refine (clone_nil _).mono ?_; rintro e w3 ⟨rfl, rfl⟩)
      | (go_at_call 24; refine (compact_nil _).mono ?_; rintro e w4 ⟨rfl, rfl⟩))
    go_ret
    exact ⟨by simp, F0.trans' F1⟩
  · have hne : 0 < zs.length := List.length_pos_iff.2 h0
    obtain ⟨n, hn⟩ : ∃ n, n = zs.length := ⟨_, rfl⟩
    obtain ⟨S, hS⟩ : ∃ S : List Int, S = (Sort.sort ltInt (zs.map fun n : Nat => (n : Int)).toArray).toList := ⟨_, rfl⟩
    have hSn : S.length = n := by
      have := (sort_sorts ltInt swo_ltInt (zs.map fun n : Nat => (n : Int)).toArray).1.1
      rw [hS, Array.length_toList, this, hn]; simp
    have hSa : S.toArray = Sort.sort ltInt (zs.map fun n : Nat => (n : Int)).toArray := by rw [hS]
    have hcl := compact_len (zs.map fun n : Nat => (n : Int))
    rw [← hSa, List.length_map, ← hn] at hcl
    have hnd : (zs.map fun n : Nat => (n : Int)).Nodup ↔ zs.Nodup := by
      unfold List.Nodup
      rw [List.pairwise_map]
      constructor
      · exact fun h => h.imp fun h e => h (by rw [e])
      · exact fun h => h.imp fun h e => h (by omega)
    rw [decide_eq_decide.2 hnd] at hcl
    have F0 := Fr.alloc Nothing w (.cells #[.slice a zs.length c] 28)
    have HSO := Lib.hid (sorted_u zs hne h1000 w.heap.size a c (w.alloc (.cells #[.slice a zs.length c] 28)) (by simp) ((Row.allocNew w [.slice a zs.length c] 28).cell 0 rfl) (Sl.fr hI F0 (fun _ _ h => h)))
    rw [← hSa, ← hn] at HSO
    rw [← hn] at h1000 hne F0 ⊢
    rw [← hcl]
    have HSN := Lib.hid hSn
    clear hcl hnd hSa hS hn hI
    go_enter Try.func15, Try.ntmps15
    go_wp2_with (first
      | (go_at_call 23; refine (vals_make _ _ _ _).mono ?_; rintro e w1 ⟨rfl, rfl⟩)
      | (go_at_call 22; refine HSO.out.mono ?_; rintro e w2 ⟨g, cap, rest, rfl, hg, hU, F1⟩))
    have HC := Lib.hid (clone_u g cap rest S w2 hU (by rw [HSN.out]; exact h1000))
    rw [HSN.out] at HC
    go_wp2_with (go_at_call 25; refine HC.out.mono ?_; rintro e w3 ⟨v, rfl, h1, hv, h2⟩; obtain ⟨g2, cap2, rest2, rfl, hg2, hc1, hc2, hU2⟩ := owns_ua h1 hne)
    have HK := Lib.hid (compact_u g2 cap2 rest2 S w3 hU2 (by rw [HSN.out]; exact h1000) (by rw [HSN.out]; exact hc1))
    rw [HSN.out] at HK
    go_wp2_with (go_at_call 24; refine HK.out.mono ?_; rintro e w4 ⟨rfl, F4⟩)
    go_ret
    have F2 : Fr Nothing w2 w3 := (Fr.of_below h2).mono (fun k hk h => by omega)
    refine ⟨?_, ((F0.trans' F1).trans' F2).trans F4 (fun k hk e => ?_)⟩
    · refine congrArg Ending.returned ?_
      show Value.bool _ = Value.bool _
      refine congrArg Value.bool ?_
      rw [Bool.eq_iff_iff]
      simp
      omega
    · have := ((F0.trans' F1).trans' F2).size
      have := (F0.trans' F1).size
      omega
end Go.Proofs.Ytajpicbaoicpfaa
