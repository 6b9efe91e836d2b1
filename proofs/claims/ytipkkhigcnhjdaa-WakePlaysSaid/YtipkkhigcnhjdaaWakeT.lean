/- wake.Box: a tick. No condition. -/
import Derived.Test.YtipkkhigcnhjdaaWakeC
import Derived.Test.YtipkkhigcnhjdaaIter
namespace Go.Proofs.Ytipkkhigcnhjdaa
open Go.RowKit Go.Maps Go.Sort Go.Shelf

/-- The bytes in order. -/
def Asc (N : List ByteArray) : Prop := N.Pairwise fun x y => x.data.toList ≤ y.data.toList
/-- What slices.Sorted gives of a map's names. -/
def SortedNames (K : List (ByteArray × Nat)) (w : World) (e : Ending) (w' : World) : Prop :=
  ∃ (a : Option Addr) (c : Nat) (N : List ByteArray), e = .returned (.slice a N.length c) ∧ N.Perm (K.map Prod.fst) ∧ Asc N ∧ Owns w' 9 1 (.slice a N.length c) N.length (N.map Value.string) ∧ (∀ k, InBlock (.slice a N.length c) k → w.heap.size ≤ k) ∧ Fr Nothing w w'

section
variable {S T : Nat → Prop} {w w' : World} {p M b : Nat} {qt : Int} {v : Value} {L : List Dev} {R : List ByteArray}
theorem tick_keys (mb : Option Nat) (W : World) : Calls Try.prog 28 #[.map mb] W fun e w' => e = .returned (.func (.func 35) #[] #[.pointer (some ⟨W.heap.size, 0, none⟩)]) ∧ w' = W.alloc (.cells #[.map mb] 55) :=
  callsIn_wide.1 (Try.maps_Keys_28 mb W)

theorem IsMapP.strs {K : List (ByteArray × Nat)} (h : IsMapP w b K) (hn : (K.map Prod.fst).Nodup) :
    ∃ D : DataW Unit, w.ownsMap Try.prog 9 ptrElem b K.length D ∧ size D = K.length ∧ ((K.map Prod.fst).map fun x : ByteArray => x.data.toList).Perm (strKeys D) := by
  obtain ⟨D, ho, h1, h2, h3⟩ := h
  refine ⟨D, ho, h3, ?_⟩
  obtain ⟨es, rfl, hp⟩ := ho.tidy keyed
  obtain ⟨es', he', hk⟩ := World.ownsMap.keysOf ho
  obtain rfl : es = es' := by injection he'
  refine perm_strKeys hp (fun q hq => ?_) ?_ (fun x => ?_)
  · obtain ⟨key, hkey⟩ := hk q hq
    obtain ⟨y, _, hy, _⟩ := Maps.keyOf_str Try.underlying9 hkey
    exact ⟨y, hy⟩
  · refine List.pairwise_map.2 (hn.imp ?_)
    intro x y hne e
    exact hne (skey_inj (congrArg Lit.string e))
  · have h4 := h1 ⟨x.toArray⟩
    have e5 : skey ⟨x.toArray⟩ = .string x := by simp [skey]
    rw [e5] at h4
    rw [h4]
    constructor
    · intro hm
      obtain ⟨y, hy, hye⟩ := List.mem_map.1 hm
      have : y = ⟨x.toArray⟩ := by rw [← hye]
      rw [this] at hy
      cases hf : findP K ⟨x.toArray⟩ with
      | none => exact absurd hy (findP_none.1 hf)
      | some _ => rfl
    · intro hs
      by_cases hy : (⟨x.toArray⟩ : ByteArray) ∈ K.map Prod.fst
      · exact List.mem_map.2 ⟨_, hy, by simp⟩
      · rw [findP_none.2 hy] at hs; simp at hs

theorem tick_sorted {K : List (ByteArray × Nat)} (h : IsMapP w b K) (hn : (K.map Prod.fst).Nodup) (hl : K.length ≤ 64) :
    Calls Try.prog 27 #[.func (.func 35) #[] #[.pointer (some ⟨w.heap.size, 0, none⟩)]] (w.alloc (.cells #[.map (some b)] 55)) (SortedNames K w) := by
  obtain ⟨D, ho, hs, hp⟩ := h.strs hn
  refine (callsIn_wide.1 (Try.slices_Sorted_keys_27_28 b K.length D ptrElem w ho (by rw [hs]; unfold maxLen; omega) (by rw [hs]; omega))).mono ?_
  rintro e w' ⟨v, ss, rfl, hss, hrow, hnil, hb⟩
  obtain ⟨N, hN⟩ : ∃ N : List ByteArray, N = (ss.mergeSort leB).map fun x => ⟨x.toArray⟩ := ⟨_, rfl⟩
  have hNl : N.length = ss.length := by rw [hN]; simp
  have hNv : N.map Value.string = (ss.mergeSort leB).map encStr := by rw [hN, List.map_map]; rfl
  have own : Owns w' 9 1 v N.length (N.map Value.string) := by
    rw [hNl, hNv]
    exact ⟨hrow.1, hrow.2.imp id (fun ⟨g, cap, cur, a, _, c⟩ => ⟨g, cap, cur, a, Nat.zero_le _, c⟩)⟩
  have hnew : ∀ k, InBlock v k → w.heap.size ≤ k := fun k hk => by
    have := (World.ownsRow.lt hrow k hk).1
    simp at this; omega
  obtain ⟨a, c, rfl, _, _⟩ := own.shape
  refine ⟨a, c, N, rfl, ?_, ?_, own, hnew, (Fr.alloc Nothing w _).trans' ⟨hb.os, hb.tape, hb.output, hb.size, fun k hk _ => hb.block k hk⟩⟩
  · have h1 : (N.map fun x : ByteArray => x.data.toList) = ss.mergeSort leB := by
      rw [hN, List.map_map]
      have : ((fun x : ByteArray => x.data.toList) ∘ fun x : List UInt8 => (⟨x.toArray⟩ : ByteArray)) = id := by funext x; simp
      rw [this, List.map_id]
    have h2 : (N.map fun x : ByteArray => x.data.toList).Perm ((K.map Prod.fst).map fun x : ByteArray => x.data.toList) := by
      rw [h1]; exact ((List.mergeSort_perm ss leB).trans hss).trans hp.symm
    have h3 := h2.map (fun x : List UInt8 => (⟨x.toArray⟩ : ByteArray))
    have back : ∀ X : List ByteArray, (X.map fun x : ByteArray => x.data.toList).map (fun x : List UInt8 => (⟨x.toArray⟩ : ByteArray)) = X := fun X => by
      rw [List.map_map]
      have : ((fun x : List UInt8 => (⟨x.toArray⟩ : ByteArray)) ∘ fun x : ByteArray => x.data.toList) = id := by funext x; simp
      rw [this, List.map_id]
    rw [back, back] at h3
    exact h3
  · have tr : ∀ a b c : List UInt8, leB a b = true → leB b c = true → leB a c = true := fun a b c h1 h2 => by simp only [leB, decide_eq_true_eq] at *; exact List.le_trans h1 h2
    have tot : ∀ a b : List UInt8, (leB a b || leB b a) = true := fun a b => by simp only [leB, Bool.or_eq_true, decide_eq_true_eq]; exact List.le_total a b
    have hpw := List.pairwise_mergeSort tr tot ss
    unfold Asc
    rw [hN]
    refine List.pairwise_map.2 (hpw.imp ?_)
    intro x y hxy
    simpa [leB] using hxy

/-- Whether a device of this name is called. -/
def callsN (L : List Dev) (now qt : Int) (n : ByteArray) : Bool := L.any fun d => decide (d.name = n) && callsB d now qt
def tickD (now qt : Int) (d : Dev) : Dev := if callsB d now qt then { d with rowed := true } else d
/-- The devices behind calls of these names. -/
def tickL (L : List Dev) (X : List ByteArray) (now qt : Int) : List Dev := L.map fun d => if inR X d.name then tickD now qt d else d
theorem tickL_len (L : List Dev) (X : List ByteArray) (now qt : Int) : (tickL L X now qt).length = L.length := by simp [tickL]
theorem tickL_nil (L : List Dev) (now qt : Int) : tickL L [] now qt = L := by
  unfold tickL
  have : (fun d : Dev => if inR [] d.name then tickD now qt d else d) = id := by funext d; rfl
  rw [this, List.map_id]
theorem tickL_all {L : List Dev} {X : List ByteArray} (h : ∀ d ∈ L, d.name ∈ X) (now qt : Int) : tickL L X now qt = L.map (tickD now qt) := by
  unfold tickL
  refine List.map_congr_left fun d hd => ?_
  rw [if_pos (inR_iff.2 (h d hd))]
theorem inR_take {R : List ByteArray} {j : Nat} (hj : j < R.length) (k : ByteArray) : inR (R.take (j + 1)) k = (inR (R.take j) k || decide (R[j] = k)) := by
  unfold inR
  rw [List.take_succ_eq_append_getElem hj, List.any_append]
  simp only [List.any_cons, List.any_nil, Bool.or_false]
theorem callsN_at {L : List Dev} (hn : (L.map Dev.name).Nodup) {j : Nat} (hj : j < L.length) (now qt : Int) : callsN L now qt L[j].name = callsB L[j] now qt := by
  unfold callsN
  cases hc : callsB L[j] now qt with
  | true => rw [List.any_eq_true]; exact ⟨L[j], List.getElem_mem hj, by simp [hc]⟩
  | false =>
    rw [Bool.eq_false_iff]
    intro h
    obtain ⟨d, hd, h1⟩ := List.any_eq_true.1 h
    obtain ⟨i, hi, rfl⟩ := List.mem_iff_getElem.1 hd
    simp only [Bool.and_eq_true, decide_eq_true_eq] at h1
    have := names_inj hn hi hj h1.1
    subst this
    rw [hc] at h1; simp at h1
theorem tickL_step {L : List Dev} {N R : List ByteArray} {now qt : Int} (hn : (L.map Dev.name).Nodup) {i j : Nat} (hi : i < N.length) (hj : j < L.length) (h : L[j].name = N[i]) (hnot : N[i] ∉ N.take i) :
    (tickL L (N.take i) now qt)[j]'(by rw [tickL_len]; exact hj) = L[j] ∧ callL (tickL L (N.take i) now qt) j now qt = tickL L (N.take (i + 1)) now qt ∧ callR (tickL L (N.take i) now qt) (R ++ (N.take i).filter (callsN L now qt)) j now qt = R ++ (N.take (i + 1)).filter (callsN L now qt) := by
  have e1 : ∀ q (hq : q < L.length) (X : List ByteArray), (tickL L X now qt)[q]'(by rw [tickL_len]; exact hq) = if inR X L[q].name then tickD now qt L[q] else L[q] := fun q hq X => by simp [tickL]
  have e2 : inR (N.take i) L[j].name = false := by
    cases hc : inR (N.take i) L[j].name with
    | false => rfl
    | true => exact absurd (h ▸ inR_iff.1 hc) hnot
  have e3 : (tickL L (N.take i) now qt)[j]'(by rw [tickL_len]; exact hj) = L[j] := by rw [e1 j hj, e2]; rfl
  have e4 : (tickL L (N.take i) now qt)[j]? = some L[j] := by rw [List.getElem?_eq_getElem (by rw [tickL_len]; exact hj), e3]
  have e5 : callsN L now qt N[i] = callsB L[j] now qt := by rw [← h]; exact callsN_at hn hj now qt
  have e6 : tickL L (N.take (i + 1)) now qt = (tickL L (N.take i) now qt).set j (tickD now qt L[j]) := by
    apply List.ext_getElem
    · simp [tickL_len]
    · intro q h1 h2
      have hq : q < L.length := by rw [tickL_len] at h1; exact h1
      rw [e1 q hq, List.getElem_set, inR_take hi]
      by_cases hqj : j = q
      · subst hqj
        rw [if_pos rfl]
        simp [h]
      · rw [if_neg hqj, e1 q hq]
        have : ¬ N[i] = L[q].name := fun e => hqj (names_inj hn hj hq (h.trans e))
        simp [this]
  refine ⟨e3, ?_, ?_⟩
  · rw [e6]
    simp only [callL, e4, tickD]
    cases hc : callsB L[j] now qt with
    | true => simp
    | false =>
      simp only [Bool.false_eq_true, if_false]
      have hjl : j < (tickL L (N.take i) now qt).length := by rw [tickL_len]; exact hj
      rw [← e3, List.set_getElem_self]
  · simp only [callR, e4]
    rw [List.take_succ_eq_append_getElem hi, List.filter_append, List.filter_cons, e5]
    cases hc : callsB L[j] now qt with
    | true => simp [h]
    | false => simp

/-- What Tick leaves. -/
def Ticked (S : Nat → Prop) (p : Nat) (qt : Int) (M : Nat) (L : List Dev) (R : List ByteArray) (now : Int) (w : World) (e : Ending) (w' : World) : Prop :=
  ∃ N : List ByteArray, e = .returned (.tuple #[]) ∧ N.Perm (L.map Dev.name) ∧ Asc N ∧ BoxGone S w p qt (M + 64) (L.map (tickD now qt)) (R ++ N.filter (callsN L now qt)) w'

/-- While it ticks. -/
structure TInv (S S' : Nat → Prop) (p : Nat) (qt : Int) (M : Nat) (L : List Dev) (R N : List ByteArray) (now : Int) (w : World) (v : Value) (i : Nat) (wr : World) : Prop where
  box : IsBox S' wr p qt (M + i) (tickL L (N.take i) now qt) (R ++ (N.take i).filter (callsN L now qt))
  sub : ∀ q, S' q → S q ∨ w.heap.size ≤ q
  own : Owns wr 9 1 v N.length (N.map Value.string)
  apart : ∀ q, InBlock v q → ¬ S' q
  new : ∀ q, InBlock v q → w.heap.size ≤ q
  fr : Fr S w wr

set_option maxHeartbeats 400000 in
theorem box_tick_early (now : Int) (hn : now < 0) (p : Nat) (w : World) :
    Calls Try.prog 16 #[.pointer (some ⟨p, 0, none⟩), .int .i64 now] w fun e w' => e = .returned (.tuple #[]) ∧ w = w' := by
  go_enter Try.func16, Try.ntmps16
  go_wp2_with (fail)
  exact bodyPost_ret (v := .tuple #[]) (by simp [results, go_sem]) rfl ⟨rfl, rfl⟩

set_option maxHeartbeats 2000000 in
theorem box_tick (now : Int) (h0 : 0 ≤ now) (h9 : now ≤ 9223372036854775807) (h : IsBox S w p qt M L R) (hM : M ≤ 900000) :
    Calls Try.prog 16 #[.pointer (some ⟨p, 0, none⟩), .int .i64 now] w (Ticked S p qt M L R now w) := by
  have hb0 := h
  obtain ⟨b, v, hr, hS⟩ := h
  have hnn := hr.nn
  have hll := hr.ll
  have e0 := hr.head.cell 0 rfl
  have hts := tick_sorted hr.map (by rw [List.map_map]; exact hnn) (by simpa using hll)
  have Hnn := Lib.hid hnn
  have Hts := Lib.hid hts
  clear hr hS hts hnn
  go_enter Try.func16, Try.ntmps16
  go_wp2_with (fail)
  refine (tick_keys (some b) w).mono ?_
  rintro e w1 ⟨rfl, rfl⟩
  go_wp2_with (fail)
  refine Hts.out.mono ?_
  rintro e w2 ⟨a, c, N, rfl, hN, hA, own, new, f2⟩
  rw [List.map_map] at hN
  have hN' : N.Perm (L.map Dev.name) := hN
  have hNl : N.length ≤ 64 := by rw [hN'.length_eq]; simpa using hll
  have hNd : N.Nodup := hN'.nodup_iff.2 Hnn.out
  have inv : TInv S S p qt M L R N now w (.slice a N.length c) 0 w2 := ⟨by simpa [tickL_nil] using hb0.fr f2 (fun _ _ h => h), fun q hq => .inl hq, own, fun q hq hs => by have := new q hq; have := hb0.lt hs; omega, new, f2.mono fun _ _ h => h.elim⟩
  have HN := Lib.hid hN'
  have HA := Lib.hid hA
  have HNd := Lib.hid hNd
  clear hN hN' hA hNd own new f2 e0 hb0
  go_wp2_with (fail)
  go_loopg [19] N.length (fun g i wr => ∃ (k : Nat) (S' : Nat → Prop), k ≤ N.length ∧ g = N.length - k ∧ i = .int .i64 k ∧ TInv S S' p qt M L R N now w (.slice a N.length c) k wr)
  case atStart => exact ⟨0, S, Nat.zero_le _, rfl, rfl, inv⟩
  case round =>
    clear inv
    obtain ⟨k, S', hk, rfl, rfl, inv⟩ := hrel
    by_cases hlt : k < N.length
    · obtain ⟨b1, o1, rfl, hc1⟩ := Sl.oneCell (j := k) (v := .string N[k]) inv.own.sl.2 (by simp [hlt])
      obtain ⟨d0, hd0, hdn⟩ := List.mem_map.1 (HN.out.mem_iff.1 (List.getElem_mem hlt))
      obtain ⟨j, hj, rfl⟩ := List.mem_iff_getElem.1 hd0
      have hnot : N[k] ∉ N.take k := by
        have h1 := HNd.out
        have e : N = N.take k ++ (N[k] :: N.drop (k + 1)) := by rw [← List.drop_eq_getElem_cons hlt]; exact (List.take_append_drop k N).symm
        rw [e, List.nodup_append] at h1
        exact fun hm => h1.2.2 _ hm _ (List.mem_cons_self ..) rfl
      obtain ⟨s1, s2, s3⟩ := tickL_step (R := R) (now := now) (qt := qt) Hnn.out hlt hj hdn hnot
      have hjl : j < (tickL L (N.take k) now qt).length := by rw [tickL_len]; exact hj
      have hcall := box_call j hjl now h0 h9 inv.box (by omega)
      rw [s1, s2, s3, hdn] at hcall
      have Hcall := Lib.hid hcall
      clear s1 s2 s3 hcall hnot hd0 hdn
      go_wp2_with (fail)
      refine Hcall.out.mono ?_
      rintro e w3 ⟨rfl, S3, x3, hs3, f3⟩
      have inv3 : TInv S S3 p qt M L R N now w (.slice (some ⟨b1, o1, none⟩) N.length c) (k + 1) w3 := by
        refine ⟨x3, fun q hq => ?_, inv.own.fr f3 inv.apart, fun q hq hs => ?_, inv.new, inv.fr.trans f3 (fun q hlt' hq => ?_)⟩
        · rcases hs3 q hq with h1 | h1
          · exact inv.sub q h1
          · exact .inr (Nat.le_trans inv.fr.size h1)
        · rcases hs3 q hs with h1 | h1
          · exact inv.apart q hq h1
          · have := inv.own.lt hq; omega
        · rcases inv.sub q hq with h1 | h1
          · exact h1
          · omega
      clear inv x3 hs3 f3 hc1
      go_wp2_with (fail)
      go_roundg (N.length - (k + 1))
      case measure => omega
      case rel => exact ⟨k + 1, S3, by omega, rfl, by go_num, inv3⟩
    · obtain rfl : k = N.length := by omega
      have hbx := inv.box
      rw [List.take_length, tickL_all (fun d hd => HN.out.mem_iff.2 (List.mem_map_of_mem hd))] at hbx
      have Hbx := Lib.hid (hbx.more (M' := M + 64) (by omega))
      clear hbx
      go_wp2_with (fail)
      go_end0
      exact ⟨N, rfl, HN.out, HA.out, S', Hbx.out, inv.sub, inv.fr⟩
end

end Go.Proofs.Ytipkkhigcnhjdaa
