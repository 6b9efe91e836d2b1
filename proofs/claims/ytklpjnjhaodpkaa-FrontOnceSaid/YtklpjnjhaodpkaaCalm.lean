/- calm.Calm: what waits, as a list of pairs. No condition. -/
import Derived.Test.YtklpjnjhaodpkaaMapT
import Derived.Test.YtklpjnjhaodpkaaColl
import Derived.Test.YtklpjnjhaodpkaaTexts
import Derived.Test.YtklpjnjhaodpkaaShelf
namespace Go.Proofs.Ytklpjnjhaodpkaa
open Go.RowKit Go.Lib Go.Sort

structure CalmAt (w : World) (p m b : Nat) (v : Value) (L : List (ByteArray × ByteArray)) : Prop where
  head : Row w p [.map (some b), v, .int .i64 m] 66
  map : IsMapT w b L
  own : Owns w 9 1 v L.length ((L.map Prod.fst).map Value.string)
  neb : b ≠ p
  nev : ¬ InBlock v p
  nevb : ¬ InBlock v b
  le : L.length ≤ m
  one : 1 ≤ m
  most : m ≤ 64
  nd : (L.map Prod.fst).Nodup
  wf : ∀ q ∈ L, q.1.size ≤ maxLen ∧ q.2.size ≤ maxLen
def IsCalm (S : Nat → Prop) (w : World) (p m : Nat) (L : List (ByteArray × ByteArray)) : Prop :=
  ∃ b v, CalmAt w p m b v L ∧ ∀ k, S k ↔ k = p ∨ k = b ∨ InBlock v k

section
variable {S T : Nat → Prop} {w w' : World} {p m b : Nat} {v : Value} {L : List (ByteArray × ByteArray)}
theorem CalmAt.fr (h : CalmAt w p m b v L) (F : Fr T w w') (hp : ¬ T p) (hb : ¬ T b) (hv : ∀ k, InBlock v k → ¬ T k) : CalmAt w' p m b v L :=
  ⟨h.head.fr F hp, h.map.fr F hb, h.own.fr F hv, h.neb, h.nev, h.nevb, h.le, h.one, h.most, h.nd, h.wf⟩
theorem IsCalm.fr (h : IsCalm S w p m L) (F : Fr T w w') (hd : ∀ k, S k → ¬ T k) : IsCalm S w' p m L := by
  obtain ⟨b, v, h, hS⟩ := h
  exact ⟨b, v, h.fr F (hd p ((hS p).2 (.inl rfl))) (hd b ((hS b).2 (.inr (.inl rfl)))) (fun k hk => hd k ((hS k).2 (.inr (.inr hk)))), hS⟩
theorem IsCalm.drewN (h : IsCalm S w p m L) (n : Nat) : IsCalm S (w.drewN n) p m L := h.fr (Fr.drewN Nothing _ _) (fun _ _ h => h)
theorem IsCalm.drew (h : IsCalm S w p m L) : IsCalm S w.drew p m L := h.fr (Fr.drew Nothing _) (fun _ _ h => h)
theorem IsCalm.lt (h : IsCalm S w p m L) {k : Nat} (hk : S k) : k < w.heap.size := by
  obtain ⟨b, v, h, hS⟩ := h
  rcases (hS k).1 hk with rfl | rfl | hk
  · exact h.head.lt
  · exact h.map.lt
  · exact h.own.lt hk

/-- What New gives. -/
def CalmNew (m : Nat) (w : World) (e : Ending) (w' : World) : Prop :=
  ∃ p S, e = .returned (.pointer (some ⟨p, 0, none⟩)) ∧ IsCalm S w' p m [] ∧ (∀ k, S k → w.heap.size ≤ k) ∧ Fr Nothing w w'
set_option maxHeartbeats 400000 in
theorem calm_new (k : Int) (m : Nat) (w : World) (hm : (m : Int) = min (max k 1) 64) :
    Calls Try.prog 25 #[.int .i64 k] w (CalmNew m w) := by
  have hmm := @run_makeMap Try.prog
  have fin : ∀ z : Int, z = m → CalmNew m w (.returned (.pointer (some ⟨w.heap.size + 1, 0, none⟩))) ((w.alloc (.map #[] 0)).alloc (.cells #[.map (some w.heap.size), .slice none 0 0, .int .i64 z] 66)) := by
    rintro z rfl
    have e1 : (w.alloc (.map #[] 0)).heap.size = w.heap.size + 1 := by simp
    have hr := Row.allocNew (w.alloc (.map #[] 0)) [.map (some w.heap.size), .slice none 0 0, .int .i64 m] 66
    rw [e1] at hr
    have no : ∀ k, ¬ InBlock (.slice none 0 0) k := fun k hk => by simp [InBlock, Value.ownBlock] at hk
    refine ⟨w.heap.size + 1, _, rfl, ⟨w.heap.size, .slice none 0 0, ⟨hr, (IsMapT.made w).fr (Fr.alloc Nothing _ _) (fun h => h), Owns.nil _ _ _, by omega, no _, no _, by simp, by omega, by omega, by simp, by simp⟩, fun k => Iff.rfl⟩, fun k hk => ?_, (Fr.alloc _ _ _).trans' (Fr.alloc _ _ _)⟩
    rcases hk with rfl | rfl | hk
    · omega
    · omega
    · exact (no k hk).elim
  go_enter Try.func25, Try.ntmps25
  go_wp2_with (fail)
  all_goals (go_ret; exact fin _ (by omega))

set_option maxHeartbeats 400000 in
theorem calm_len (h : IsCalm S w p m L) :
    Calls Try.prog 28 #[.pointer (some ⟨p, 0, none⟩)] w fun e w' => e = .returned (.int .i64 L.length) ∧ w = w' := by
  obtain ⟨b, v, hr, hS⟩ := h
  obtain ⟨a, c, rfl, _, _⟩ := hr.own.shape
  have h1 := hr.head.cell 1 rfl
  go_enter Try.func28, Try.ntmps28
  go_wp2_with (fail)
  go_ret
  exact ⟨rfl, rfl⟩

set_option maxHeartbeats 400000 in
theorem calm_of (k : ByteArray) (hk : k.size ≤ maxLen) (h : IsCalm S w p m L) :
    Calls Try.prog 57 #[.pointer (some ⟨p, 0, none⟩), .string k] w fun e w' => e = .returned (.tuple #[.string ((findT L k).getD ByteArray.empty), .bool (findT L k).isSome]) ∧ w = w' := by
  obtain ⟨b, v, hr, hS⟩ := h
  have h0 := hr.head.cell 0 rfl
  have hl := hr.map.look_ok Try.underlying64 hk
  go_enter Try.func57, Try.ntmps57
  go_wp2_with (fail)
  go_ret2
  exact ⟨rfl, rfl⟩

set_option maxHeartbeats 400000 in
theorem calm_full (h : IsCalm S w p m L) :
    Calls Try.prog 44 #[.pointer (some ⟨p, 0, none⟩)] w fun e w' => e = .returned (.bool (decide (L.length = m))) ∧ ∃ n, w' = w.drewN n := by
  obtain ⟨b, v, hr, hS⟩ := h
  obtain ⟨a, c, rfl, _, _⟩ := hr.own.shape
  have h1 := hr.head.cell 1 rfl
  have h2 := hr.head.cell 2 rfl
  clear hr hS
  go_enter Try.func44, Try.ntmps44
  go_wp2_with (fail)
  go_quiet (fail)
  go_wp2_with (fail)
  go_ret
  have e : ((L.length : Int) == (m : Int)) = decide (L.length = m) := by
    by_cases h : L.length = m
    · simp [h]
    · rw [decide_eq_false h, beq_eq_false_iff_ne]; omega
  exact ⟨by simp [e], nq, rfl⟩

/-- What DeleteFunc leaves of texts. -/
def Kept (v : Value) (R : List ByteArray) (w : World) (e : Ending) (w' : World) : Prop :=
  ∃ v', e = .returned v' ∧ Owns w' 9 1 v' R.length (R.map Value.string) ∧ Fr (InBlock v) w w' ∧ ∀ k, InBlock v' k ↔ InBlock v k

set_option maxHeartbeats 400000 in
theorem isit (B : Nat) (x k : ByteArray) (W : World) (hc : W.cell? ⟨B, 0, none⟩ = some (.string k)) :
    FnGives Try.prog 59 #[.pointer (some ⟨B, 0, none⟩)] #[.string x] (.bool (decide (x = k))) W := by
  show Calls Try.prog 59 #[.string x, .pointer (some ⟨B, 0, none⟩)] W _
  go_enter Try.func59, Try.ntmps59
  go_wp2_with (fail)
  go_ret
  exact ⟨congrArg (fun b => Ending.returned (Value.bool b)) (same_text x k), 0, rfl⟩

theorem getBang (L : List ByteArray) (j : Nat) (hj : j < L.length) : L.toArray[j]! = L[j] := by
  rw [getElem!_pos L.toArray j (by simpa using hj)]; simp
theorem putRow_owns {w : World} {g c q : Nat} {X R : List ByteArray} (hv : Owns w 9 1 (.slice (some ⟨g, 0, none⟩) X.length c) X.length (X.map Value.string)) (hR : R.length ≤ X.length) :
    Owns (putRow Value.string (Sort.ahead w q) g 0 (R ++ List.replicate (X.length - R.length) ByteArray.empty).toArray) 9 1 (.slice (some ⟨g, 0, none⟩) R.length c) R.length (R.map Value.string) := by
  refine ⟨by simp, ?_⟩
  rcases hv.2 with ⟨h1, _⟩ | ⟨g', c', cur, h1, hb, hg, hn, hm, hcs, htake⟩
  · simp at h1
  · simp only [Value.slice.injEq, Option.some.injEq, Addr.mk.injEq, true_and, and_true] at h1
    obtain ⟨rfl, rfl⟩ := h1
    refine .inr ⟨g, c, putCells Value.string 0 (R ++ List.replicate (X.length - R.length) ByteArray.empty).toArray cur, rfl, Nat.zero_le _, ?_, by omega, hm, by simpa [putCells] using hcs, ?_⟩
    · show (putRow Value.string (Sort.ahead w q) g 0 _).heap[g]? = _
      simp only [putRow, mapBlock, Sort.ahead, Array.getElem?_modify, if_true]
      rw [show w.heap[g]? = some (.cells cur 9 (0, 0)) from hg]
      rfl
    · have hlx : X.length ≤ cur.size := by
        have := congrArg List.length htake
        simp at this; omega
      apply List.ext_getElem?
      intro i
      by_cases hi : i < R.length
      · rw [List.getElem?_take_of_lt (by simpa using hi)]
        simp only [putCells, Array.toList_mapIdx, List.getElem?_mapIdx, Array.getElem?_toList]
        rw [Array.getElem?_eq_getElem (by omega), Option.map_some, if_pos ⟨Nat.zero_le _, by simp; omega⟩, Nat.sub_zero]
        rw [getElem!_pos _ i (by simp; omega)]
        simp [hi]
      · rw [List.getElem?_eq_none (by simp; omega), List.getElem?_eq_none (by simp; omega)]
theorem putRow_fr {α : Type} [Inhabited α] (enc : α → Value) (w : World) (g o q : Nat) (d : Array α) : Fr (fun k => k = g) w (putRow enc (Sort.ahead w q) g o d) :=
  ⟨rfl, rfl, rfl, by simp [Sort.ahead], fun k hk hn => by
    show (putRow enc (Sort.ahead w q) g o d).heap[k]? = _
    simp [putRow, mapBlock, Sort.ahead, Array.getElem?_modify, Ne.symm hn]⟩

theorem delete_texts (v : Value) (X : List ByteArray) (k : ByteArray) (B : Nat) (hv : Owns w 9 1 v X.length (X.map Value.string)) (hm : X.length ≤ 4000)
    (hB : w.cell? ⟨B, 0, none⟩ = some (.string k)) (hne : ¬ InBlock v B) (hx : X ≠ []) :
    Calls Try.prog 58 #[v, .func (.func 59) #[] #[.pointer (some ⟨B, 0, none⟩)]] w (Kept v (X.filter (fun x => !decide (x = k))) w) := by
  have eg : ∀ args w, (callFunc 59 args).run Try.prog w = .ok (.enter 59 args) w := enters_of Try.func59 (by kernel_rfl) rfl
  rcases hv.2 with ⟨rfl, hxs⟩ | ⟨g, c, cur, rfl, hb, hg, hn, hmx, hcs, htake⟩
  · have : X = [] := by simpa using hxs
    exact absurd this hx
  · have hBlt := World.block_lt_of_cell? w _ hB
    have hBg : B ≠ g := fun e => hne (by simp [InBlock, Value.ownBlock, e])
    have hsl := hv.sl.2
    have hH : Holds Value.string w g 0 X.toArray := fun j hj => by
      have hj' : j < X.length := by simpa using hj
      obtain ⟨b, o, hbo, hc⟩ := Sl.oneCell (j := j) (v := .string X[j]) hsl (by simp [hj'])
      obtain ⟨rfl, rfl⟩ : g = b ∧ 0 = o := by simpa using hbo
      refine ⟨by rw [getBang X j hj']; exact hc, frozen_of_row w g (0 + j) cur _ hg⟩
    have hP : PredAt Try.prog 59 #[.pointer (some ⟨B, 0, none⟩)] Value.string (fun x => decide (x = k)) w := fun W x hb => isit B x k W ((hb.cell (p := ⟨B, 0, none⟩) hBlt).trans hB)
    have hO : PredOver Try.prog 59 #[.pointer (some ⟨B, 0, none⟩)] Value.string (fun x => decide (x = k)) g 0 X.toArray.size w := fun n os dk x _ => isit B x k _ (by
      unfold sortWorld
      rw [cell?_grow _ _ _ (by show B < (putRow _ _ _ _ _).heap.size; rw [size_putRow]; exact hBlt), cell?_putRow_other _ _ g 0 _ _ (Or.inl hBg)]
      exact hB)
    have hcon := Try.slices_DeleteFunc Value.string (fun _ => rfl) (fun x => decide (x = k)) 59 #[.pointer (some ⟨B, 0, none⟩)] eg ByteArray.empty Try.zeroValue9 g 0 c X.toArray w hP hO hH (by simp; omega) (by simpa using hn)
    simp only [List.size_toArray] at hcon
    refine hcon.mono ?_
    rintro e w' ⟨rfl, q, rfl⟩
    exact ⟨_, rfl, putRow_owns hv (List.length_filter_le _ _), (putRow_fr _ _ _ _ _ _).mono fun j _ hj => by subst hj; rfl, fun j => Iff.rfl⟩

/-- What waits without one contact's text. -/
abbrev strike (L : List (ByteArray × ByteArray)) (k : ByteArray) : List (ByteArray × ByteArray) := L.filter (fun p => decide (p.1 ≠ k))
theorem strike_names (L : List (ByteArray × ByteArray)) (k : ByteArray) : (strike L k).map Prod.fst = (L.map Prod.fst).filter (fun x => !decide (x = k)) := by
  induction L with
  | nil => rfl
  | cons p L ih => by_cases h : p.1 = k <;> simp_all [strike]
theorem find_none {L : List (ByteArray × ByteArray)} {k : ByteArray} : findT L k = none ↔ k ∉ L.map Prod.fst := by
  unfold findT
  rw [Option.map_eq_none_iff, List.find?_eq_none]
  constructor
  · intro h hm
    obtain ⟨q, hq, rfl⟩ := List.mem_map.1 hm
    exact h q hq (by simp)
  · intro h q hq e
    exact h (List.mem_map.2 ⟨q, hq, by simpa using e⟩)
theorem strike_none {L : List (ByteArray × ByteArray)} {k : ByteArray} (h : findT L k = none) : strike L k = L := by
  rw [find_none] at h
  refine List.filter_eq_self.2 fun p hp => ?_
  simp only [decide_eq_true_eq]
  exact fun e => h (e ▸ List.mem_map_of_mem hp)
theorem strike_len {L : List (ByteArray × ByteArray)} {k : ByteArray} (hn : (L.map Prod.fst).Nodup) : L.length ≤ (strike L k).length + 1 := by
  induction L with
  | nil => simp
  | cons p L ih =>
    simp only [List.map_cons, List.nodup_cons] at hn
    by_cases h : p.1 = k
    · have : strike L k = L := strike_none (find_none.2 (h ▸ hn.1))
      rw [show strike (p :: L) k = strike L k from List.filter_cons_of_neg (by simp [h]), this]; simp
    · have := ih hn.2
      simp only [strike] at *
      rw [List.filter_cons_of_pos (by simp [h])]
      simp only [List.length_cons]; omega
theorem strike_lt {L : List (ByteArray × ByteArray)} {k : ByteArray} (h : (findT L k).isSome) : (strike L k).length < L.length := by
  rcases Nat.lt_or_ge (strike L k).length L.length with h1 | h1
  · exact h1
  · exfalso
    have h2 : strike L k = L := by
      have := List.filter_sublist (p := fun p : ByteArray × ByteArray => decide (p.1 ≠ k)) (l := L)
      exact this.eq_of_length_le h1
    have h3 : findT (strike L k) k = none := by rw [findT_strike]; simp
    rw [h2] at h3
    rw [h3] at h; simp at h
theorem strike_nodup {L : List (ByteArray × ByteArray)} {k : ByteArray} (hn : (L.map Prod.fst).Nodup) : ((strike L k).map Prod.fst).Nodup := by
  rw [strike_names]; exact hn.filter _
theorem strike_not (L : List (ByteArray × ByteArray)) (k : ByteArray) : k ∉ (strike L k).map Prod.fst := by rw [strike_names]; simp

/-- The calm after a call: it has grown into new blocks alone. -/
def CalmGone (S : Nat → Prop) (w : World) (p m : Nat) (L : List (ByteArray × ByteArray)) (w' : World) : Prop :=
  ∃ S', IsCalm S' w' p m L ∧ (∀ k, S' k → S k ∨ w.heap.size ≤ k) ∧ Fr S w w'

set_option maxHeartbeats 1000000 in
theorem calm_drop_yes (k : ByteArray) (hk : k.size ≤ maxLen) (h : IsCalm S w p m L) (hf : (findT L k).isSome) :
    Calls Try.prog 43 #[.pointer (some ⟨p, 0, none⟩), .string k] w fun e w' => e = .returned (.bool true) ∧ IsCalm S w' p m (strike L k) ∧ Fr S w w' := by
  have h1 : IsCalm S (w.alloc (.cells #[.string k] 9)) p m L := h.fr (Fr.alloc Nothing _ _) (fun _ _ h => h)
  have hnB : ¬ S w.heap.size := fun hs => by have := h.lt hs; omega
  have hbox := (Row.allocNew w [.string k] 9).cell 0 rfl
  have hL : L ≠ [] := fun e => by subst e; simp [findT] at hf
  have Hf := Lib.hid hf
  clear hf
  go_enter Try.func43, Try.ntmps43
  go_wp2_with (fail)
  refine (calm_of k hk h1).mono ?_
  rw [show (findT L k).isSome = true from Hf.out]
  rintro e w1 ⟨rfl, rfl⟩
  have F1 : Fr Nothing w (w.alloc (.cells #[.string k] 9)) := Fr.alloc _ _ _
  obtain ⟨B, hB⟩ : ∃ B, B = w.heap.size := ⟨_, rfl⟩
  rw [← hB] at hbox hnB
  rw [← hB]
  clear h hB
  generalize w.alloc (.cells #[.string k] 9) = w1 at *
  obtain ⟨b, v, hr, hS⟩ := h1
  have h0 := hr.head.cell 0 rfl
  have HS := Lib.hid hS
  have Hr := Lib.hid hr
  clear hr hS
  go_wp2_with (fail)
  go_still_tail 5, (by kernel_rfl)
  refine wpList_mapT_delete rfl (.tmp 18) (.tmp 19) rfl Try.underlying64 (Hr.out.map.fr (Fr.drew Nothing w1) (fun h => h)) rfl rfl hk (strike_len Hr.out.nd) Hf.out ?_
  intro w2 m2 f2'
  have f2 : Fr (fun x => x = b) w1 w2 := (Fr.drew _ w1).trans' f2'
  have hd2 := Hr.out.head.fr f2 (fun e => Hr.out.neb e.symm)
  have e1 := hd2.cell 1 rfl
  have own2 := Hr.out.own.fr f2 (fun q hq e => Hr.out.nevb (e ▸ hq))
  have box2 := cell_fr hbox f2 (fun e => hnB ((HS.out B).2 (.inr (.inl e))))
  have hnv : ¬ InBlock v B := fun hq => hnB ((HS.out B).2 (.inr (.inr hq)))
  have Hd2 := Lib.hid hd2
  clear hd2 h0 hbox f2'
  go_wp2_with (fail)
  refine (delete_texts v (L.map Prod.fst) k B (by simpa using own2) (by have := Hr.out.le; have := Hr.out.most; simp; omega) box2 hnv (by simpa using hL)).mono ?_
  rintro e w3 ⟨v3, rfl, o3, f3, hb3⟩
  have hd3 := Hd2.out.fr f3 Hr.out.nev
  have p3 := hd3.free 1
  have p3' := hd3.cell 1 rfl
  have m3 := m2.fr f3 Hr.out.nevb
  have Hd3 := Lib.hid hd3
  have hnv3 : ¬ InBlock v3 p := fun hq => Hr.out.nev ((hb3 p).1 hq)
  have hnv3b : ¬ InBlock v3 b := fun hq => Hr.out.nevb ((hb3 b).1 hq)
  rw [← strike_names] at o3
  have o3' : Owns w3 9 1 v3 (strike L k).length (((strike L k).map Prod.fst).map Value.string) := by simpa using o3
  clear hd3 own2 box2 e1 o3
  obtain ⟨a3, c3, rfl, _, _⟩ := o3'.shape
  go_wp2_with (fail)
  go_ret
  have hr := Hr.out
  have fset : Fr (fun q => q = p) w3 (w3.setCell ⟨p, 1, none⟩ (.slice a3 (strike L k).length c3)) := Fr.setCell (S := fun q => q = p) (p := ⟨p, 1, none⟩) rfl _
  have hlen : (strike L k).length ≤ m := Nat.le_trans (List.length_filter_le _ _) hr.le
  refine ⟨rfl, ⟨b, _, ⟨Hd3.out.set 1 _, m3.fr fset hr.neb, o3'.fr fset (fun q hq e => hnv3 (e ▸ hq)), hr.neb, hnv3, hnv3b, hlen, hr.one, hr.most, strike_nodup hr.nd, fun q hq => hr.wf q ((List.mem_filter.1 hq).1)⟩, fun q => ?_⟩, ?_⟩
  · rw [hb3]; exact HS.out q
  · exact (((F1.mono fun _ _ h => h.elim).trans' (f2.mono fun q _ hq => (HS.out q).2 (.inr (.inl hq)))).trans' (f3.mono fun q _ hq => (HS.out q).2 (.inr (.inr hq)))).trans' (fset.mono fun q _ hq => (HS.out q).2 (.inl hq))

set_option maxHeartbeats 400000 in
theorem calm_drop_no (k : ByteArray) (hk : k.size ≤ maxLen) (h : IsCalm S w p m L) (hf : findT L k = none) :
    Calls Try.prog 43 #[.pointer (some ⟨p, 0, none⟩), .string k] w fun e w' => e = .returned (.bool false) ∧ Fr Nothing w w' := by
  have h1 : IsCalm S (w.alloc (.cells #[.string k] 9)) p m L := h.fr (Fr.alloc Nothing _ _) (fun _ _ h => h)
  have hbox := (Row.allocNew w [.string k] 9).cell 0 rfl
  have Hf : Hid ((findT L k).isSome = false) := (show _ = _ by rw [hf]; rfl)
  clear hf
  go_enter Try.func43, Try.ntmps43
  go_wp2_with (fail)
  refine (calm_of k hk h1).mono ?_
  rw [Hf.out]
  rintro e w1 ⟨rfl, rfl⟩
  go_wp2_with (fail)
  go_ret
  exact ⟨rfl, Fr.alloc _ _ _⟩

theorem findT_at {L : List (ByteArray × ByteArray)} (hn : (L.map Prod.fst).Nodup) {k : Nat} (hk : k < L.length) : findT L L[k].1 = some L[k].2 := by
  induction L generalizing k with
  | nil => simp at hk
  | cons q L ih =>
    simp only [List.map_cons, List.nodup_cons] at hn
    cases k with
    | zero => simp [findT]
    | succ k =>
      have hk' : k < L.length := by simpa using hk
      have hne : ¬ q.1 = L[k].1 := fun e => hn.1 (e ▸ List.mem_map_of_mem (List.getElem_mem hk'))
      have := ih hn.2 hk'
      simp only [findT, List.getElem_cons_succ] at *
      rw [List.find?_cons_of_neg (by simp [hne])]
      exact this

/-- What Flush tells and leaves. -/
def Flushed (S : Nat → Prop) (p m : Nat) (L : List (ByteArray × ByteArray)) (w : World) (e : Ending) (w' : World) : Prop :=
  ∃ (a : Option Addr) (c : Nat), e = .returned (.slice a L.length c) ∧ Txt w' a (L.map Prod.snd) ∧ (∀ k, InBlock (.slice a L.length c) k → w.heap.size ≤ k) ∧ Owns w' 9 1 (.slice a L.length c) L.length ((L.map Prod.snd).map Value.string) ∧ CalmGone S w p m [] w'

set_option maxHeartbeats 2000000 in
theorem calm_flush (h : IsCalm S w p m L) :
    Calls Try.prog 42 #[.pointer (some ⟨p, 0, none⟩)] w (Flushed S p m L w) := by
  obtain ⟨i0, hi, hz0, hz1, hz2⟩ := info_parts Try.infoText
  have Hz2 := Lib.hid hz2
  have Hz1 := Lib.hid hz1
  have Hz0 := Lib.hid hz0
  have Hi := Lib.hid hi
  clear hz2 hz1 hz0 hi
  obtain ⟨b, v, hr, hS⟩ := h
  have HS := Lib.hid hS
  obtain ⟨a, c, rfl, hlc, hcm⟩ := hr.own.shape
  have hle := hr.le
  have hmo := hr.most
  have e1 := hr.head.cell 1 rfl
  have hc9 : (c : Int) ≤ 9223372036854775807 := by unfold maxLen at hcm; omega
  clear hS hcm
  go_enter Try.func42, Try.ntmps42
  go_wp2_with (fail)
  clear e1
  go_loopg [3, 13] L.length (fun g v i wr => ∃ (k : Nat) (O : List ByteArray), k ≤ L.length ∧ g = L.length - k ∧ i = .int .i64 k ∧ Hid (O = (L.take k).map Prod.snd) ∧ Coll w v O wr)
  case atStart => exact ⟨0, [], Nat.zero_le _, rfl, rfl, rfl, CollE.start _ _ _⟩
  case round =>
    obtain ⟨k, O, hk, rfl, rfl, HO, co⟩ := hrel
    have hm' := hr.map.fr co.fr (fun h => h)
    have hd := hr.head.fr co.fr (fun h => h)
    have e0 := hd.cell 0 rfl
    by_cases hlt : k < L.length
    · have hsl := (hr.own.fr co.fr (fun _ _ h => h)).sl.2
      obtain ⟨b1, o1, rfl, hc1⟩ := Sl.oneCell (j := k) (v := .string L[k].1) hsl (by simp [hlt])
      have hwf := hr.wf L[k] (List.getElem_mem hlt)
      have hlk := hm'.look Try.underlying64 hwf.1
      rw [findT_at hr.nd hlt] at hlk
      simp only [Option.getD_some] at hlk
      obtain ⟨x, hx⟩ : ∃ x, x = L[k].1 := ⟨_, rfl⟩
      obtain ⟨y, hy⟩ : ∃ y, y = L[k].2 := ⟨_, rfl⟩
      rw [← hx] at hc1 hlk
      rw [← hy] at hlk
      have Hx := Lib.hid hx
      have Hy := Lib.hid hy
      have Hr := Lib.hid hr
      have Hd := Lib.hid hd
      have Hm := Lib.hid hm'
      have hrow : Row (wr.alloc (.cells #[Value.string y] 9)) wr.heap.size [Value.string y] 9 := Row.allocNew wr [Value.string y] 9
      have hsl1 : Sl (wr.alloc (.cells #[Value.string y] 9)) (some ⟨wr.heap.size, 0, none⟩) [Value.string y] := Sl.ofRow hrow
      have own1 := (co.quiet (Fr.alloc Nothing wr (.cells #[Value.string y] 9))).own
      have hln : O.length ≤ 64 := by rw [HO.out]; simp; omega
      clear hx hy hr hd hm' hsl hrow hwf
      go_wp2_with (at_builtin; go_must (refine wpList_append_fp rfl (.tmp 17) (.tmp 24) 28 rfl 9 i0 (.string ByteArray.empty) 1 16 Try.underlying28 Hi.out Hz0.out Hz1.out Hz2.out rfl (by decide) _ _ _ rfl own1 _ 1 1 [Value.string y] rfl rfl (by simp) hsl1 (by simp [Value.oneCell']) (by unfold maxLen; omega) (by omega) ?_))
      intro v7 w7 o7 f7 n7 s7 _
      have co7 := Coll.one co (Fr.alloc Nothing wr _) o7 f7 n7
      have HO7 : Hid (O ++ [y] = (L.take (k + 1)).map Prod.snd) := (show _ = _ by rw [List.take_succ_eq_append_getElem hlt, List.map_append, List.map_cons, List.map_nil, ← Hy.out, HO.out])
      clear co hlk hc1 hsl1 own1 hln o7 f7 n7 s7
      go_wp2_with (fail)
      go_roundg (L.length - (k + 1))
      case measure => omega
      case rel => exact ⟨k + 1, _, by omega, rfl, by go_num, HO7, co7⟩
    · obtain rfl : k = L.length := by omega
      have hO := HO.out
      rw [List.take_length] at hO
      subst hO
      have Hr := Lib.hid hr
      have Hd := Lib.hid hd
      have Hco := Lib.hid co
      clear hr hd co
      go_wp2_with (with_reducible refine wpList_mapT_clear rfl (.tmp 30) rfl Try.underlying64 hm' rfl ?_)
      intro w7 m7 f7
      have hpb : ¬ (p = b) := fun e => Hr.out.neb e.symm
      have hd7 := Hd.out.fr f7 hpb
      have hp7 := hd7.free 1
      have hp7' := hd7.cell 1 rfl
      have Hd7 := Lib.hid hd7
      have Hpb := Lib.hid hpb
      clear hd7 e0 hm' hpb
      go_wp2_with (fail)
      go_ret
      have hr := Hr.out
      obtain ⟨a7, c7, e7, co7⟩ := Hco.out.told.coll
      have hlm : (L.map Prod.snd).length = L.length := by simp
      rw [hlm] at e7
      simp only [Ending.returned.injEq] at e7
      subst e7
      have hco := Hco.out
      have nb : ∀ q, InBlock (.slice a7 L.length c7) q → w.heap.size ≤ q := fun q hq => hco.new q hq
      have hplt := hr.head.lt
      have hblt := hr.map.lt
      have fset : Fr (fun q => q = p) w7 (w7.setCell ⟨p, 1, none⟩ (.slice none 0 0)) := Fr.setCell (S := fun q => q = p) (p := ⟨p, 1, none⟩) rfl _
      have hown : Owns (w7.setCell ⟨p, 1, none⟩ (.slice none 0 0)) 9 1 (.slice a7 L.length c7) L.length ((L.map Prod.snd).map Value.string) := by
        have := (hco.own.fr f7 (fun q hq e => by have := nb q hq; subst e; omega)).fr fset (fun q hq e => by have := nb q hq; subst e; omega)
        simpa using this
      have no : ∀ k, ¬ InBlock (.slice none 0 0) k := fun k hk => by simp [InBlock, Value.ownBlock] at hk
      refine ⟨a7, c7, rfl, hown.sl.2, nb, hown, _, ⟨b, .slice none 0 0, ⟨Hd7.out.set 1 _, m7.fr fset (fun e => Hpb.out e.symm), Owns.nil _ _ _, hr.neb, no p, no b, by simp, hr.one, hr.most, by simp, by simp⟩, fun k => Iff.rfl⟩, fun k hk => ?_, ((hco.fr.mono fun _ _ h => h.elim).trans' (f7.mono fun q _ hq => (HS.out q).2 (.inr (.inl hq)))).trans' (fset.mono fun q _ hq => (HS.out q).2 (.inl hq))⟩
      rcases hk with rfl | rfl | hk
      · exact .inl ((HS.out _).2 (.inl rfl))
      · exact .inl ((HS.out _).2 (.inr (.inl rfl)))
      · exact (no k hk).elim

set_option maxHeartbeats 1000000 in
theorem calm_put_no (k s : ByteArray) (hk : k.size ≤ maxLen) (h : IsCalm S w p m L) (hf : findT L k = none) (hl : m ≤ L.length) :
    Calls Try.prog 29 #[.pointer (some ⟨p, 0, none⟩), .string k, .string s] w fun e w' => e = .returned (.bool false) ∧ Fr Nothing w w' := by
  have hdec : decide (L.length = m) = true := by
    obtain ⟨b, v, hr, hS⟩ := h
    have := hr.le
    simp; omega
  go_enter Try.func29, Try.ntmps29
  go_wp2_with (fail)
  refine (calm_drop_no k hk h hf).mono ?_
  rintro e w1 ⟨rfl, f1⟩
  go_wp2_with (fail)
  refine (calm_full (h.fr f1 (fun _ _ h => h))).mono ?_
  rw [hdec]
  rintro e w2 ⟨rfl, n2, rfl⟩
  go_wp2_with (fail)
  go_ret
  exact ⟨rfl, f1.trans' (Fr.drewN _ _ _)⟩

set_option maxHeartbeats 2000000 in
theorem calm_put_ok (k s : ByteArray) (hk : k.size ≤ maxLen) (hs : s.size ≤ maxLen) (h : IsCalm S w p m L) (hroom : (findT L k).isSome ∨ L.length < m) :
    Calls Try.prog 29 #[.pointer (some ⟨p, 0, none⟩), .string k, .string s] w fun e w' => e = .returned (.bool true) ∧ CalmGone S w p m (strike L k ++ [(k, s)]) w' := by
  obtain ⟨i0, hi, hz0, hz1, hz2⟩ := info_parts Try.infoText
  have Hz2 := Lib.hid hz2
  have Hz1 := Lib.hid hz1
  have Hz0 := Lib.hid hz0
  have Hi := Lib.hid hi
  have Hroom := Lib.hid hroom
  clear hz2 hz1 hz0 hi hroom
  go_enter Try.func29, Try.ntmps29
  go_upto_region 1 with (fail)
  go_cut [18] (fun t wx => t = .bool false ∧ IsCalm S wx p m (strike L k) ∧ (strike L k).length < m ∧ Fr S w wx)
  case first =>
    by_cases hf : (findT L k).isSome
    · have Hf := Lib.hid hf
      clear hf
      go_wp2_with (fail)
      refine (calm_drop_yes k hk h Hf.out).mono ?_
      rintro e w1 ⟨rfl, h1, f1⟩
      go_wp2_with (fail)
      go_meet
      case rel => exact ⟨rfl, h1, by have := strike_lt Hf.out; obtain ⟨b, v, hr, _⟩ := h; have := hr.le; omega, f1⟩
    · have hf' : findT L k = none := by simpa using hf
      have Hf := Lib.hid hf'
      have hlt : L.length < m := by rcases Hroom.out with h1 | h1
                                    · exact absurd h1 hf
                                    · exact h1
      have hdec : decide (L.length = m) = false := by simp; omega
      have hst := strike_none hf'
      have Hst := Lib.hid hst
      clear hf hf' hst
      go_wp2_with (fail)
      refine (calm_drop_no k hk h Hf.out).mono ?_
      rintro e w1 ⟨rfl, f1⟩
      go_wp2_with (fail)
      refine (calm_full (h.fr f1 (fun _ _ h => h))).mono ?_
      rw [hdec]
      rintro e w2 ⟨rfl, n2, rfl⟩
      go_wp2_with (fail)
      go_meet
      case rel => exact ⟨rfl, by rw [Hst.out]; exact (h.fr f1 (fun _ _ h => h)).drewN n2, by rw [Hst.out]; exact hlt, (f1.mono fun _ _ h => h.elim).trans' (Fr.drewN _ _ _)⟩
  case rest =>
    obtain ⟨rfl, h1, hlt, f1⟩ := hcut
    obtain ⟨M, hM⟩ : ∃ M, M = strike L k := ⟨_, rfl⟩
    have hkn : findT M k = none := by rw [hM]; exact find_none.2 (strike_not L k)
    rw [← hM] at h1 hlt
    have HM := Lib.hid hM
    clear hM h
    obtain ⟨b, v, hr, hS⟩ := h1
    have HS := Lib.hid hS
    have Hr := Lib.hid hr
    have Hkn := Lib.hid hkn
    have h0 := hr.head.cell 0 rfl
    have hmo := hr.most
    clear hr hS hkn
    go_wp2_with (with_reducible refine wpList_mapT_store rfl (.tmp 22) (.tmp 23) (.tmp 24) rfl Try.underlying64 Hr.out.map (by unfold maxLen; omega) rfl rfl rfl hk hs Hkn.out ?_)
    intro w2 m2 f2
    have hd2 := Hr.out.head.fr f2 (fun e => Hr.out.neb e.symm)
    have e1 := hd2.cell 1 rfl
    have own2 := Hr.out.own.fr f2 (fun q hq e => Hr.out.nevb (e ▸ hq))
    obtain ⟨av, cv, rfl, _, _⟩ := own2.shape
    have hrow : Row (w2.alloc (.cells #[Value.string k] 9)) w2.heap.size [Value.string k] 9 := Row.allocNew w2 [Value.string k] 9
    have hsl1 : Sl (w2.alloc (.cells #[Value.string k] 9)) (some ⟨w2.heap.size, 0, none⟩) [Value.string k] := Sl.ofRow hrow
    have fa := Fr.alloc Nothing w2 (.cells #[Value.string k] 9)
    have own3 := own2.fr fa (fun _ _ h => h)
    have hd3 := hd2.fr fa (fun h => h)
    have m3 := m2.fr fa (fun h => h)
    have Hd3 := Lib.hid hd3
    clear hd2 hd3 own2 h0 m2 hrow
    go_wp2_with (at_builtin; go_must (refine wpList_append_fp rfl (.tmp 29) (.tmp 31) 28 rfl 9 i0 (.string ByteArray.empty) 1 16 Try.underlying28 Hi.out Hz0.out Hz1.out Hz2.out rfl (by decide) _ _ _ rfl own3 _ 1 1 [Value.string k] rfl rfl (by simp) hsl1 (by simp [Value.oneCell']) (by unfold maxLen; omega) (by omega) ?_))
    intro v7 w7 o7 f7 n7 s7 _
    have hd7 := Hd3.out.fr f7 Hr.out.nev
    have p7 := hd7.free 1
    have p7' := hd7.cell 1 rfl
    have m7 := m3.fr f7 Hr.out.nevb
    have Hd7 := Lib.hid hd7
    obtain ⟨a7, c7, rfl, _, _⟩ := o7.shape
    clear hd7 own3 hsl1 m3 e1
    go_wp2_with (fail)
    go_ret
    rw [← HM.out]
    have hr := Hr.out
    have hplt := hr.head.lt
    have hblt := hr.map.lt
    have hs2 := f2.size
    have hnp : ¬ InBlock (.slice a7 (M.length + 1) c7) p := fun hq => by
      rcases n7 p hq with h1 | h1
      · exact hr.nev h1
      · simp at h1; omega
    have hnb : ¬ InBlock (.slice a7 (M.length + 1) c7) b := fun hq => by
      rcases n7 b hq with h1 | h1
      · exact hr.nevb h1
      · simp at h1; omega
    have fset : Fr (fun q => q = p) w7 (w7.setCell ⟨p, 1, none⟩ (.slice a7 (M.length + 1) c7)) := Fr.setCell (S := fun q => q = p) (p := ⟨p, 1, none⟩) rfl _
    have hown : Owns (w7.setCell ⟨p, 1, none⟩ (.slice a7 (M.length + 1) c7)) 9 1 (.slice a7 (M.length + 1) c7) (M ++ [(k, s)]).length (((M ++ [(k, s)]).map Prod.fst).map Value.string) := by
      have := o7.fr fset (fun q hq e => hnp (e ▸ hq))
      simpa using this
    have hnd : ((M ++ [(k, s)]).map Prod.fst).Nodup := by
      rw [List.map_append, List.nodup_append]
      refine ⟨hr.nd, by simp, fun x hx y hy => ?_⟩
      simp only [List.map_cons, List.map_nil, List.mem_singleton] at hy
      subst hy
      exact fun e => find_none.1 Hkn.out (e ▸ hx)
    refine ⟨rfl, _, ⟨b, _, ⟨Hd7.out.set 1 _, m7.fr fset hr.neb, hown, hr.neb, hnp, hnb, by simp; omega, hr.one, hr.most, hnd, fun q hq => ?_⟩, fun q => Iff.rfl⟩, fun q hq => ?_, ?_⟩
    · rcases List.mem_append.1 hq with h1 | h1
      · exact hr.wf q h1
      · obtain rfl : q = (k, s) := by simpa using h1
        exact ⟨hk, hs⟩
    · rcases hq with rfl | rfl | hq
      · exact .inl ((HS.out _).2 (.inl rfl))
      · exact .inl ((HS.out _).2 (.inr (.inl rfl)))
      · rcases n7 q hq with h1 | h1
        · exact .inl ((HS.out _).2 (.inr (.inr h1)))
        · right; have := f1.size; simp at h1; omega
    · exact (((f1.trans' (f2.mono fun q _ hq => (HS.out q).2 (.inr (.inl hq)))).trans' (fa.mono fun _ _ h => h.elim)).trans' (f7.mono fun q _ hq => (HS.out q).2 (.inr (.inr hq)))).trans' (fset.mono fun q _ hq => (HS.out q).2 (.inl hq))

end

end Go.Proofs.Ytklpjnjhaodpkaa
