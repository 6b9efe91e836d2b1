/- wake.Box: devices, and the row of calls. No condition. -/
import Derived.Test.YtipkkhigcnhjdaaMapP
import Derived.Test.YtipkkhigcnhjdaaColl
namespace Go.Proofs.Ytipkkhigcnhjdaa
open Go.RowKit

structure Dev where
  name : ByteArray
  blk : Nat
  waits : Int
  at_ : Int
  called : Bool
  rowed : Bool
def Dev.cells (d : Dev) : List Value := [.int .i64 d.waits, .int .i64 d.at_, .bool d.called, .bool d.rowed]
def Dev.key (d : Dev) : ByteArray × Nat := (d.name, d.blk)
def Dev.Fits (M : Nat) (d : Dev) : Prop := 0 ≤ d.waits ∧ d.waits ≤ M ∧ 0 ≤ d.at_ ∧ d.at_ ≤ 9223372036854775807 ∧ d.name.size ≤ maxLen

structure BoxAt (w : World) (p : Nat) (qt : Int) (M b : Nat) (v : Value) (L : List Dev) (R : List ByteArray) : Prop where
  head : Row w p [.map (some b), v, .int .i64 qt] 57
  map : IsMapP w b (L.map Dev.key)
  own : Owns w 9 1 v R.length (R.map Value.string)
  devs : ∀ j (h : j < L.length), Row w L[j].blk L[j].cells 60
  neb : b ≠ p
  nev : ¬ InBlock v p
  nevb : ¬ InBlock v b
  dp : ∀ k, k ∈ L.map Dev.blk → k ≠ p ∧ k ≠ b ∧ ¬ InBlock v k
  dd : (L.map Dev.blk).Nodup
  nn : (L.map Dev.name).Nodup
  fits : ∀ j (h : j < L.length), L[j].Fits M
  lr : R.length ≤ M
  ll : L.length ≤ 64
  q0 : 0 ≤ qt
  q1 : qt ≤ 1000
def IsBox (S : Nat → Prop) (w : World) (p : Nat) (qt : Int) (M : Nat) (L : List Dev) (R : List ByteArray) : Prop :=
  ∃ b v, BoxAt w p qt M b v L R ∧ ∀ k, S k ↔ k = p ∨ k = b ∨ InBlock v k ∨ k ∈ L.map Dev.blk

section
variable {S T : Nat → Prop} {w w' : World} {p M b : Nat} {qt : Int} {v : Value} {L : List Dev} {R : List ByteArray}
theorem BoxAt.fr (h : BoxAt w p qt M b v L R) (F : Fr T w w') (hp : ¬ T p) (hb : ¬ T b) (hv : ∀ k, InBlock v k → ¬ T k) (hd : ∀ k, k ∈ L.map Dev.blk → ¬ T k) : BoxAt w' p qt M b v L R :=
  ⟨h.head.fr F hp, h.map.fr F hb, h.own.fr F hv, fun j hj => (h.devs j hj).fr F (hd _ (List.mem_map_of_mem (List.getElem_mem hj))), h.neb, h.nev, h.nevb, h.dp, h.dd, h.nn, h.fits, h.lr, h.ll, h.q0, h.q1⟩
theorem IsBox.fr (h : IsBox S w p qt M L R) (F : Fr T w w') (hd : ∀ k, S k → ¬ T k) : IsBox S w' p qt M L R := by
  obtain ⟨b, v, h, hS⟩ := h
  exact ⟨b, v, h.fr F (hd p ((hS p).2 (.inl rfl))) (hd b ((hS b).2 (.inr (.inl rfl)))) (fun k hk => hd k ((hS k).2 (.inr (.inr (.inl hk))))) (fun k hk => hd k ((hS k).2 (.inr (.inr (.inr hk))))), hS⟩
theorem IsBox.drewN (h : IsBox S w p qt M L R) (n : Nat) : IsBox S (w.drewN n) p qt M L R := h.fr (Fr.drewN Nothing _ _) (fun _ _ h => h)
theorem IsBox.drew (h : IsBox S w p qt M L R) : IsBox S w.drew p qt M L R := h.fr (Fr.drew Nothing _) (fun _ _ h => h)
theorem BoxAt.dlt (h : BoxAt w p qt M b v L R) {k : Nat} (hk : k ∈ L.map Dev.blk) : k < w.heap.size := by
  obtain ⟨d, hd, rfl⟩ := List.mem_map.1 hk
  obtain ⟨j, hj, rfl⟩ := List.mem_iff_getElem.1 hd
  exact (h.devs j hj).lt
theorem IsBox.lt (h : IsBox S w p qt M L R) {k : Nat} (hk : S k) : k < w.heap.size := by
  obtain ⟨b, v, h, hS⟩ := h
  rcases (hS k).1 hk with rfl | rfl | hk | hk
  · exact h.head.lt
  · exact h.map.lt
  · exact h.own.lt hk
  · exact h.dlt hk
theorem IsBox.more {M' : Nat} (h : IsBox S w p qt M L R) (hM : M ≤ M') : IsBox S w p qt M' L R := by
  obtain ⟨b, v, h, hS⟩ := h
  exact ⟨b, v, ⟨h.head, h.map, h.own, h.devs, h.neb, h.nev, h.nevb, h.dp, h.dd, h.nn, fun j hj => by obtain ⟨a, b, c⟩ := h.fits j hj; exact ⟨a, by omega, c⟩, Nat.le_trans h.lr hM, h.ll, h.q0, h.q1⟩, hS⟩
/-- After a call: the box has grown into new blocks alone. -/
def BoxGone (S : Nat → Prop) (w : World) (p : Nat) (qt : Int) (M : Nat) (L : List Dev) (R : List ByteArray) (w' : World) : Prop :=
  ∃ S', IsBox S' w' p qt M L R ∧ (∀ k, S' k → S k ∨ w.heap.size ≤ k) ∧ Fr S w w'

theorem map_set_same {β : Type} (f : Dev → β) {j : Nat} (hj : j < L.length) {d : Dev} (h : f d = f L[j]) : (L.set j d).map f = L.map f := by
  rw [List.map_set, h]
  apply List.ext_getElem
  · simp
  · intro i h1 h2
    rw [List.getElem_set]
    split
    · rename_i e; subst e; simp
    · rfl
/-- One device written anew, in its block. -/
theorem BoxAt.dev {M' : Nat} (h : BoxAt w p qt M b v L R) {j : Nat} (hj : j < L.length) {d : Dev} (hn : d.name = L[j].name) (hb : d.blk = L[j].blk) (hf : d.Fits M') (hM : M ≤ M') (F : Fr (fun k => k = L[j].blk) w w') (r : Row w' L[j].blk d.cells 60) : BoxAt w' p qt M' b v (L.set j d) R := by
  have hm : L[j].blk ∈ L.map Dev.blk := List.mem_map_of_mem (List.getElem_mem hj)
  have hdp := h.dp _ hm
  have e1 : (L.set j d).map Dev.blk = L.map Dev.blk := map_set_same _ hj hb
  have e2 : (L.set j d).map Dev.name = L.map Dev.name := map_set_same _ hj hn
  have e3 : (L.set j d).map Dev.key = L.map Dev.key := map_set_same _ hj (by rw [Dev.key, Dev.key, hn, hb])
  refine ⟨h.head.fr F (fun e => hdp.1 e.symm), by rw [e3]; exact h.map.fr F (fun e => hdp.2.1 e.symm), h.own.fr F (fun k hk e => hdp.2.2 (e ▸ hk)), fun i hi => ?_, h.neb, h.nev, h.nevb, by rw [e1]; exact h.dp, by rw [e1]; exact h.dd, by rw [e2]; exact h.nn, fun i hi => ?_, Nat.le_trans h.lr hM, by simpa using h.ll, h.q0, h.q1⟩
  · have hi' : i < L.length := by simpa using hi
    rw [List.getElem_set]
    split
    · rw [hb]; exact r
    · rename_i hne
      refine (h.devs i hi').fr F (fun e => ?_)
      have hnd := h.dd
      have h1 : (L.map Dev.blk)[i]'(by simpa using hi') = (L.map Dev.blk)[j]'(by simpa using hj) := by simpa using e
      have hpw := List.pairwise_iff_getElem.1 hnd
      rcases Nat.lt_trichotomy i j with h2 | h2 | h2
      · exact hpw i j (by simpa using hi') (by simpa using hj) h2 h1
      · exact hne h2.symm
      · exact hpw j i (by simpa using hj) (by simpa using hi') h2 h1.symm
  · have hi' : i < L.length := by simpa using hi
    rw [List.getElem_set]
    split
    · exact hf
    · obtain ⟨a, b, c⟩ := h.fits i hi'; exact ⟨a, by omega, c⟩
/-- The row written anew. -/
theorem BoxAt.rowed {M' : Nat} {v' : Value} {R' : List ByteArray} (h : BoxAt w p qt M b v L R) (F : Fr T w w') (hT : ∀ k, T k → k = p ∨ InBlock v k) (hd : Row w' p [.map (some b), v', .int .i64 qt] 57) (o : Owns w' 9 1 v' R'.length (R'.map Value.string)) (hN : ∀ k, InBlock v' k → InBlock v k ∨ w.heap.size ≤ k) (hM : M ≤ M') (hR : R'.length ≤ M') : BoxAt w' p qt M' b v' L R' := by
  have nb : ¬ T b := fun e => by
    rcases hT b e with h1 | h1
    · exact h.neb h1
    · exact h.nevb h1
  have nd : ∀ k, k ∈ L.map Dev.blk → ¬ T k := fun k hk e => by
    rcases hT k e with h1 | h1
    · exact (h.dp k hk).1 h1
    · exact (h.dp k hk).2.2 h1
  refine ⟨hd, h.map.fr F nb, o, fun j hj => (h.devs j hj).fr F (nd _ (List.mem_map_of_mem (List.getElem_mem hj))), h.neb, fun hk => ?_, fun hk => ?_, fun k hk => ⟨(h.dp k hk).1, (h.dp k hk).2.1, fun hk2 => ?_⟩, h.dd, h.nn, fun j hj => by obtain ⟨a, b, c⟩ := h.fits j hj; exact ⟨a, by omega, c⟩, hR, h.ll, h.q0, h.q1⟩
  · rcases hN p hk with h1 | h1
    · exact h.nev h1
    · have := h.head.lt; omega
  · rcases hN b hk with h1 | h1
    · exact h.nevb h1
    · have := h.map.lt; omega
  · rcases hN k hk2 with h1 | h1
    · exact (h.dp k hk).2.2 h1
    · have := h.dlt hk; omega

/-- What New gives. -/
def BoxNew (qt : Int) (w : World) (e : Ending) (w' : World) : Prop :=
  ∃ p S, e = .returned (.pointer (some ⟨p, 0, none⟩)) ∧ IsBox S w' p qt 0 [] [] ∧ (∀ k, S k → w.heap.size ≤ k) ∧ Fr Nothing w w'
set_option maxHeartbeats 400000 in
theorem box_new (k qt : Int) (w : World) (hq : qt = min (max k 0) 1000) :
    Calls Try.prog 10 #[.int .i64 k] w (BoxNew qt w) := by
  have hmm := @run_makeMap Try.prog
  have Hq := Lib.hid hq
  have q0 : 0 ≤ qt := by omega
  have q1 : qt ≤ 1000 := by omega
  clear hq
  have fin : ∀ z : Int, z = qt → BoxNew qt w (.returned (.pointer (some ⟨w.heap.size + 1, 0, none⟩))) ((w.alloc (.map #[] 0)).alloc (.cells #[.map (some w.heap.size), .slice none 0 0, .int .i64 z] 57)) := by
    rintro z rfl
    have e1 : (w.alloc (.map #[] 0)).heap.size = w.heap.size + 1 := by simp
    have hr := Row.allocNew (w.alloc (.map #[] 0)) [.map (some w.heap.size), .slice none 0 0, .int .i64 z] 57
    rw [e1] at hr
    have no : ∀ k, ¬ InBlock (.slice none 0 0) k := fun k hk => by simp [InBlock, Value.ownBlock] at hk
    refine ⟨w.heap.size + 1, _, rfl, ⟨w.heap.size, .slice none 0 0, ⟨hr, (IsMapP.made w).fr (Fr.alloc Nothing _ _) (fun h => h), Owns.nil _ _ _, fun j hj => by simp at hj, by omega, no _, no _, by simp, by simp, by simp, fun j hj => by simp at hj, by simp, by simp, by omega, by omega⟩, fun k => Iff.rfl⟩, fun k hk => ?_, (Fr.alloc _ _ _).trans' (Fr.alloc _ _ _)⟩
    rcases hk with rfl | rfl | hk | hk
    · omega
    · omega
    · exact (no k hk).elim
    · simp at hk
  go_enter Try.func10, Try.ntmps10
  go_wp2_with (fail)
  all_goals (go_ret; have := Hq.out; exact fin _ (by omega))

set_option maxHeartbeats 400000 in
theorem box_len (h : IsBox S w p qt M L R) :
    Calls Try.prog 13 #[.pointer (some ⟨p, 0, none⟩)] w fun e w' => e = .returned (.int .i64 R.length) ∧ w = w' := by
  obtain ⟨b, v, hr, hS⟩ := h
  obtain ⟨a, c, rfl, _, _⟩ := hr.own.shape
  have h1 := hr.head.cell 1 rfl
  clear hr hS
  go_enter Try.func13, Try.ntmps13
  go_wp2_with (fail)
  go_ret
  exact ⟨rfl, rfl⟩

theorem BoxAt.find (h : BoxAt w p qt M b v L R) {j : Nat} (hj : j < L.length) : findP (L.map Dev.key) L[j].name = some L[j].blk := by
  have hn : ((L.map Dev.key).map Prod.fst).Nodup := by rw [List.map_map]; exact h.nn
  have := findP_at hn (k := j) (by simpa using hj)
  simpa [Dev.key] using this

set_option maxHeartbeats 400000 in
theorem box_waits (j : Nat) (hj : j < L.length) (h : IsBox S w p qt M L R) :
    Calls Try.prog 17 #[.pointer (some ⟨p, 0, none⟩), .string L[j].name] w fun e w' => e = .returned (.int .i64 L[j].waits) ∧ w = w' := by
  obtain ⟨b, v, hr, hS⟩ := h
  have h0 := hr.head.cell 0 rfl
  have hlk := hr.map.look Try.underlying55 (hr.fits j hj).2.2.2.2
  rw [hr.find hj] at hlk
  have c0 := (hr.devs j hj).cell 0 rfl
  obtain ⟨d, hd⟩ : ∃ d, d = L[j] := ⟨_, rfl⟩
  rw [← hd] at hlk c0
  rw [← hd]
  simp only [ptrOf] at hlk
  clear hr hS hd
  go_enter Try.func17, Try.ntmps17
  go_wp2_with (fail)
  go_ret
  exact ⟨rfl, rfl⟩
set_option maxHeartbeats 400000 in
theorem box_waits_no (k : ByteArray) (hk : k.size ≤ maxLen) (h : IsBox S w p qt M L R) (hn : k ∉ L.map Dev.name) :
    Calls Try.prog 17 #[.pointer (some ⟨p, 0, none⟩), .string k] w fun e w' => e = .returned (.int .i64 0) ∧ w = w' := by
  obtain ⟨b, v, hr, hS⟩ := h
  have h0 := hr.head.cell 0 rfl
  have hlk := hr.map.look Try.underlying55 hk
  rw [findP_none.2 (by rw [List.map_map]; exact hn)] at hlk
  simp only [ptrOf] at hlk
  clear hr hS
  go_enter Try.func17, Try.ntmps17
  go_wp2_with (fail)
  go_ret
  exact ⟨rfl, rfl⟩

/-- Whether its quiet is over. -/
def loudB (d : Dev) (now qt : Int) : Bool := !d.called || decide (qt ≤ now - d.at_)
/-- Whether a call puts it in the row. -/
def callsB (d : Dev) (now qt : Int) : Bool := decide (0 < d.waits) && !d.rowed && loudB d now qt

set_option maxHeartbeats 1000000 in
theorem box_call_no (j : Nat) (hj : j < L.length) (now : Int) (h0 : 0 ≤ now) (h9 : now ≤ 9223372036854775807) (h : IsBox S w p qt M L R) (hc : callsB L[j] now qt = false) :
    Calls Try.prog 26 #[.pointer (some ⟨p, 0, none⟩), .string L[j].name, .int .i64 now] w fun e w' => e = .returned (.tuple #[]) ∧ ∃ n, w' = w.drewN n := by
  obtain ⟨b, v, hr, hS⟩ := h
  have e0 := hr.head.cell 0 rfl
  have e2 := hr.head.cell 2 rfl
  have hlk := hr.map.look Try.underlying55 (hr.fits j hj).2.2.2.2
  rw [hr.find hj] at hlk
  have r0 := hr.devs j hj
  have c0 := r0.cell 0 rfl
  have c1 := r0.cell 1 rfl
  have c2 := r0.cell 2 rfl
  have c3 := r0.cell 3 rfl
  have hf := hr.fits j hj
  obtain ⟨q0, q1⟩ := And.intro hr.q0 hr.q1
  obtain ⟨d, hd⟩ : ∃ d, d = L[j] := ⟨_, rfl⟩
  rw [← hd] at hlk c0 c1 c2 c3 hf hc
  rw [← hd]
  simp only [ptrOf] at hlk
  obtain ⟨f0, f1, f2, f3, _⟩ := hf
  have Hc := Lib.hid hc
  clear hr hS hd r0 hc
  go_enter Try.func26, Try.ntmps26
  go_upto_region 1 with (fail)
  go_cut [7] (fun t wx => t = .bool (loudB d now qt) ∧ ∃ n, wx = w.drewN n)
  case first =>
    cases hcd : d.called with
    | false =>
      rw [hcd] at c2
      have Hcd := Lib.hid hcd
      clear hcd
      go_quiet (fail)
      go_wp2_with (fail)
      go_meet
      case rel => exact ⟨by rw [loudB, Hcd.out]; rfl, nq, rfl⟩
    | true =>
      rw [hcd] at c2
      have Hcd := Lib.hid hcd
      have ew : IntKind.i64.wrap (now - d.at_) = now - d.at_ := IntWalk.i64_in _ (by omega)
      clear hcd
      go_quiet (fail)
      go_wp2_with (fail)
      go_meet
      case rel => exact ⟨by rw [loudB, Hcd.out]; rfl, nq, rfl⟩
  case rest =>
    obtain ⟨rfl, n1, rfl⟩ := hcut
    have hc := Hc.out
    unfold callsB at hc
    by_cases hw : 0 < d.waits
    · cases hrd : d.rowed with
      | true =>
        rw [hrd] at c3
        clear hc hrd
        go_wp2_with (fail)
        go_end0
        exact ⟨rfl, n1, rfl⟩
      | false =>
        rw [hrd] at c3
        have hl : loudB d now qt = false := by rw [hrd, decide_eq_true hw] at hc; simpa using hc
        clear hc hrd
        go_wp2_with (fail)
        go_end0
        exact ⟨rfl, n1, rfl⟩
    · clear hc
      go_wp2_with (fail)
      go_end0
      exact ⟨rfl, n1, rfl⟩

set_option maxHeartbeats 2000000 in
theorem box_call_yes (j : Nat) (hj : j < L.length) (now : Int) (h0 : 0 ≤ now) (h9 : now ≤ 9223372036854775807) (h : IsBox S w p qt M L R) (hM : M ≤ 1000000) (hc : callsB L[j] now qt = true) :
    Calls Try.prog 26 #[.pointer (some ⟨p, 0, none⟩), .string L[j].name, .int .i64 now] w fun e w' => e = .returned (.tuple #[]) ∧ BoxGone S w p qt (M + 1) (L.set j { L[j] with rowed := true }) (R ++ [L[j].name]) w' := by
  obtain ⟨i0, hi, hz0, hz1, hz2⟩ := info_parts Try.infoText
  have Hz2 := Lib.hid hz2
  have Hz1 := Lib.hid hz1
  have Hz0 := Lib.hid hz0
  have Hi := Lib.hid hi
  clear hz2 hz1 hz0 hi
  obtain ⟨b, v, hr, hS⟩ := h
  have e0 := hr.head.cell 0 rfl
  have e2 := hr.head.cell 2 rfl
  have hlk := hr.map.look Try.underlying55 (hr.fits j hj).2.2.2.2
  rw [hr.find hj] at hlk
  have r0 := hr.devs j hj
  have c0 := r0.cell 0 rfl
  have c1 := r0.cell 1 rfl
  have c2 := r0.cell 2 rfl
  have c3 := r0.cell 3 rfl
  have p3 := r0.free 3
  have hf := hr.fits j hj
  obtain ⟨q0, q1⟩ := And.intro hr.q0 hr.q1
  have HS := Lib.hid hS
  have Hr := Lib.hid hr
  obtain ⟨d, hd⟩ : ∃ d, d = L[j] := ⟨_, rfl⟩
  have hbd : d.blk = L[j].blk := by rw [hd]
  rw [← hd] at hlk c0 c1 c2 c3 hf hc r0 p3
  simp only [ptrOf] at hlk
  have Hd := Lib.hid hd
  have Hf := Lib.hid hf
  obtain ⟨f0, f1, f2, f3, _⟩ := hf
  have Hc := Lib.hid hc
  have Hr0 := Lib.hid r0
  have Hbd := Lib.hid hbd
  have hnm : L[j].name = d.name := by rw [hd]
  rw [hnm]
  have Hnm := Lib.hid hnm
  clear hr hS hd r0 hc hbd hnm
  go_enter Try.func26, Try.ntmps26
  go_upto_region 1 with (fail)
  go_cut [7] (fun t wx => t = .bool (loudB d now qt) ∧ ∃ n, wx = w.drewN n)
  case first =>
    cases hcd : d.called with
    | false =>
      rw [hcd] at c2
      have Hcd := Lib.hid hcd
      clear hcd
      go_quiet (fail)
      go_wp2_with (fail)
      go_meet
      case rel => exact ⟨by rw [loudB, Hcd.out]; rfl, nq, rfl⟩
    | true =>
      rw [hcd] at c2
      have Hcd := Lib.hid hcd
      have ew : IntKind.i64.wrap (now - d.at_) = now - d.at_ := IntWalk.i64_in _ (by omega)
      clear hcd
      go_quiet (fail)
      go_wp2_with (fail)
      go_meet
      case rel => exact ⟨by rw [loudB, Hcd.out]; rfl, nq, rfl⟩
  case rest =>
    obtain ⟨rfl, n1, rfl⟩ := hcut
    have hc := Hc.out
    unfold callsB at hc
    simp only [Bool.and_eq_true, decide_eq_true_eq, Bool.not_eq_true'] at hc
    obtain ⟨⟨hw, hrd⟩, hl⟩ := hc
    rw [hrd] at c3
    have Hrd := Lib.hid hrd
    clear hrd
    have a1 : BoxAt (w.drewN n1) p qt M b v L R := Hr.out.fr (Fr.drewN Nothing w n1) (fun h => h) (fun h => h) (fun _ _ h => h) (fun _ _ h => h)
    have a2 : BoxAt ((w.drewN n1).setCell ⟨d.blk, 3, none⟩ (.bool true)) p qt M b v (L.set j { d with rowed := true }) R := by
      refine a1.dev hj (d := { d with rowed := true }) (by rw [Hd.out]) (by rw [Hd.out]) Hf.out (Nat.le_refl _) (by rw [← Hbd.out]; exact Fr.setCell (S := fun k => k = d.blk) (p := ⟨d.blk, 3, none⟩) rfl _) ?_
      rw [← Hbd.out]
      exact (show Row (w.drewN n1) d.blk d.cells _ from Hr0.out).set 3 (.bool true)
    have F2 : Fr S w ((w.drewN n1).setCell ⟨d.blk, 3, none⟩ (.bool true)) := (Fr.drewN _ _ _).trans' (Fr.setCell ((HS.out d.blk).2 (.inr (.inr (.inr (by rw [Hbd.out]; exact List.mem_map_of_mem (List.getElem_mem hj)))))) _)
    have hsd : (L.set j { d with rowed := true }).map Dev.blk = L.map Dev.blk := map_set_same _ hj (by rw [Hd.out])
    go_upto_region 3 with (fail)
    go_cut [] (fun wx => wx = (w.drewN n1).setCell ⟨d.blk, 3, none⟩ (.bool true))
    case first =>
      clear a1 a2 hsd F2
      go_wp2_with (fail)
      go_meet
      case rel => rfl
    case rest =>
    obtain ⟨w2, rfl⟩ : ∃ w2 : World, w2 = wc := ⟨_, rfl⟩
    clear a1 hlk c0 c1 c2 c3 p3 e0 e2
    rw [← hcut] at a2 F2
    clear hcut
    obtain ⟨L', hL'⟩ : ∃ L', L' = L.set j { d with rowed := true } := ⟨_, rfl⟩
    rw [← hL'] at a2 hsd
    have HL' := Lib.hid hL'
    have Hsd := Lib.hid hsd
    have A2 := Lib.hid a2
    have hd2 := a2.head
    have own2 := a2.own
    have hlr := a2.lr
    have g1 := hd2.cell 1 rfl
    obtain ⟨av, cv, rfl, _, _⟩ := own2.shape
    have hwz : w.heap.size ≤ w2.heap.size := F2.size
    clear a2 hL' hsd
    have hrow : Row (w2.alloc (.cells #[Value.string d.name] 9)) w2.heap.size [Value.string d.name] 9 := Row.allocNew w2 [Value.string d.name] 9
    have hsl1 : Sl (w2.alloc (.cells #[Value.string d.name] 9)) (some ⟨w2.heap.size, 0, none⟩) [Value.string d.name] := Sl.ofRow hrow
    have fa := Fr.alloc Nothing w2 (.cells #[Value.string d.name] 9)
    have own3 := own2.fr fa (fun _ _ h => h)
    have hd3 := hd2.fr fa (fun h => h)
    have Hd3 := Lib.hid hd3
    clear hd2 hd3 own2 hrow
    go_wp2_with (at_builtin; go_must (refine wpList_append_fp rfl (.tmp 54) (.tmp 56) 22 rfl 9 i0 (.string ByteArray.empty) 1 16 Try.underlying22 Hi.out Hz0.out Hz1.out Hz2.out rfl (by decide) _ _ _ rfl own3 _ 1 1 [Value.string d.name] rfl rfl (by simp) hsl1 (by simp [Value.oneCell']) (by unfold maxLen; omega) (by omega) ?_))
    intro v7 w7 o7 f7 n7 s7 _
    have hd7 := Hd3.out.fr f7 A2.out.nev
    have p7 := hd7.free 1
    have p7' := hd7.cell 1 rfl
    have Hd7 := Lib.hid hd7
    obtain ⟨a7, c7, rfl, _, _⟩ := o7.shape
    clear hd7 own3 hsl1 g1
    go_wp2_with (fail)
    go_end0
    have h2 := A2.out
    have fset : Fr (fun q => q = p) w7 (w7.setCell ⟨p, 1, none⟩ (.slice a7 (R.length + 1) c7)) := Fr.setCell (S := fun q => q = p) (p := ⟨p, 1, none⟩) rfl _
    have hplt := h2.head.lt
    have hN : ∀ k, InBlock (.slice a7 (R.length + 1) c7) k → InBlock (.slice av R.length cv) k ∨ w2.heap.size ≤ k := fun k hk => by
      rcases n7 k hk with h1 | h1
      · exact .inl h1
      · right; simp at h1; omega
    have hnp : ¬ InBlock (.slice a7 (R.length + 1) c7) p := fun hq => by
      rcases hN p hq with h1 | h1
      · exact h2.nev h1
      · omega
    have F7 : Fr (fun k => k = p ∨ InBlock (.slice av R.length cv) k) w2 (w7.setCell ⟨p, 1, none⟩ (.slice a7 (R.length + 1) c7)) := ((fa.mono fun _ _ h => h.elim).trans' (f7.mono fun _ _ h => .inr h)).trans' (fset.mono fun _ _ h => .inl h)
    have a8 : BoxAt (w7.setCell ⟨p, 1, none⟩ (.slice a7 (R.length + 1) c7)) p qt (M + 1) b (.slice a7 (R.length + 1) c7) L' (R ++ [d.name]) := by
      refine h2.rowed F7 (fun k hk => hk) (Hd7.out.set 1 _) ?_ hN (by omega) (by simp; omega)
      have := o7.fr fset (fun q hq e => hnp (e ▸ hq))
      simpa using this
    have e1 : L.set j { L[j] with rowed := true } = L' := by rw [HL'.out, Hd.out]
    rw [e1]
    refine ⟨rfl, _, ⟨b, _, a8, fun q => Iff.rfl⟩, fun q hq => ?_, F2.trans F7 (fun q _ hq => ?_)⟩
    · rcases hq with rfl | rfl | hq | hq
      · exact .inl ((HS.out _).2 (.inl rfl))
      · exact .inl ((HS.out _).2 (.inr (.inl rfl)))
      · rcases hN q hq with h1 | h1
        · exact .inl ((HS.out _).2 (.inr (.inr (.inl h1))))
        · right; omega
      · rw [Hsd.out] at hq
        exact .inl ((HS.out _).2 (.inr (.inr (.inr hq))))
    · rcases hq with rfl | hq
      · exact (HS.out _).2 (.inl rfl)
      · exact (HS.out _).2 (.inr (.inr (.inl hq)))
end

end Go.Proofs.Ytipkkhigcnhjdaa
