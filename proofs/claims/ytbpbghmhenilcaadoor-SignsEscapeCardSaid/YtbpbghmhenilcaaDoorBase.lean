/- Plain helpers of the walks: what a call leaves as it was, block by block; cells of known blocks. No condition. -/
import Derived.WalkKit
import Derived.WalkSpells
import Derived.WalkLawsBesides
import Derived.Deep.QuietTactic
import Derived.BigQuiet
import Derived.StillTailTactics
import Derived.Deep.DeepCutAuto
import Derived.Deep.RegionHeld3
import Derived.Laws.CopyOwn
import Derived.Lib.Hide
namespace Go.Proofs.YtbpbghmhenilcaaDoor
open Go.RowKit

/-- Blocks outside S that lay there before are as they were; nothing else of the world that counts has changed. -/
structure Fr (S : Nat → Prop) (w w' : World) : Prop where
  os : w'.os = w.os
  tape : w'.tape = w.tape
  output : w'.output = w.output
  size : w.heap.size ≤ w'.heap.size
  block : ∀ k, k < w.heap.size → ¬ S k → w'.heap[k]? = w.heap[k]?

def Nothing : Nat → Prop := fun _ => False
def OnlyB (b : Nat) : Nat → Prop := fun k => k = b

theorem Fr.refl (S : Nat → Prop) (w : World) : Fr S w w := ⟨rfl, rfl, rfl, Nat.le_refl _, fun _ _ _ => rfl⟩
theorem Fr.mono {S T : Nat → Prop} {w w' : World} (h : Fr S w w') (hs : ∀ k, k < w.heap.size → S k → T k) : Fr T w w' :=
  ⟨h.os, h.tape, h.output, h.size, fun k hk hn => h.block k hk (fun hS => hn (hs k hk hS))⟩
theorem Fr.trans {S T : Nat → Prop} {a b c : World} (h : Fr S a b) (h' : Fr T b c) (hs : ∀ k, k < a.heap.size → T k → S k) : Fr S a c :=
  ⟨h'.os.trans h.os, h'.tape.trans h.tape, h'.output.trans h.output, Nat.le_trans h.size h'.size,
   fun k hk hn => (h'.block k (Nat.lt_of_lt_of_le hk h.size) (fun hT => hn (hs k hk hT))).trans (h.block k hk hn)⟩
theorem Fr.trans' {S : Nat → Prop} {a b c : World} (h : Fr S a b) (h' : Fr S b c) : Fr S a c := h.trans h' fun _ _ h => h
theorem Fr.drewN (S : Nat → Prop) (w : World) (n : Nat) : Fr S w (w.drewN n) := ⟨rfl, rfl, rfl, Nat.le_refl _, fun _ _ _ => rfl⟩
theorem Fr.drew (S : Nat → Prop) (w : World) : Fr S w w.drew := ⟨rfl, rfl, rfl, Nat.le_refl _, fun _ _ _ => rfl⟩
theorem Fr.setCell {S : Nat → Prop} {w : World} {p : Addr} (hp : S p.block) (u : Value) : Fr S w (w.setCell p u) :=
  ⟨rfl, rfl, rfl, by simp [World.setCell], fun k _ hn => Below.heap_setCell _ _ _ _ (fun e => hn (e ▸ hp))⟩
theorem Fr.alloc (S : Nat → Prop) (w : World) (o : Obj) : Fr S w (w.alloc o) :=
  ⟨rfl, rfl, rfl, by simp, fun k hk _ => Below.heap_alloc _ _ _ hk⟩
theorem Fr.grown {S : Nat → Prop} {w w' : World} {row : Option Nat} (hg : w.grownBy w' row) (hr : ∀ k, row = some k → k < w.heap.size → S k) : Fr S w w' :=
  ⟨hg.os, hg.tape, hg.output, hg.size, fun k hk hn => hg.block k hk (fun e => hn (hr k e.symm hk))⟩
theorem Fr.below {S : Nat → Prop} {w w' : World} {B : Nat} (h : Fr S w w') (hB : B ≤ w.heap.size) (hs : ∀ k, S k → B ≤ k) : Below B w w' :=
  ⟨h.os, h.tape, h.output, h.size, fun k hk => h.block k (by omega) (fun hS => by have := hs k hS; omega)⟩
theorem Fr.of_below {B : Nat} {w w' : World} (h : Below B w w') : Fr (fun k => B ≤ k) w w' :=
  ⟨h.os, h.tape, h.output, h.size, fun k _ hn => h.block k (by omega)⟩
theorem Fr.same {S : Nat → Prop} {w w' : World} (h : Fr S w w') {k : Nat} {o : Obj} (hk : w.heap[k]? = some o) (hn : ¬ S k) : w'.heap[k]? = some o := by
  have hlt : k < w.heap.size := by
    rcases Nat.lt_or_ge k w.heap.size with h' | h'
    · exact h'
    · simp [Array.getElem?_eq_none h'] at hk
  rw [h.block k hlt hn]; exact hk
theorem lt_of_heap {w : World} {k : Nat} {o : Obj} (hk : w.heap[k]? = some o) : k < w.heap.size := by
  rcases Nat.lt_or_ge k w.heap.size with h' | h'
  · exact h'
  · simp [Array.getElem?_eq_none h'] at hk

/-- A block of cells that may be written. -/
def Row (w : World) (b : Nat) (cs : List Value) (t : TypeId) : Prop := w.heap[b]? = some (.cells cs.toArray t (0, 0))

theorem Row.cell {w : World} {b : Nat} {cs : List Value} {t : TypeId} (h : Row w b cs t) (j : Nat) {v : Value} (hv : cs[j]? = some v) : w.cell? ⟨b, j, none⟩ = some v := by
  rw [cell_of_row w b j cs.toArray t (0, 0) h]; simpa using hv
theorem Row.free {w : World} {b : Nat} {cs : List Value} {t : TypeId} (h : Row w b cs t) (j : Nat) : w.frozen? ⟨b, j, none⟩ = false := frozen_of_row w b j cs.toArray t h
theorem Row.lt {w : World} {b : Nat} {cs : List Value} {t : TypeId} (h : Row w b cs t) : b < w.heap.size := lt_of_heap h
theorem Row.fr {S : Nat → Prop} {w w' : World} {b : Nat} {cs : List Value} {t : TypeId} (h : Row w b cs t) (f : Fr S w w') (hn : ¬ S b) : Row w' b cs t := f.same h hn
theorem Row.drewN {w : World} {b : Nat} {cs : List Value} {t : TypeId} (h : Row w b cs t) (n : Nat) : Row (w.drewN n) b cs t := h
theorem Row.drew {w : World} {b : Nat} {cs : List Value} {t : TypeId} (h : Row w b cs t) : Row w.drew b cs t := h
theorem Row.set {w : World} {b : Nat} {cs : List Value} {t : TypeId} (h : Row w b cs t) (j : Nat) (v : Value) : Row (w.setCell ⟨b, j, none⟩ v) b (cs.set j v) t := by
  have := heap_setCell_same w b j cs.toArray t v h
  unfold Row
  rw [this]
  simp
theorem Row.setOther {w : World} {b : Nat} {cs : List Value} {t : TypeId} (h : Row w b cs t) {a : Addr} (hne : b ≠ a.block) (v : Value) : Row (w.setCell a v) b cs t := by
  unfold Row
  rw [heap_setCell_other w a b v hne]; exact h
theorem Row.allocNew (w : World) (cs : List Value) (t : TypeId) : Row (w.alloc (.cells cs.toArray t)) w.heap.size cs t := heap_alloc_new w _
theorem Row.allocOld {w : World} {b : Nat} {cs : List Value} {t : TypeId} (h : Row w b cs t) (o : Obj) : Row (w.alloc o) b cs t := by
  unfold Row
  exact (Below.heap_alloc w o b h.lt).trans h

/-- From block B on. -/
def FromB (B : Nat) : Nat → Prop := fun k => B ≤ k
theorem Fr.from_ {B : Nat} {S : Nat → Prop} {w w' : World} (h : Fr S w w') (hs : ∀ k, S k → B ≤ k) : Fr (FromB B) w w' := h.mono fun k _ hk => hs k hk
theorem Fr.fromN {B : Nat} {w w' : World} (h : Fr Nothing w w') : Fr (FromB B) w w' := h.mono fun _ _ hk => hk.elim
theorem Fr.belowB {w w' : World} (h : Fr (FromB w.heap.size) w w') : Below w.heap.size w w' := h.below (Nat.le_refl _) fun _ h => h

/-! A slice's cells as they are read. -/
/-- The slice at address a reads as the cells xs. -/
def Sl (w : World) (a : Option Addr) (xs : List Value) : Prop :=
  xs = [] ∨ ∃ b o, a = some ⟨b, o, none⟩ ∧ ∀ i, i < xs.length → w.cell? ⟨b, o + i, none⟩ = xs[i]?
theorem Sl.nil (w : World) (a : Option Addr) : Sl w a [] := .inl rfl
theorem Sl.at_ {w : World} {a : Option Addr} {xs : List Value} (h : Sl w a xs) {i : Nat} (hi : i < xs.length) :
    ∃ b o, a = some ⟨b, o, none⟩ ∧ ∀ i, i < xs.length → w.cell? ⟨b, o + i, none⟩ = xs[i]? := by
  rcases h with rfl | h
  · simp at hi
  · exact h
theorem Sl.fr {S : Nat → Prop} {w w' : World} {a : Option Addr} {xs : List Value} (h : Sl w a xs) (F : Fr S w w') (hn : ∀ ad, a = some ad → ¬ S ad.block) : Sl w' a xs := by
  rcases h with rfl | ⟨b, o, rfl, h⟩
  · exact .inl rfl
  · refine .inr ⟨b, o, rfl, fun i hi => ?_⟩
    have hc := h i hi
    have hlt : b < w.heap.size := by
      have : w.cell? ⟨b, o + i, none⟩ = some xs[i] := by rw [hc]; simp [hi]
      exact World.block_lt_of_cell? w _ this
    rw [World.cell?_of_block (w := w) (F.block b hlt (hn _ rfl))]; exact hc
theorem Sl.drewN {w : World} {a : Option Addr} {xs : List Value} (h : Sl w a xs) (n : Nat) : Sl (w.drewN n) a xs := h
theorem Sl.drew {w : World} {a : Option Addr} {xs : List Value} (h : Sl w a xs) : Sl w.drew a xs := h
theorem Sl.ofRow {w : World} {g : Nat} {xs : List Value} {t : TypeId} (h : Row w g xs t) : Sl w (some ⟨g, 0, none⟩) xs :=
  .inr ⟨g, 0, rfl, fun i hi => by rw [Nat.zero_add]; rw [cell_of_row w g i xs.toArray t (0, 0) h]; simp⟩
theorem Sl.take {w : World} {a : Option Addr} {xs : List Value} (h : Sl w a xs) (n : Nat) : Sl w a (xs.take n) := by
  rcases h with rfl | ⟨b, o, rfl, h⟩
  · exact .inl (by simp)
  · refine .inr ⟨b, o, rfl, fun i hi => ?_⟩
    simp only [List.length_take] at hi
    rw [h i (by omega), List.getElem?_take_of_lt (by omega)]
theorem Sl.drop {w : World} {b o : Nat} {xs : List Value} (h : Sl w (some ⟨b, o, none⟩) xs) (n : Nat) : Sl w (some ⟨b, o + n, none⟩) (xs.drop n) := by
  rcases h with rfl | ⟨b', o', he, h⟩
  · exact .inl (by simp)
  · obtain ⟨rfl, rfl⟩ : b = b' ∧ o = o' := by simpa using he
    refine .inr ⟨b, o + n, rfl, fun i hi => ?_⟩
    simp only [List.length_drop] at hi
    rw [Nat.add_assoc, h (n + i) (by omega), List.getElem?_drop]
theorem Sl.cut {w : World} {b o c : Nat} {xs : List Value} (h : Sl w (some ⟨b, o, none⟩) xs) (n : Nat) (hc : xs.length ≤ c) : Sl w (if c = n then some ⟨b, o, none⟩ else some ⟨b, o + n, none⟩) (xs.drop n) := by
  by_cases hn : c = n
  · rw [if_pos hn, List.drop_eq_nil_of_le (by omega)]; exact .inl rfl
  · rw [if_neg hn]; exact h.drop n
theorem Sl.of_none {w : World} {xs : List Value} (h : Sl w none xs) : xs = [] := by
  rcases h with h | ⟨b, o, h, _⟩
  · exact h
  · simp at h
theorem Sl.oneCell {w : World} {a : Option Addr} {xs : List Value} (h : Sl w a xs) {j : Nat} {v : Value} (hv : xs[j]? = some v) : ∃ b o, a = some ⟨b, o, none⟩ ∧ w.cell? ⟨b, o + j, none⟩ = some v := by
  have hj : j < xs.length := by
    rcases Nat.lt_or_ge j xs.length with h' | h'
    · exact h'
    · simp [List.getElem?_eq_none h'] at hv
  obtain ⟨b, o, ha, hc⟩ := h.at_ hj
  exact ⟨b, o, ha, (hc j hj).trans hv⟩

/-- 'make([]T, n)' of one-cell elements: a new row of zeros, the world written out. -/
theorem wpList_make_row {P : Program} (w : World) {ops : Array Oper} {rest : List Oper} {o : Oper} {a : Act} {Q : Exit → Act → World → Prop}
    (hg : o.guard = none) (l c : Operand) (t : TypeId) (hop : o.op = Op.makeSlice t l c)
    (e : TypeId) (i : TypeInfo) (z : Value) (h1 : P.underlying t = some (.slice e)) (h2 : P.info? e = some i) (h3 : i.zero = some z) (h4 : i.size = 1) (h5 : z.cells = #[z])
    (kl kc : IntKind) (L C : Int) (n : Nat) (hl : a.eval l = .int kl L) (hc : a.eval c = .int kc C) (hL : L = (n : Int)) (hC : C = (n : Int)) (b2 : i.bytes * n ≤ 281474976710656) (b3 : n ≤ maxLen)
    (hK : ∀ w', Row w' w.heap.size (List.replicate n z) e → Fr Nothing w w' → w.heap.size < w'.heap.size → wpList P ops Q rest (a.put o.dst (.slice (some ⟨w.heap.size, 0, none⟩) n n)) w') :
    wpList P ops Q (o :: rest) a w := by
  refine wpList_plain hg fun K hK' => ?_
  have hr := run_make (P := P) w t e i z h1 h2 h3 kl kc n n (by omega) (Int.le_refl _) (by
    have h : ((i.bytes * n : Nat) : Int) ≤ 281474976710656 := by omega
    rwa [Int.natCast_mul] at h) (by simp [maxLen] at b3; omega)
  simp only [Int.toNat_natCast] at hr
  subst hL
  subst hC
  unfold Oper.wp
  simp [execOp, hop, hl, hc, hr, Result.andThen]
  refine hK' _ _ (hK _ ?_ (Fr.alloc _ _ _) (by simp))
  have e1 : madeCells z.cells (n * i.size) = (List.replicate n z).toArray := by
    rw [h4, h5, Nat.mul_one, ← toList_madeCells_one z n]
  rw [e1]
  exact Row.allocNew w _ e

/-- 'copy(dst, src)' into a row that is known whole. -/
theorem wpList_copy_row {P : Program} {w : World} {ops : Array Oper} {rest : List Oper} {o : Oper} {a : Act} {Q : Exit → Act → World → Prop} (hgd : o.guard = none) (d s : Operand) (dT sT : TypeId)
    (ho : o.op = .call { callee := .builtin .copy, args := #[d, s], argTypes := #[dT, sT] }) (elem : TypeId) (hu : P.underlying dT = some (.slice elem)) (hsz : (P.info? elem).map (·.size) = some 1)
    (dp sp : Option Addr) (dLen dCap sLen sCap : Nat) (hd : a.eval d = .slice dp dLen dCap) (hs : a.eval s = .slice sp sLen sCap)
    (g off : Nat) (cur : List Value) (t : TypeId) (hg : Row w g cur t) (cs : List Value) (hn : cs.length = Nat.min sLen dLen)
    (hpos : 0 < cs.length → dp = some ⟨g, off, none⟩) (hsl : Sl w sp cs)
    (hfit : off + cs.length ≤ cur.length) (h1 : ∀ v ∈ cs, v.oneCell' = true)
    (h : ∀ w', Row w' g (splice cur off cs) t → Fr (OnlyB g) w w' → wpList P ops Q rest (a.put o.dst (goInt cs.length)) w') :
    wpList P ops Q (o :: rest) a w := by
  by_cases h0 : cs.length = 0
  · obtain rfl : cs = [] := List.eq_nil_of_length_eq_zero h0
    refine wpList_copy_nothing hgd d s dT sT ho elem hu hsz dp sp dLen dCap sLen sCap hd hs (by simpa using hn.symm) ?_
    exact h w (by simpa [splice] using hg) (Fr.refl _ _)
  · obtain rfl := hpos (by omega)
    obtain ⟨b, oo, rfl, hc⟩ := hsl.at_ (i := 0) (by omega)
    refine wpList_copy_own hgd d s dT sT ho elem hu hsz g off dLen dCap ⟨b, oo, none⟩ sLen sCap hd hs cur.toArray t hg cs hn (fun j v hv => ?_) (by simpa using hfit) h1 ?_
    · have hj : j < cs.length := by
        rcases Nat.lt_or_ge j cs.length with h' | h'
        · exact h'
        · simp [List.getElem?_eq_none h'] at hv
      rw [Addr.add_lit, hc j hj]; exact hv
    · exact h _ (by simpa [splice, Row] using setRow_heap w g _ _ t _ hg) ⟨rfl, rfl, rfl, by simp [World.setRow], fun k _ hk => setRow_other w g k _ (fun e => hk e)⟩

/-- A slice that lay there when the call began still reads as it did. -/
theorem Sl.kept {w w' : World} {a : Option Addr} {xs : List Value} (h : Sl w a xs) (F : Fr (FromB w.heap.size) w w') : Sl w' a xs := by
  rcases h with rfl | ⟨b, o, rfl, h⟩
  · exact .inl rfl
  · refine .inr ⟨b, o, rfl, fun i hi => ?_⟩
    have hc := h i hi
    have hlt : b < w.heap.size := by
      have : w.cell? ⟨b, o + i, none⟩ = some xs[i] := by rw [hc]; simp [hi]
      exact World.block_lt_of_cell? w _ this
    rw [World.cell?_of_block (w := w) (F.block b hlt (fun hk => by unfold FromB at hk; omega))]; exact hc

theorem cell_fr {S : Nat → Prop} {w w' : World} {b o : Nat} {v : Value} (h : w.cell? ⟨b, o, none⟩ = some v) (F : Fr S w w') (hs : ¬ S b) : w'.cell? ⟨b, o, none⟩ = some v := by
  have hlt := World.block_lt_of_cell? w _ h
  rw [World.cell?_of_block (w := w) (F.block b hlt hs)]; exact h
theorem cell_kept {B : Nat} {S : Nat → Prop} {w w' : World} {b o : Nat} {v : Value} (h : w.cell? ⟨b, o, none⟩ = some v) (hb : b < B) (F : Fr S w w') (hs : ∀ k, S k → B ≤ k) : w'.cell? ⟨b, o, none⟩ = some v := by
  have hlt := World.block_lt_of_cell? w _ h
  rw [World.cell?_of_block (w := w) (F.block b hlt (fun hk => by have := hs b hk; omega))]; exact h

/-- 'int(uint(n) % K)'. -/
theorem umod (n : Int) (K : Nat) (h0 : 0 < K) (h1 : K ≤ 4611686018427387904) : ∃ N : Nat, N < K ∧ wrap64 ((IntKind.u64.wrap n).tmod (K : Int)) = N := by
  have hw : 0 ≤ IntKind.u64.wrap n := by
    simp only [IntKind.wrap, IntKind.bits, IntKind.signed]; simp; omega
  obtain ⟨x, hx⟩ := Int.eq_ofNat_of_zero_le hw
  rw [hx]
  have e : Int.tmod (x : Int) (K : Int) = ((x % K : Nat) : Int) := rfl
  have hlt := Nat.mod_lt x h0
  rw [e]
  exact ⟨x % K, hlt, IntWalk.wrap64_in _ (by omega)⟩

/-- A callee's contract that leaves the world alone, met in a region that draws. -/
theorem quiet_eq {P : Program} {f : FuncId} {args : Array Value} {w : World} {n : Nat} {v : Value}
    (h : Calls P f args (w.drewN n) fun e w' => e = .returned v ∧ w.drewN n = w') : Calls P f args (w.drewN n) fun e w'' => e = .returned v ∧ ∃ m, w'' = w.drewN m :=
  h.mono fun _ _ ⟨he, hm⟩ => ⟨he, n, hm.symm⟩
theorem quiet_draw {P : Program} {f : FuncId} {args : Array Value} {w : World} {n : Nat} {v : Value}
    (h : Calls P f args (w.drewN n) fun e w' => e = .returned v ∧ ∃ m, w' = (w.drewN n).drewN m) : Calls P f args (w.drewN n) fun e w'' => e = .returned v ∧ ∃ m, w'' = w.drewN m :=
  h.mono fun _ _ ⟨he, m, hm⟩ => ⟨he, n + m, by rw [hm, World.drewN_drewN]⟩

theorem ret_val {a b : Value} (h : a = b) : Ending.returned a = .returned b := by rw [h]

end Go.Proofs.YtbpbghmhenilcaaDoor
