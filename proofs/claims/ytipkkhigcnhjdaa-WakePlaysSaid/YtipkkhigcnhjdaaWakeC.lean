/- wake.Box: what is fetched. No condition. -/
import Derived.Test.YtipkkhigcnhjdaaWakeB
import Derived.Test.YtipkkhigcnhjdaaOpen
namespace Go.Proofs.Ytipkkhigcnhjdaa
open Go.RowKit

theorem Try.infoCall : (Try.prog.info? 31).map (fun i => (i.zero, i.size, i.bytes)) = some (some (.agg #[.string ByteArray.empty, .int .i64 0]), 2, 24) := by kernel_rfl

/-- A call that is told. -/
structure Told1 where
  name : ByteArray
  count : Int
def Told1.cells (c : Told1) : List Value := [.string c.name, .int .i64 c.count]
theorem Told1.len (c : Told1) : c.cells.length = 2 := rfl

/-- Whether a name is among these. -/
def inR (R : List ByteArray) (k : ByteArray) : Bool := R.any fun y => decide (y = k)
theorem inR_iff {R : List ByteArray} {k : ByteArray} : inR R k = true ↔ k ∈ R := by
  unfold inR
  rw [List.any_eq_true]
  constructor
  · rintro ⟨y, hy, e⟩
    obtain rfl : y = k := by simpa using e
    exact hy
  · exact fun h => ⟨k, h, by simp⟩
def resetD (now : Int) (d : Dev) : Dev := { d with waits := 0, at_ := max now 0, called := true, rowed := false }
/-- The devices behind a fetch of these names. -/
def fetchL (L : List Dev) (R : List ByteArray) (now : Int) : List Dev := L.map fun d => if inR R d.name then resetD now d else d
/-- What waits for a name. -/
def waitsOf (L : List Dev) (k : ByteArray) : Int := ((L.find? fun d => decide (d.name = k)).map Dev.waits).getD 0
def toldOf (L : List Dev) (R : List ByteArray) : List Told1 := R.map fun r => ⟨r, waitsOf L r⟩
theorem fetchL_nil (L : List Dev) (now : Int) : fetchL L [] now = L := by
  unfold fetchL
  have : (fun d : Dev => if inR [] d.name then resetD now d else d) = id := by funext d; rfl
  rw [this, List.map_id]
theorem fetchL_len (L : List Dev) (R : List ByteArray) (now : Int) : (fetchL L R now).length = L.length := by simp [fetchL]
theorem fetchL_names (L : List Dev) (R : List ByteArray) (now : Int) : (fetchL L R now).map Dev.name = L.map Dev.name := by
  unfold fetchL
  rw [List.map_map]
  refine List.map_congr_left fun d _ => ?_
  show (if inR R d.name then resetD now d else d).name = d.name
  split <;> rfl
theorem fetchL_blks (L : List Dev) (R : List ByteArray) (now : Int) : (fetchL L R now).map Dev.blk = L.map Dev.blk := by
  unfold fetchL
  rw [List.map_map]
  refine List.map_congr_left fun d _ => ?_
  show (if inR R d.name then resetD now d else d).blk = d.blk
  split <;> rfl
theorem names_inj {L : List Dev} (hn : (L.map Dev.name).Nodup) {i j : Nat} (hi : i < L.length) (hj : j < L.length) (h : L[i].name = L[j].name) : i = j := by
  have hpw := List.pairwise_iff_getElem.1 hn
  have h1 : (L.map Dev.name)[i]'(by simpa using hi) = (L.map Dev.name)[j]'(by simpa using hj) := by simpa using h
  rcases Nat.lt_trichotomy i j with h2 | h2 | h2
  · exact (hpw i j (by simpa using hi) (by simpa using hj) h2 h1).elim
  · exact h2
  · exact (hpw j i (by simpa using hj) (by simpa using hi) h2 h1.symm).elim
theorem waitsOf_at {L : List Dev} (hn : (L.map Dev.name).Nodup) {j : Nat} (hj : j < L.length) : waitsOf L L[j].name = L[j].waits := by
  unfold waitsOf
  have hm : L.find? (fun d => decide (d.name = L[j].name)) = some L[j] := by
    cases hf : L.find? (fun d => decide (d.name = L[j].name)) with
    | none =>
      rw [List.find?_eq_none] at hf
      exact absurd (by simp) (hf L[j] (List.getElem_mem hj))
    | some d =>
      have h1 := List.find?_some hf
      have h2 := List.mem_of_find?_eq_some hf
      obtain ⟨i, hi, rfl⟩ := List.mem_iff_getElem.1 h2
      have := names_inj hn hi hj (by simpa using h1)
      subst this; rfl
  rw [hm]; rfl
theorem fetchL_step {L : List Dev} {R : List ByteArray} {now : Int} (hn : (L.map Dev.name).Nodup) {i j : Nat} (hi : i < R.length) (hj : j < L.length) (h : L[j].name = R[i]) (hnot : R[i] ∉ R.take i) :
    (fetchL L (R.take i) now)[j]'(by rw [fetchL_len]; exact hj) = L[j] ∧ fetchL L (R.take (i + 1)) now = (fetchL L (R.take i) now).set j (resetD now L[j]) := by
  have e1 : ∀ q (hq : q < L.length) (X : List ByteArray), (fetchL L X now)[q]'(by rw [fetchL_len]; exact hq) = if inR X L[q].name then resetD now L[q] else L[q] := fun q hq X => by simp [fetchL]
  have e2 : inR (R.take i) L[j].name = false := by
    cases hc : inR (R.take i) L[j].name with
    | false => rfl
    | true => exact absurd (h ▸ inR_iff.1 hc) hnot
  refine ⟨by rw [e1 j hj, e2]; rfl, ?_⟩
  apply List.ext_getElem
  · simp [fetchL_len]
  · intro q h1 h2
    have hq : q < L.length := by rw [fetchL_len] at h1; exact h1
    rw [e1 q hq, List.getElem_set]
    have e3 : inR (R.take (i + 1)) L[q].name = (inR (R.take i) L[q].name || decide (R[i] = L[q].name)) := by
      unfold inR
      rw [List.take_succ_eq_append_getElem hi, List.any_append]
      simp only [List.any_cons, List.any_nil, Bool.or_false]
    rw [e3]
    by_cases hqj : j = q
    · subst hqj
      rw [if_pos rfl]
      simp [h]
    · rw [if_neg hqj, e1 q hq]
      have : ¬ R[i] = L[q].name := fun e => hqj (names_inj hn hj hq (h.trans e))
      simp [this]

/-- What Fetch tells and leaves. -/
def Fetched (S : Nat → Prop) (p : Nat) (qt : Int) (M : Nat) (L : List Dev) (R : List ByteArray) (now : Int) (w : World) (e : Ending) (w' : World) : Prop :=
  ∃ (a : Option Addr) (c : Nat), e = .returned (.slice a R.length c) ∧ Recs Told1.cells 2 w' a (toldOf L R) ∧ (∀ k, InBlock (.slice a R.length c) k → w.heap.size ≤ k) ∧ ∃ S', IsBox S' w' p qt M (fetchL L R now) [] ∧ (∀ k, S' k → S k) ∧ Fr S w w'

/-- While it is fetched. -/
structure FInv (S : Nat → Prop) (p : Nat) (qt : Int) (M b : Nat) (rv : Value) (L : List Dev) (R : List ByteArray) (now : Int) (w : World) (v : Value) (i : Nat) (wr : World) : Prop where
  own : Owns wr 31 2 v i (((toldOf L R).take i).flatMap Told1.cells)
  new : ∀ k, InBlock v k → w.heap.size ≤ k
  box : BoxAt wr p qt M b rv (fetchL L (R.take i) now) R
  fr : Fr S w wr

section
variable {S T : Nat → Prop} {w w' : World} {p M b : Nat} {qt : Int} {v : Value} {L : List Dev} {R : List ByteArray}
/-- A device that was fetched is laid anew. -/
theorem BoxAt.reset (h : BoxAt w p qt M b v L R) {j : Nat} (hj : j < L.length) {d : Dev} (hd : L[j] = d) {now z : Int} (hz : z = max now 0) (h9 : now ≤ 9223372036854775807) :
    BoxAt ((((w.setCell ⟨d.blk, 0, none⟩ (.int .i64 0)).setCell ⟨d.blk, 1, none⟩ (.int .i64 z)).setCell ⟨d.blk, 2, none⟩ (.bool true)).setCell ⟨d.blk, 3, none⟩ (.bool false)) p qt M b v (L.set j (resetD now d)) R ∧
      Fr (fun k => k = d.blk) w ((((w.setCell ⟨d.blk, 0, none⟩ (.int .i64 0)).setCell ⟨d.blk, 1, none⟩ (.int .i64 z)).setCell ⟨d.blk, 2, none⟩ (.bool true)).setCell ⟨d.blk, 3, none⟩ (.bool false)) := by
  have one : ∀ (u : World) (o : Nat) (x : Value), Fr (fun k => k = d.blk) u (u.setCell ⟨d.blk, o, none⟩ x) := fun u o x => Fr.setCell (S := fun k => k = d.blk) (p := ⟨d.blk, o, none⟩) rfl x
  have F := (((one w 0 (.int .i64 0)).trans' (one _ 1 (.int .i64 z))).trans' (one _ 2 (.bool true))).trans' (one _ 3 (.bool false))
  refine ⟨?_, F⟩
  subst hd
  have hf := h.fits j hj
  have hr := h.devs j hj
  refine h.dev hj (d := resetD now L[j]) rfl rfl ⟨Int.le_refl 0, by simp [resetD], by simp only [resetD]; omega, by simp only [resetD]; omega, hf.2.2.2.2⟩ (Nat.le_refl _) F ?_
  subst hz
  exact (((hr.set 0 _).set 1 _).set 2 _).set 3 _

set_option maxHeartbeats 4000000 in
theorem box_fetch (now : Int) (h9 : now ≤ 9223372036854775807) (h : IsBox S w p qt M L R) (hM : M ≤ 1000000) (hRn : R.Nodup) (hRs : ∀ r ∈ R, r ∈ L.map Dev.name) :
    Calls Try.prog 12 #[.pointer (some ⟨p, 0, none⟩), .int .i64 now] w (Fetched S p qt M L R now w) := by
  obtain ⟨i0, hi, hz0, hz1, hz2⟩ := info_parts Try.infoCall
  have Hz2 := Lib.hid hz2
  have Hz1 := Lib.hid hz1
  have Hz0 := Lib.hid hz0
  have Hi := Lib.hid hi
  clear hz2 hz1 hz0 hi
  have hSlt : ∀ k, S k → k < w.heap.size := fun k hk => h.lt hk
  obtain ⟨b, rv, hr, hS⟩ := h
  have HS := Lib.hid hS
  obtain ⟨av, cv, rfl, hlc, hcm⟩ := hr.own.shape
  have g1 := hr.head.cell 1 rfl
  have hlr := hr.lr
  have hc9 : (cv : Int) ≤ 9223372036854775807 := by unfold maxLen at hcm; omega
  have start : FInv S p qt M b (.slice av R.length cv) L R now w (.slice none 0 0) 0 w := ⟨Owns.nil _ _ _, fun k hk => by simp [InBlock, Value.ownBlock] at hk, by rw [List.take_zero, fetchL_nil]; exact hr, Fr.refl _ _⟩
  have Hr := Lib.hid hr
  have HRn := Lib.hid hRn
  have HRs := Lib.hid hRs
  have HSlt := Lib.hid hSlt
  clear hr hS hcm hRn hRs hSlt
  go_enter Try.func12, Try.ntmps12
  go_wp2_with (fail)
  go_loopg [5, 16] R.length (fun g v i wr => ∃ k : Nat, k ≤ R.length ∧ g = R.length - k ∧ i = .int .i64 k ∧ FInv S p qt M b (.slice av R.length cv) L R now w v k wr)
  case atStart => exact ⟨0, Nat.zero_le _, rfl, rfl, start⟩
  case round =>
    clear start g1
    obtain ⟨k, hk, rfl, rfl, inv⟩ := hrel
    have hbx := inv.box
    have e0 := hbx.head.cell 0 rfl
    by_cases hlt : k < R.length
    · obtain ⟨b1, o1, rfl, hc1⟩ := Sl.oneCell (j := k) (v := .string R[k]) hbx.own.sl.2 (by simp [hlt])
      obtain ⟨d0, hd0, hd0n⟩ := List.mem_map.1 (HRs.out R[k] (List.getElem_mem hlt))
      obtain ⟨j, hj, rfl⟩ := List.mem_iff_getElem.1 hd0
      have hnot : R[k] ∉ R.take k := by
        have h1 := HRn.out
        have e : R = R.take k ++ (R[k] :: R.drop (k + 1)) := by rw [← List.drop_eq_getElem_cons hlt]; exact (List.take_append_drop k R).symm
        rw [e, List.nodup_append] at h1
        exact fun hm => h1.2.2 _ hm _ (List.mem_cons_self ..) rfl
      obtain ⟨hst1, hst2⟩ := fetchL_step (now := now) Hr.out.nn hlt hj hd0n hnot
      have hjl : j < (fetchL L (R.take k) now).length := by rw [fetchL_len]; exact hj
      have hlk := hbx.map.look Try.underlying55 (hbx.fits j hjl).2.2.2.2
      rw [hbx.find hjl] at hlk
      have r0 := hbx.devs j hjl
      have hf0 := hbx.fits j hjl
      have hdm : (fetchL L (R.take k) now)[j].blk ∈ L.map Dev.blk := by rw [hst1]; exact List.mem_map_of_mem (List.getElem_mem hj)
      rw [hst1] at hlk r0 hf0 hdm
      have hwt := waitsOf_at Hr.out.nn hj
      rw [hd0n] at hwt hlk
      obtain ⟨x, hx⟩ : ∃ x, x = R[k] := ⟨_, rfl⟩
      rw [← hx] at hc1 hlk hwt
      obtain ⟨d, hd⟩ : ∃ d, d = L[j] := ⟨_, rfl⟩
      rw [← hd] at hlk r0 hf0 hwt hst1 hst2 hdm
      simp only [ptrOf] at hlk
      have c0 := r0.cell 0 rfl
      have Hd := Lib.hid hd
      have Hx := Lib.hid hx
      have Hbx := Lib.hid hbx
      have Hr0 := Lib.hid r0
      have Hst1 := Lib.hid hst1
      have Hst2 := Lib.hid hst2
      have Hwt := Lib.hid hwt
      have Hf0 := Lib.hid hf0
      have fa := Fr.alloc Nothing wr (.cells #[Value.string x, Value.int .i64 d.waits] 31)
      have hrow : Row (wr.alloc (.cells #[Value.string x, Value.int .i64 d.waits] 31)) wr.heap.size [Value.string x, Value.int .i64 d.waits] 31 := Row.allocNew wr _ _
      have hsl1 : Sl (wr.alloc (.cells #[Value.string x, Value.int .i64 d.waits] 31)) (some ⟨wr.heap.size, 0, none⟩) [Value.string x, Value.int .i64 d.waits] := Sl.ofRow hrow
      have own1 := inv.own.fr fa (fun _ _ h => h)
      have hSd : S d.blk := (HS.out _).2 (.inr (.inr (.inr hdm)))
      have hdlt := HSlt.out _ hSd
      have hws := inv.fr.size
      clear hbx hd hx hrow hd0 hd0n hnot r0 hst1 hst2 hwt hf0
      go_wp2_with (at_builtin; go_must (refine wpList_append_fp rfl (.tmp 26) (.tmp 33) 28 rfl 31 i0 (.agg #[.string ByteArray.empty, .int .i64 0]) 2 24 Try.underlying28 Hi.out Hz0.out Hz1.out Hz2.out rfl (by decide) _ _ _ rfl own1 _ 1 1 [Value.string x, Value.int .i64 d.waits] rfl rfl (by simp) hsl1 (by simp [Value.oneCell']) (by unfold maxLen; omega) (by omega) ?_))
      intro v7 w7 o7 f7 n7 s7 _
      have hv7 : ∀ q, InBlock v7 q → w.heap.size ≤ q := fun q hq => by
        rcases n7 q hq with h1 | h1
        · exact inv.new q h1
        · simp at h1; omega
      have F7 : Fr (fun q => w.heap.size ≤ q) wr w7 := (fa.mono fun _ _ h => h.elim).trans' (f7.mono fun q _ hq => inv.new q hq)
      have bx7 : BoxAt w7 p qt M b (.slice (some ⟨b1, o1, none⟩) R.length cv) (fetchL L (R.take k) now) R := by
        have hl1 : ∀ q, S q → ¬ w.heap.size ≤ q := fun q hq h => by have := HSlt.out q hq; omega
        refine Hbx.out.fr F7 (hl1 p ((HS.out p).2 (.inl rfl))) (hl1 b ((HS.out b).2 (.inr (.inl rfl)))) (fun q hq => hl1 q ((HS.out q).2 (.inr (.inr (.inl hq))))) (fun q hq => hl1 q ((HS.out q).2 (.inr (.inr (.inr (by rw [fetchL_blks] at hq; exact hq))))))
      have r7 : Row w7 d.blk d.cells 60 := Hr0.out.fr F7 (by omega)
      have k0 := r7.cell 0 rfl
      have k1 := r7.cell 1 rfl
      have k2 := r7.cell 2 rfl
      have k3 := r7.cell 3 rfl
      have p0 := r7.free 0
      have p1 := r7.free 1
      have p2 := r7.free 2
      have p3 := r7.free 3
      have R7 := Lib.hid r7
      have B7 := Lib.hid bx7
      clear own1 hsl1 e0 hlk hc1 r7 bx7 c0
      go_wp2_with (fail)
      all_goals
        obtain ⟨bx8, F8⟩ := B7.out.reset hjl Hst1.out (now := now) (z := max now 0) rfl h9
        rw [← Hst2.out] at bx8
        have ho : Owns w7 31 2 v7 (k + 1) (((toldOf L R).take (k + 1)).flatMap Told1.cells) := by
          have hkt : k < (toldOf L R).length := by simp [toldOf]; exact hlt
          have e1 : (toldOf L R)[k] = ⟨x, d.waits⟩ := by simp only [toldOf, List.getElem_map]; rw [← Hx.out, Hwt.out]
          rw [List.take_succ_eq_append_getElem hkt, e1, List.flatMap_append]
          exact o7
        have inv8 : FInv S p qt M b (.slice (some ⟨b1, o1, none⟩) R.length cv) L R now w v7 (k + 1) _ :=
          ⟨ho.fr F8 (fun q hq e => by have := hv7 q hq; omega), hv7, bx8, (inv.fr.trans F7 (fun q hq h => by omega)).trans F8 (fun q _ e => e ▸ hSd)⟩
        clear inv ho F7 bx8 F8
        first
          | (rw [show max now 0 = now by omega] at inv8
             go_roundg (R.length - (k + 1))
             case measure => omega
             case rel => exact ⟨k + 1, by omega, rfl, by go_num, inv8⟩)
          | (rw [show max now 0 = 0 by omega] at inv8
             go_roundg (R.length - (k + 1))
             case measure => omega
             case rel => exact ⟨k + 1, by omega, rfl, by go_num, inv8⟩)
    · obtain rfl : k = R.length := by omega
      have hd1 := hbx.head
      have p1 := hd1.free 1
      have p1' := hd1.cell 1 rfl
      have Hbx := Lib.hid hbx
      have Hinv := Lib.hid inv
      clear hbx hd1 inv e0
      go_wp2_with (fail)
      go_ret
      have hinv := Hinv.out
      have hbx := Hbx.out
      have own := hinv.own
      have htl : (toldOf L R).take R.length = toldOf L R := List.take_of_length_le (by simp [toldOf])
      rw [htl] at own
      obtain ⟨a5, c5, rfl, _, _⟩ := own.shape
      have fset : Fr (fun q => q = p) wr (wr.setCell ⟨p, 1, none⟩ (.slice none 0 0)) := Fr.setCell (S := fun q => q = p) (p := ⟨p, 1, none⟩) rfl _
      have hpS : S p := (HS.out p).2 (.inl rfl)
      have own2 := own.fr fset (fun q hq e => by have := hinv.new q hq; have := HSlt.out p hpS; omega)
      have no : ∀ k, ¬ InBlock (.slice none 0 0) k := fun k hk => by simp [InBlock, Value.ownBlock] at hk
      have hR : R.take R.length = R := List.take_length
      rw [hR] at hbx
      have bx2 : BoxAt (wr.setCell ⟨p, 1, none⟩ (.slice none 0 0)) p qt M b (.slice none 0 0) (fetchL L R now) [] :=
        hbx.rowed fset (fun k hk => .inl hk) (hbx.head.set 1 _) (Owns.nil _ _ _) (fun k hk => (no k hk).elim) (Nat.le_refl _) (Nat.zero_le _)
      refine ⟨a5, c5, rfl, ⟨Told1.len, by decide, own2.sl.2⟩, hinv.new, _, ⟨b, _, bx2, fun q => Iff.rfl⟩, fun q hq => ?_, hinv.fr.trans' (fset.mono fun q _ hq => hq ▸ hpS)⟩
      rcases hq with rfl | rfl | hq | hq
      · exact hpS
      · exact (HS.out _).2 (.inr (.inl rfl))
      · exact (no q hq).elim
      · rw [fetchL_blks] at hq
        exact (HS.out _).2 (.inr (.inr (.inr hq)))
end

end Go.Proofs.Ytipkkhigcnhjdaa
