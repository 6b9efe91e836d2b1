/- wake.Box: hints. No condition. -/
import Derived.Test.YtipkkhigcnhjdaaWake
namespace Go.Proofs.Ytipkkhigcnhjdaa
open Go.RowKit

section
variable {S T : Nat → Prop} {w w' : World} {p M b : Nat} {qt : Int} {v : Value} {L : List Dev} {R : List ByteArray}

/-- The devices, and the row, behind a call of one. -/
def callL (L : List Dev) (j : Nat) (now qt : Int) : List Dev :=
  match L[j]? with
  | some d => if callsB d now qt then L.set j { d with rowed := true } else L
  | none => L
def callR (L : List Dev) (R : List ByteArray) (j : Nat) (now qt : Int) : List ByteArray :=
  match L[j]? with
  | some d => if callsB d now qt then R ++ [d.name] else R
  | none => R
theorem box_call (j : Nat) (hj : j < L.length) (now : Int) (h0 : 0 ≤ now) (h9 : now ≤ 9223372036854775807) (h : IsBox S w p qt M L R) (hM : M ≤ 1000000) :
    Calls Try.prog 26 #[.pointer (some ⟨p, 0, none⟩), .string L[j].name, .int .i64 now] w fun e w' => e = .returned (.tuple #[]) ∧ BoxGone S w p qt (M + 1) (callL L j now qt) (callR L R j now qt) w' := by
  have hj' : L[j]? = some L[j] := by simp [hj]
  cases hc : callsB L[j] now qt with
  | true =>
    refine (box_call_yes j hj now h0 h9 h hM hc).mono ?_
    rintro e w1 ⟨he, g⟩
    refine ⟨he, ?_⟩
    simp only [callL, callR, hj', hc, if_true]
    exact g
  | false =>
    refine (box_call_no j hj now h0 h9 h hc).mono ?_
    rintro e w1 ⟨he, n, rfl⟩
    refine ⟨he, ?_⟩
    simp only [callL, callR, hj', hc]
    exact ⟨S, (h.drewN n).more (by omega), fun k hk => .inl hk, Fr.drewN _ _ _⟩

set_option maxHeartbeats 400000 in
theorem box_hint_empty (now : Int) (p : Nat) (w : World) :
    Calls Try.prog 11 #[.pointer (some ⟨p, 0, none⟩), .string ByteArray.empty, .int .i64 now] w fun e w' => e = .returned (.int .i64 1) ∧ w = w' := by
  go_enter Try.func11, Try.ntmps11
  go_wp2_with (fail)
  go_ret
  exact ⟨rfl, rfl⟩
set_option maxHeartbeats 400000 in
theorem box_hint_early (k : ByteArray) (now : Int) (hn : now < 0) (p : Nat) (w : World) :
    Calls Try.prog 11 #[.pointer (some ⟨p, 0, none⟩), .string k, .int .i64 now] w fun e w' => e = .returned (.int .i64 1) ∧ w = w' := by
  go_enter Try.func11, Try.ntmps11
  go_wp2_with (fail)
  all_goals
    go_ret
    exact ⟨rfl, rfl⟩

theorem text_cons {x : ByteArray} (h : x ≠ ByteArray.empty) : x.toList.isEmpty = false := by
  cases hq : x.toList with
  | cons y z => rfl
  | nil =>
    exfalso
    rw [ByteArray.toList_eq] at hq
    refine h ?_
    cases x with
    | mk a =>
      have : a = #[] := by simpa using hq
      subst this; rfl
theorem box_room (h : IsBox S w p qt M L R) : L.length ≤ 64 ∧ R.length ≤ M ∧ (L.map Dev.name).Nodup := by obtain ⟨b, v, hr, hS⟩ := h; exact ⟨hr.ll, hr.lr, hr.nn⟩

set_option maxHeartbeats 1000000 in
theorem box_hint_full (k : ByteArray) (now : Int) (hk : k.size ≤ maxLen) (hk0 : k ≠ ByteArray.empty) (h0 : 0 ≤ now) (h : IsBox S w p qt M L R) (hn : k ∉ L.map Dev.name) (hl : L.length = 64) :
    Calls Try.prog 11 #[.pointer (some ⟨p, 0, none⟩), .string k, .int .i64 now] w fun e w' => e = .returned (.int .i64 9) ∧ w = w' := by
  obtain ⟨b, v, hr, hS⟩ := h
  have e0 := hr.head.cell 0 rfl
  have hlk := hr.map.look Try.underlying55 hk
  rw [findP_none.2 (by rw [List.map_map]; exact hn)] at hlk
  simp only [ptrOf] at hlk
  have hln := fun ty => hr.map.len Try.underlying55 ty
  simp only [List.length_map, hl] at hln
  have hem2 := text_cons hk0
  clear hr hS hn hl hk0
  go_enter Try.func11, Try.ntmps11
  go_wp2_with (fail)
  go_ret
  exact ⟨rfl, rfl⟩

/-- A device that is new. -/
def newDev (k : ByteArray) (B : Nat) : Dev := ⟨k, B, 1, 0, false, false⟩
/-- What a first hint gives. -/
def HintNew (S : Nat → Prop) (p : Nat) (qt : Int) (M : Nat) (L : List Dev) (R : List ByteArray) (k : ByteArray) (now : Int) (w : World) (e : Ending) (w' : World) : Prop :=
  ∃ B, w.heap.size ≤ B ∧ e = .returned (.int .i64 0) ∧ BoxGone S w p qt (M + 2) (callL (L ++ [newDev k B]) L.length now qt) (callR (L ++ [newDev k B]) R L.length now qt) w'

set_option maxHeartbeats 4000000 in
theorem box_hint_new (k : ByteArray) (now : Int) (hk : k.size ≤ maxLen) (hk0 : k ≠ ByteArray.empty) (h0 : 0 ≤ now) (h9 : now ≤ 9223372036854775807) (h : IsBox S w p qt M L R) (hM : M ≤ 900000) (hn : k ∉ L.map Dev.name) (hl : L.length < 64) :
    Calls Try.prog 11 #[.pointer (some ⟨p, 0, none⟩), .string k, .int .i64 now] w (HintNew S p qt M L R k now w) := by
  obtain ⟨b, v, hr, hS⟩ := h
  have HS := Lib.hid hS
  have hlk := hr.map.look Try.underlying55 hk
  have hfn : findP (L.map Dev.key) k = none := findP_none.2 (by rw [List.map_map]; exact hn)
  rw [hfn] at hlk
  simp only [ptrOf] at hlk
  have hln := fun ty => hr.map.len Try.underlying55 ty
  simp only [List.length_map] at hln
  have hem2 := text_cons hk0
  have e0 := hr.head.cell 0 rfl
  have hld : ((L.length : Int) == 64) = false := by rw [beq_eq_false_iff_ne]; omega
  have fa := Fr.alloc Nothing w (.cells #[.int .i64 0, .int .i64 0, .bool false, .bool false] 60)
  have hrow : Row (w.alloc (.cells #[.int .i64 0, .int .i64 0, .bool false, .bool false] 60)) w.heap.size [.int .i64 0, .int .i64 0, .bool false, .bool false] 60 := Row.allocNew w _ _
  have ha := hr.fr fa (fun h => h) (fun h => h) (fun _ _ h => h) (fun _ _ h => h)
  have g0 := ha.head.cell 0 rfl
  have Hr := Lib.hid hr
  have Ha := Lib.hid ha
  have Hn := Lib.hid hn
  have Hfn := Lib.hid hfn
  have Hrow := Lib.hid hrow
  clear hr hS hn hk0 hfn ha hrow
  go_enter Try.func11, Try.ntmps11
  go_wp2_with (with_reducible refine wpList_mapP_store rfl (.tmp 37) (.tmp 38) (.tmp 39) rfl Try.underlying55 Ha.out.map (by simp; unfold maxLen; omega) rfl rfl rfl hk Hfn.out ?_)
  intro w2 m2 f2
  obtain ⟨B, hB⟩ : ∃ B, B = w.heap.size := ⟨_, rfl⟩
  have hrow := Hrow.out
  rw [← hB] at hrow m2
  have hBp : ¬ B = p := fun e => by have := Hr.out.head.lt; omega
  have hBb : ¬ B = b := fun e => by have := Hr.out.map.lt; omega
  have hBv : ¬ InBlock v B := fun e => by have := Hr.out.own.lt e; omega
  have r2 := hrow.fr f2 hBb
  have c0 := r2.cell 0 rfl
  have p0 := r2.free 0
  have hd2 := Ha.out.head.fr f2 (fun e => Hr.out.neb e.symm)
  have own2 := Ha.out.own.fr f2 (fun q hq e => Hr.out.nevb (e ▸ hq))
  have f1 : Fr S w w2 := (fa.mono fun _ _ h => h.elim).trans' (f2.mono fun q _ hq => (HS.out q).2 (.inr (.inl hq)))
  have fB : Fr (fun q => q = B) w2 (w2.setCell ⟨B, 0, none⟩ (.int .i64 1)) := Fr.setCell (S := fun q => q = B) (p := ⟨B, 0, none⟩) rfl _
  have Hs1 := f1.size
  have a3 : BoxAt (w2.setCell ⟨B, 0, none⟩ (.int .i64 1)) p qt (M + 1) b v (L ++ [newDev k B]) R := by
    have hr := Hr.out
    have hBL : B ∉ L.map Dev.blk := fun e => by have := hr.dlt e; omega
    refine ⟨hd2.fr fB (fun e => hBp e.symm), ?_, own2.fr fB (fun q hq e => hBv (e ▸ hq)), fun j hj => ?_, hr.neb, hr.nev, hr.nevb, fun q hq => ?_, ?_, ?_, fun j hj => ?_, Nat.le_succ_of_le hr.lr, by simp; omega, hr.q0, hr.q1⟩
    · rw [List.map_append]; exact m2.fr fB (fun e => hBb e.symm)
    · rw [List.getElem_append]
      split
      · rename_i h1
        exact ((Ha.out.devs j h1).fr f2 (fun e => (hr.dp _ (List.mem_map_of_mem (List.getElem_mem h1))).2.1 e)).fr fB (fun e => hBL (e ▸ List.mem_map_of_mem (List.getElem_mem h1)))
      · have e1 : ∀ (i : Nat) (h : i < [newDev k B].length), [newDev k B][i] = newDev k B := fun i h => by
          have : i = 0 := by simp at h; omega
          subst this; rfl
        rw [e1]
        exact r2.set 0 (.int .i64 1)
    · rw [List.map_append, List.mem_append] at hq
      rcases hq with hq | hq
      · exact hr.dp q hq
      · simp [newDev] at hq
        subst hq
        exact ⟨hBp, hBb, hBv⟩
    · rw [List.map_append, List.nodup_append]
      refine ⟨hr.dd, by simp, fun x hx y hy => ?_⟩
      simp [newDev] at hy
      subst hy
      exact fun e => hBL (e ▸ hx)
    · rw [List.map_append, List.nodup_append]
      refine ⟨hr.nn, by simp, fun x hx y hy => ?_⟩
      simp [newDev] at hy
      subst hy
      exact fun e => Hn.out (e ▸ hx)
    · rw [List.getElem_append]
      split
      · rename_i h1
        obtain ⟨a, b, c⟩ := hr.fits j h1
        exact ⟨a, by omega, c⟩
      · have e1 : ∀ (i : Nat) (h : i < [newDev k B].length), [newDev k B][i] = newDev k B := fun i h => by
          have : i = 0 := by simp at h; omega
          subst this; rfl
        rw [e1]
        exact ⟨by simp [newDev], by simp [newDev]; omega, by simp [newDev], by simp [newDev], hk⟩
  have i3 : IsBox (fun q => S q ∨ q = B) (w2.setCell ⟨B, 0, none⟩ (.int .i64 1)) p qt (M + 1) (L ++ [newDev k B]) R := ⟨b, v, a3, fun q => by
    show (S q ∨ q = B) ↔ _
    rw [HS.out q, List.map_append, List.mem_append]
    simp only [List.map_cons, List.map_nil, List.mem_singleton, newDev]
    constructor
    · rintro ((h | h | h | h) | h)
      · exact .inl h
      · exact .inr (.inl h)
      · exact .inr (.inr (.inl h))
      · exact .inr (.inr (.inr (.inl h)))
      · exact .inr (.inr (.inr (.inr h)))
    · rintro (h | h | h | h | h)
      · exact .inl (.inl h)
      · exact .inl (.inr (.inl h))
      · exact .inl (.inr (.inr (.inl h)))
      · exact .inl (.inr (.inr (.inr h)))
      · exact .inr h⟩
  have hcall := box_call L.length (by simp) now h0 h9 i3 (by omega)
  have hnm2 : ((L ++ [newDev k B])[L.length]'(by simp)).name = k := by simp [newDev]
  rw [hnm2] at hcall
  have Hcall := Lib.hid hcall
  have HB := Lib.hid hB
  rw [← hB]
  clear a3 i3 hcall hnm2 hrow r2 hd2 own2 hln hlk e0 g0 hB
  go_wp2_with (fail)
  refine Hcall.out.mono ?_
  rintro e w3 ⟨rfl, g⟩
  go_wp2_with (fail)
  go_ret
  obtain ⟨S', i', hs', f'⟩ := g
  have hB := HB.out
  refine ⟨B, by omega, rfl, S', i', fun q hq => ?_, ?_⟩
  · rcases hs' q hq with (h1 | h1) | h1
    · exact .inl h1
    · right; omega
    · right; have := fB.size; omega
  · refine (f1.trans (T := fun q => q = B) fB (fun q hq e => by omega)).trans f' (fun q hq h1 => ?_)
    rcases h1 with h1 | h1
    · exact h1
    · omega

/-- One hint more of a device. -/
def incL (L : List Dev) (j : Nat) : List Dev :=
  match L[j]? with
  | some d => L.set j { d with waits := d.waits + 1 }
  | none => L

set_option maxHeartbeats 2000000 in
theorem box_hint_known (j : Nat) (hj : j < L.length) (now : Int) (hk0 : L[j].name ≠ ByteArray.empty) (h0 : 0 ≤ now) (h9 : now ≤ 9223372036854775807) (h : IsBox S w p qt M L R) (hM : M ≤ 900000) :
    Calls Try.prog 11 #[.pointer (some ⟨p, 0, none⟩), .string L[j].name, .int .i64 now] w fun e w' => e = .returned (.int .i64 0) ∧ BoxGone S w p qt (M + 2) (callL (incL L j) j now qt) (callR (incL L j) R j now qt) w' := by
  obtain ⟨b, v, hr, hS⟩ := h
  have e0 := hr.head.cell 0 rfl
  have hlk := hr.map.look Try.underlying55 (hr.fits j hj).2.2.2.2
  rw [hr.find hj] at hlk
  have r0 := hr.devs j hj
  have c0 := r0.cell 0 rfl
  have p0 := r0.free 0
  have hf := hr.fits j hj
  have HS := Lib.hid hS
  obtain ⟨d, hd⟩ : ∃ d, d = L[j] := ⟨_, rfl⟩
  have hbd : d.blk = L[j].blk := by rw [hd]
  have hnm : L[j].name = d.name := by rw [hd]
  rw [hnm] at hk0
  rw [hnm]
  rw [← hd] at hlk c0 hf r0 p0
  simp only [ptrOf] at hlk
  have hf2 : Dev.Fits (M + 1) { d with waits := d.waits + 1 } := ⟨by have := hf.1; simp; omega, by have := hf.2.1; simp; omega, hf.2.2⟩
  have a2 : BoxAt (w.setCell ⟨d.blk, 0, none⟩ (.int .i64 (d.waits + 1))) p qt (M + 1) b v (L.set j { d with waits := d.waits + 1 }) R := by
    refine hr.dev hj (d := { d with waits := d.waits + 1 }) (by rw [hd]) (by rw [hd]) hf2 (by omega) (by rw [← hbd]; exact Fr.setCell (S := fun k => k = d.blk) (p := ⟨d.blk, 0, none⟩) rfl _) ?_
    rw [← hbd]
    exact r0.set 0 (.int .i64 (d.waits + 1))
  have hsd : (L.set j { d with waits := d.waits + 1 }).map Dev.blk = L.map Dev.blk := map_set_same _ hj (by rw [hd])
  have F2 : Fr S w (w.setCell ⟨d.blk, 0, none⟩ (.int .i64 (d.waits + 1))) := Fr.setCell ((hS d.blk).2 (.inr (.inr (.inr (by rw [hbd]; exact List.mem_map_of_mem (List.getElem_mem hj)))))) _
  have i2 : IsBox S (w.setCell ⟨d.blk, 0, none⟩ (.int .i64 (d.waits + 1))) p qt (M + 1) (L.set j { d with waits := d.waits + 1 }) R := ⟨b, v, a2, by rw [hsd]; exact hS⟩
  have hcall := box_call j (by simpa using hj) now h0 h9 i2 (by omega)
  have hnm2 : ((L.set j { d with waits := d.waits + 1 })[j]'(by simpa using hj)).name = d.name := by simp
  rw [hnm2] at hcall
  have hinc : incL L j = L.set j { d with waits := d.waits + 1 } := by
    have hj' : L[j]? = some d := by rw [hd]; simp [hj]
    simp only [incL, hj']
  rw [hinc]
  obtain ⟨f0, f1, _, _, _⟩ := hf
  have ew : IntKind.i64.wrap (d.waits + 1) = d.waits + 1 := IntWalk.i64_in _ (by omega)
  have hem2 := text_cons hk0
  have Hcall := Lib.hid hcall
  clear hr hS hd r0 hbd hnm hf2 a2 hsd i2 hcall hnm2 hinc hk0
  go_enter Try.func11, Try.ntmps11
  go_wp2_with (fail)
  refine Hcall.out.mono ?_
  rintro e w1 ⟨rfl, g⟩
  go_wp2_with (fail)
  go_ret
  refine ⟨rfl, ?_⟩
  obtain ⟨S', i', hs', f'⟩ := g
  exact ⟨S', i', fun k hk => (hs' k hk).imp id (fun h => Nat.le_trans F2.size h), F2.trans' f'⟩
end

end Go.Proofs.Ytipkkhigcnhjdaa
