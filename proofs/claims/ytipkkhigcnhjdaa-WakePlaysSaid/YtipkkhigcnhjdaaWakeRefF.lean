/- The reference's Fetch. -/
import Derived.Test.YtipkkhigcnhjdaaWakeRefH
namespace Go.Proofs.Ytipkkhigcnhjdaa
open Go.RowKit
theorem infoRCall : (Try.prog.info? 68).map (fun i => (i.zero, i.size, i.bytes)) = some (some (.agg #[.string ByteArray.empty, .int .i64 0]), 2, 24) := by kernel_rfl
def resetR (now : Int) (d : RDev) : RDev := { d with waits := 0, called := true, at_ := max now 0 }
/-- The devices behind a fetch of these names. -/
def fetchRL (L : List RDev) (R : List ByteArray) (now : Int) : List RDev := L.map fun d => if inR R d.name then resetR now d else d
/-- What waits for a name. -/
def waitsR (L : List RDev) (k : ByteArray) : Int := ((L.find? fun d => decide (d.name = k)).map RDev.waits).getD 0
def toldR (L : List RDev) (R : List ByteArray) : List Told1 := R.map fun r => ⟨r, waitsR L r⟩
theorem fetchRL_nil (L : List RDev) (now : Int) : fetchRL L [] now = L := by
  unfold fetchRL
  have : (fun d : RDev => if inR [] d.name then resetR now d else d) = id := by funext d; rfl
  rw [this, List.map_id]
theorem fetchRL_len (L : List RDev) (R : List ByteArray) (now : Int) : (fetchRL L R now).length = L.length := by simp [fetchRL]
theorem fetchRL_names (L : List RDev) (R : List ByteArray) (now : Int) : (fetchRL L R now).map RDev.name = L.map RDev.name := by
  unfold fetchRL
  rw [List.map_map]
  refine List.map_congr_left fun d _ => ?_
  show (if inR R d.name then resetR now d else d).name = d.name
  split <;> rfl
theorem namesR_inj {L : List RDev} (hn : (L.map RDev.name).Nodup) {i j : Nat} (hi : i < L.length) (hj : j < L.length) (h : L[i].name = L[j].name) : i = j := by
  have hpw := List.pairwise_iff_getElem.1 hn
  have h1 : (L.map RDev.name)[i]'(by simpa using hi) = (L.map RDev.name)[j]'(by simpa using hj) := by simpa using h
  rcases Nat.lt_trichotomy i j with h2 | h2 | h2
  · exact (hpw i j (by simpa using hi) (by simpa using hj) h2 h1).elim
  · exact h2
  · exact (hpw j i (by simpa using hj) (by simpa using hi) h2 h1.symm).elim
theorem waitsR_at {L : List RDev} (hn : (L.map RDev.name).Nodup) {j : Nat} (hj : j < L.length) : waitsR L L[j].name = L[j].waits := by
  unfold waitsR
  have hm : L.find? (fun d => decide (d.name = L[j].name)) = some L[j] := by
    cases hf : L.find? (fun d => decide (d.name = L[j].name)) with
    | none =>
      rw [List.find?_eq_none] at hf
      exact absurd (by simp) (hf L[j] (List.getElem_mem hj))
    | some d =>
      have h1 := List.find?_some hf
      have h2 := List.mem_of_find?_eq_some hf
      obtain ⟨i, hi, rfl⟩ := List.mem_iff_getElem.1 h2
      have := namesR_inj hn hi hj (by simpa using h1)
      subst this; rfl
  rw [hm]; rfl
theorem fetchRL_step {L : List RDev} {R : List ByteArray} {now : Int} (hn : (L.map RDev.name).Nodup) {i j : Nat} (hi : i < R.length) (hj : j < L.length) (h : L[j].name = R[i]) (hnot : R[i] ∉ R.take i) :
    (fetchRL L (R.take i) now)[j]'(by rw [fetchRL_len]; exact hj) = L[j] ∧ fetchRL L (R.take (i + 1)) now = (fetchRL L (R.take i) now).set j (resetR now L[j]) := by
  have e1 : ∀ q (hq : q < L.length) (X : List ByteArray), (fetchRL L X now)[q]'(by rw [fetchRL_len]; exact hq) = if inR X L[q].name then resetR now L[q] else L[q] := fun q hq X => by simp [fetchRL]
  have e2 : inR (R.take i) L[j].name = false := by
    cases hc : inR (R.take i) L[j].name with
    | false => rfl
    | true => exact absurd (h ▸ inR_iff.1 hc) hnot
  refine ⟨by rw [e1 j hj, e2]; rfl, ?_⟩
  apply List.ext_getElem
  · simp [fetchRL_len]
  · intro q h1 h2
    have hq : q < L.length := by rw [fetchRL_len] at h1; exact h1
    rw [e1 q hq, List.getElem_set]
    have e3 : inR (R.take (i + 1)) L[q].name = (inR (R.take i) L[q].name || decide (R[i] = L[q].name)) := by
      unfold inR
      rw [List.take_succ_eq_append_getElem hi, List.any_append]
      simp only [List.any_cons, List.any_nil, Bool.or_false]
    rw [e3]
    by_cases hqj : j = q
    · subst hqj
      rw [if_pos rfl]
      simp [h]
    · rw [if_neg hqj, e1 q hq]
      have : ¬ R[i] = L[q].name := fun e => hqj (namesR_inj hn hj hq (h.trans e))
      simp [this]

section
variable {S : Nat → Prop} {w : World} {q g n c : Nat} {qt : Int} {vr : Value} {L : List RDev} {R : List ByteArray}
theorem RefAt.field (h : RefAt w q qt (.slice (some ⟨g, 0, none⟩) n c) vr L R) {j : Nat} (hj : j < L.length) {i : Nat} {v : Value} (hv : L[j].cells[i]? = some v) : w.cell? ⟨g, j * 4 + i, none⟩ = some v := by
  obtain ⟨b, o, hb, hc⟩ := (show Recs RDev.cells 4 w (some ⟨g, 0, none⟩) L from ⟨RDev.len, by decide, h.own.sl.2⟩).at_ hj
  obtain ⟨rfl, rfl⟩ : g = b ∧ 0 = o := by simpa using hb
  have := hc i v hv
  rwa [Nat.zero_add] at this
/-- What the three stores find. -/
theorem RefAt.finds (h : RefAt w q qt (.slice (some ⟨g, 0, none⟩) n c) vr L R) (hn : n = L.length) {j : Nat} (hj : j < L.length) :
    ∃ v1 v2 v3, w.cell? ⟨g, j * 4 + 1, none⟩ = some v1 ∧ (w.setCell ⟨g, j * 4 + 1, none⟩ (.int .i64 0)).cell? ⟨g, j * 4 + 2, none⟩ = some v2 ∧ ((w.setCell ⟨g, j * 4 + 1, none⟩ (.int .i64 0)).setCell ⟨g, j * 4 + 2, none⟩ (.bool true)).cell? ⟨g, j * 4 + 3, none⟩ = some v3 := by
  obtain ⟨a1, b1, f1⟩ := h.dev hn hj (i := 1) (by omega) (v := .int .i64 0) (d := { L[j] with waits := 0 }) rfl
  have l1 : (L.set j { L[j] with waits := 0 }).length = L.length := List.length_set ..
  obtain ⟨a2, b2, f2⟩ := a1.dev (by rw [l1]; exact hn) (j := j) (by rw [l1]; exact hj) (i := 2) (by omega) (v := .bool true) (d := { L[j] with waits := 0, called := true }) (by simp [RDev.cells])
  rw [List.set_set] at a2
  have l2 : (L.set j { L[j] with waits := 0, called := true }).length = L.length := List.length_set ..
  exact ⟨_, _, _, h.field hj (i := 1) rfl, a1.field (by rw [l1]; exact hj) (i := 2) rfl, a2.field (by rw [l2]; exact hj) (i := 3) rfl⟩
/-- A device is set back: three stores. -/
theorem RefAt.reset3 (h : RefAt w q qt (.slice (some ⟨g, 0, none⟩) n c) vr L R) (hn : n = L.length) {j : Nat} (hj : j < L.length) (now z : Int) (hz : z = max now 0) :
    w.frozen? ⟨g, j * 4 + 1, none⟩ = false ∧
    (w.setCell ⟨g, j * 4 + 1, none⟩ (.int .i64 0)).frozen? ⟨g, j * 4 + 2, none⟩ = false ∧ (w.setCell ⟨g, j * 4 + 1, none⟩ (.int .i64 0)).cell? ⟨q, 0, none⟩ = some (.slice (some ⟨g, 0, none⟩) n c) ∧
    ((w.setCell ⟨g, j * 4 + 1, none⟩ (.int .i64 0)).setCell ⟨g, j * 4 + 2, none⟩ (.bool true)).frozen? ⟨g, j * 4 + 3, none⟩ = false ∧ ((w.setCell ⟨g, j * 4 + 1, none⟩ (.int .i64 0)).setCell ⟨g, j * 4 + 2, none⟩ (.bool true)).cell? ⟨q, 0, none⟩ = some (.slice (some ⟨g, 0, none⟩) n c) ∧
    RefAt (((w.setCell ⟨g, j * 4 + 1, none⟩ (.int .i64 0)).setCell ⟨g, j * 4 + 2, none⟩ (.bool true)).setCell ⟨g, j * 4 + 3, none⟩ (.int .i64 z)) q qt (.slice (some ⟨g, 0, none⟩) n c) vr (L.set j (resetR now L[j])) R ∧
    Fr (fun k => k = g) w (((w.setCell ⟨g, j * 4 + 1, none⟩ (.int .i64 0)).setCell ⟨g, j * 4 + 2, none⟩ (.bool true)).setCell ⟨g, j * 4 + 3, none⟩ (.int .i64 z)) := by
  subst hz
  obtain ⟨a1, b1, f1⟩ := h.dev hn hj (i := 1) (by omega) (v := .int .i64 0) (d := { L[j] with waits := 0 }) rfl
  have l1 : (L.set j { L[j] with waits := 0 }).length = L.length := List.length_set ..
  obtain ⟨a2, b2, f2⟩ := a1.dev (by rw [l1]; exact hn) (j := j) (by rw [l1]; exact hj) (i := 2) (by omega) (v := .bool true) (d := { L[j] with waits := 0, called := true }) (by simp [RDev.cells])
  rw [List.set_set] at a2
  have l2 : (L.set j { L[j] with waits := 0, called := true }).length = L.length := List.length_set ..
  obtain ⟨a3, b3, f3⟩ := a2.dev (by rw [l2]; exact hn) (j := j) (by rw [l2]; exact hj) (i := 3) (by omega) (v := .int .i64 (max now 0)) (d := resetR now L[j]) (by simp [RDev.cells, resetR])
  rw [List.set_set] at a3
  exact ⟨b1, b2, a1.head.cell 0 rfl, b3, a2.head.cell 0 rfl, a3, (f1.trans' f2).trans' f3⟩
/-- While it is fetched. -/
structure RInv (S : Nat → Prop) (w wr : World) (q : Nat) (qt : Int) (vl vr : Value) (L : List RDev) (R : List ByteArray) (now : Int) (v : Value) (i : Nat) : Prop where
  own : Owns wr 68 2 v i (((toldR L R).take i).flatMap Told1.cells)
  new : ∀ k, InBlock v k → w.heap.size ≤ k
  box : RefAt wr q qt vl vr (fetchRL L (R.take i) now) R
  fr : Fr S w wr
/-- What Fetch tells and leaves. -/
def RefFetched (S : Nat → Prop) (w : World) (q : Nat) (qt : Int) (L : List RDev) (R : List ByteArray) (now : Int) (e : Ending) (w' : World) : Prop :=
  ∃ (a : Option Addr) (c : Nat) (S' : Nat → Prop), e = .returned (.slice a R.length c) ∧ Recs Told1.cells 2 w' a (toldR L R) ∧ (∀ k, InBlock (.slice a R.length c) k → w.heap.size ≤ k) ∧ IsRef S' w' q qt (fetchRL L R now) [] ∧ (∀ k, S' k → S k) ∧ Fr S w w'
set_option maxHeartbeats 4000000 in
theorem ref_fetch (now : Int) (h9 : now ≤ 9223372036854775807) (_hl : L.length ≤ 64) (hR : R.length ≤ 90000) (hn : (L.map RDev.name).Nodup) (hRn : R.Nodup) (hRs : ∀ r ∈ R, r ∈ L.map RDev.name) (hw : ∀ d ∈ L, 0 ≤ d.waits ∧ d.waits ≤ 1000000) (h : IsRef S w q qt L R) :
    Calls Try.prog 22 #[.pointer (some ⟨q, 0, none⟩), .int .i64 now] w (RefFetched S w q qt L R now) := by
  obtain ⟨i0, hi, hz0, hz1, hz2⟩ := info_parts infoRCall
  have Hz2 := Lib.hid hz2
  have Hz1 := Lib.hid hz1
  have Hz0 := Lib.hid hz0
  have Hi := Lib.hid hi
  have HSlt : Hid (∀ k, S k → k < w.heap.size) := Lib.hid (fun k hk => by
    obtain ⟨vl, vr, hr, hS⟩ := h
    obtain ⟨b0, b1, b2⟩ := hr.blt
    rcases (hS k).1 hk with rfl | hk | hk
    · exact b0
    · exact b1 k hk
    · exact b2 k hk)
  obtain ⟨vl, vr, hr, hS⟩ := h
  have HS := Lib.hid hS
  obtain ⟨al, cl, rfl, hlc, hlm⟩ := hr.own.shape
  obtain ⟨ar, cr, rfl, hrc, hrm⟩ := hr.row.shape
  have hcl9 : (cl : Int) ≤ 9223372036854775807 := by unfold maxLen at hlm; omega
  have hcr9 : (cr : Int) ≤ 9223372036854775807 := by unfold maxLen at hrm; omega
  have START : Hid (RInv S w w q qt (.slice al L.length cl) (.slice ar R.length cr) L R now (.slice none 0 0) 0) := Lib.hid ⟨Owns.nil _ _ _, fun k hk => by simp [InBlock, Value.ownBlock] at hk, by rw [List.take_zero, fetchRL_nil]; exact hr, Fr.refl _ _⟩
  have HN := Lib.hid hn
  have HRn := Lib.hid hRn
  have HRs := Lib.hid hRs
  have HW := Lib.hid hw
  clear hz2 hz1 hz0 hi hr hS hn hRn hRs hw
  obtain ⟨z, hz⟩ : ∃ z, z = max now 0 := ⟨_, rfl⟩
  have HZ := Lib.hid hz
  go_enter Try.func22, Try.ntmps22
  go_wp2_with (fail)
  go_loopg [5, 6] R.length (fun g' ov i wr => ∃ k : Nat, k ≤ R.length ∧ g' = R.length - k ∧ i = .int .i64 k ∧ Hid (RInv S w wr q qt (.slice al L.length cl) (.slice ar R.length cr) L R now ov k))
  case atStart => exact ⟨0, Nat.zero_le _, rfl, rfl, START⟩
  case round =>
    obtain ⟨k, hk, rfl, rfl, HX⟩ := hrel
    have e0 := HX.out.box.head.cell 0 rfl
    have e1 := HX.out.box.head.cell 1 rfl
    by_cases hlt : k < R.length
    · obtain ⟨b1, o1, rfl, hc1⟩ := Sl.oneCell (j := k) (v := .string R[k]) HX.out.box.row.sl.2 (by simp [hlt])
      obtain ⟨d0, hd0, hd0n⟩ := List.mem_map.1 (HRs.out R[k] (List.getElem_mem hlt))
      obtain ⟨j, hj, rfl⟩ := List.mem_iff_getElem.1 hd0
      have hnot : R[k] ∉ R.take k := by
        have h1 := HRn.out
        have e : R = R.take k ++ (R[k] :: R.drop (k + 1)) := by rw [← List.drop_eq_getElem_cons hlt]; exact (List.take_append_drop k R).symm
        rw [e, List.nodup_append] at h1
        exact fun hm => h1.2.2 _ hm _ (List.mem_cons_self ..) rfl
      obtain ⟨hst1, hst2⟩ := fetchRL_step (now := now) HN.out hlt hj hd0n hnot
      have hjl : j < (fetchRL L (R.take k) now).length := by rw [fetchRL_len]; exact hj
      obtain ⟨x, hx⟩ : ∃ x, x = R[k] := ⟨_, rfl⟩
      obtain ⟨d, hd⟩ : ∃ d, d = L[j] := ⟨_, rfl⟩
      have hat : atOf (fetchRL L (R.take k) now) x = j := atOf_some hjl (by rw [hst1, hx]; exact hd0n) (fun i hi' e => by
        have hnn : ((fetchRL L (R.take k) now).map RDev.name).Nodup := by rw [fetchRL_names]; exact HN.out
        have h3 := namesR_inj hnn (i := i) (j := j) (by omega) hjl (by rw [e, hst1, hx, hd0n])
        omega)
      rw [← hx] at hc1
      have HIx : Hid (IsRef S wr q qt (fetchRL L (R.take k) now) R) := Lib.hid ⟨_, _, HX.out.box, HS.out⟩
      have hatc := ref_at x HIx.out
      rw [hat] at hatc
      have HA := Lib.hid hatc
      obtain ⟨gg, rfl⟩ : ∃ gg, al = some ⟨gg, 0, none⟩ := by
        rcases HX.out.box.own.2 with ⟨h1, _⟩ | ⟨g', cap, cur, h1, _⟩
        · simp only [Value.slice.injEq] at h1; omega
        · simp only [Value.slice.injEq] at h1; exact ⟨g', h1.1⟩
      have slv : Recs RDev.cells 4 wr (some ⟨gg, 0, none⟩) (fetchRL L (R.take k) now) := ⟨RDev.len, by decide, HX.out.box.own.sl.2⟩
      obtain ⟨bz, oz, hzz, hcz⟩ := slv.at_ hjl
      obtain ⟨rfl, rfl⟩ : gg = bz ∧ 0 = oz := by simpa using hzz
      have x1 : wr.cell? ⟨gg, j * 4 + 1, none⟩ = some (.int .i64 d.waits) := by have := hcz 1 _ rfl; rw [hst1, ← hd] at this; simpa using this
      have hwt := waitsR_at HN.out hj
      rw [hd0n, ← hx, ← hd] at hwt
      have htold : Hid ((toldR L R).take (k + 1) = (toldR L R).take k ++ [⟨x, d.waits⟩]) := Lib.hid (by
        have hkt : k < (toldR L R).length := by unfold toldR; simpa using hlt
        rw [List.take_succ_eq_append_getElem hkt]
        have : (toldR L R)[k]? = some ⟨x, d.waits⟩ := by unfold toldR; rw [List.getElem?_map, List.getElem?_eq_getElem hlt, ← hx]; simp [hwt]
        rw [List.getElem?_eq_getElem hkt] at this
        rw [Option.some.inj this])
      have HST : Hid (fetchRL L (R.take (k + 1)) now = (fetchRL L (R.take k) now).set j (resetR now (fetchRL L (R.take k) now)[j])) := Lib.hid (by rw [hst2, hst1])
      have hjI : (j : Int) < L.length := by omega
      have hLc : (L.length : Int) ≤ cl := by omega
      have hkI : (k : Int) < R.length := by omega
      have hRc : (R.length : Int) ≤ cr := by omega
      have hkl : Hid (((toldR L R).take k).length = k) := Lib.hid (by unfold toldR; rw [List.length_take, List.length_map]; omega)
      have hln : Hid (L.length = (fetchRL L (R.take k) now).length) := Lib.hid (fetchRL_len L _ now).symm
      clear hd0n hnot hst1 hst2 hx hd hat hatc slv hzz hcz hwt hd0
      go_upto_region 6 with (go_at_call 25; refine HA.out.mono ?_; rintro e w1 ⟨rfl, rfl⟩)
      go_cut [5] (fun s wx => Hid (Owns wx 68 2 s (k + 1) (((toldR L R).take (k + 1)).flatMap Told1.cells)) ∧ Hid (∀ b, InBlock s b → w.heap.size ≤ b) ∧ Hid (RefAt wx q qt (.slice (some ⟨gg, 0, none⟩) L.length cl) (.slice (some ⟨b1, o1, none⟩) R.length cr) (fetchRL L (R.take k) now) R) ∧ Hid (Fr (InBlock u5) wr wx))
      case first =>
        go_region_law
          ((first
            | (refine step_append_fp (by rfl) (.tmp 26) (.tmp 43) 45 (by rfl) 68 i0 (.agg #[.string ByteArray.empty, .int .i64 0]) 2 24 Try.underlying45 Hi.out Hz0.out Hz1.out Hz2.out rfl (by decide) u5 k (((toldR L R).take k).flatMap Told1.cells) (by rfl) (HX.out.own.fr ((Fr.drew Nothing wr).trans' (Fr.alloc Nothing _ (.cells #[.string x, .int .i64 d.waits] 68))) (fun _ _ h => h)) _ 1 1 [Value.string x, Value.int .i64 d.waits] (by rfl) rfl (by simp) (Sl.ofRow (Row.allocNew wr.drew [Value.string x, Value.int .i64 d.waits] 68)) (by intro u hu; simp at hu; rcases hu with rfl | rfl <;> rfl) (by unfold maxLen; omega) (by omega) ?_
               intro v7 w7 o7 f7 n7 s7 _
               have f70 := ((Fr.drew Nothing wr).trans' (Fr.alloc Nothing _ (.cells #[.string x, .int .i64 d.waits] 68))).mono (T := InBlock u5) (fun _ _ h => h.elim)
               have F7 := Lib.hid (f70.trans' f7)
               have hnb : Hid (∀ k, S k → ¬ InBlock u5 k) := Lib.hid (fun k h1 h2 => by have := HX.out.new k h2; have := HSlt.out k h1; omega)
               have B7 := Lib.hid (HX.out.box.fr F7.out (hnb.out q ((HS.out q).2 (.inl rfl))) (fun k hk => hnb.out k ((HS.out k).2 (.inr (.inl hk)))) (fun k hk => hnb.out k ((HS.out k).2 (.inr (.inr hk)))))
               have N7 : Hid (∀ k, InBlock v7 k → w.heap.size ≤ k) := Lib.hid (fun k hk => (n7 k hk).elim (HX.out.new k) (fun h => by have := HX.out.fr.size; simp at h; omega))
               have O7 : Hid (Owns w7 68 2 v7 (k + 1) (((toldR L R).take (k + 1)).flatMap Told1.cells)) := Lib.hid (by rw [htold.out, List.flatMap_append]; exact o7)
               clear o7)))
        all_goals go_wp2_with (fail)
        all_goals
          go_meet
          case rel => exact ⟨O7, N7, B7, F7⟩
      case rest =>
        obtain ⟨O7, N7, B7, F7⟩ := hcut
        obtain ⟨y1, y2, y3, y4, y5, _⟩ := B7.out.reset3 hln.out hjl now (max now 0) rfl
        obtain ⟨u1, u2, u3, x71, x72, x73⟩ := B7.out.finds hln.out hjl
        have k7 := B7.out.head.cell 0 rfl
        go_wp2_with (fail)
        all_goals
          go_roundg (R.length - (k + 1))
          case measure => omega
          case rel =>
            have hgS : S gg := (HS.out gg).2 (.inr (.inl rfl))
            refine ⟨k + 1, by omega, rfl, by go_num, Lib.hid ⟨O7.out.fr (B7.out.reset3 hln.out hjl now _ ?_).2.2.2.2.2.2 (fun b hb e => ?_), N7.out, ?_, ((HX.out.fr.trans F7.out (fun b hb hb2 => ?_)).trans' ((B7.out.reset3 hln.out hjl now _ ?_).2.2.2.2.2.2.mono (fun b _ e => e ▸ hgS)))⟩⟩
            · omega
            · have h1 := N7.out b hb; have h2 := HSlt.out gg hgS; have h3 : b = gg := e; omega
            · rw [HST.out]; exact (B7.out.reset3 hln.out hjl now _ (by omega)).2.2.2.2.2.1
            · have := HX.out.new b hb2; omega
            · omega
    · obtain rfl : k = R.length := by omega
      have fz := HX.out.box.head.free 1
      have hX := HX.out
      have ht : (toldR L R).take R.length = toldR L R := List.take_of_length_le (by unfold toldR; simp)
      have hown := hX.own
      rw [ht] at hown
      have hbx := hX.box
      rw [List.take_length] at hbx
      have HQ := hbx.rowed (S := S) HS.out (Fr.refl _ _) (R2 := []) (v7 := .slice none 0 0) (Owns.nil _ _ _) (fun b hb => by simp [Value.ownBlock] at hb) (by simp)
      have HBX := Lib.hid hbx
      obtain ⟨a5, c5, rfl, _, _⟩ := hown.shape
      have HO := Lib.hid hown
      have HN5 := Lib.hid hX.new
      clear HQ hown hX hbx ht
      go_wp2_with (fail)
      go_ret
      have hset : Fr (fun b => b = q) wr (wr.setCell ⟨q, 1, none⟩ (.slice none 0 0)) := Fr.setCell (S := fun b => b = q) (p := ⟨q, 1, none⟩) rfl _
      have hqS : S q := (HS.out q).2 (.inl rfl)
      have o9 := HO.out.fr hset (fun b hb e => by have h1 := HN5.out b hb; have h2 := HSlt.out q hqS; have h3 : b = q := e; omega)
      refine ⟨a5, c5, fun b => b = q ∨ InBlock (.slice al L.length cl) b, rfl, ⟨Told1.len, by decide, o9.sl.2⟩, HN5.out, ⟨.slice al L.length cl, .slice none 0 0, ⟨HBX.out.head.set 1 _, HBX.out.own.fr hset (fun b hb e => HBX.out.nl b hb e), Owns.nil _ _ _, HBX.out.nl, fun b hb => by simp [InBlock, Value.ownBlock] at hb, fun b _ hb => by simp [InBlock, Value.ownBlock] at hb, HBX.out.ll, by simp⟩, fun b => ⟨fun h => h.elim .inl (fun h => .inr (.inl h)), fun h => h.elim .inl (fun h => h.elim .inr (fun h => by simp [InBlock, Value.ownBlock] at h))⟩⟩, fun b hb => ?_, HX.out.fr.trans' (hset.mono (fun b _ e => e ▸ hqS))⟩
      exact (HS.out b).2 (hb.elim .inl (fun h => .inr (.inl h)))
end
end Go.Proofs.Ytipkkhigcnhjdaa
