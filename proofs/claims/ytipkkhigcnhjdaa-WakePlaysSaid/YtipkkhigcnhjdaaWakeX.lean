/- The box and the document's box do each step alike. Condition: WP, IsBox, IsRef. -/
import Derived.Test.YtipkkhigcnhjdaaWakeW
namespace Go.Proofs.Ytipkkhigcnhjdaa
open Go.RowKit
section
variable {S T : Nat → Prop} {w w' : World} {p q M : Nat} {qt : Int} {L : List Dev} {R : List ByteArray} {LR : List RDev}
theorem BoxGone.more {M' : Nat} (h : BoxGone S w p qt M L R w') (hM : M ≤ M') : BoxGone S w p qt M' L R w' := by
  obtain ⟨S', a, b, c⟩ := h
  exact ⟨S', a.more hM, b, c⟩
theorem IsBox.still (h : IsBox S w p qt M L R) : BoxGone S w p qt M L R w := ⟨S, h, fun _ hk => .inl hk, Fr.refl _ _⟩
theorem WP.fits (h : WP L R LR) (hb : IsBox S w p qt M L R) : ∀ d ∈ LR, 0 ≤ d.waits ∧ d.waits ≤ M ∧ 0 ≤ d.at_ ∧ d.at_ ≤ 9223372036854775807 ∧ d.name.size ≤ maxLen := by
  intro d hd
  have h1 := h.eq d.name
  rw [refOf_mem h.so.nodup hd] at h1
  obtain ⟨e, he, hen, hc⟩ := devOf_some h1
  obtain ⟨b, v, hr, _⟩ := hb
  obtain ⟨j, hj, rfl⟩ := List.mem_iff_getElem.1 he
  have hf := hr.fits j hj
  unfold Dev.Fits at hf
  have e1 : d.waits = L[j].waits := (congrArg Dev.waits hc).symm
  have e2 : d.at_ = L[j].at_ := (congrArg Dev.at_ hc).symm
  rw [e1, e2, ← hen]
  exact hf
theorem atOf_at (hn : (LR.map RDev.name).Nodup) {j : Nat} (hj : j < LR.length) : atOf LR LR[j].name = j :=
  atOf_some hj rfl (fun i hi e => by have := namesR_inj hn (i := i) (j := j) (by omega) hj e; omega)
theorem atOf_no {k : ByteArray} (h : k ∉ LR.map RDev.name) : atOf LR k = -1 :=
  atOf_none (fun i hi e => h (List.mem_map.2 ⟨LR[i], List.getElem_mem hi, e⟩))
theorem ref_hint_full (k : ByteArray) (hk0 : k ≠ ByteArray.empty) (hat : atOf LR k = -1) (now : Int) (h0 : 0 ≤ now) (h : IsRef T w q qt LR R) (hl : LR.length = 64) :
    Calls Try.prog 19 #[.pointer (some ⟨q, 0, none⟩), .string k, .int .i64 now] w fun e w' => e = .returned (.int .i64 9) ∧ w = w' := by
  have hkt : k.toList.isEmpty = false := text_cons hk0
  have hd0 : decide (now < 0) = false := by rw [decide_eq_false_iff_not]; omega
  have hatc := ref_at k h
  rw [hat] at hatc
  have HA := Lib.hid hatc
  obtain ⟨vl, vr, hr1, hS⟩ := h
  obtain ⟨a, c, rfl, hle, hcm⟩ := hr1.own.shape
  have c1 := hr1.head.cell 0 rfl
  rw [hl] at c1
  clear hatc hr1 hS hat hle
  go_enter Try.func19, Try.ntmps19
  go_wp2_with (go_at_call 25; refine HA.out.mono ?_; rintro e w1 ⟨rfl, rfl⟩)
  go_ret
  exact ⟨rfl, rfl⟩
/-- What both contracts say of a step that answers E and leaves these. -/
structure Pair (S : Nat → Prop) (w : World) (p q : Nat) (qt : Int) (M : Nat) (LR : List RDev) (R : List ByteArray) (fa fb : FuncId) (args : List Value) (E : Value) (L' : World → List Dev → Prop) (LR' : List RDev) (R' : List ByteArray) : Prop where
  box : Calls Try.prog fa (Value.pointer (some ⟨p, 0, none⟩) :: args).toArray w fun e w' => e = .returned E ∧ ∃ L1, BoxGone S w p qt (M + 140) L1 R' w' ∧ L' w' L1
  ref : ∀ T u, IsRef T u q qt LR R → Calls Try.prog fb (Value.pointer (some ⟨q, 0, none⟩) :: args).toArray u fun e w' => e = .returned E ∧ RefGone T u q qt LR' R' w'
theorem hint_pair (k : ByteArray) (now : Int) (hk : k.size ≤ maxLen) (h9 : now ≤ 9223372036854775807) (h : IsBox S w p qt M L R) (hM : M ≤ 80000) (hw : WP L R LR) :
    ∃ E LR' R', Pair S w p q qt M LR R 11 19 [.string k, .int .i64 now] (.int .i64 E) (fun _ L1 => WP L1 R' LR') LR' R' := by
  obtain ⟨hl64, hRM, _⟩ := box_room h
  by_cases hk0 : k = ByteArray.empty
  · subst hk0
    refine ⟨1, LR, R, ⟨(box_hint_empty now p w).mono ?_, fun T u hu => (ref_hint_empty now u).mono ?_⟩⟩
    · rintro e w' ⟨rfl, rfl⟩; exact ⟨rfl, L, h.still.more (by omega), hw⟩
    · rintro e w' ⟨rfl, rfl⟩; exact ⟨rfl, hu.quiet (Fr.refl _ _)⟩
  · by_cases hn0 : now < 0
    · refine ⟨1, LR, R, ⟨(box_hint_early k now hn0 p w).mono ?_, fun T u hu => (ref_hint_early k now hn0 u).mono ?_⟩⟩
      · rintro e w' ⟨rfl, rfl⟩; exact ⟨rfl, L, h.still.more (by omega), hw⟩
      · rintro e w' ⟨rfl, rfl⟩; exact ⟨rfl, hu.quiet (Fr.refl _ _)⟩
    · have h0 : 0 ≤ now := by omega
      have hfit := hw.fits h
      have hT : TimesOk LR := fun d hd => ⟨(hfit d hd).2.2.1, (hfit d hd).2.2.2.1⟩
      by_cases hm : k ∈ LR.map RDev.name
      · obtain ⟨d0, hd0, rfl⟩ := List.mem_map.1 hm
        obtain ⟨j, hj, rfl⟩ := List.mem_iff_getElem.1 hd0
        have hn := hw.so.nodup
        obtain ⟨g1, g2, g3⟩ := refOf_set hn hj
        refine ⟨0, LR.set j (moreD LR[j]), calledR (moreD LR[j]) R now qt, ⟨(box_hint_ok2 LR[j].name now hk hk0 h0 h9 h (by omega) hw.rl (.inl ((hw.names _).2 hm))).mono ?_, fun T u hu => ref_hint_known LR[j].name hk0 j hj rfl (atOf_at hn hj) now h0 h9 hT ⟨(hfit _ hd0).1, by have := (hfit _ hd0).2.1; omega⟩ hu (by omega)⟩⟩
        rintro e w' ⟨rfl, L1, R1, g, r1, e1, e2, e3⟩
        have hC := hintC_known (k := LR[j].name) hw (refOf_at hn hj)
        rw [hC, callsB_toD] at e3
        have e4 : R1 = calledR (moreD LR[j]) R now qt := e3
        subst e4
        rw [hC] at e1
        exact ⟨rfl, L1, g.more (by omega), hw.hint r1 (sorted_iff.2 (by rw [g3]; exact sorted_iff.1 hw.so)) rfl rfl e1 e2 g1 g2⟩
      · have hmL : k ∉ L.map Dev.name := fun h => hm ((hw.names k).1 h)
        have hnk : ∀ y ∈ LR, y.name ≠ k := fun y hy e => hm (List.mem_map.2 ⟨y, hy, e⟩)
        by_cases hl : L.length = 64
        · refine ⟨9, LR, R, ⟨(box_hint_full k now hk hk0 h0 h hmL hl).mono ?_, fun T u hu => (ref_hint_full k hk0 (atOf_no hm) now h0 hu (by rw [hw.len]; exact hl)).mono ?_⟩⟩
          · rintro e w' ⟨rfl, rfl⟩; exact ⟨rfl, L, h.still.more (by omega), hw⟩
          · rintro e w' ⟨rfl, rfl⟩; exact ⟨rfl, hu.quiet (Fr.refl _ _)⟩
        · obtain ⟨g1, g2⟩ := refOf_ins hw.so hnk
          refine ⟨0, insW LR k, calledR ⟨k, 1, false, 0⟩ R now qt, ⟨(box_hint_ok2 k now hk hk0 h0 h9 h (by omega) hw.rl (.inr (by omega))).mono ?_, fun T u hu => ref_hint_new k hk hk0 hnk (atOf_no hm) now h0 h9 hT hw.so (fun x hx => (hfit x hx).2.2.2.2) hu (by rw [hw.len]; omega) (by omega)⟩⟩
          rintro e w' ⟨rfl, L1, R1, g, r1, e1, e2, e3⟩
          have hC := hintC_new hw hm
          rw [hC, callsB_toD] at e3
          have e4 : R1 = calledR ⟨k, 1, false, 0⟩ R now qt := e3
          subst e4
          rw [hC] at e1
          exact ⟨rfl, L1, g.more (by omega), hw.hint r1 (insW_sorted hw.so) rfl rfl e1 e2 g1 g2⟩
theorem tick_pair (now : Int) (h9 : now ≤ 9223372036854775807) (h : IsBox S w p qt M L R) (hM : M ≤ 70000) (hw : WP L R LR) :
    ∃ LR' R', Pair S w p q qt M LR R 16 20 [.int .i64 now] (.tuple #[]) (fun _ L1 => WP L1 R' LR') LR' R' := by
  obtain ⟨hl64, hRM, _⟩ := box_room h
  by_cases hn0 : now < 0
  · refine ⟨LR, R, ⟨(box_tick_early now hn0 p w).mono ?_, fun T u hu => (ref_tick_early now hn0 hu).mono ?_⟩⟩
    · rintro e w' ⟨rfl, rfl⟩; exact ⟨rfl, L, h.still.more (by omega), hw⟩
    · rintro e w' ⟨rfl, rfl⟩; exact ⟨rfl, hu.quiet (Fr.refl _ _)⟩
  · have h0 : 0 ≤ now := by omega
    have hfit := hw.fits h
    have hT : TimesOk LR := fun d hd => ⟨(hfit d hd).2.2.1, (hfit d hd).2.2.2.1⟩
    refine ⟨LR, tickRR LR R now qt, ⟨(box_tick now h0 h9 h (by omega)).mono ?_, fun T u hu => ref_tick now h0 h9 hT hw.so.nodup (by rw [hw.len]; exact hl64) (by omega) hu⟩⟩
    rintro e w' ⟨N, rfl, hp, ha, g⟩
    rw [tick_row hw hp ha] at g
    exact ⟨rfl, _, g.more (by omega), hw.tick hp ha⟩
theorem awake_pair (k : ByteArray) (hk : k.size ≤ maxLen) (h : IsBox S w p qt M L R) (hR4 : R.length ≤ 4000) (hw : WP L R LR) :
    ∃ LR' R', Pair S w p q qt M LR R 23 24 [.string k] (.tuple #[]) (fun _ L1 => WP L1 R' LR') LR' R' := by
  obtain ⟨hl64, hRM, _⟩ := box_room h
  refine ⟨awakeL LR k, wakeR R k, ⟨(box_awake k hk h hR4).mono ?_, fun T u hu => ?_⟩⟩
  · rintro e w' ⟨rfl, g⟩
    exact ⟨rfl, _, g.more (by omega), hw.awake k⟩
  · by_cases hm : k ∈ LR.map RDev.name
    · obtain ⟨d0, hd0, rfl⟩ := List.mem_map.1 hm
      obtain ⟨j, hj, rfl⟩ := List.mem_iff_getElem.1 hd0
      have := ref_awake_yes LR[j].name j hj rfl (atOf_at hw.so.nodup hj) hw.so.nodup (by rw [hw.len]; exact hl64) hu
      rw [awakeR_eq] at this
      exact this
    · refine (ref_awake_no k (atOf_no hm) hu).mono ?_
      rintro e w' ⟨rfl, rfl⟩
      have e1 : awakeL LR k = LR := List.filter_eq_self.2 (fun d hd => by
        simp only [decide_eq_true_eq]
        exact fun e => hm (List.mem_map.2 ⟨d, hd, e⟩))
      have e2 : wakeR R k = R := List.filter_eq_self.2 (fun r hr => by
        have : r ≠ k := fun e => hm ((hw.names k).1 (hw.rl.rs k (e ▸ hr)))
        simpa using this)
      rw [e1, e2]
      exact ⟨rfl, hu.quiet (Fr.refl _ _)⟩
set_option maxHeartbeats 1000000 in
theorem wake_same (a b : Option Addr) (X : List Told1) (ca cb : Nat) (w : World) (ha : Recs Told1.cells 2 w a X) (hb : Recs Told1.cells 2 w b X) (hl : X.length ≤ maxLen) :
    Calls Try.prog 21 #[.slice a X.length ca, .slice b X.length cb] w fun e w' => e = .returned (.bool true) ∧ ∃ m, w' = w.drewN m := by
  unfold maxLen at hl
  have Ha := Lib.hid ha
  have Hb := Lib.hid hb
  clear ha hb
  go_enter Try.func21, Try.ntmps21
  go_wp2_with (fail)
  go_loopw [5] (fun i wr => ∃ k : Nat, k ≤ X.length ∧ i = .int .i64 k ∧ ∃ m, wr = w.drewN m) (fun i _ => X.length - (intOf i).toNat)
  case atStart => exact ⟨0, Nat.zero_le _, rfl, 0, rfl⟩
  case round =>
    obtain ⟨k, hk, rfl, m, rfl⟩ := hrel
    by_cases hlt : k < X.length
    · obtain ⟨b1, o1, rfl, g1⟩ := Ha.out.at_ hlt
      obtain ⟨b2, o2, rfl, g2⟩ := Hb.out.at_ hlt
      obtain ⟨x, hx⟩ : ∃ x, x = X[k] := ⟨_, rfl⟩
      rw [← hx] at g1 g2
      have p0 : w.cell? ⟨b1, o1 + k * 2, none⟩ = some (.string x.name) := g1 0 _ rfl
      have p1 : w.cell? ⟨b1, o1 + k * 2 + 1, none⟩ = some (.int .i64 x.count) := g1 1 _ rfl
      have q0 : w.cell? ⟨b2, o2 + k * 2, none⟩ = some (.string x.name) := g2 0 _ rfl
      have q1 : w.cell? ⟨b2, o2 + k * 2 + 1, none⟩ = some (.int .i64 x.count) := g2 1 _ rfl
      have hkI : (k : Int) < X.length := by omega
      have hne : (x.name.toList == x.name.toList) = true := by simp
      clear g1 g2 hx
      go_wp2_with (fail)
      go_quiet (fail)
      go_wp2_with (fail)
      go_roundw
      case rel => exact ⟨k + 1, by omega, by go_num, m + nq, by simp⟩
      case measure => simp [intOf]; omega
    · obtain rfl : k = X.length := by omega
      go_wp2_with (fail)
      go_ret
      exact ⟨rfl, m, rfl⟩
end
/-- Both boxes, side by side, and a step's own copy at ob. -/
structure PW (S T : Nat → Prop) (p q ob : Nat) (o : WakeOp) (qt : Int) (M : Nat) (w0 wr : World) (L : List Dev) (R : List ByteArray) (LR : List RDev) (RR : List ByteArray) : Prop where
  box : IsBox S wr p qt M L R
  ref : IsRef T wr q qt LR RR
  apart : ∀ k, S k → ¬ T k
  newS : ∀ k, S k → w0.heap.size ≤ k
  newT : ∀ k, T k → w0.heap.size ≤ k
  row : Row wr ob o.cells 37
  noS : ¬ S ob
  noT : ¬ T ob
  fr : Fr (FromB w0.heap.size) w0 wr
theorem IsRef.lt {T : Nat → Prop} {w : World} {q : Nat} {qt : Int} {LR : List RDev} {R : List ByteArray} (h : IsRef T w q qt LR R) {k : Nat} (hk : T k) : k < w.heap.size := by
  obtain ⟨vl, vr, hr, hS⟩ := h
  obtain ⟨b0, b1, b2⟩ := hr.blt
  rcases (hS k).1 hk with rfl | hk | hk
  · exact b0
  · exact b1 k hk
  · exact b2 k hk
section
variable {S T S' : Nat → Prop} {p q ob M M' : Nat} {o : WakeOp} {qt : Int} {w0 wr w' : World} {L L' : List Dev} {R R' RR : List ByteArray} {LR LR' : List RDev}
theorem PW.quiet (h : PW S T p q ob o qt M w0 wr L R LR RR) (F : Fr Nothing wr w') : PW S T p q ob o qt M w0 w' L R LR RR :=
  ⟨h.box.fr F (fun _ _ h => h), h.ref.fr F (fun _ _ h => h), h.apart, h.newS, h.newT, h.row.fr F (fun h => h), h.noS, h.noT, h.fr.trans' F.fromN⟩
theorem PW.stepS (h : PW S T p q ob o qt M w0 wr L R LR RR) (K : IsBox S' w' p qt M' L' R') (g : ∀ k, S' k → S k ∨ wr.heap.size ≤ k) (F : Fr S wr w') : PW S' T p q ob o qt M' w0 w' L' R' LR RR := by
  refine ⟨K, h.ref.fr F (fun k hb ha => h.apart k ha hb), fun k hk hb => ?_, fun k hk => ?_, h.newT, h.row.fr F h.noS, fun hk => ?_, h.noT, h.fr.trans' (F.from_ h.newS)⟩
  · rcases g k hk with h1 | h1
    · exact h.apart k h1 hb
    · have := h.ref.lt hb; omega
  · rcases g k hk with h1 | h1
    · exact h.newS k h1
    · exact Nat.le_trans h.fr.size h1
  · rcases g ob hk with h1 | h1
    · exact h.noS h1
    · have := h.row.lt; omega
theorem PW.stepT (h : PW S T p q ob o qt M w0 wr L R LR RR) (K : IsRef S' w' q qt LR' R') (g : ∀ k, S' k → T k ∨ wr.heap.size ≤ k) (F : Fr T wr w') : PW S S' p q ob o qt M w0 w' L R LR' R' := by
  refine ⟨h.box.fr F h.apart, K, fun k ha hk => ?_, h.newS, fun k hk => ?_, h.row.fr F h.noT, h.noS, fun hk => ?_, h.fr.trans' (F.from_ h.newT)⟩
  · rcases g k hk with h1 | h1
    · exact h.apart k ha h1
    · have := h.box.lt ha; omega
  · rcases g k hk with h1 | h1
    · exact h.newT k h1
    · exact Nat.le_trans h.fr.size h1
  · rcases g ob hk with h1 | h1
    · exact h.noT h1
    · have := h.row.lt; omega
theorem PW.more (h : PW S T p q ob o qt M w0 wr L R LR RR) (hM : M ≤ M') : PW S T p q ob o qt M' w0 wr L R LR RR := ⟨h.box.more hM, h.ref, h.apart, h.newS, h.newT, h.row, h.noS, h.noT, h.fr⟩
end
end Go.Proofs.Ytipkkhigcnhjdaa
