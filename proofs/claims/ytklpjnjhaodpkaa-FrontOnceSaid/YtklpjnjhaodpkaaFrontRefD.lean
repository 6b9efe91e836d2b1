/- The reference's front: Put, SetIdle, Confirm. Condition: IsRF, and fewer than 290 texts in all. -/
import Derived.Test.YtklpjnjhaodpkaaFrontRefC
namespace Go.Proofs.Ytklpjnjhaodpkaa
open Go.RowKit

section
variable {w w' : World} {q lq cq : Nat} {vA : Value} {S SL SC : Nat → Prop} {r : RS}

set_option maxRecDepth 100000 in
set_option maxHeartbeats 2000000 in
theorem rf_put (k t : ByteArray) (waits : Bool) (h : IsRF S w q r) (hk : r.keeps = true) (hn : (r.C.map Prod.fst).Nodup) (hl : r.A.length + r.C.length + 1 ≤ 290) :
    Calls Try.prog 20 #[.pointer (some ⟨q, 0, none⟩), .string k, .string t, .bool waits] w (RFSaid S q w (r.put k t waits).1 (r.put k t waits).2) := by
  have hh := h
  obtain ⟨lq, cq, vA, SL, SC, ha, hS⟩ := h
  have h1 := ha.head.cell 1 rfl
  have h2 := ha.head.cell 2 rfl
  have h5 := ha.head.cell 5 rfl
  have Ha := Lib.hid ha
  have HS := Lib.hid hS
  have Hh := Lib.hid hh
  clear ha hS hh
  cases ho : r.over with
  | true =>
    rw [ho] at h1
    have hp : r.put k t waits = (11, r) := by unfold RS.put; rw [if_pos ho]
    rw [hp]
    go_enter Try.func20, Try.ntmps20
    go_wp2_with (fail)
    go_ret2
    exact ⟨_, rfl, RFGone.same Hh.out⟩
  | false =>
    rw [ho] at h1
    have hone : Calls Try.prog 36 #[.pointer (some ⟨q, 0, none⟩), .slice (some ⟨w.heap.size, 0, none⟩) 1 1] (w.alloc (.cells #[.string t] 9)) (RFSaid S q w (r.ferr [t]) (r.flush [t])) := by
      have hbs : Beside S (w.alloc (.cells #[.string t] 9)) (some ⟨w.heap.size, 0, none⟩) [t] := ⟨Sl.ofRow (Row.allocNew w [.string t] 9), .inr ⟨_, rfl, by simp, fun h => by have := Hh.out.lt h; simp only at this; omega⟩⟩
      refine (rf_flush [t] (some ⟨w.heap.size, 0, none⟩) 1 (Hh.out.quiet (Fr.alloc _ _ _)) hk hbs (fun e => by simp at e) (by simpa using hl)).mono ?_
      intro e w2 h2
      exact h2.over (fun _ h => .inl h) (Fr.alloc _ _ _)
    by_cases hw : waits = true ∧ r.idle = true
    · obtain ⟨rfl, hid⟩ := hw
      rw [hid] at h2
      by_cases hroom : (findT r.C k).isSome ∨ r.C.length < 6
      · have hput := cref_put_ok k t Ha.out.calm hn hroom
        have hp : r.put k t true = (0, { r with C := strike r.C k ++ [(k, t)] }) := by
          unfold RS.put; rw [if_neg (by rw [ho]; simp), if_pos (by simp [hid]), if_pos hroom]
        rw [hp]
        clear hp hone hid ho
        go_enter Try.func20, Try.ntmps20
        go_wp2_with (fail)
        refine hput.mono ?_
        rintro e w2 ⟨rfl, SC', hc1, hsc', f1⟩
        have hg := rf_calmed Ha.out HS.out hc1 hsc' f1
        have Hg := Lib.hid hg
        clear hc1 hsc' f1 hg hput
        go_wp2_with (fail)
        go_ret2
        exact ⟨_, rfl, Hg.out⟩
      · have hno : ¬ (findT r.C k).isSome ∧ ¬ (r.C.length < 6) := ⟨fun h => hroom (.inl h), fun h => hroom (.inr h)⟩
        have hput := cref_put_no k t Ha.out.calm (by simpa using hno.1) (by omega)
        have hflush := fun n => rf_flush (w := w.drewN n) [] none 0 (Hh.out.quiet (Fr.drewN _ _ _)) hk ⟨Sl.nil _ _, .inl rfl⟩ (fun _ => ⟨rfl, rfl⟩) (by simp; omega)
        have hp : r.put k t true = if r.ferr [] = 0 then (0, { r.flush [] with C := [(k, t)] }) else (r.ferr [], r.flush []) := by
          unfold RS.put; rw [if_neg (by rw [ho]; simp), if_pos (by simp [hid]), if_neg hroom]
        rw [hp]
        have hcn : (r.flush []).C = [] := rfl
        generalize r.flush [] = r2 at hflush hcn ⊢
        generalize r.ferr [] = er at hflush ⊢
        have Hflush := Lib.hid hflush
        have Hcn := Lib.hid hcn
        clear hp hone hid ho hflush hcn hno hroom
        by_cases he : er = 0
        · subst he
          rw [if_pos rfl]
          go_enter Try.func20, Try.ntmps20
          go_wp2_with (fail)
          refine hput.mono ?_
          rintro e w2 ⟨rfl, n2, rfl⟩
          go_wp2_with (fail)
          refine (Hflush.out n2).mono ?_
          rintro e w3 ⟨v3, rfl, S3, hf3, hS3, F3⟩
          obtain ⟨lq3, cq3, vA3, SL3, SC3, ha3, hS3'⟩ := hf3
          have hcc : IsCRef SC3 w3 cq3 6 [] := by have := ha3.calm; rw [Hcn.out] at this; exact this
          have hput3 := cref_put_ok k t hcc (by simp) (.inr (by simp))
          have h53 := ha3.head.cell 5 rfl
          have hg : ∀ w4, CRefGone SC3 w3 cq3 6 (strike [] k ++ [(k, t)]) w4 → RFGone S w q { r2 with C := [(k, t)] } w4 := fun w4 ⟨SC4, hc4, hsc4, f4⟩ => by
            have g1 : RFGone S3 w3 q { r2 with C := [(k, t)] } w4 := rf_calmed ha3 hS3' hc4 hsc4 f4
            obtain ⟨S5, h5, hS5, f5⟩ := g1
            refine ⟨S5, h5, fun b hb => ?_, ((Fr.drewN S w n2).trans' F3).trans f5 (fun b hb h => ?_)⟩
            · rcases hS5 b hb with h6 | h6
              · exact hS3 b h6
              · exact .inr (Nat.le_trans F3.size h6)
            · rcases hS3 b h with h6 | h6
              · exact h6
              · simp at h6; omega
          have Hg := Lib.hid hg
          clear ha3 hS3' hcc hS3 F3 hg
          go_wp2_with (fail)
          refine hput3.mono ?_
          rintro e w4 ⟨rfl, g4⟩
          have G4 := Lib.hid (Hg.out w4 g4)
          clear g4 Hg
          go_wp2_with (fail)
          go_ret2
          exact ⟨_, rfl, G4.out⟩
        · have hd : (er == 0) = false := by rw [beq_eq_false_iff_ne]; exact he
          rw [if_neg he]
          clear he
          go_enter Try.func20, Try.ntmps20
          go_wp2_with (fail)
          refine hput.mono ?_
          rintro e w2 ⟨rfl, n2, rfl⟩
          go_wp2_with (fail)
          refine (Hflush.out n2).mono ?_
          intro e w3 h3
          have hb := h3.over (S := S) (w := w) (fun _ h => .inl h) (Fr.drewN _ _ _)
          obtain ⟨v3, rfl, _⟩ := h3
          have HB := Lib.hid hb
          clear hb
          go_wp2_with (fail)
          go_ret2
          exact HB.out
    · have hp : r.put k t waits = (r.ferr [t], r.flush [t]) := by
        unfold RS.put; rw [if_neg (by rw [ho]; simp), if_neg (by simpa using hw)]
      rw [hp]
      have Hone := Lib.hid hone
      clear hone hp ho
      cases waits with
      | false =>
        clear hw
        go_enter Try.func20, Try.ntmps20
        go_wp2_with (fail)
        refine Hone.out.mono ?_
        intro e w3 hb
        have Hb := Lib.hid hb
        obtain ⟨v3, rfl, _⟩ := hb
        go_wp2_with (fail)
        go_ret2
        exact Hb.out
      | true =>
        have hid : r.idle = false := by cases hi : r.idle with | false => rfl | true => exact absurd ⟨rfl, hi⟩ hw
        rw [hid] at h2
        clear hw hid
        go_enter Try.func20, Try.ntmps20
        go_wp2_with (fail)
        refine Hone.out.mono ?_
        intro e w3 hb
        have Hb := Lib.hid hb
        obtain ⟨v3, rfl, _⟩ := hb
        go_wp2_with (fail)
        go_ret2
        exact Hb.out

set_option maxHeartbeats 1000000 in
theorem rf_idle (on : Bool) (h : IsRF S w q r) (hk : r.keeps = true) (hl : r.A.length + r.C.length ≤ 290) :
    Calls Try.prog 19 #[.pointer (some ⟨q, 0, none⟩), .bool on] w (RFSaid S q w (r.setIdle on).1 (r.setIdle on).2) := by
  have hh := h
  obtain ⟨lq, cq, vA, SL, SC, ha, hS⟩ := h
  have h1 := ha.head.cell 1 rfl
  have h2 := ha.head.cell 2 rfl
  have p2 := ha.head.free 2
  have hI : IsRF S (w.setCell ⟨q, 2, none⟩ (.bool on)) q { r with idle := on } := ⟨lq, cq, vA, SL, SC, rf_setIdle ha on, hS⟩
  have hF : Fr S w (w.setCell ⟨q, 2, none⟩ (.bool on)) := Fr.setCell (S := S) (p := ⟨q, 2, none⟩) ((hS q).2 (.inl rfl)) _
  have HI := Lib.hid hI
  have HF := Lib.hid hF
  have Hh := Lib.hid hh
  clear ha hS hh hI hF
  cases ho : r.over with
  | true =>
    rw [ho] at h1
    have hp : r.setIdle on = (11, r) := by unfold RS.setIdle; rw [if_pos ho]
    rw [hp]
    go_enter Try.func19, Try.ntmps19
    go_wp2_with (fail)
    go_ret2
    exact ⟨_, rfl, RFGone.same Hh.out⟩
  | false =>
    rw [ho] at h1
    cases on with
    | true =>
      have hp : r.setIdle true = (0, { r with idle := true }) := by unfold RS.setIdle; rw [if_neg (by rw [ho]; simp), if_pos rfl]
      rw [hp]
      clear hp ho
      go_enter Try.func19, Try.ntmps19
      go_wp2_with (fail)
      go_ret2
      exact ⟨_, rfl, S, HI.out, fun _ h => .inl h, HF.out⟩
    | false =>
      have hp : r.setIdle false = (RS.ferr { r with idle := false } [], RS.flush { r with idle := false } []) := by unfold RS.setIdle; rw [if_neg (by rw [ho]; simp), if_neg (by simp)]
      rw [hp]
      clear hp ho
      go_enter Try.func19, Try.ntmps19
      go_wp2_with (fail)
      refine (rf_flush [] none 0 HI.out hk ⟨Sl.nil _ _, .inl rfl⟩ (fun _ => ⟨rfl, rfl⟩) (by simpa using hl)).mono ?_
      intro e w3 h3
      have hb := h3.over (S := S) (w := w) (fun _ h => .inl h) HF.out
      obtain ⟨v3, rfl, _⟩ := h3
      have HB := Lib.hid hb
      clear hb
      go_wp2_with (fail)
      go_ret2
      exact HB.out

/-- Confirm of a number that is there. -/
theorem rf_confirm (n : Int) (k : Nat) (h : IsRF S w q r) (hk : r.keeps = true) (ho : r.over = false) (hu : U32 n) (hh : w32 (n - w32 (0 + r.done)) = k) (hd : r.done + k ≤ r.A.length) :
    Calls Try.prog 23 #[.pointer (some ⟨q, 0, none⟩), .int .u32 n] w fun e w' => e = .returned (.int .i64 0) ∧ RFGone S w q { r with done := r.done + k } w' := by
  obtain ⟨lq, cq, vA, SL, SC, ha, hS⟩ := h
  have h1 : w.cell? ⟨q, 1, none⟩ = some (.bool false) := by rw [← ho]; exact ha.head.cell 1 rfl
  have h3 : w.cell? ⟨q, 3, none⟩ = some (.bool true) := by rw [← hk]; exact ha.head.cell 3 rfl
  have h4 := ha.head.cell 4 rfl
  have hcf := lref_confirm_ok n k ha.led hu hh hd
  have Ha := Lib.hid ha
  have HS := Lib.hid hS
  clear ha hS hk ho hh
  go_enter Try.func23, Try.ntmps23
  go_wp2_with (fail)
  refine hcf.mono ?_
  rintro e w1 ⟨rfl, hl1, f1⟩
  have ha1 : RFAt w1 q lq cq vA SL SC { r with done := r.done + k } := ⟨Ha.out.head.fr f1 Ha.out.nl, hl1, Ha.out.calm.fr f1 (fun k hk h => Ha.out.lc k h hk), Ha.out.own.fr f1 (fun k hk h => Ha.out.la k h hk), Ha.out.nl, Ha.out.nc, Ha.out.na, Ha.out.lc, Ha.out.la, Ha.out.ca⟩
  have Ha1 := Lib.hid ha1
  clear ha1 hl1 hcf
  go_wp2_with (fail)
  go_ret
  exact ⟨rfl, S, ⟨lq, cq, vA, SL, SC, Ha1.out, HS.out⟩, fun _ h => .inl h, f1.mono fun b _ h => (HS.out b).2 (.inr (.inl h))⟩
end
end Go.Proofs.Ytklpjnjhaodpkaa
