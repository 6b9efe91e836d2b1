/- front.Front: New, Put, Idle, Keep, Leave, Back, Confirm, Open. No condition. -/
import Derived.Test.YtklpjnjhaodpkaaFrontC
namespace Go.Proofs.Ytklpjnjhaodpkaa
open Go.RowKit

section
variable {w w' : World} {p : Nat} {S : Nat → Prop} {s : FS}

/-- What New gives. -/
def FrontNew (w : World) (e : Ending) (w' : World) : Prop :=
  ∃ p S, e = .returned (.pointer (some ⟨p, 0, none⟩)) ∧ IsFront S w' p ⟨none, [], false, false, false⟩ ∧ (∀ k, S k → w.heap.size ≤ k) ∧ Fr Nothing w w'
theorem front_new (w : World) : Calls Try.prog 8 #[] w (FrontNew w) := by
  go_enter Try.func8, Try.ntmps8
  go_wp2_with (fail)
  refine (calm_new 6 6 _ (by decide)).mono ?_
  rintro e w1 ⟨cp, SC, rfl, hc, hSC, f1⟩
  go_wp2_with (fail)
  go_ret
  have hlt : ∀ k, SC k → k < w1.heap.size := fun k hk => hc.lt hk
  refine ⟨w1.heap.size, fun k => k = w1.heap.size ∨ SC k ∨ False, rfl, ⟨.pointer none, cp, fun _ => False, SC, ⟨Row.allocNew w1 [.pointer none, .pointer (some ⟨cp, 0, none⟩), .bool false, .bool false, .bool false] _, hc.fr (Fr.alloc Nothing _ _) (fun _ _ h => h), ⟨rfl, fun _ h => h⟩, fun h => by have := hlt _ h; omega, fun h => h, fun _ _ h => h⟩, fun _ => Iff.rfl⟩, fun k hk => ?_, f1.trans' (Fr.alloc _ _ _)⟩
  rcases hk with rfl | h | h
  · exact f1.size
  · exact hSC k h
  · exact h.elim

set_option maxRecDepth 100000 in
set_option maxHeartbeats 2000000 in
theorem front_put (k t : ByteArray) (waits : Bool) (h : IsFront S w p s) (hk : k.size ≤ maxLen) (ht : t.size ≤ maxLen) :
    Calls Try.prog 11 #[.pointer (some ⟨p, 0, none⟩), .string k, .string t, .bool waits] w (FSaid S p w (s.put k t waits)) := by
  have hov := front_over h
  have hcl := h.calmLe
  cases ho : s.over with
  | true =>
    rw [ho] at hov
    have hp : s.put k t waits = ([], 11, s) := by unfold FS.put; rw [if_pos ho]
    rw [hp]
    go_enter Try.func11, Try.ntmps11
    go_wp2_with (fail)
    refine hov.mono ?_
    rintro e w1 ⟨rfl, rfl⟩
    go_wp2_with (fail)
    go_ret2
    exact FTold.nothing h 11
  | false =>
    rw [ho] at hov
    have hone : ∀ w1, Fr Nothing w w1 → w1.heap.size = w.heap.size → Calls Try.prog 26 #[.pointer (some ⟨p, 0, none⟩), .slice (some ⟨w1.heap.size, 0, none⟩) 1 1] (w1.alloc (.cells #[.string t] 9)) (FSaid S p w (s.flush [t])) := fun w1 f1 hz => by
      have hlt := fun k hk => h.lt (k := k) hk
      refine (front_flush (w := w1.alloc (.cells #[.string t] 9)) [t] (some ⟨w1.heap.size, 0, none⟩) 1 (h.quiet (f1.trans' (Fr.alloc _ _ _))) (Sl.ofRow (Row.allocNew w1 [.string t] 9)) (fun e => by simp at e) (fun q hq e => by have := hlt q hq; simp [InBlock, Value.ownBlock] at e; omega) (by simp) ho).mono ?_
      intro e w2 ht2
      exact ht2.over (fun _ h => .inl h) ((f1.trans' (Fr.alloc _ _ _)).mono fun _ _ h => h.elim)
    by_cases hw : waits = true ∧ s.idle = true
    · obtain ⟨rfl, hid⟩ := hw
      obtain ⟨lv, cp, SL, SC, ha, hS⟩ := h
      have h2 := ha.head.cell 2 rfl
      rw [hid] at h2
      have h1 := ha.head.cell 1 rfl
      have Ha := Lib.hid ha
      have HS := Lib.hid hS
      by_cases hroom : (findT s.calm k).isSome ∨ s.calm.length < 6
      · have hput := calm_put_ok k t hk ht ha.calm hroom
        have hp : s.put k t true = ([], 0, { s with calm := strike s.calm k ++ [(k, t)] }) := by
          unfold FS.put; rw [if_neg (by rw [ho]; simp), if_pos (by simp [hid]), if_pos hroom]
        rw [hp]
        clear ha hS hp hone hid ho
        go_enter Try.func11, Try.ntmps11
        go_wp2_with (fail)
        refine hov.mono ?_
        rintro e w1 ⟨rfl, rfl⟩
        go_wp2_with (fail)
        refine hput.mono ?_
        rintro e w2 ⟨rfl, SC', hc1, hsc', f1⟩
        obtain ⟨S1, hf1, hS1, F1⟩ := front_calmed Ha.out HS.out hc1 hsc' f1
        have Hf1 := Lib.hid hf1
        have HS1 := Lib.hid hS1
        have HF1 := Lib.hid F1
        clear hc1 hsc' f1 hf1 hS1 F1
        go_wp2_with (fail)
        go_ret2
        exact (FTold.nothing Hf1.out 0).over HS1.out HF1.out
      · have hno : ¬ (findT s.calm k).isSome ∧ ¬ (s.calm.length < 6) := ⟨fun h => hroom (.inl h), fun h => hroom (.inr h)⟩
        have hput := calm_put_no k t hk ha.calm (by simpa using hno.1) (by omega)
        have hflush := fun w1 (f1 : Fr Nothing w w1) => front_flush (w := w1) [] none 0 (IsFront.quiet ⟨lv, cp, SL, SC, Ha.out, HS.out⟩ f1) (Sl.nil _ _) (fun _ => ⟨rfl, rfl⟩) (fun _ _ h => by simp [InBlock, Value.ownBlock] at h) (by simp) ho
        have hp : s.put k t true = if (s.flush []).2.1 = 0 then ((s.flush []).1, 0, { (s.flush []).2.2 with calm := [(k, t)] }) else s.flush [] := by
          unfold FS.put; rw [if_neg (by rw [ho]; simp), if_pos (by simp [hid]), if_neg hroom]
        rw [hp]
        have hcn : (s.flush []).2.2.calm = [] := rfl
        generalize s.flush [] = r at hflush hcn ⊢
        obtain ⟨o, er, s3⟩ := r
        have hcn : s3.calm = [] := hcn
        have Hflush := Lib.hid hflush
        have Hcn := Lib.hid hcn
        clear ha hS hp hone hid ho hflush hcn hno hroom
        by_cases he : er = 0
        · subst he
          rw [if_pos rfl]
          go_enter Try.func11, Try.ntmps11
          go_wp2_with (fail)
          refine hov.mono ?_
          rintro e w1 ⟨rfl, rfl⟩
          go_wp2_with (fail)
          refine hput.mono ?_
          rintro e w2 ⟨rfl, f2⟩
          go_wp2_with (fail)
          refine (Hflush.out w2 f2).mono ?_
          rintro e w3 ⟨a3, c3, S3, rfl, own3, hn3, hf3, hS3, hd3, F3⟩
          obtain ⟨lv3, cp3, SL3, SC3, ha3, hS3'⟩ := hf3
          have hcc : IsCalm SC3 w3 cp3 6 [] := by have := ha3.calm; rw [Hcn.out] at this; exact this
          have hput3 := calm_put_ok k t hk ht hcc (.inr (by simp))
          have h13 := ha3.head.cell 1 rfl
          have Ha3 := Lib.hid ha3
          have Hown := Lib.hid own3
          have Hn3 := Lib.hid hn3
          have HS3 := Lib.hid hS3
          have HS3' := Lib.hid hS3'
          have Hd3 := Lib.hid hd3
          have HF3 := Lib.hid F3
          clear ha3 hS3' hcc own3 hn3 hS3 hd3 F3
          go_wp2_with (fail)
          refine hput3.mono ?_
          rintro e w4 ⟨rfl, SC4, hc4, hsc4, f4⟩
          obtain ⟨S5, hf5, hS5, F5⟩ := front_calmed Ha3.out HS3'.out hc4 hsc4 f4
          have Hf4 := Lib.hid f4
          have Hf5 := Lib.hid hf5
          have HS5 := Lib.hid hS5
          have HF5 := Lib.hid F5
          clear hput3 f4 hf5 hS5 F5 hc4 hsc4
          go_wp2_with (fail)
          go_ret2
          have hnw : ∀ q, InBlock (.slice a3 o.length c3) q → w.heap.size ≤ q := fun q hq => Nat.le_trans f2.size (Hn3.out q hq)
          refine ⟨a3, c3, S5, rfl, Owns.fr Hown.out Hf4.out (fun q hq h => Hd3.out q ((HS3'.out q).2 (.inr (.inl h))) hq), hnw, Hf5.out, fun q hq => ?_, fun q hq h => ?_, ?_⟩
          · rcases HS5.out q hq with h1 | h1
            · rcases HS3.out q h1 with h2 | h2
              · exact .inl h2
              · exact .inr (Nat.le_trans f2.size h2)
            · exact .inr (Nat.le_trans (Nat.le_trans f2.size HF3.out.size) h1)
          · rcases HS5.out q hq with h1 | h1
            · exact Hd3.out q h1 h
            · have := Owns.lt Hown.out (k := q) h; omega
          · have g1 : Fr S w w3 := Fr.trans' (f2.mono fun _ _ h => h.elim) HF3.out
            exact g1.trans HF5.out (fun q hq h => by
              rcases HS3.out q h with h2 | h2
              · exact h2
              · have := f2.size; omega)
        · have hd : (er == 0) = false := by rw [beq_eq_false_iff_ne]; exact he
          have hp2 : (if ((o, er, s3) : List ByteArray × Int × FS).2.1 = 0 then (((o, er, s3) : List ByteArray × Int × FS).1, (0 : Int), { ((o, er, s3) : List ByteArray × Int × FS).2.2 with calm := [(k, t)] }) else (o, er, s3)) = (o, er, s3) := if_neg he
          rw [hp2]
          clear hp2 he
          go_enter Try.func11, Try.ntmps11
          go_wp2_with (fail)
          refine hov.mono ?_
          rintro e w1 ⟨rfl, rfl⟩
          go_wp2_with (fail)
          refine hput.mono ?_
          rintro e w2 ⟨rfl, f2⟩
          go_wp2_with (fail)
          refine (Hflush.out w2 f2).mono ?_
          intro e w3 htold
          have hb := htold.over (S := S) (w := w) (fun q hq => .inl hq) (f2.mono fun _ _ h => h.elim)
          obtain ⟨a3, c3, S3, rfl, _⟩ := htold
          have Hb := Lib.hid hb
          clear hb
          go_wp2_with (fail)
          go_ret2
          exact Hb.out
    · have hp : s.put k t waits = s.flush [t] := by
        unfold FS.put; rw [if_neg (by rw [ho]; simp), if_neg (by simpa using hw)]
      rw [hp]
      obtain ⟨lv, cp, SL, SC, ha, hS⟩ := h
      have h2 := ha.head.cell 2 rfl
      have Hone := Lib.hid hone
      clear ha hS hone hp ho
      cases waits with
      | false =>
        clear hw
        go_enter Try.func11, Try.ntmps11
        go_wp2_with (fail)
        refine hov.mono ?_
        rintro e w1 ⟨rfl, rfl⟩
        go_wp2_with (fail)
        refine (Hone.out w (Fr.refl _ _) rfl).mono ?_
        intro e w3 hb
        have Hb := Lib.hid hb
        obtain ⟨a3, c3, S3, rfl, _⟩ := hb
        go_wp2_with (fail)
        go_ret2
        exact Hb.out
      | true =>
        have hid : s.idle = false := by cases hi : s.idle with | false => rfl | true => exact absurd ⟨rfl, hi⟩ hw
        rw [hid] at h2
        clear hw hid
        go_enter Try.func11, Try.ntmps11
        go_wp2_with (fail)
        refine hov.mono ?_
        rintro e w1 ⟨rfl, rfl⟩
        go_wp2_with (fail)
        refine (Hone.out w (Fr.refl _ _) rfl).mono ?_
        intro e w3 hb
        have Hb := Lib.hid hb
        obtain ⟨a3, c3, S3, rfl, _⟩ := hb
        go_wp2_with (fail)
        go_ret2
        exact Hb.out
end
end Go.Proofs.Ytklpjnjhaodpkaa
