/- front.Front: Back, Confirm; lives. No condition. -/
import Derived.Test.YtklpjnjhaodpkaaFrontE
namespace Go.Proofs.Ytklpjnjhaodpkaa
open Go.RowKit

section
variable {w w' : World} {p : Nat} {S : Nat → Prop} {s : FS}

def FS.back (s : FS) (h : Int) : List ByteArray × Int × FS :=
  if s.keeps then
    match s.led with
    | none => ([], 11, s)
    | some t => if w32 (h - t.1) ≤ t.2.2.length then (t.2.2.drop (w32 (h - t.1)).toNat, 0, { s with led := some (h, t.2.1, t.2.2.drop (w32 (h - t.1)).toNat), away := false }) else ([], 10, s)
  else ([], 11, s)
def FS.confirm (s : FS) (h : Int) : Int × FS :=
  if s.keeps then
    match s.led with
    | none => (11, s)
    | some t => if w32 (h - t.1) ≤ t.2.2.length then (0, { s with led := some (h, t.2.1, t.2.2.drop (w32 (h - t.1)).toNat) }) else (10, s)
  else (11, s)
/-- What Back says. -/
def FBack (S : Nat → Prop) (p : Nat) (w : World) (r : List ByteArray × Int × FS) (e : Ending) (w' : World) : Prop :=
  ∃ a c S', e = .returned (.tuple #[.slice a r.1.length c, .int .i64 r.2.1]) ∧ Txt w' a r.1 ∧ (a = none → r.1.length = 0 ∧ c = 0) ∧ (∀ k, InBlock (.slice a r.1.length c) k → w.heap.size ≤ k) ∧
    IsFront S' w' p r.2.2 ∧ (∀ k, S' k → S k ∨ w.heap.size ≤ k) ∧ (∀ k, S' k → ¬ InBlock (.slice a r.1.length c) k) ∧ Fr S w w'
theorem FBack.nothing (h : IsFront S w p s) (er : Int) {w1 : World} (f : Fr Nothing w w1) : FBack S p w ([], er, s) (.returned (.tuple #[.slice none 0 0, .int .i64 er])) w1 :=
  ⟨none, 0, S, rfl, Sl.nil _ _, fun _ => ⟨rfl, rfl⟩, fun k hk => by simp [InBlock, Value.ownBlock] at hk, h.quiet f, fun _ h => .inl h, fun k _ hk => by simp [InBlock, Value.ownBlock] at hk, f.mono fun _ _ h => h.elim⟩

theorem front_acked {w1 : World} {q cp : Nat} {SL SC : Nat → Prop} {t' : Int × Int × List ByteArray} (ha : FrontAt w p (.pointer (some ⟨q, 0, none⟩)) cp SL SC s)
    (h1 : IsLed SL w1 q 12 t'.1 t'.2.1 t'.2.2) (f1 : Fr SL w w1) : FrontAt w1 p (.pointer (some ⟨q, 0, none⟩)) cp SL SC { s with led := some t' } :=
  ⟨ha.head.fr f1 ha.nl, ha.calm.fr f1 ha.cl, ⟨q, rfl, h1⟩, ha.nc, ha.nl, ha.cl⟩

set_option maxHeartbeats 1000000 in
theorem front_back (h : Int) (hu : U32 h) (hf : IsFront S w p s) :
    Calls Try.prog 14 #[.pointer (some ⟨p, 0, none⟩), .int .u32 h] w (FBack S p w (s.back h)) := by
  have hkp := front_keeps hf
  cases hk : s.keeps with
  | false =>
    rw [hk] at hkp
    have hb : s.back h = ([], 11, s) := by simp [FS.back, hk]
    rw [hb]
    clear hk hb
    go_enter Try.func14, Try.ntmps14
    go_wp2_with (fail)
    refine hkp.mono ?_
    rintro e w1 ⟨rfl, rfl⟩
    go_wp2_with (fail)
    go_ret2
    exact FBack.nothing hf 11 (Fr.refl _ _)
  | true =>
    rw [hk] at hkp
    have hf' := hf
    obtain ⟨lv, cp, SL, SC, ha, hS⟩ := hf
    have hl := ha.led
    cases hd : s.led with
    | none => simp [FS.keeps, hd] at hk
    | some t =>
      rw [hd] at hl
      obtain ⟨q, rfl, hI⟩ := hl
      have h0 := ha.head.cell 0 rfl
      by_cases hle : w32 (h - t.1) ≤ t.2.2.length
      · have hnn := w32_lo (h - t.1)
        obtain ⟨j, hj⟩ := Int.eq_ofNat_of_zero_le hnn
        have hjl : j ≤ t.2.2.length := by omega
        have hb : s.back h = (t.2.2.drop j, 0, { s with led := some (h, t.2.1, t.2.2.drop j), away := false }) := by
          unfold FS.back; rw [if_pos hk, hd]; simp only; rw [if_pos hle, hj]; rfl
        rw [hb]
        have hag := led_again_ok h j (t.2.2.drop j) hI hu hj hjl rfl
        obtain ⟨M, hM⟩ : ∃ M, M = t.2.2.drop j := ⟨_, rfl⟩
        rw [← hM] at hag ⊢
        have Ha := Lib.hid ha
        have HS := Lib.hid hS
        clear hk hd hb ha hS hle hnn hj hI hf' hM
        go_enter Try.func14, Try.ntmps14
        go_wp2_with (fail)
        refine hkp.mono ?_
        rintro e w1 ⟨rfl, rfl⟩
        go_wp2_with (fail)
        refine hag.mono ?_
        rintro e w2 ⟨a2, rfl, ht2, hn2, hz2, hI2, f2⟩
        have ha2 := front_acked (t' := (h, t.2.1, M)) Ha.out hI2 f2
        have h32 := ha2.head.cell 3 rfl
        have p32 := ha2.head.free 3
        have Ha2 := Lib.hid ha2
        clear ha2 hI2
        go_wp2_with (fail)
        go_ret2
        have fs : Fr (fun z => z = p) w2 (w2.setCell ⟨p, 3, none⟩ (.bool false)) := Fr.setCell (S := fun z => z = p) (p := ⟨p, 3, none⟩) rfl _
        have hpl := Ha.out.head.lt
        have hib : ∀ k, InBlock (.slice a2 M.length M.length) k → ∃ ad, a2 = some ad ∧ ad.block = k := fun k hk => by
          cases a2 with
          | none => simp [InBlock, Value.ownBlock] at hk
          | some ad => exact ⟨ad, rfl, by simpa [InBlock, Value.ownBlock] using hk⟩
        refine ⟨a2, M.length, S, rfl, Sl.fr ht2 fs (fun ad e h => by have := (hn2 ad e).1; omega), fun e => ⟨by rw [hz2 e]; rfl, by rw [hz2 e]; rfl⟩, fun k hk => ?_, ⟨_, cp, SL, SC, front_setAway Ha2.out false, HS.out⟩, fun _ h => .inl h, fun k hS' hk => ?_, ?_⟩
        · obtain ⟨ad, e, rfl⟩ := hib k hk
          exact (hn2 ad e).1
        · obtain ⟨ad, e, rfl⟩ := hib k hk
          have hlt := (hn2 ad e).1
          have := IsFront.lt (S := S) ⟨_, cp, SL, SC, Ha.out, HS.out⟩ hS'
          omega
        · exact (f2.mono fun k _ h => (HS.out k).2 (.inr (.inr h))).trans' (fs.mono fun k _ h => (HS.out k).2 (.inl h))
      · have hb : s.back h = ([], 10, s) := by
          unfold FS.back; rw [if_pos hk, hd]; simp only; rw [if_neg hle]
        rw [hb]
        have hag := led_again_no h hI (by omega)
        have Hf := Lib.hid hf'
        clear hk hd hb ha hS hle hI hf'
        go_enter Try.func14, Try.ntmps14
        go_wp2_with (fail)
        refine hkp.mono ?_
        rintro e w1 ⟨rfl, rfl⟩
        go_wp2_with (fail)
        refine hag.mono ?_
        rintro e w2 ⟨rfl, m2, rfl⟩
        go_wp2_with (fail)
        go_ret2
        exact FBack.nothing Hf.out 10 (Fr.drewN _ _ _)

set_option maxHeartbeats 1000000 in
theorem front_confirm (h : Int) (hu : U32 h) (hf : IsFront S w p s) :
    Calls Try.prog 24 #[.pointer (some ⟨p, 0, none⟩), .int .u32 h] w (FNum S p w (s.confirm h)) := by
  have hkp := front_keeps hf
  cases hk : s.keeps with
  | false =>
    rw [hk] at hkp
    have hb : s.confirm h = (11, s) := by simp [FS.confirm, hk]
    rw [hb]
    clear hk hb
    go_enter Try.func24, Try.ntmps24
    go_wp2_with (fail)
    refine hkp.mono ?_
    rintro e w1 ⟨rfl, rfl⟩
    go_wp2_with (fail)
    go_ret
    exact FNum.same hf 11
  | true =>
    rw [hk] at hkp
    have hf' := hf
    obtain ⟨lv, cp, SL, SC, ha, hS⟩ := hf
    have hl := ha.led
    cases hd : s.led with
    | none => simp [FS.keeps, hd] at hk
    | some t =>
      rw [hd] at hl
      obtain ⟨q, rfl, hI⟩ := hl
      have h0 := ha.head.cell 0 rfl
      by_cases hle : w32 (h - t.1) ≤ t.2.2.length
      · have hnn := w32_lo (h - t.1)
        obtain ⟨j, hj⟩ := Int.eq_ofNat_of_zero_le hnn
        have hjl : j ≤ t.2.2.length := by omega
        have hb : s.confirm h = (0, { s with led := some (h, t.2.1, t.2.2.drop j) }) := by
          unfold FS.confirm; rw [if_pos hk, hd]; simp only; rw [if_pos hle, hj]; rfl
        rw [hb]
        have hag := led_confirm_ok h j hI hu hj hjl
        have Ha := Lib.hid ha
        have HS := Lib.hid hS
        clear hk hd hb ha hS hle hnn hj hI hf'
        go_enter Try.func24, Try.ntmps24
        go_wp2_with (fail)
        refine hkp.mono ?_
        rintro e w1 ⟨rfl, rfl⟩
        go_wp2_with (fail)
        refine hag.mono ?_
        rintro e w2 ⟨rfl, hI2, f2⟩
        have ha2 := front_acked (t' := (h, t.2.1, t.2.2.drop j)) Ha.out hI2 f2
        have Ha2 := Lib.hid ha2
        clear ha2 hI2
        go_wp2_with (fail)
        go_ret
        exact ⟨rfl, S, ⟨_, cp, SL, SC, Ha2.out, HS.out⟩, fun _ h => .inl h, f2.mono fun k _ h => (HS.out k).2 (.inr (.inr h))⟩
      · have hb : s.confirm h = (10, s) := by
          unfold FS.confirm; rw [if_pos hk, hd]; simp only; rw [if_neg hle]
        rw [hb]
        have hag := led_confirm_no h hI (by omega)
        have Hf := Lib.hid hf'
        clear hk hd hb ha hS hle hI hf'
        go_enter Try.func24, Try.ntmps24
        go_wp2_with (fail)
        refine hkp.mono ?_
        rintro e w1 ⟨rfl, rfl⟩
        go_wp2_with (fail)
        refine hag.mono ?_
        rintro e w2 ⟨rfl, m2, rfl⟩
        go_wp2_with (fail)
        go_ret
        exact ⟨rfl, S, Hf.out.drewN _, fun _ h => .inl h, Fr.drewN _ _ _⟩

/-- A front of the call's own, in blocks from the call's beginning on. -/
structure FInv (S : Nat → Prop) (p : Nat) (w : World) (s : FS) (wr : World) : Prop where
  front : IsFront S wr p s
  new : ∀ k, S k → w.heap.size ≤ k
  fr : Fr (FromB w.heap.size) w wr
variable {wr : World} {s' : FS}
theorem FInv.quiet (h : FInv S p w s wr) (F : Fr Nothing wr w') : FInv S p w s w' := ⟨h.front.quiet F, h.new, h.fr.trans' F.fromN⟩
theorem FInv.aside {T : Nat → Prop} (h : FInv S p w s wr) (F : Fr T wr w') (hd : ∀ k, S k → ¬ T k) (hT : ∀ k, T k → w.heap.size ≤ k) : FInv S p w s w' := ⟨h.front.fr F hd, h.new, h.fr.trans' (F.from_ hT)⟩
theorem FInv.gone (h : FInv S p w s wr) (g : FrontGone S wr p s' w') : ∃ S', FInv S' p w s' w' ∧ ∀ k, S' k → S k ∨ wr.heap.size ≤ k := by
  obtain ⟨S', h1, h2, f⟩ := g
  refine ⟨S', ⟨h1, fun k hk => ?_, h.fr.trans' (f.from_ h.new)⟩, h2⟩
  rcases h2 k hk with h3 | h3
  · exact h.new k h3
  · exact Nat.le_trans h.fr.size h3
/-- What FTold says, at a front of the call's own. -/
theorem FTold.own {out : List ByteArray} {er : Int} {e : Ending} (h : FInv S p w s wr) (g : FTold S p wr out er s' e w') :
    ∃ a c S', e = .returned (.tuple #[.slice a out.length c, .int .i64 er]) ∧ Owns w' 9 1 (.slice a out.length c) out.length (out.map Value.string) ∧ (∀ k, InBlock (.slice a out.length c) k → wr.heap.size ≤ k) ∧ (∀ k, S' k → ¬ InBlock (.slice a out.length c) k) ∧ FInv S' p w s' w' ∧ (∀ k, S' k → S k ∨ wr.heap.size ≤ k) ∧ Fr S wr w' := by
  obtain ⟨a, c, S', he, own, hn, hf, hS', hd, f⟩ := g
  obtain ⟨S'', h1, h2⟩ : ∃ S'', FInv S'' p w s' w' ∧ S'' = S' := ⟨S', ⟨hf, fun k hk => by
    rcases hS' k hk with h3 | h3
    · exact h.new k h3
    · exact Nat.le_trans h.fr.size h3, h.fr.trans' (f.from_ h.new)⟩, rfl⟩
  subst h2
  exact ⟨a, c, _, he, own, hn, hd, h1, hS', f⟩

set_option maxRecDepth 100000 in
set_option maxHeartbeats 2000000 in
theorem front_lives (w : World) : Calls Try.prog 7 #[] w fun e w' => e = .returned (.bool true) ∧ Fr Nothing w w' := by
  go_enter Try.func7, Try.ntmps7
  go_wp2_with (fail)
  refine (front_new _).mono ?_
  rintro e w1 ⟨p, S, rfl, h1, hS, f1⟩
  have i1 : FInv S p w ⟨none, [], false, false, false⟩ w1 := ⟨h1, hS, f1.fromN⟩
  clear h1 hS f1
  go_wp2_with (fail)
  refine (front_idle true i1.front).mono ?_
  intro e w2 g
  obtain ⟨a2, c2, S2, rfl, _, _, _, i2, _⟩ := FTold.own i1 g
  have i2 : FInv S2 p w ⟨none, [], true, false, false⟩ w2 := i2
  clear g i1
  go_wp2_with (fail)
  refine (front_put _ _ true i2.front (by decide) (by decide)).mono ?_
  intro e w3 g
  obtain ⟨a3, c3, S3, rfl, _, _, _, i3, _⟩ := FTold.own i2 g
  have i3 : FInv S3 p w ⟨none, [(⟨#[97]⟩, ⟨#[49]⟩)], true, false, false⟩ w3 := i3
  clear g i2
  go_wp2_with (fail)
  refine (front_put _ _ true i3.front (by decide) (by decide)).mono ?_
  intro e w4 g
  have e4 : FS.put ⟨none, [(⟨#[97]⟩, ⟨#[49]⟩)], true, false, false⟩ ⟨#[97]⟩ ⟨#[50]⟩ true = ([], 0, ⟨none, [(⟨#[97]⟩, ⟨#[50]⟩)], true, false, false⟩) := rfl
  rw [e4] at g
  obtain ⟨a4, c4, S4, rfl, _, _, _, i4, _⟩ := FTold.own i3 g
  clear g i3
  go_wp2_with (fail)
  refine (front_put _ _ false i4.front (by decide) (by decide)).mono ?_
  intro e w5 g
  have e5 : FS.put ⟨none, [(⟨#[97]⟩, ⟨#[50]⟩)], true, false, false⟩ ⟨#[98]⟩ ⟨#[51]⟩ false = ([⟨#[50]⟩, ⟨#[51]⟩], 0, ⟨none, [], true, false, false⟩) := rfl
  rw [e5] at g
  obtain ⟨a5, c5, S5, rfl, own5, new5, _, i5, _⟩ := FTold.own i4 g
  clear g i4 e4 e5
  go_wp2_with (fail)
  have hr8 := Row.allocNew w5 [.string ⟨#[50]⟩, .string ⟨#[51]⟩] 9
  have f8 := Fr.alloc Nothing w5 (.cells #[Value.string ⟨#[50]⟩, Value.string ⟨#[51]⟩] 9)
  have ht8 : Txt (w5.alloc (.cells #[Value.string ⟨#[50]⟩, Value.string ⟨#[51]⟩] 9)) a5 [⟨#[50]⟩, ⟨#[51]⟩] := Sl.fr own5.sl.2 f8 (fun _ _ h => h)
  refine (same_yes a5 _ [⟨#[50]⟩, ⟨#[51]⟩] c5 2 _ ht8 (Sl.ofRow hr8) (by decide)).mono ?_
  rintro e w9 ⟨rfl, m9, rfl⟩
  have i9 := (i5.quiet f8).quiet (Fr.drewN Nothing _ m9)
  clear hr8 f8 ht8 i5 own5 new5
  go_wp2_with (fail)
  refine (front_there i9.front).mono ?_
  rintro e w10 ⟨rfl, rfl⟩
  go_wp2_with (fail)
  refine (front_keep i9.front).mono ?_
  rintro e w11 ⟨rfl, g11⟩
  obtain ⟨S11, i11, _⟩ := i9.gone g11
  clear g11 i9
  go_wp2_with (fail)
  go_ret
  exact ⟨rfl, i11.fr.mono fun k hk h => by unfold FromB at h; omega⟩
end
end Go.Proofs.Ytklpjnjhaodpkaa
