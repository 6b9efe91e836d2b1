/- front.Front: Idle, Keep, Leave, Back, Confirm, Open. No condition. -/
import Derived.Test.YtklpjnjhaodpkaaFrontD
namespace Go.Proofs.Ytklpjnjhaodpkaa
open Go.RowKit

section
variable {w w' : World} {p : Nat} {S : Nat → Prop} {s : FS}

theorem front_none (w : World) (p : Nat) : Calls Try.prog 27 #[.pointer (some ⟨p, 0, none⟩), .slice none 0 0] w fun e w' => e = .returned (.tuple #[.slice none 0 0, .int .i64 0]) ∧ w = w' := by
  go_enter Try.func27, Try.ntmps27
  go_wp2_with (fail)
  go_ret2
  exact ⟨rfl, rfl⟩

theorem front_idled {lv : Value} {cp : Nat} {SL SC : Nat → Prop} (ha : FrontAt w p lv cp SL SC s) (hS : ∀ k, S k ↔ (k = p ∨ SC k ∨ SL k)) (b : Bool) : IsFront S (w.setCell ⟨p, 2, none⟩ (.bool b)) p { s with idle := b } ∧ Fr S w (w.setCell ⟨p, 2, none⟩ (.bool b)) :=
  ⟨⟨lv, cp, SL, SC, front_setIdle ha b, hS⟩, Fr.setCell (S := S) (p := ⟨p, 2, none⟩) ((hS p).2 (.inl rfl)) _⟩

set_option maxHeartbeats 1000000 in
theorem front_idle (on : Bool) (h : IsFront S w p s) :
    Calls Try.prog 9 #[.pointer (some ⟨p, 0, none⟩), .bool on] w (FSaid S p w (s.setIdle on)) := by
  have hov := front_over h
  cases ho : s.over with
  | true =>
    rw [ho] at hov
    have hp : s.setIdle on = ([], 11, s) := by unfold FS.setIdle; rw [if_pos ho]
    rw [hp]
    go_enter Try.func9, Try.ntmps9
    go_wp2_with (fail)
    refine hov.mono ?_
    rintro e w1 ⟨rfl, rfl⟩
    go_wp2_with (fail)
    go_ret2
    exact FTold.nothing h 11
  | false =>
    rw [ho] at hov
    obtain ⟨lv, cp, SL, SC, ha, hS⟩ := h
    obtain ⟨hI, hF⟩ := front_idled ha hS on
    have h2 := ha.head.cell 2 rfl
    have p2 := ha.head.free 2
    have HI := Lib.hid hI
    have HF := Lib.hid hF
    have Ho := Lib.hid ho
    clear ha hS hI hF
    cases on with
    | true =>
      have hp : s.setIdle true = ([], 0, { s with idle := true }) := by unfold FS.setIdle; rw [if_neg (by rw [ho]; simp), if_pos rfl]
      rw [hp]
      clear hp ho
      go_enter Try.func9, Try.ntmps9
      go_wp2_with (fail)
      refine hov.mono ?_
      rintro e w1 ⟨rfl, rfl⟩
      go_wp2_with (fail)
      refine (front_none _ p).mono ?_
      rintro e w2 ⟨rfl, rfl⟩
      go_wp2_with (fail)
      go_ret2
      exact (FTold.nothing HI.out 0).over (fun _ h => .inl h) HF.out
    | false =>
      have hp : s.setIdle false = FS.flush { s with idle := false } [] := by unfold FS.setIdle; rw [if_neg (by rw [ho]; simp), if_neg (by simp)]
      rw [hp]
      clear hp ho
      go_enter Try.func9, Try.ntmps9
      go_wp2_with (fail)
      refine hov.mono ?_
      rintro e w1 ⟨rfl, rfl⟩
      go_wp2_with (fail)
      refine (front_flush [] none 0 HI.out (Sl.nil _ _) (fun _ => ⟨rfl, rfl⟩) (fun _ _ h => by simp [InBlock, Value.ownBlock] at h) (by simp) Ho.out).mono ?_
      intro e w3 htold
      have hb := htold.over (S := S) (w := w) (fun q hq => .inl hq) HF.out
      obtain ⟨a3, c3, S3, rfl, _⟩ := htold
      have Hb := Lib.hid hb
      clear hb
      go_wp2_with (fail)
      go_ret2
      exact Hb.out

/-- Keep, Leave: the number, and the state. -/
def FS.keep (s : FS) : Int × FS := if s.over || s.away || s.led.isSome then (11, s) else (0, { s with led := some (0, 0, []) })
def FS.leave (s : FS) : Int × FS := if s.over || s.away then (11, s) else if s.led.isNone then (11, { s with over := true }) else (0, { s with away := true })
/-- What a call says that tells a number alone. -/
def FNum (S : Nat → Prop) (p : Nat) (w : World) (r : Int × FS) (e : Ending) (w' : World) : Prop := e = .returned (.int .i64 r.1) ∧ FrontGone S w p r.2 w'
theorem FNum.same (h : IsFront S w p s) (er : Int) : FNum S p w (er, s) (.returned (.int .i64 er)) w := ⟨rfl, S, h, fun _ h => .inl h, Fr.refl _ _⟩

set_option maxHeartbeats 1000000 in
theorem front_keep (h : IsFront S w p s) :
    Calls Try.prog 13 #[.pointer (some ⟨p, 0, none⟩)] w (FNum S p w s.keep) := by
  have hov := front_over h
  have Hh := Lib.hid h
  obtain ⟨lv, cp, SL, SC, ha, hS⟩ := h
  have h3 := ha.head.cell 3 rfl
  have h0 := ha.head.cell 0 rfl
  have p0 := ha.head.free 0
  have hl := ha.led
  have Ha := Lib.hid ha
  have HS := Lib.hid hS
  clear ha hS
  cases ho : s.over with
  | true =>
    rw [ho] at hov
    have hk : s.keep = (11, s) := by simp [FS.keep, ho]
    rw [hk]
    clear ho hk hl
    go_enter Try.func13, Try.ntmps13
    go_wp2_with (fail)
    refine hov.mono ?_
    rintro e w1 ⟨rfl, rfl⟩
    go_wp2_with (fail)
    go_ret
    exact FNum.same Hh.out 11
  | false =>
    rw [ho] at hov
    cases haw : s.away with
    | true =>
      rw [haw] at h3
      have hk : s.keep = (11, s) := by simp [FS.keep, haw]
      rw [hk]
      clear ho hk hl haw
      go_enter Try.func13, Try.ntmps13
      go_wp2_with (fail)
      refine hov.mono ?_
      rintro e w1 ⟨rfl, rfl⟩
      go_wp2_with (fail)
      go_ret
      exact FNum.same Hh.out 11
    | false =>
      rw [haw] at h3
      cases hd : s.led with
      | some t =>
        rw [hd] at hl
        obtain ⟨q, rfl, _⟩ := hl
        have hk : s.keep = (11, s) := by simp [FS.keep, hd]
        rw [hk]
        clear ho hk haw hd
        go_enter Try.func13, Try.ntmps13
        go_wp2_with (fail)
        refine hov.mono ?_
        rintro e w1 ⟨rfl, rfl⟩
        go_wp2_with (fail)
        go_ret
        exact FNum.same Hh.out 11
      | none =>
        rw [hd] at hl
        obtain ⟨rfl, hno⟩ := hl
        have hk : s.keep = (0, { s with led := some (0, 0, []) }) := by simp [FS.keep, ho, haw, hd]
        rw [hk]
        have Hno := Lib.hid hno
        clear ho hk haw hd hno
        go_enter Try.func13, Try.ntmps13
        go_wp2_with (fail)
        refine hov.mono ?_
        rintro e w1 ⟨rfl, rfl⟩
        go_wp2_with (fail)
        refine (led_new 12 12 0 _ (by decide) ⟨by decide, by decide⟩).mono ?_
        rintro e w2 ⟨q, SL', rfl, hI, hnew, f2⟩
        have ha2 := Ha.out.fr f2 (fun h => h) (fun _ _ h => h) (fun _ _ h => h)
        have h02 := ha2.head.cell 0 rfl
        have p02 := ha2.head.free 0
        have Ha2 := Lib.hid ha2
        have HI := Lib.hid hI
        have Hnew := Lib.hid hnew
        clear ha2 hI hnew
        go_wp2_with (fail)
        go_ret
        have fs : Fr (fun z => z = p) w2 (w2.setCell ⟨p, 0, none⟩ (.pointer (some ⟨q, 0, none⟩))) := Fr.setCell (S := fun z => z = p) (p := ⟨p, 0, none⟩) rfl _
        have hpw := Ha.out.head.lt
        refine ⟨rfl, fun k => k = p ∨ SC k ∨ SL' k, ⟨_, cp, SL', SC, ⟨Ha2.out.head.set 0 _, Ha2.out.calm.fr fs (fun k hk e => Ha.out.nc (e ▸ hk)), ⟨q, rfl, HI.out.fr fs (fun k hk e => by have := Hnew.out k hk; omega)⟩, Ha.out.nc, fun h => by have := Hnew.out p h; omega, fun k hk h => by have := Hnew.out k h; have := Ha.out.calm.lt hk; omega⟩, fun _ => Iff.rfl⟩, fun k hk => ?_, ?_⟩
        · rcases hk with rfl | h | h
          · exact .inl ((HS.out _).2 (.inl rfl))
          · exact .inl ((HS.out k).2 (.inr (.inl h)))
          · exact .inr (Hnew.out k h)
        · exact (f2.mono fun _ _ h => h.elim).trans' (fs.mono fun k _ h => (HS.out k).2 (.inl h))

set_option maxHeartbeats 1000000 in
theorem front_leave (h : IsFront S w p s) :
    Calls Try.prog 16 #[.pointer (some ⟨p, 0, none⟩)] w (FNum S p w s.leave) := by
  have hov := front_over h
  have Hh := Lib.hid h
  obtain ⟨lv, cp, SL, SC, ha, hS⟩ := h
  have h3 := ha.head.cell 3 rfl
  have h4 := ha.head.cell 4 rfl
  have h0 := ha.head.cell 0 rfl
  have p3 := ha.head.free 3
  have p4 := ha.head.free 4
  have hl := ha.led
  have Ha := Lib.hid ha
  have HS := Lib.hid hS
  clear ha hS
  cases ho : s.over with
  | true =>
    rw [ho] at hov
    have hk : s.leave = (11, s) := by simp [FS.leave, ho]
    rw [hk]
    clear ho hk hl
    go_enter Try.func16, Try.ntmps16
    go_wp2_with (fail)
    refine hov.mono ?_
    rintro e w1 ⟨rfl, rfl⟩
    go_wp2_with (fail)
    go_ret
    exact FNum.same Hh.out 11
  | false =>
    rw [ho] at hov
    cases haw : s.away with
    | true =>
      rw [haw] at h3
      have hk : s.leave = (11, s) := by simp [FS.leave, haw]
      rw [hk]
      clear ho hk hl haw
      go_enter Try.func16, Try.ntmps16
      go_wp2_with (fail)
      refine hov.mono ?_
      rintro e w1 ⟨rfl, rfl⟩
      go_wp2_with (fail)
      go_ret
      exact FNum.same Hh.out 11
    | false =>
      rw [haw] at h3
      cases hd : s.led with
      | some t =>
        rw [hd] at hl
        obtain ⟨q, rfl, _⟩ := hl
        have hk : s.leave = (0, { s with away := true }) := by simp [FS.leave, ho, haw, hd]
        rw [hk]
        clear ho hk haw hd
        go_enter Try.func16, Try.ntmps16
        go_wp2_with (fail)
        refine hov.mono ?_
        rintro e w1 ⟨rfl, rfl⟩
        go_wp2_with (fail)
        go_ret
        exact ⟨rfl, S, ⟨_, cp, SL, SC, front_setAway Ha.out true, HS.out⟩, fun _ h => .inl h, Fr.setCell (S := S) (p := ⟨p, 3, none⟩) ((HS.out p).2 (.inl rfl)) _⟩
      | none =>
        rw [hd] at hl
        obtain ⟨rfl, hno⟩ := hl
        have hk : s.leave = (11, { s with over := true }) := by simp [FS.leave, ho, haw, hd]
        rw [hk]
        clear ho hk haw hd hno
        go_enter Try.func16, Try.ntmps16
        go_wp2_with (fail)
        refine hov.mono ?_
        rintro e w1 ⟨rfl, rfl⟩
        go_wp2_with (fail)
        go_ret
        exact ⟨rfl, S, ⟨_, cp, SL, SC, front_setOver Ha.out true, HS.out⟩, fun _ h => .inl h, Fr.setCell (S := S) (p := ⟨p, 4, none⟩) ((HS.out p).2 (.inl rfl)) _⟩

/-- How many are open. -/
def FS.open_ (s : FS) : Nat := match s.led with | none => 0 | some t => t.2.2.length
set_option maxHeartbeats 1000000 in
theorem front_open (h : IsFront S w p s) :
    Calls Try.prog 15 #[.pointer (some ⟨p, 0, none⟩)] w fun e w' => e = .returned (.int .i64 s.open_) ∧ w = w' := by
  obtain ⟨lv, cp, SL, SC, ha, hS⟩ := h
  have h0 := ha.head.cell 0 rfl
  have hl := ha.led
  clear ha hS
  unfold FS.open_
  cases hd : s.led with
  | none =>
    rw [hd] at hl
    obtain ⟨rfl, _⟩ := hl
    clear hd
    go_enter Try.func15, Try.ntmps15
    go_wp2_with (fail)
    go_ret
    exact ⟨rfl, rfl⟩
  | some t =>
    rw [hd] at hl
    obtain ⟨q, rfl, hI⟩ := hl
    obtain ⟨r, R, hr0, hring, _⟩ := led_len hI
    have hrl := ring_len hring
    clear hd hI hring
    go_enter Try.func15, Try.ntmps15
    go_wp2_with (fail)
    refine hrl.mono ?_
    rintro e w1 ⟨rfl, rfl⟩
    go_wp2_with (fail)
    go_ret
    exact ⟨rfl, rfl⟩
end
end Go.Proofs.Ytklpjnjhaodpkaa
