/- Contracts of package ledger. Condition: IsLed, as New makes it and each call keeps it. -/
import Derived.Test.YtklpjnjhaodpkaaRingD
import Derived.Test.YtklpjnjhaodpkaaWrap
namespace Go.Proofs.Ytklpjnjhaodpkaa
open Go.RowKit

/-- A ledger at block p: its ring at block r, of n places, with the texts L that are not confirmed; what is confirmed; what has come. -/
structure LedAt (w : World) (p n r : Nat) (R : Nat → Prop) (conf came : Int) (L : List ByteArray) : Prop where
  head : Row w p [.pointer (some ⟨r, 0, none⟩), .int .u32 conf, .int .u32 came] 58
  ring : IsRing R w r n L
  ne : ¬ R p
  uc : U32 conf
  ui : U32 came
def IsLed (S : Nat → Prop) (w : World) (p n : Nat) (conf came : Int) (L : List ByteArray) : Prop :=
  ∃ r R, LedAt w p n r R conf came L ∧ ∀ k, S k ↔ k = p ∨ R k

section
variable {S T R : Nat → Prop} {w w' : World} {p n r : Nat} {conf came : Int} {L : List ByteArray}
theorem LedAt.fr (h : LedAt w p n r R conf came L) (F : Fr T w w') (hp : ¬ T p) (hd : ∀ k, R k → ¬ T k) : LedAt w' p n r R conf came L :=
  ⟨h.head.fr F hp, h.ring.fr F hd, h.ne, h.uc, h.ui⟩
theorem IsLed.fr (h : IsLed S w p n conf came L) (F : Fr T w w') (hd : ∀ k, S k → ¬ T k) : IsLed S w' p n conf came L := by
  obtain ⟨r, R, hl, hS⟩ := h
  exact ⟨r, R, hl.fr F (hd _ ((hS _).2 (.inl rfl))) (fun k hk => hd k ((hS k).2 (.inr hk))), hS⟩
theorem IsLed.drewN (h : IsLed S w p n conf came L) (m : Nat) : IsLed S (w.drewN m) p n conf came L := h.fr (Fr.drewN Nothing _ _) (fun _ _ h => h)
theorem IsLed.drew (h : IsLed S w p n conf came L) : IsLed S w.drew p n conf came L := h.fr (Fr.drew Nothing _) (fun _ _ h => h)
theorem IsLed.lt (h : IsLed S w p n conf came L) {k : Nat} (hk : S k) : k < w.heap.size := by
  obtain ⟨r, R, hl, hS⟩ := h
  rcases (hS k).1 hk with rfl | h1
  · exact hl.head.lt
  · exact hl.ring.lt h1
theorem IsLed.le (h : IsLed S w p n conf came L) : L.length ≤ n := by obtain ⟨r, R, hl, hS⟩ := h; exact hl.ring.le
theorem IsLed.most (h : IsLed S w p n conf came L) : n ≤ 64 := by obtain ⟨r, R, hl, hS⟩ := h; exact hl.ring.most
theorem IsLed.one (h : IsLed S w p n conf came L) : 1 ≤ n := by obtain ⟨r, R, hl, hS⟩ := h; exact hl.ring.one
theorem IsLed.uc (h : IsLed S w p n conf came L) : U32 conf := by obtain ⟨r, R, hl, hS⟩ := h; exact hl.uc
theorem IsLed.ui (h : IsLed S w p n conf came L) : U32 came := by obtain ⟨r, R, hl, hS⟩ := h; exact hl.ui

/-- A new ledger. -/
def LedNew (n : Nat) (start : Int) (w : World) (e : Ending) (w' : World) : Prop :=
  ∃ p S, e = .returned (.pointer (some ⟨p, 0, none⟩)) ∧ IsLed S w' p n start start [] ∧ (∀ k, S k → w.heap.size ≤ k) ∧ Fr Nothing w w'
set_option maxHeartbeats 400000 in
theorem led_new (k : Int) (m : Nat) (start : Int) (w : World) (hm : (m : Int) = min (max k 1) 64) (hs : U32 start) :
    Calls Try.prog 30 #[.int .i64 k, .int .u32 start] w (LedNew m start w) := by
  go_enter Try.func30, Try.ntmps30
  go_wp2_with (fail)
  refine (ring_new k m _ hm).mono ?_
  rintro e w1 ⟨r, R, rfl, h1, hR, f1⟩
  go_wp2_with (fail)
  go_ret
  refine ⟨w1.heap.size, _, rfl, ⟨r, R, ⟨Row.allocNew w1 [.pointer (some ⟨r, 0, none⟩), .int .u32 start, .int .u32 start] _, h1.fr (Fr.alloc Nothing _ _) (fun _ _ h => h), fun h => by have := h1.lt h; omega, hs, hs⟩, fun k => Iff.rfl⟩, fun k hk => ?_, f1.trans' (Fr.alloc _ _ _)⟩
  rcases hk with rfl | hk
  · exact f1.size
  · exact hR k hk

set_option maxHeartbeats 400000 in
theorem led_send_ok (s : ByteArray) (h : IsLed S w p n conf came L) (hl : L.length < n) :
    Calls Try.prog 55 #[.pointer (some ⟨p, 0, none⟩), .string s] w fun e w' => e = .returned (.int .i64 0) ∧ IsLed S w' p n conf came (L ++ [s]) ∧ Fr S w w' := by
  obtain ⟨r, R, hr, hS⟩ := h
  have h0 := hr.head.cell 0 rfl
  go_enter Try.func55, Try.ntmps55
  go_wp2_with (go_at_call 66; refine (ring_push_ok _ hr.ring hl).mono ?_; rintro e w1 ⟨rfl, r1, f1⟩)
  go_ret
  exact ⟨rfl, ⟨r, R, ⟨hr.head.fr f1 hr.ne, r1, hr.ne, hr.uc, hr.ui⟩, hS⟩, f1.mono fun k _ hk => (hS k).2 (.inr hk)⟩
set_option maxHeartbeats 400000 in
theorem led_send_no (s : ByteArray) (h : IsLed S w p n conf came L) (hl : n ≤ L.length) :
    Calls Try.prog 55 #[.pointer (some ⟨p, 0, none⟩), .string s] w fun e w' => e = .returned (.int .i64 13) ∧ ∃ m, w' = w.drewN m := by
  obtain ⟨r, R, hr, hS⟩ := h
  have h0 := hr.head.cell 0 rfl
  go_enter Try.func55, Try.ntmps55
  go_wp2_with (go_at_call 66; refine (ring_push_no _ hr.ring hl).mono ?_; rintro e w1 ⟨rfl, m1, rfl⟩)
  go_ret
  exact ⟨rfl, m1, rfl⟩

set_option maxHeartbeats 400000 in
theorem led_sent (h : IsLed S w p n conf came L) :
    Calls Try.prog 52 #[.pointer (some ⟨p, 0, none⟩)] w fun e w' => e = .returned (.int .u32 (w32 (conf + L.length))) ∧ ∃ m, w' = w.drewN m := by
  obtain ⟨r, R, hr, hS⟩ := h
  have h0 := hr.head.cell 0 rfl
  have h1 := hr.head.cell 1 rfl
  go_enter Try.func52, Try.ntmps52
  go_wp2_with (fail)
  go_quiet (first | (go_at_call 33; exact quiet_eq (ring_len (hr.ring.drewN _))) | (go_at_call 64; exact quiet_eq (wrap_add _ _ _)))
  go_wp2_with (fail)
  go_ret
  exact ⟨rfl, nq, rfl⟩

theorem led_len (h : IsLed S w p n conf came L) : ∃ r R, w.cell? ⟨p, 0, none⟩ = some (.pointer (some ⟨r, 0, none⟩)) ∧ IsRing R w r n L ∧ ∀ k, R k → S k := by
  obtain ⟨r, R, hr, hS⟩ := h
  exact ⟨r, R, hr.head.cell 0 rfl, hr.ring, fun k hk => (hS k).2 (.inr hk)⟩

/-- How far a number is behind what is sent. -/
theorem sent_ahead (conf : Int) (l : Nat) (hl : l ≤ 64) : w32 (w32 (conf + l) - conf) = l := by
  rw [w32_sub, show conf + (l : Int) - conf = (l : Int) by omega]
  exact w32_of (by omega) (by omega)

set_option maxHeartbeats 400000 in
theorem led_confirm_no (h : Int) (hI : IsLed S w p n conf came L) (hh : (L.length : Int) < w32 (h - conf)) :
    Calls Try.prog 39 #[.pointer (some ⟨p, 0, none⟩), .int .u32 h] w fun e w' => e = .returned (.tuple #[.int .i64 0, .int .i64 10]) ∧ ∃ m, w' = w.drewN m := by
  have hle := hI.le
  have hmo := hI.most
  have hI' := hI
  obtain ⟨r, R, hr, hS⟩ := hI
  have h1 := hr.head.cell 1 rfl
  have hd : decide (w32 (h - conf) ≤ w32 (w32 (conf + L.length) - conf)) = false := by
    rw [sent_ahead conf _ (by omega)]; simp; omega
  go_enter Try.func39, Try.ntmps39
  go_wp2_with (fail)
  go_quiet (first | (go_at_call 52; exact quiet_draw (led_sent (hI'.drewN _))) | (go_at_call 51; exact quiet_eq (wrap_within _ _ _ _)))
  go_wp2_with (fail)
  go_ret2
  exact ⟨rfl, nq, rfl⟩

set_option maxHeartbeats 400000 in
theorem led_confirm_ok (h : Int) (k : Nat) (hI : IsLed S w p n conf came L) (hu : U32 h) (hh : w32 (h - conf) = k) (hk : k ≤ L.length) :
    Calls Try.prog 39 #[.pointer (some ⟨p, 0, none⟩), .int .u32 h] w fun e w' => e = .returned (.tuple #[.int .i64 k, .int .i64 0]) ∧ IsLed S w' p n h came (L.drop k) ∧ Fr S w w' := by
  have hle := hI.le
  have hmo := hI.most
  have hI' := hI
  obtain ⟨r, R, hr, hS⟩ := hI
  have h0 := hr.head.cell 0 rfl
  have h1 := hr.head.cell 1 rfl
  have hd : decide (w32 (h - conf) ≤ w32 (w32 (conf + L.length) - conf)) = true := by
    rw [sent_ahead conf _ (by omega), hh]; simp; omega
  have Hh := Lib.hid hh
  clear hh
  go_enter Try.func39, Try.ntmps39
  go_wp2_with (fail)
  go_quiet (first | (go_at_call 52; exact quiet_draw (led_sent (hI'.drewN _))) | (go_at_call 51; exact quiet_eq (wrap_within _ _ _ _)))
  clear hd
  go_wp2_with (go_at_call 53; refine (wrap_ahead _ _ _).mono ?_; rintro e w1 ⟨rfl, rfl⟩; rw [Hh.out])
  refine (ring_drop_ok k (hr.ring.drewN nq) (by omega) (by omega)).mono ?_
  rintro e w2 ⟨rfl, r2', f2⟩
  have r2 : IsRing R w2 r n (L.drop k) := r2'
  have hd2 := (hr.head.drewN nq).fr f2 hr.ne
  have q1 := hd2.cell 1 rfl
  have q2 := hd2.free 1
  have hne := hr.ne
  have hui := hr.ui
  have Hd2 := Lib.hid hd2
  clear hr hd2 r2' h0 h1
  go_wp2_with (fail)
  go_ret2
  have hs : Fr (fun q => q = p) w2 (w2.setCell ⟨p, 1, none⟩ (.int .u32 h)) := Fr.setCell (S := fun q => q = p) (p := ⟨p, 1, none⟩) rfl _
  exact ⟨rfl, ⟨r, R, ⟨Hd2.out.set 1 _, r2.fr hs (fun q hq e => by subst e; exact hne hq), hne, hu, hui⟩, hS⟩, ((Fr.drewN S w nq).trans' (f2.mono fun q _ hq => (hS q).2 (.inr hq))).trans' (hs.mono fun q _ hq => (hS q).2 (.inl hq))⟩

set_option maxHeartbeats 400000 in
theorem led_open (hI : IsLed S w p n conf came L) :
    Calls Try.prog 46 #[.pointer (some ⟨p, 0, none⟩)] w (Listed L w) := by
  obtain ⟨r, R, hr, hS⟩ := hI
  have h0 := hr.head.cell 0 rfl
  go_enter Try.func46, Try.ntmps46
  go_wp2_with (fail)
  refine (ring_list hr.ring).mono ?_
  rintro e w1 ⟨a, rfl, h1, h2, h3, h4⟩
  go_wp2_with (fail)
  go_ret
  exact ⟨a, rfl, h1, h2, h3, h4⟩

set_option maxHeartbeats 400000 in
theorem led_again_no (h : Int) (hI : IsLed S w p n conf came L) (hh : (L.length : Int) < w32 (h - conf)) :
    Calls Try.prog 32 #[.pointer (some ⟨p, 0, none⟩), .int .u32 h] w fun e w' => e = .returned (.tuple #[.slice none 0 0, .int .i64 10]) ∧ ∃ m, w' = w.drewN m := by
  go_enter Try.func32, Try.ntmps32
  go_wp2_with (go_at_call 39; refine (led_confirm_no h hI hh).mono ?_; rintro e w1 ⟨rfl, m1, rfl⟩)
  go_ret2
  exact ⟨rfl, m1, rfl⟩

/-- What Again tells: the texts that are not confirmed, in new memory. -/
def LedAgain (S : Nat → Prop) (p n : Nat) (h came : Int) (L : List ByteArray) (w : World) (e : Ending) (w' : World) : Prop :=
  ∃ a : Option Addr, e = .returned (.tuple #[.slice a L.length L.length, .int .i64 0]) ∧ Txt w' a L ∧ (∀ ad, a = some ad → w.heap.size ≤ ad.block ∧ ¬ S ad.block) ∧ (a = none → L = []) ∧ IsLed S w' p n h came L ∧ Fr S w w'
set_option maxHeartbeats 400000 in
theorem led_again_ok (h : Int) (k : Nat) (M : List ByteArray) (hI : IsLed S w p n conf came L) (hu : U32 h) (hh : w32 (h - conf) = k) (hk : k ≤ L.length) (hM : M = L.drop k) :
    Calls Try.prog 32 #[.pointer (some ⟨p, 0, none⟩), .int .u32 h] w (LedAgain S p n h came M w) := by
  have HM := Lib.hid hM
  have Hh := Lib.hid hh
  clear hM hh
  go_enter Try.func32, Try.ntmps32
  go_wp2_with (fail)
  refine (led_confirm_ok h k hI hu Hh.out hk).mono ?_
  rw [← HM.out]
  rintro e w1 ⟨rfl, h1, f1⟩
  go_wp2_with (fail)
  refine (led_open h1).mono ?_
  rintro e w2 ⟨a, rfl, h2, h3, h4, f2⟩
  go_wp2_with (fail)
  go_ret2
  refine ⟨a, rfl, h2, fun ad had => ?_, h4, h1.fr f2 (fun _ _ h => h), f1.trans' (f2.mono fun _ _ h => h.elim)⟩
  have e1 := (h3 ad had).1
  subst e1
  exact ⟨f1.size, fun hk => by have := h1.lt hk; simp at this⟩

end

end Go.Proofs.Ytklpjnjhaodpkaa
