/- Contracts of the reference's ledger: all that was ever sent. Condition: IsLedRef, as New makes it and each call keeps it. -/
import Derived.Test.YtklpjnjhaodpkaaLedOps
import Derived.Deep.RegionLaw
namespace Go.Proofs.Ytklpjnjhaodpkaa
open Go.RowKit

structure LedRefAt (w : World) (p m : Nat) (start : Int) (v : Value) (done : Nat) (into : Int) (A : List ByteArray) : Prop where
  head : Row w p [v, .int .i64 done, .int .i64 into, .int .i64 m, .int .u32 start] 74
  own : Owns w 9 1 v A.length (A.map Value.string)
  ne : ¬ InBlock v p
  dl : done ≤ A.length
  al : A.length ≤ 300
  m64 : m ≤ 64
  us : U32 start
  i0 : 0 ≤ into
  i1 : into ≤ 1288490188800
def IsLedRef (S : Nat → Prop) (w : World) (p m : Nat) (start : Int) (done : Nat) (into : Int) (A : List ByteArray) : Prop :=
  ∃ v, LedRefAt w p m start v done into A ∧ ∀ k, S k ↔ k = p ∨ InBlock v k

section
variable {S T : Nat → Prop} {w w' : World} {p m done : Nat} {start into : Int} {A : List ByteArray} {v : Value}
theorem LedRefAt.fr (h : LedRefAt w p m start v done into A) (F : Fr T w w') (hp : ¬ T p) (hv : ∀ k, InBlock v k → ¬ T k) : LedRefAt w' p m start v done into A :=
  ⟨h.head.fr F hp, h.own.fr F hv, h.ne, h.dl, h.al, h.m64, h.us, h.i0, h.i1⟩
theorem IsLedRef.fr (h : IsLedRef S w p m start done into A) (F : Fr T w w') (hd : ∀ k, S k → ¬ T k) : IsLedRef S w' p m start done into A := by
  obtain ⟨v, hr, hS⟩ := h
  exact ⟨v, hr.fr F (hd _ ((hS _).2 (.inl rfl))) (fun k hk => hd _ ((hS k).2 (.inr hk))), hS⟩
theorem IsLedRef.drewN (h : IsLedRef S w p m start done into A) (n : Nat) : IsLedRef S (w.drewN n) p m start done into A := h.fr (Fr.drewN Nothing _ _) (fun _ _ h => h)
theorem IsLedRef.drew (h : IsLedRef S w p m start done into A) : IsLedRef S w.drew p m start done into A := h.fr (Fr.drew Nothing _) (fun _ _ h => h)
theorem IsLedRef.lt (h : IsLedRef S w p m start done into A) {k : Nat} (hk : S k) : k < w.heap.size := by
  obtain ⟨v, hr, hS⟩ := h
  rcases (hS k).1 hk with rfl | h1
  · exact hr.head.lt
  · exact hr.own.lt h1
/-- The reference's ledger after a call: it has grown into new blocks alone. -/
def LedRefGone (S : Nat → Prop) (w : World) (p m : Nat) (start : Int) (done : Nat) (into : Int) (A : List ByteArray) (w' : World) : Prop :=
  ∃ S', IsLedRef S' w' p m start done into A ∧ (∀ k, S' k → S k ∨ w.heap.size ≤ k) ∧ Fr S w w'

def LedRefNew (m : Nat) (start : Int) (w : World) (e : Ending) (w' : World) : Prop :=
  ∃ p S, e = .returned (.pointer (some ⟨p, 0, none⟩)) ∧ IsLedRef S w' p m start 0 0 [] ∧ (∀ k, S k → w.heap.size ≤ k) ∧ Fr Nothing w w'
set_option maxHeartbeats 400000 in
theorem lref_new (n : Int) (m : Nat) (start : Int) (w : World) (hm : (m : Int) = min (max n 1) 64) (hs : U32 start) :
    Calls Try.prog 34 #[.int .i64 n, .int .u32 start] w (LedRefNew m start w) := by
  go_enter Try.func34, Try.ntmps34
  go_wp2_with (fail)
  all_goals
    go_ret
    refine ⟨w.heap.size, _, rfl, ⟨.slice none 0 0, ⟨?_, Owns.nil _ _ _, by simp [InBlock, Value.ownBlock], by simp, by simp, by omega, hs, by omega, by omega⟩, fun k => Iff.rfl⟩, fun k hk => ?_, Fr.alloc _ _ _⟩
    · first
        | (rw [show (m : Int) = 1 from (by omega)]; exact Row.allocNew w [.slice none 0 0, .int .i64 0, .int .i64 0, .int .i64 1, .int .u32 start] 74)
        | (rw [show (m : Int) = 64 from (by omega)]; exact Row.allocNew w [.slice none 0 0, .int .i64 0, .int .i64 0, .int .i64 64, .int .u32 start] 74)
        | (rw [show (m : Int) = n from (by omega)]; exact Row.allocNew w [.slice none 0 0, .int .i64 0, .int .i64 0, .int .i64 n, .int .u32 start] 74)
    · rcases hk with rfl | hk
      · exact Nat.le_refl _
      · simp [InBlock, Value.ownBlock] at hk

set_option maxHeartbeats 400000 in
theorem lref_number (n : Int) (h : IsLedRef S w p m start done into A) :
    Calls Try.prog 50 #[.pointer (some ⟨p, 0, none⟩), .int .i64 n] w fun e w' => e = .returned (.int .u32 (w32 (start + n))) ∧ w = w' := by
  obtain ⟨v, hr, hS⟩ := h
  have h4 := hr.head.cell 4 rfl
  have us := hr.us
  clear hr
  go_enter Try.func50, Try.ntmps50
  go_wp2_with (go_at_call 63; refine (ref_add _ _ _ us).mono ?_; rintro e w1 ⟨rfl, rfl⟩)
  go_ret
  exact ⟨rfl, rfl⟩

set_option maxHeartbeats 400000 in
theorem lref_send_no (s : ByteArray) (h : IsLedRef S w p m start done into A) (hl : m ≤ A.length - done) :
    Calls Try.prog 61 #[.pointer (some ⟨p, 0, none⟩), .string s] w fun e w' => e = .returned (.int .i64 13) ∧ ∃ n, w' = w.drewN n := by
  obtain ⟨v, hr, hS⟩ := h
  obtain ⟨a, c, rfl, _, _⟩ := hr.own.shape
  have h0 := hr.head.cell 0 rfl
  have h1 := hr.head.cell 1 rfl
  have h3 := hr.head.cell 3 rfl
  have hdl := hr.dl
  have hal := hr.al
  have e1 : IntKind.i64.wrap ((A.length : Int) - done) = (A.length : Int) - done := IntWalk.i64_in _ (by omega)
  have e2 : decide ((m : Int) ≤ (A.length : Int) - done) = true := by simp; omega
  clear hr hS
  go_enter Try.func61, Try.ntmps61
  go_wp2
  go_quiet (fail)
  go_wp2
  go_ret
  exact ⟨rfl, nq, rfl⟩

/-- The list has been laid anew, or grown, in a block of its own. -/
theorem LedRefAt.relaid {w7 : World} {v7 : Value} {M : List ByteArray} (hd : Row w7 p [v, .int .i64 done, .int .i64 into, .int .i64 m, .int .u32 start] 74) (o7 : Owns w7 9 1 v7 M.length (M.map Value.string)) (hne : ¬ InBlock v7 p)
    (hdl : done ≤ M.length) (hal : M.length ≤ 300) (hm : m ≤ 64) (hs : U32 start) (h0 : 0 ≤ into) (h1 : into ≤ 1288490188800) :
    LedRefAt (w7.setCell ⟨p, 0, none⟩ v7) p m start v7 done into M :=
  ⟨hd.set 0 _, o7.fr (Fr.setCell (S := fun k => k = p) (p := ⟨p, 0, none⟩) rfl v7) (fun k hk e => by subst e; exact hne hk), hne, hdl, hal, hm, hs, h0, h1⟩

set_option maxHeartbeats 400000 in
theorem lref_send_ok (s : ByteArray) (h : IsLedRef S w p m start done into A) (hl : A.length - done < m) (hA : A.length < 300) :
    Calls Try.prog 61 #[.pointer (some ⟨p, 0, none⟩), .string s] w fun e w' => e = .returned (.int .i64 0) ∧ LedRefGone S w p m start done into (A ++ [s]) w' := by
  obtain ⟨i0, hi, hz0, hz1, hz2⟩ := info_parts Try.infoString
  have Hz2 := Lib.hid hz2
  have Hz1 := Lib.hid hz1
  have Hz0 := Lib.hid hz0
  have Hi := Lib.hid hi
  clear hz2 hz1 hz0 hi
  obtain ⟨v, hr, hS⟩ := h
  obtain ⟨a, c, rfl, _, _⟩ := hr.own.shape
  have h0 := hr.head.cell 0 rfl
  have h1 := hr.head.cell 1 rfl
  have h3 := hr.head.cell 3 rfl
  have hdl := hr.dl
  have hlt := hr.head.lt
  have e1 : IntKind.i64.wrap ((A.length : Int) - done) = (A.length : Int) - done := IntWalk.i64_in _ (by omega)
  have e2 : decide ((m : Int) ≤ (A.length : Int) - done) = false := by simp; omega
  go_enter Try.func61, Try.ntmps61
  go_wp2
  go_quiet (fail)
  have hrow : Row ((w.drewN nq).alloc (.cells #[Value.string s] 9)) w.heap.size [Value.string s] 9 := Row.allocNew (w.drewN nq) [Value.string s] 9
  have hsl : Sl ((w.drewN nq).alloc (.cells #[Value.string s] 9)) (some ⟨w.heap.size, 0, none⟩) [Value.string s] := Sl.ofRow hrow
  have fa : Fr Nothing w ((w.drewN nq).alloc (.cells #[Value.string s] 9)) := (Fr.drewN _ _ _).trans' (Fr.alloc _ _ _)
  have own' := hr.own.fr fa (fun _ _ h => h)
  have head' := hr.head.fr fa (fun h => h)
  have ne' := hr.ne
  have HS := Lib.hid hS
  have Hr := Lib.hid hr
  clear hr hS h1 h3 e1 e2
  go_wp2_with (at_builtin; go_must (refine wpList_append_fp rfl (.tmp 24) (.tmp 26) 28 rfl 9 i0 (.string ByteArray.empty) 1 16 Try.underlying28 Hi.out Hz0.out Hz1.out Hz2.out rfl (by decide) _ _ _ rfl own' _ 1 1 [Value.string s] rfl rfl (by simp) hsl (by simp [Value.oneCell']) (by unfold maxLen; omega) (by omega) ?_))
  intro v7 w7 o7 f7 n7 s7 _
  have head7 := head'.fr f7 ne'
  have hp0 := head7.free 0
  have hp0' := head7.cell 0 rfl
  obtain ⟨a7, c7, rfl, _, _⟩ := o7.shape
  have Head := Lib.hid head7
  have o7' : Owns w7 9 1 (.slice a7 (A.length + 1) c7) (A ++ [s]).length ((A ++ [s]).map Value.string) := by simpa using o7
  clear own' hsl hrow head' head7 h0
  go_wp2_with (fail)
  go_ret
  have hne7 : ¬ InBlock (.slice a7 (A.length + 1) c7) p := fun hk => by
    rcases n7 p hk with h1 | h1
    · exact ne' h1
    · simp at h1; omega
  have F7 : Fr S w7 (w7.setCell ⟨p, 0, none⟩ (.slice a7 (A.length + 1) c7)) := Fr.setCell ((HS.out p).2 (.inl rfl)) _
  refine ⟨rfl, _, ⟨.slice a7 (A.length + 1) c7, LedRefAt.relaid Head.out o7' hne7 (by simp; omega) (by simp; omega) Hr.out.m64 Hr.out.us Hr.out.i0 Hr.out.i1, fun k => Iff.rfl⟩, fun k hk => ?_, (fa.mono fun _ _ h => h.elim).trans' ((f7.mono fun k _ hk => (HS.out k).2 (.inr hk)).trans' F7)⟩
  rcases hk with rfl | hk
  · exact .inl ((HS.out _).2 (.inl rfl))
  · rcases n7 k hk with h1 | h1
    · exact .inl ((HS.out _).2 (.inr h1))
    · exact .inr (Nat.le_trans fa.size h1)

/-- What the reference's Open tells: the end of its own list. -/
def LedRefOpen (done : Nat) (A : List ByteArray) (w : World) (e : Ending) (w' : World) : Prop :=
  ∃ (a : Option Addr) (c : Nat) (L : List ByteArray), e = .returned (.slice a L.length c) ∧ Hid (L = A.drop done) ∧ Txt w' a L ∧ ∃ n, w' = w.drewN n
/-- A number that is k on from what is confirmed is met there, and nowhere before. -/
theorem met_at {start h : Int} {done k : Nat} (hu : U32 h) (hh : w32 (h - w32 (start + done)) = k) : w32 (start + ((done : Int) + k)) = h := by
  rw [← hh, show start + ((done : Int) + w32 (h - w32 (start + done))) = (start + done) + w32 (h - w32 (start + done)) by omega, w32_add', ]
  rw [show start + (done : Int) + (h - w32 (start + done)) = h + (start + done) - w32 (start + done) by omega, w32_sub', show h + (start + (done : Int)) - (start + done) = h by omega]
  exact hu.eq
theorem met_not {start h : Int} {done k j : Nat} (hh : w32 (h - w32 (start + done)) = k) (hj : j < k) (hj' : j < 4294967296) : ¬ w32 (start + ((done : Int) + j)) = h := by
  intro e
  rw [← e, w32_sub, w32_sub', show start + ((done : Int) + j) - (start + done) = (j : Int) by omega, w32_of (by omega) (by omega)] at hh
  omega
theorem met_never {start h : Int} {done l j : Nat} (hh : (l : Int) < w32 (h - w32 (start + done))) (hj : j ≤ l) (hj' : j < 4294967296) : ¬ w32 (start + ((done : Int) + j)) = h := by
  intro e
  rw [← e, w32_sub, w32_sub', show start + ((done : Int) + j) - (start + done) = (j : Int) by omega, w32_of (by omega) (by omega)] at hh
  omega

set_option maxHeartbeats 800000 in
theorem lref_confirm_no (h : Int) (hI : IsLedRef S w p m start done into A) (hh : ((A.length - done : Nat) : Int) < w32 (h - w32 (start + done))) :
    Calls Try.prog 38 #[.pointer (some ⟨p, 0, none⟩), .int .u32 h] w fun e w' => e = .returned (.tuple #[.int .i64 0, .int .i64 10]) ∧ w = w' := by
  have hI' := hI
  obtain ⟨v, hr, hS⟩ := hI
  obtain ⟨a, c, rfl, hlc, _⟩ := hr.own.shape
  have h0 := hr.head.cell 0 rfl
  have h1 := hr.head.cell 1 rfl
  have hdl := hr.dl
  have hal := hr.al
  have Hh := Lib.hid hh
  clear hr hS hh
  go_enter Try.func38, Try.ntmps38
  go_wp2_with (fail)
  go_loopg [6] (A.length + 1 - done) (fun g i wr => ∃ j : Nat, done + j ≤ A.length + 1 ∧ g = A.length + 1 - done - j ∧ i = .int .i64 ((done : Int) + j) ∧ w = wr)
  case atStart => exact ⟨0, by omega, by omega, by simp, rfl⟩
  case round =>
    obtain ⟨j, hj, rfl, rfl, rfl⟩ := hrel
    by_cases hlt : done + j ≤ A.length
    · have hn := met_never (j := j) Hh.out (by omega) (by omega)
      have q1 : (done : Int) + j ≤ (A.length : Int) := by omega
      have q2 : (w32 (start + ((done : Int) + j)) == h) = false := by rw [beq_eq_false_iff_ne]; exact hn
      clear hn
      go_wp2_with (go_at_call 50; refine (lref_number _ hI').mono ?_; rintro e w1 ⟨rfl, rfl⟩)
      go_roundg (A.length + 1 - done - (j + 1))
      case measure => omega
      case rel => exact ⟨j + 1, by omega, rfl, by go_num, rfl⟩
    · have q1 : ¬ ((done : Int) + j ≤ (A.length : Int)) := by omega
      go_wp2_with (fail)
      go_ret2
      exact ⟨rfl, rfl⟩

set_option maxHeartbeats 800000 in
theorem lref_confirm_ok (h : Int) (k : Nat) (hI : IsLedRef S w p m start done into A) (hu : U32 h) (hh : w32 (h - w32 (start + done)) = k) (hk : done + k ≤ A.length) :
    Calls Try.prog 38 #[.pointer (some ⟨p, 0, none⟩), .int .u32 h] w fun e w' => e = .returned (.tuple #[.int .i64 k, .int .i64 0]) ∧ IsLedRef S w' p m start (done + k) into A ∧ Fr S w w' := by
  have hI' := hI
  obtain ⟨v, hr, hS⟩ := hI
  obtain ⟨a, c, rfl, hlc, _⟩ := hr.own.shape
  have h0 := hr.head.cell 0 rfl
  have h1 := hr.head.cell 1 rfl
  have hf := hr.head.free 1
  have hdl := hr.dl
  have hal := hr.al
  have Hh := Lib.hid hh
  have Hr := Lib.hid hr
  have HS := Lib.hid hS
  clear hr hS hh
  go_enter Try.func38, Try.ntmps38
  go_wp2_with (fail)
  go_loopg [6] (k + 1) (fun g i wr => ∃ j : Nat, j ≤ k ∧ g = k + 1 - j ∧ i = .int .i64 ((done : Int) + j) ∧ w = wr)
  case atStart => exact ⟨0, by omega, by omega, by simp, rfl⟩
  case round =>
    obtain ⟨j, hj, rfl, rfl, rfl⟩ := hrel
    have q1 : (done : Int) + j ≤ (A.length : Int) := by omega
    by_cases hlt : j < k
    · have hn := met_not (j := j) Hh.out hlt (by omega)
      have q2 : (w32 (start + ((done : Int) + j)) == h) = false := by rw [beq_eq_false_iff_ne]; exact hn
      clear hn
      go_wp2_with (go_at_call 50; refine (lref_number _ hI').mono ?_; rintro e w1 ⟨rfl, rfl⟩)
      go_roundg (k + 1 - (j + 1))
      case measure => omega
      case rel => exact ⟨j + 1, by omega, rfl, by go_num, rfl⟩
    · obtain rfl : j = k := by omega
      have hn := met_at hu Hh.out
      have q2 : (w32 (start + ((done : Int) + j)) == h) = true := by rw [beq_iff_eq]; exact hn
      have e1 : IntKind.i64.wrap ((done : Int) + j - done) = (j : Int) := by rw [show (done : Int) + j - done = j by omega]; exact IntWalk.i64_in _ (by omega)
      clear hn
      go_wp2_with (go_at_call 50; refine (lref_number _ hI').mono ?_; rintro e w1 ⟨rfl, rfl⟩)
      go_ret2
      have fin : ∀ u, Fr (fun x => x = p) w (w.setCell ⟨p, 1, none⟩ u) := fun u => Fr.setCell (S := fun x => x = p) (p := ⟨p, 1, none⟩) rfl _
      exact ⟨rfl, ⟨_, ⟨Hr.out.head.set 1 _, Hr.out.own.fr (fin _) (fun x hx e => by subst e; exact Hr.out.ne hx), Hr.out.ne, hk, hal, Hr.out.m64, Hr.out.us, Hr.out.i0, Hr.out.i1⟩, HS.out⟩, (fin _).mono fun x _ hx => (HS.out x).2 (.inl hx)⟩

end

end Go.Proofs.Ytklpjnjhaodpkaa
