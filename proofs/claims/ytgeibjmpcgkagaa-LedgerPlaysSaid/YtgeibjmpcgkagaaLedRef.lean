/- Contracts of the reference's ledger: all that was ever sent. Condition: IsLedRef, as New makes it and each call keeps it. -/
import Derived.Test.YtgeibjmpcgkagaaLedOps
import Derived.Deep.RegionLaw
namespace Go.Proofs.Ytgeibjmpcgkagaa
open Go.RowKit

structure LedRefAt (w : World) (p m : Nat) (start : Int) (v : Value) (done : Nat) (into : Int) (A : List ByteArray) : Prop where
  head : Row w p [v, .int .i64 done, .int .i64 into, .int .i64 m, .int .u32 start] 53
  own : Owns w 9 1 v A.length (A.map Value.string)
  ne : ¬ InBlock v p
  dl : done ≤ A.length
  al : A.length ≤ 300
  m64 : m ≤ 64
  us : U32 start
  i0 : 0 ≤ into
  i1 : into ≤ 1288490188800
def IsLedRef (S : Nat → Prop) (w : World) (p m : Nat) (start : Int) (done : Nat) (into : Int) (A : List ByteArray) : Prop :=
  ∃ v, LedRefAt w p m start v done into A ∧ ∀ k, S k ↔ k = p ∨ InBlock v k

section
variable {S T : Nat → Prop} {w w' : World} {p m done : Nat} {start into : Int} {A : List ByteArray} {v : Value}
theorem LedRefAt.fr (h : LedRefAt w p m start v done into A) (F : Fr T w w') (hp : ¬ T p) (hv : ∀ k, InBlock v k → ¬ T k) : LedRefAt w' p m start v done into A :=
  ⟨h.head.fr F hp, h.own.fr F hv, h.ne, h.dl, h.al, h.m64, h.us, h.i0, h.i1⟩
theorem IsLedRef.fr (h : IsLedRef S w p m start done into A) (F : Fr T w w') (hd : ∀ k, S k → ¬ T k) : IsLedRef S w' p m start done into A := by
  obtain ⟨v, hr, hS⟩ := h
  exact ⟨v, hr.fr F (hd _ ((hS _).2 (.inl rfl))) (fun k hk => hd _ ((hS k).2 (.inr hk))), hS⟩
theorem IsLedRef.drewN (h : IsLedRef S w p m start done into A) (n : Nat) : IsLedRef S (w.drewN n) p m start done into A := h.fr (Fr.drewN Nothing _ _) (fun _ _ h => h)
theorem IsLedRef.drew (h : IsLedRef S w p m start done into A) : IsLedRef S w.drew p m start done into A := h.fr (Fr.drew Nothing _) (fun _ _ h => h)
theorem IsLedRef.lt (h : IsLedRef S w p m start done into A) {k : Nat} (hk : S k) : k < w.heap.size := by
  obtain ⟨v, hr, hS⟩ := h
  rcases (hS k).1 hk with rfl | h1
  · exact hr.head.lt
  · exact hr.own.lt h1
/-- The reference's ledger after a call: it has grown into new blocks alone. -/
def LedRefGone (S : Nat → Prop) (w : World) (p m : Nat) (start : Int) (done : Nat) (into : Int) (A : List ByteArray) (w' : World) : Prop :=
  ∃ S', IsLedRef S' w' p m start done into A ∧ (∀ k, S' k → S k ∨ w.heap.size ≤ k) ∧ Fr S w w'

def LedRefNew (m : Nat) (start : Int) (w : World) (e : Ending) (w' : World) : Prop :=
  ∃ p S, e = .returned (.pointer (some ⟨p, 0, none⟩)) ∧ IsLedRef S w' p m start 0 0 [] ∧ (∀ k, S k → w.heap.size ≤ k) ∧ Fr Nothing w w'
set_option maxHeartbeats 400000 in
theorem lref_new (n : Int) (m : Nat) (start : Int) (w : World) (hm : (m : Int) = min (max n 1) 64) (hs : U32 start) :
    Calls Try.prog 22 #[.int .i64 n, .int .u32 start] w (LedRefNew m start w) := by
  go_enter Try.func22, Try.ntmps22
  go_wp2_with (fail)
  all_goals
    go_ret
    refine ⟨w.heap.size, _, rfl, ⟨.slice none 0 0, ⟨?_, Owns.nil _ _ _, by simp [InBlock, Value.ownBlock], by simp, by simp, by omega, hs, by omega, by omega⟩, fun k => Iff.rfl⟩, fun k hk => ?_, Fr.alloc _ _ _⟩
    · first
        | (rw [show (m : Int) = 1 from (by omega)]; exact Row.allocNew w [.slice none 0 0, .int .i64 0, .int .i64 0, .int .i64 1, .int .u32 start] 53)
        | (rw [show (m : Int) = 64 from (by omega)]; exact Row.allocNew w [.slice none 0 0, .int .i64 0, .int .i64 0, .int .i64 64, .int .u32 start] 53)
        | (rw [show (m : Int) = n from (by omega)]; exact Row.allocNew w [.slice none 0 0, .int .i64 0, .int .i64 0, .int .i64 n, .int .u32 start] 53)
    · rcases hk with rfl | hk
      · exact Nat.le_refl _
      · simp [InBlock, Value.ownBlock] at hk

set_option maxHeartbeats 400000 in
theorem lref_number (n : Int) (h : IsLedRef S w p m start done into A) :
    Calls Try.prog 28 #[.pointer (some ⟨p, 0, none⟩), .int .i64 n] w fun e w' => e = .returned (.int .u32 (w32 (start + n))) ∧ w = w' := by
  obtain ⟨v, hr, hS⟩ := h
  have h4 := hr.head.cell 4 rfl
  have us := hr.us
  clear hr
  go_enter Try.func28, Try.ntmps28
  go_wp2_with (go_at_call 12; refine (ref_add _ _ _ us).mono ?_; rintro e w1 ⟨rfl, rfl⟩)
  go_ret
  exact ⟨rfl, rfl⟩

set_option maxHeartbeats 400000 in
theorem lref_send_no (s : ByteArray) (h : IsLedRef S w p m start done into A) (hl : m ≤ A.length - done) :
    Calls Try.prog 23 #[.pointer (some ⟨p, 0, none⟩), .string s] w fun e w' => e = .returned (.int .i64 13) ∧ ∃ n, w' = w.drewN n := by
  obtain ⟨v, hr, hS⟩ := h
  obtain ⟨a, c, rfl, _, _⟩ := hr.own.shape
  have h0 := hr.head.cell 0 rfl
  have h1 := hr.head.cell 1 rfl
  have h3 := hr.head.cell 3 rfl
  have hdl := hr.dl
  have hal := hr.al
  have e1 : IntKind.i64.wrap ((A.length : Int) - done) = (A.length : Int) - done := IntWalk.i64_in _ (by omega)
  have e2 : decide ((m : Int) ≤ (A.length : Int) - done) = true := by simp; omega
  clear hr hS
  go_enter Try.func23, Try.ntmps23
  go_wp2
  go_quiet (fail)
  go_wp2
  go_ret
  exact ⟨rfl, nq, rfl⟩

/-- The list has been laid anew, or grown, in a block of its own. -/
theorem LedRefAt.relaid {w7 : World} {v7 : Value} {M : List ByteArray} (hd : Row w7 p [v, .int .i64 done, .int .i64 into, .int .i64 m, .int .u32 start] 53) (o7 : Owns w7 9 1 v7 M.length (M.map Value.string)) (hne : ¬ InBlock v7 p)
    (hdl : done ≤ M.length) (hal : M.length ≤ 300) (hm : m ≤ 64) (hs : U32 start) (h0 : 0 ≤ into) (h1 : into ≤ 1288490188800) :
    LedRefAt (w7.setCell ⟨p, 0, none⟩ v7) p m start v7 done into M :=
  ⟨hd.set 0 _, o7.fr (Fr.setCell (S := fun k => k = p) (p := ⟨p, 0, none⟩) rfl v7) (fun k hk e => by subst e; exact hne hk), hne, hdl, hal, hm, hs, h0, h1⟩

set_option maxHeartbeats 400000 in
theorem lref_send_ok (s : ByteArray) (h : IsLedRef S w p m start done into A) (hl : A.length - done < m) (hA : A.length < 300) :
    Calls Try.prog 23 #[.pointer (some ⟨p, 0, none⟩), .string s] w fun e w' => e = .returned (.int .i64 0) ∧ LedRefGone S w p m start done into (A ++ [s]) w' := by
  obtain ⟨i0, hi, hz0, hz1, hz2⟩ := info_parts Try.infoString
  have Hz2 := Lib.hid hz2
  have Hz1 := Lib.hid hz1
  have Hz0 := Lib.hid hz0
  have Hi := Lib.hid hi
  clear hz2 hz1 hz0 hi
  obtain ⟨v, hr, hS⟩ := h
  obtain ⟨a, c, rfl, _, _⟩ := hr.own.shape
  have h0 := hr.head.cell 0 rfl
  have h1 := hr.head.cell 1 rfl
  have h3 := hr.head.cell 3 rfl
  have hdl := hr.dl
  have hlt := hr.head.lt
  have e1 : IntKind.i64.wrap ((A.length : Int) - done) = (A.length : Int) - done := IntWalk.i64_in _ (by omega)
  have e2 : decide ((m : Int) ≤ (A.length : Int) - done) = false := by simp; omega
  go_enter Try.func23, Try.ntmps23
  go_wp2
  go_quiet (fail)
  have hrow : Row ((w.drewN nq).alloc (.cells #[Value.string s] 9)) w.heap.size [Value.string s] 9 := Row.allocNew (w.drewN nq) [Value.string s] 9
  have hsl : Sl ((w.drewN nq).alloc (.cells #[Value.string s] 9)) (some ⟨w.heap.size, 0, none⟩) [Value.string s] := Sl.ofRow hrow
  have fa : Fr Nothing w ((w.drewN nq).alloc (.cells #[Value.string s] 9)) := (Fr.drewN _ _ _).trans' (Fr.alloc _ _ _)
  have own' := hr.own.fr fa (fun _ _ h => h)
  have head' := hr.head.fr fa (fun h => h)
  have ne' := hr.ne
  have HS := Lib.hid hS
  have Hr := Lib.hid hr
  clear hr hS h1 h3 e1 e2
  go_wp2_with (at_builtin; go_must (refine wpList_append_fp rfl (.tmp 24) (.tmp 26) 33 rfl 9 i0 (.string ByteArray.empty) 1 16 Try.underlying33 Hi.out Hz0.out Hz1.out Hz2.out rfl (by decide) _ _ _ rfl own' _ 1 1 [Value.string s] rfl rfl (by simp) hsl (by simp [Value.oneCell']) (by unfold maxLen; omega) (by omega) ?_))
  intro v7 w7 o7 f7 n7 s7 _
  have head7 := head'.fr f7 ne'
  have hp0 := head7.free 0
  have hp0' := head7.cell 0 rfl
  obtain ⟨a7, c7, rfl, _, _⟩ := o7.shape
  have Head := Lib.hid head7
  have o7' : Owns w7 9 1 (.slice a7 (A.length + 1) c7) (A ++ [s]).length ((A ++ [s]).map Value.string) := by simpa using o7
  clear own' hsl hrow head' head7 h0
  go_wp2_with (fail)
  go_ret
  have hne7 : ¬ InBlock (.slice a7 (A.length + 1) c7) p := fun hk => by
    rcases n7 p hk with h1 | h1
    · exact ne' h1
    · simp at h1; omega
  have F7 : Fr S w7 (w7.setCell ⟨p, 0, none⟩ (.slice a7 (A.length + 1) c7)) := Fr.setCell ((HS.out p).2 (.inl rfl)) _
  refine ⟨rfl, _, ⟨.slice a7 (A.length + 1) c7, LedRefAt.relaid Head.out o7' hne7 (by simp; omega) (by simp; omega) Hr.out.m64 Hr.out.us Hr.out.i0 Hr.out.i1, fun k => Iff.rfl⟩, fun k hk => ?_, (fa.mono fun _ _ h => h.elim).trans' ((f7.mono fun k _ hk => (HS.out k).2 (.inr hk)).trans' F7)⟩
  rcases hk with rfl | hk
  · exact .inl ((HS.out _).2 (.inl rfl))
  · rcases n7 k hk with h1 | h1
    · exact .inl ((HS.out _).2 (.inr h1))
    · exact .inr (Nat.le_trans fa.size h1)

set_option maxHeartbeats 400000 in
theorem lref_take (k : Int) (h : IsLedRef S w p m start done into A) (hi : into ≤ 1284195221504) :
    Calls Try.prog 25 #[.pointer (some ⟨p, 0, none⟩), .int .i64 k] w fun e w' => e = .returned (.int .u32 (w32 (start + (into + max k 0 % 4294967296)))) ∧ IsLedRef S w' p m start done (into + max k 0 % 4294967296) A ∧ Fr S w w' := by
  obtain ⟨v, hr, hS⟩ := h
  have h2 := hr.head.cell 2 rfl
  have hf := hr.head.free 2
  have i0 := hr.i0
  obtain ⟨q, hq⟩ : ∃ q, q = max k 0 % 4294967296 := ⟨_, rfl⟩
  have q0 : 0 ≤ q := by omega
  have q1 : q < 4294967296 := by omega
  rw [← hq]
  have fin : Fr (fun x => x = p) w (w.setCell ⟨p, 2, none⟩ (.int .i64 (into + q))) := Fr.setCell (S := fun x => x = p) (p := ⟨p, 2, none⟩) rfl _
  have L2 : LedRefAt (w.setCell ⟨p, 2, none⟩ (.int .i64 (into + q))) p m start v done (into + q) A :=
    ⟨hr.head.set 2 _, hr.own.fr fin (fun x hx e => by subst e; exact hr.ne hx), hr.ne, hr.dl, hr.al, hr.m64, hr.us, by omega, by omega⟩
  have I2 : IsLedRef S (w.setCell ⟨p, 2, none⟩ (.int .i64 (into + q))) p m start done (into + q) A := ⟨v, L2, hS⟩
  have Fin := Lib.hid (fin.mono (T := S) fun x _ hx => (hS x).2 (.inl hx))
  have Hq := Lib.hid hq
  clear hr hS fin L2 hq
  by_cases hk : 0 < k
  · have e1 : k.tmod 4294967296 = q := by rw [Int.tmod_eq_emod_of_nonneg (by omega), Hq.out, show max k 0 = k by omega]
    go_enter Try.func25, Try.ntmps25
    go_wp2_with (go_at_call 28; refine (lref_number _ I2).mono ?_; rintro e w1 ⟨rfl, rfl⟩)
    go_ret
    exact ⟨rfl, I2, Fin.out⟩
  · obtain rfl : q = 0 := by rw [Hq.out, show max k 0 = 0 by omega]; rfl
    rw [Int.add_zero] at I2 ⊢
    have Fin2 := Fin.out
    rw [Int.add_zero] at Fin2
    have Fin3 := Lib.hid Fin2
    clear Fin2
    by_cases hk0 : k = 0
    · subst hk0
      go_enter Try.func25, Try.ntmps25
      go_wp2_with (go_at_call 28; refine (lref_number _ I2).mono ?_; rintro e w1 ⟨rfl, rfl⟩)
      go_ret
      exact ⟨rfl, I2, Fin3.out⟩
    · have hk1 : k < 0 := by omega
      go_enter Try.func25, Try.ntmps25
      go_wp2_with (go_at_call 28; refine (lref_number _ I2).mono ?_; rintro e w1 ⟨rfl, rfl⟩)
      go_ret
      exact ⟨rfl, I2, Fin3.out⟩

/-- What the reference's Open tells: the end of its own list. -/
def LedRefOpen (done : Nat) (A : List ByteArray) (w : World) (e : Ending) (w' : World) : Prop :=
  ∃ (a : Option Addr) (c : Nat) (L : List ByteArray), e = .returned (.slice a L.length c) ∧ Hid (L = A.drop done) ∧ Txt w' a L ∧ ∃ n, w' = w.drewN n
set_option maxHeartbeats 400000 in
theorem lref_open (h : IsLedRef S w p m start done into A) :
    Calls Try.prog 26 #[.pointer (some ⟨p, 0, none⟩)] w (LedRefOpen done A w) := by
  obtain ⟨v, hr, hS⟩ := h
  obtain ⟨a, c, rfl, hlc, _⟩ := hr.own.shape
  have h0 := hr.head.cell 0 rfl
  have h1 := hr.head.cell 1 rfl
  have hdl := hr.dl
  have hal := hr.al
  have hown := hr.own
  have hsl := hr.own.sl.2
  clear hr hS
  cases a with
  | none =>
    have hx := Sl.of_none hsl
    obtain rfl : A = [] := by simpa using hx
    obtain rfl : done = 0 := by simp at hdl; exact hdl
    obtain rfl : c = 0 := by
      rcases hown.2 with ⟨h1, _⟩ | ⟨g, cap, cur, h1, _⟩
      · simp at h1; exact h1
      · simp at h1
    go_enter Try.func26, Try.ntmps26
    go_wp2
    go_quiet (fail)
    go_wp2
    go_ret
    exact ⟨none, 0, [], rfl, rfl, Sl.nil _ _, nq, rfl⟩
  | some ad =>
    obtain ⟨b, rfl⟩ : ∃ b, ad = ⟨b, 0, none⟩ := by
      rcases hown.2 with ⟨h1, _⟩ | ⟨g, cap, cur, h1, _⟩
      · simp at h1
      · simp at h1; exact ⟨g, h1.1⟩
    have hcut := Sl.cut hsl (c := c) done (by simpa using hlc)
    have q1 : (0 : Int) ≤ done := by omega
    have q2 : (done : Int) ≤ A.length := by omega
    have q3 : done ≤ A.length := hdl
    by_cases hc : c = done
    · rw [if_pos hc] at hcut
      have HC := Lib.hid hcut
      clear hcut
      go_enter Try.func26, Try.ntmps26
      go_wp2
      go_quiet (fail)
      go_wp2
      go_ret
      exact ⟨some ⟨b, 0, none⟩, 0, A.drop done, by simp, rfl, by rw [Txt, List.map_drop]; exact HC.out.drewN nq, nq, rfl⟩
    · rw [if_neg hc, Nat.zero_add] at hcut
      have HC := Lib.hid hcut
      clear hcut
      go_enter Try.func26, Try.ntmps26
      go_wp2
      go_quiet (fail)
      go_wp2
      go_ret
      exact ⟨some ⟨b, done, none⟩, c - done, A.drop done, by simp, rfl, by rw [Txt, List.map_drop]; exact HC.out.drewN nq, nq, rfl⟩

/-- A number that is k on from what is confirmed is met there, and nowhere before. -/
theorem met_at {start h : Int} {done k : Nat} (hu : U32 h) (hh : w32 (h - w32 (start + done)) = k) : w32 (start + ((done : Int) + k)) = h := by
  rw [← hh, show start + ((done : Int) + w32 (h - w32 (start + done))) = (start + done) + w32 (h - w32 (start + done)) by omega, w32_add', ]
  rw [show start + (done : Int) + (h - w32 (start + done)) = h + (start + done) - w32 (start + done) by omega, w32_sub', show h + (start + (done : Int)) - (start + done) = h by omega]
  exact hu.eq
theorem met_not {start h : Int} {done k j : Nat} (hh : w32 (h - w32 (start + done)) = k) (hj : j < k) (hj' : j < 4294967296) : ¬ w32 (start + ((done : Int) + j)) = h := by
  intro e
  rw [← e, w32_sub, w32_sub', show start + ((done : Int) + j) - (start + done) = (j : Int) by omega, w32_of (by omega) (by omega)] at hh
  omega
theorem met_never {start h : Int} {done l j : Nat} (hh : (l : Int) < w32 (h - w32 (start + done))) (hj : j ≤ l) (hj' : j < 4294967296) : ¬ w32 (start + ((done : Int) + j)) = h := by
  intro e
  rw [← e, w32_sub, w32_sub', show start + ((done : Int) + j) - (start + done) = (j : Int) by omega, w32_of (by omega) (by omega)] at hh
  omega

set_option maxHeartbeats 800000 in
theorem lref_confirm_no (h : Int) (hI : IsLedRef S w p m start done into A) (hh : ((A.length - done : Nat) : Int) < w32 (h - w32 (start + done))) :
    Calls Try.prog 24 #[.pointer (some ⟨p, 0, none⟩), .int .u32 h] w fun e w' => e = .returned (.tuple #[.int .i64 0, .int .i64 10]) ∧ w = w' := by
  have hI' := hI
  obtain ⟨v, hr, hS⟩ := hI
  obtain ⟨a, c, rfl, hlc, _⟩ := hr.own.shape
  have h0 := hr.head.cell 0 rfl
  have h1 := hr.head.cell 1 rfl
  have hdl := hr.dl
  have hal := hr.al
  have Hh := Lib.hid hh
  clear hr hS hh
  go_enter Try.func24, Try.ntmps24
  go_wp2_with (fail)
  go_loopg [6] (A.length + 1 - done) (fun g i wr => ∃ j : Nat, done + j ≤ A.length + 1 ∧ g = A.length + 1 - done - j ∧ i = .int .i64 ((done : Int) + j) ∧ w = wr)
  case atStart => exact ⟨0, by omega, by omega, by simp, rfl⟩
  case round =>
    obtain ⟨j, hj, rfl, rfl, rfl⟩ := hrel
    by_cases hlt : done + j ≤ A.length
    · have hn := met_never (j := j) Hh.out (by omega) (by omega)
      have q1 : (done : Int) + j ≤ (A.length : Int) := by omega
      have q2 : (w32 (start + ((done : Int) + j)) == h) = false := by rw [beq_eq_false_iff_ne]; exact hn
      clear hn
      go_wp2_with (go_at_call 28; refine (lref_number _ hI').mono ?_; rintro e w1 ⟨rfl, rfl⟩)
      go_roundg (A.length + 1 - done - (j + 1))
      case measure => omega
      case rel => exact ⟨j + 1, by omega, rfl, by go_num, rfl⟩
    · have q1 : ¬ ((done : Int) + j ≤ (A.length : Int)) := by omega
      go_wp2_with (fail)
      go_ret2
      exact ⟨rfl, rfl⟩

set_option maxHeartbeats 800000 in
theorem lref_confirm_ok (h : Int) (k : Nat) (hI : IsLedRef S w p m start done into A) (hu : U32 h) (hh : w32 (h - w32 (start + done)) = k) (hk : done + k ≤ A.length) :
    Calls Try.prog 24 #[.pointer (some ⟨p, 0, none⟩), .int .u32 h] w fun e w' => e = .returned (.tuple #[.int .i64 k, .int .i64 0]) ∧ IsLedRef S w' p m start (done + k) into A ∧ Fr S w w' := by
  have hI' := hI
  obtain ⟨v, hr, hS⟩ := hI
  obtain ⟨a, c, rfl, hlc, _⟩ := hr.own.shape
  have h0 := hr.head.cell 0 rfl
  have h1 := hr.head.cell 1 rfl
  have hf := hr.head.free 1
  have hdl := hr.dl
  have hal := hr.al
  have Hh := Lib.hid hh
  have Hr := Lib.hid hr
  have HS := Lib.hid hS
  clear hr hS hh
  go_enter Try.func24, Try.ntmps24
  go_wp2_with (fail)
  go_loopg [6] (k + 1) (fun g i wr => ∃ j : Nat, j ≤ k ∧ g = k + 1 - j ∧ i = .int .i64 ((done : Int) + j) ∧ w = wr)
  case atStart => exact ⟨0, by omega, by omega, by simp, rfl⟩
  case round =>
    obtain ⟨j, hj, rfl, rfl, rfl⟩ := hrel
    have q1 : (done : Int) + j ≤ (A.length : Int) := by omega
    by_cases hlt : j < k
    · have hn := met_not (j := j) Hh.out hlt (by omega)
      have q2 : (w32 (start + ((done : Int) + j)) == h) = false := by rw [beq_eq_false_iff_ne]; exact hn
      clear hn
      go_wp2_with (go_at_call 28; refine (lref_number _ hI').mono ?_; rintro e w1 ⟨rfl, rfl⟩)
      go_roundg (k + 1 - (j + 1))
      case measure => omega
      case rel => exact ⟨j + 1, by omega, rfl, by go_num, rfl⟩
    · obtain rfl : j = k := by omega
      have hn := met_at hu Hh.out
      have q2 : (w32 (start + ((done : Int) + j)) == h) = true := by rw [beq_iff_eq]; exact hn
      have e1 : IntKind.i64.wrap ((done : Int) + j - done) = (j : Int) := by rw [show (done : Int) + j - done = j by omega]; exact IntWalk.i64_in _ (by omega)
      clear hn
      go_wp2_with (go_at_call 28; refine (lref_number _ hI').mono ?_; rintro e w1 ⟨rfl, rfl⟩)
      go_ret2
      have fin : ∀ u, Fr (fun x => x = p) w (w.setCell ⟨p, 1, none⟩ u) := fun u => Fr.setCell (S := fun x => x = p) (p := ⟨p, 1, none⟩) rfl _
      exact ⟨rfl, ⟨_, ⟨Hr.out.head.set 1 _, Hr.out.own.fr (fin _) (fun x hx e => by subst e; exact Hr.out.ne hx), Hr.out.ne, hk, hal, Hr.out.m64, Hr.out.us, Hr.out.i0, Hr.out.i1⟩, HS.out⟩, (fin _).mono fun x _ hx => (HS.out x).2 (.inl hx)⟩

set_option maxHeartbeats 400000 in
theorem lref_undo_no (k : Int) (hI : IsLedRef S w p m start done into A) (hk : k < 0 ∨ ((A.length - done : Nat) : Int) < k) :
    Calls Try.prog 27 #[.pointer (some ⟨p, 0, none⟩), .int .i64 k] w fun e w' => e = .returned (.bool false) ∧ ∃ n, w' = w.drewN n := by
  obtain ⟨v, hr, hS⟩ := hI
  obtain ⟨a, c, rfl, hlc, _⟩ := hr.own.shape
  have h0 := hr.head.cell 0 rfl
  have h1 := hr.head.cell 1 rfl
  have hdl := hr.dl
  have hal := hr.al
  have e1 : IntKind.i64.wrap ((A.length : Int) - done) = (A.length : Int) - done := IntWalk.i64_in _ (by omega)
  clear hr hS
  by_cases h2 : k < 0
  · have g0 : decide (k < 0) = true := by simp; omega
    clear hk
    go_enter Try.func27, Try.ntmps27
    go_wp2_with (fail)
    go_quiet (fail)
    go_wp2_with (fail)
    go_ret
    exact ⟨rfl, nq, rfl⟩
  · have g0 : decide (k < 0) = false := by simp; omega
    have g1 : (A.length : Int) - done < k := by omega
    clear hk
    go_enter Try.func27, Try.ntmps27
    go_wp2_with (fail)
    go_quiet (fail)
    go_wp2_with (fail)
    go_ret
    exact ⟨rfl, nq, rfl⟩

set_option maxHeartbeats 800000 in
theorem lref_undo_ok (k : Nat) (hI : IsLedRef S w p m start done into A) (hk : done + k ≤ A.length) :
    Calls Try.prog 27 #[.pointer (some ⟨p, 0, none⟩), .int .i64 k] w fun e w' => e = .returned (.bool true) ∧ LedRefGone S w p m start done into (A.take (A.length - k)) w' := by
  obtain ⟨i0, hi, hz0, hz1, hz2⟩ := info_parts Try.infoString
  have Hz2 := Lib.hid hz2
  have Hz1 := Lib.hid hz1
  have Hz0 := Lib.hid hz0
  have Hi := Lib.hid hi
  clear hz2 hz1 hz0 hi
  obtain ⟨v, hr, hS⟩ := hI
  obtain ⟨a, c, rfl, hlc, hcm⟩ := hr.own.shape
  have h0 := hr.head.cell 0 rfl
  have h1 := hr.head.cell 1 rfl
  have hdl := hr.dl
  have hal := hr.al
  have e1 : IntKind.i64.wrap ((A.length : Int) - done) = (A.length : Int) - done := IntWalk.i64_in _ (by omega)
  obtain ⟨j, hj⟩ : ∃ j, j = A.length - k := ⟨_, rfl⟩
  have e2 : IntKind.i64.wrap ((A.length : Int) - k) = (j : Int) := by rw [show (A.length : Int) - k = j by omega]; exact IntWalk.i64_in _ (by omega)
  rw [← hj]
  have g0 : decide ((k : Int) < 0) = false := by simp
  have g1 : ¬ ((A.length : Int) - done < k) := by omega
  have g3 : (j : Int) ≤ c := by omega
  have hja : j ≤ A.length := by omega
  have hjd : done ≤ j := by omega
  obtain ⟨M, hM⟩ : ∃ M, M = A.take j := ⟨_, rfl⟩
  have hMl : M.length = j := by rw [hM]; simp; omega
  have hslM : Sl w a (M.map Value.string) := by
    have := hr.own.sl.2.take j
    rw [← List.map_take, ← hM] at this; exact this
  rw [← hM]
  have hn : a = none → j = 0 ∧ c = 0 := fun h => by
    subst h
    rcases hr.own.2 with ⟨h1, h2⟩ | ⟨g, cap, cur, h1, _⟩
    · simp at h1; omega
    · simp at h1
  have HMl := Lib.hid hMl
  have Hr := Lib.hid hr
  have HS := Lib.hid hS
  have Hn := Lib.hid hn
  have hplt := hr.head.lt
  clear hr hS hMl hM hn hj
  go_enter Try.func27, Try.ntmps27
  go_wp2_with (fail)
  go_quiet (fail)
  go_wp2_with (fail)
  have k0 : (w.drewN nq).cell? ⟨p, 0, none⟩ = some (.slice a A.length c) := h0
  have k1 : (w.drewN nq).cell? ⟨p, 1, none⟩ = some (.int .i64 done) := h1
  have kf : Fr Nothing w (w.drewN nq) := Fr.drewN _ _ _
  have ks : Sl (w.drewN nq) a (M.map Value.string) := hslM
  have kh : Row (w.drewN nq) p [.slice a A.length c, .int .i64 done, .int .i64 into, .int .i64 m, .int .u32 start] 53 := Hr.out.head
  have hpw : p < (w.drewN nq).heap.size := kh.lt
  have Kh := Lib.hid kh
  clear kh
  generalize w.drewN nq = wq at *
  clear h0 h1 hslM
  have kd : Sl wq.drew a (M.map Value.string) := ks
  go_region_law
    ((refine step_append_fp (by rfl) (.const (.slice none 0 0)) (.tmp 33) 33 (by rfl) 9 i0 (.string ByteArray.empty) 1 16 Try.underlying33 Hi.out Hz0.out Hz1.out Hz2.out rfl (by decide) (.slice none 0 0) 0 [] (by rfl) (Owns.nil _ _ _) a j c (M.map Value.string) (by rfl) (by rw [List.length_map, HMl.out, Nat.mul_one]) Hn.out kd (one_texts M) (by unfold maxLen; omega) (by omega) ?_
      intro v7 w7 o7 f7 n7 s7 _
      have o7' : Owns w7 9 1 v7 M.length (M.map Value.string) := by rw [HMl.out]; simpa using o7
      have hd7 : Row w7 p [.slice a A.length c, .int .i64 done, .int .i64 into, .int .i64 m, .int .u32 start] 53 := (show Row wq.drew _ _ _ from Kh.out).fr f7.ofNil (fun h => h)
      have hp7 := hd7.free 0
      have hc7 := hd7.cell 0 rfl
      have Hd7 := Lib.hid hd7
      have hn7 : ¬ InBlock v7 p := fun hq => by have := n7.fresh hq; simp at this; omega
      obtain ⟨a7, c7, rfl, _, _⟩ := o7'.shape
      clear o7 hd7))
  all_goals
    go_wp2_with (fail)
    go_ret
    have hset : Fr (fun k => k = p) w7 (w7.setCell ⟨p, 0, none⟩ (.slice a7 M.length c7)) := Fr.setCell (S := fun k => k = p) (p := ⟨p, 0, none⟩) rfl _
    refine ⟨rfl, _, ⟨_, LedRefAt.relaid Hd7.out o7' hn7 (by have := HMl.out; omega) (by have := HMl.out; omega) Hr.out.m64 Hr.out.us Hr.out.i0 Hr.out.i1, fun k => Iff.rfl⟩, fun q hq => ?_, (((kf.trans' (Fr.drew _ _)).trans' f7.ofNil).mono fun _ _ h => h.elim).trans' (hset.mono fun q _ hq => (HS.out q).2 (.inl hq))⟩
    rcases hq with rfl | hq
    · exact .inl ((HS.out _).2 (.inl rfl))
    · exact .inr (Nat.le_trans kf.size (n7.fresh hq))
end

end Go.Proofs.Ytgeibjmpcgkagaa
