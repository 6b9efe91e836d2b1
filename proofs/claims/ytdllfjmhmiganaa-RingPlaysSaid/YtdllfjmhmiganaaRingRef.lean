/- Contracts of the reference's ring: a list, and how many texts there may be. Condition: IsRef, as New makes it and each call keeps it. -/
import Derived.Test.YtdllfjmhmiganaaRingD
namespace Go.Proofs.Ytdllfjmhmiganaa
open Go.RowKit

/-- The reference's ring at block p: at most m texts; L: its texts; S: its blocks. -/
structure RefAt (w : World) (p m : Nat) (v : Value) (L : List ByteArray) : Prop where
  head : Row w p [v, .int .i64 m] 46
  own : Owns w 9 1 v L.length (L.map Value.string)
  ne : ¬ InBlock v p
  most : m ≤ 64
  le : L.length ≤ m
def IsRef (S : Nat → Prop) (w : World) (p m : Nat) (L : List ByteArray) : Prop := ∃ v, RefAt w p m v L ∧ ∀ k, S k ↔ k = p ∨ InBlock v k

section
variable {S T : Nat → Prop} {w w' : World} {p m : Nat} {L : List ByteArray} {v : Value}
theorem RefAt.drewN (h : RefAt w p m v L) (n : Nat) : RefAt (w.drewN n) p m v L := ⟨h.head, h.own, h.ne, h.most, h.le⟩
theorem RefAt.drew (h : RefAt w p m v L) : RefAt w.drew p m v L := ⟨h.head, h.own, h.ne, h.most, h.le⟩
theorem IsRef.drewN (h : IsRef S w p m L) (n : Nat) : IsRef S (w.drewN n) p m L := by
  obtain ⟨v, hr, hS⟩ := h; exact ⟨v, hr.drewN n, hS⟩
theorem IsRef.drew (h : IsRef S w p m L) : IsRef S w.drew p m L := by
  obtain ⟨v, hr, hS⟩ := h; exact ⟨v, hr.drew, hS⟩
theorem IsRef.fr (h : IsRef S w p m L) (F : Fr T w w') (hd : ∀ k, S k → ¬ T k) : IsRef S w' p m L := by
  obtain ⟨v, hr, hS⟩ := h
  exact ⟨v, ⟨hr.head.fr F (hd _ ((hS _).2 (.inl rfl))), hr.own.fr F (fun k hk => hd _ ((hS _).2 (.inr hk))), hr.ne, hr.most, hr.le⟩, hS⟩
theorem IsRef.lt (h : IsRef S w p m L) {k : Nat} (hk : S k) : k < w.heap.size := by
  obtain ⟨v, hr, hS⟩ := h
  rcases (hS k).1 hk with rfl | h1
  · exact hr.head.lt
  · exact hr.own.lt h1
theorem IsRef.most (h : IsRef S w p m L) : m ≤ 64 := by obtain ⟨v, hr, hS⟩ := h; exact hr.most
theorem IsRef.le (h : IsRef S w p m L) : L.length ≤ m := by obtain ⟨v, hr, hS⟩ := h; exact hr.le

/-- A ring of the reference after a call: it has grown into new blocks alone. -/
def RefGone (S : Nat → Prop) (w : World) (p m : Nat) (L : List ByteArray) (w' : World) : Prop :=
  ∃ S', IsRef S' w' p m L ∧ (∀ k, S' k → S k ∨ w.heap.size ≤ k) ∧ Fr S w w'

def RefNew (m : Nat) (w : World) (e : Ending) (w' : World) : Prop :=
  ∃ p S, e = .returned (.pointer (some ⟨p, 0, none⟩)) ∧ IsRef S w' p m [] ∧ (∀ k, S k → w.heap.size ≤ k) ∧ Fr Nothing w w'
set_option maxHeartbeats 400000 in
theorem ref_new (n : Int) (m : Nat) (w : World) (hm : (m : Int) = min (max n 1) 64) :
    Calls Try.prog 19 #[.int .i64 n] w (RefNew m w) := by
  go_enter Try.func19, Try.ntmps19
  go_wp2_with (fail)
  all_goals
    go_ret
    refine ⟨w.heap.size, _, rfl, ⟨.slice none 0 0, ⟨?_, Owns.nil _ _ _, by simp [InBlock, Value.ownBlock], by omega, by simp⟩, fun k => Iff.rfl⟩, fun k hk => ?_, Fr.alloc _ _ _⟩
    · first
        | (rw [show (m : Int) = 1 from (by omega)]; exact Row.allocNew w [.slice none 0 0, .int .i64 1] 46)
        | (rw [show (m : Int) = 64 from (by omega)]; exact Row.allocNew w [.slice none 0 0, .int .i64 64] 46)
        | (rw [show (m : Int) = n from (by omega)]; exact Row.allocNew w [.slice none 0 0, .int .i64 n] 46)
    · rcases hk with rfl | hk
      · exact Nat.le_refl _
      · simp [InBlock, Value.ownBlock] at hk

set_option maxHeartbeats 400000 in
theorem ref_push_no (s : ByteArray) (h : IsRef S w p m L) (hl : m ≤ L.length) :
    Calls Try.prog 22 #[.pointer (some ⟨p, 0, none⟩), .string s] w fun e w' => e = .returned (.bool false) ∧ ∃ n, w' = w.drewN n := by
  obtain ⟨v, hr, hS⟩ := h
  obtain ⟨a, c, rfl, _, _⟩ := hr.own.shape
  have h0 := hr.head.cell 0 rfl
  have h1 := hr.head.cell 1 rfl
  clear hr hS
  go_enter Try.func22, Try.ntmps22
  go_wp2
  go_quiet (fail)
  go_wp2
  go_ret
  exact ⟨rfl, nq, rfl⟩

set_option maxHeartbeats 400000 in
theorem ref_push_ok (s : ByteArray) (h : IsRef S w p m L) (hl : L.length < m) :
    Calls Try.prog 22 #[.pointer (some ⟨p, 0, none⟩), .string s] w fun e w' => e = .returned (.bool true) ∧ RefGone S w p m (L ++ [s]) w' := by
  obtain ⟨i0, hi, hz0, hz1, hz2⟩ := info_parts Try.infoString
  have Hz2 := Lib.hid hz2
  have Hz1 := Lib.hid hz1
  have Hz0 := Lib.hid hz0
  have Hi := Lib.hid hi
  clear hz2 hz1 hz0 hi
  obtain ⟨v, hr, hS⟩ := h
  obtain ⟨a, c, rfl, _, _⟩ := hr.own.shape
  have h0 := hr.head.cell 0 rfl
  have h1 := hr.head.cell 1 rfl
  have hm := hr.most
  have hlt := hr.head.lt
  go_enter Try.func22, Try.ntmps22
  go_wp2
  go_quiet (fail)
  have hrow : Row ((w.drewN nq).alloc (.cells #[Value.string s] 9)) w.heap.size [Value.string s] 9 := Row.allocNew (w.drewN nq) [Value.string s] 9
  have hsl : Sl ((w.drewN nq).alloc (.cells #[Value.string s] 9)) (some ⟨w.heap.size, 0, none⟩) [Value.string s] := Sl.ofRow hrow
  have fa : Fr Nothing w ((w.drewN nq).alloc (.cells #[Value.string s] 9)) := (Fr.drewN _ _ _).trans' (Fr.alloc _ _ _)
  have own' := hr.own.fr fa (fun _ _ h => h)
  have head' := hr.head.fr fa (fun h => h)
  have ne' := hr.ne
  have HS := Lib.hid hS
  clear hr hS h1
  go_wp2_with (at_builtin; go_must (refine wpList_append_fp rfl (.tmp 19) (.tmp 21) 22 rfl 9 i0 (.string ByteArray.empty) 1 16 Try.underlying22 Hi.out Hz0.out Hz1.out Hz2.out rfl (by decide) _ _ _ rfl own' _ 1 1 [Value.string s] rfl rfl (by simp) hsl (by simp [Value.oneCell']) (by unfold maxLen; omega) (by omega) ?_))
  intro v7 w7 o7 f7 n7 s7 _
  have head7 := head'.fr f7 ne'
  have hp0 := head7.free 0
  have hp0' := head7.cell 0 rfl
  obtain ⟨a7, c7, rfl, _, _⟩ := o7.shape
  have Head := Lib.hid head7
  clear own' hsl hrow head' head7 h0
  go_wp2_with (fail)
  go_ret
  have hne7 : ¬ InBlock (.slice a7 (L.length + 1) c7) p := fun hk => by
    rcases n7 p hk with h1 | h1
    · exact ne' h1
    · simp at h1; omega
  have F7 : Fr S w7 (w7.setCell ⟨p, 0, none⟩ (.slice a7 (L.length + 1) c7)) := Fr.setCell ((HS.out p).2 (.inl rfl)) _
  refine ⟨rfl, _, ⟨.slice a7 (L.length + 1) c7, ⟨Head.out.set 0 _, ?_, hne7, hm, by simp; omega⟩, fun k => Iff.rfl⟩, fun k hk => ?_, (fa.mono fun _ _ h => h.elim).trans' ((f7.mono fun k _ hk => (HS.out k).2 (.inr hk)).trans' F7)⟩
  · have := o7.fr (Fr.setCell (S := fun k => k = p) (p := ⟨p, 0, none⟩) rfl (.slice a7 (L.length + 1) c7)) (fun k hk e => by subst e; exact hne7 hk)
    simpa using this
  · rcases hk with rfl | hk
    · exact .inl ((HS.out _).2 (.inl rfl))
    · rcases n7 k hk with h1 | h1
      · exact .inl ((HS.out _).2 (.inr h1))
      · exact .inr (Nat.le_trans fa.size h1)

/-- A ring of the reference whose list has been laid anew in a block of its own. -/
theorem RefAt.relaid {w7 : World} {v7 : Value} {M : List ByteArray} (hd : Row w7 p [v, .int .i64 m] 46) (o7 : Owns w7 9 1 v7 M.length (M.map Value.string)) (hne : ¬ InBlock v7 p) (hm : m ≤ 64) (hl : M.length ≤ m) :
    RefAt (w7.setCell ⟨p, 0, none⟩ v7) p m v7 M :=
  ⟨hd.set 0 _, o7.fr (Fr.setCell (S := fun k => k = p) (p := ⟨p, 0, none⟩) rfl v7) (fun k hk e => by subst e; exact hne hk), hne, hm, hl⟩

set_option maxHeartbeats 400000 in
theorem ref_drop_no (k : Int) (h : IsRef S w p m L) (hk : k < 0 ∨ (L.length : Int) < k) :
    Calls Try.prog 23 #[.pointer (some ⟨p, 0, none⟩), .int .i64 k] w fun e w' => e = .returned (.bool false) ∧ w = w' := by
  obtain ⟨v, hr, hS⟩ := h
  obtain ⟨a, c, rfl, _, _⟩ := hr.own.shape
  have h0 := hr.head.cell 0 rfl
  clear hr hS
  by_cases hn : k < 0
  · clear hk
    go_enter Try.func23, Try.ntmps23
    go_wp2
    go_ret
    exact ⟨rfl, rfl⟩
  · have hk' : (L.length : Int) < k := by omega
    clear hk
    go_enter Try.func23, Try.ntmps23
    go_wp2
    go_ret
    exact ⟨rfl, rfl⟩

set_option maxHeartbeats 400000 in
theorem ref_drop_ok (k : Int) (h : IsRef S w p m L) (hk0 : 0 ≤ k) (hk1 : k ≤ L.length) :
    Calls Try.prog 23 #[.pointer (some ⟨p, 0, none⟩), .int .i64 k] w fun e w' => e = .returned (.bool true) ∧ RefGone S w p m (L.drop k.toNat) w' := by
  obtain ⟨i0, hi, hz0, hz1, hz2⟩ := info_parts Try.infoString
  have Hz2 := Lib.hid hz2
  have Hz1 := Lib.hid hz1
  have Hz0 := Lib.hid hz0
  have Hi := Lib.hid hi
  clear hz2 hz1 hz0 hi
  obtain ⟨v, hr, hS⟩ := h
  obtain ⟨a, c, rfl, hlc, _⟩ := hr.own.shape
  have h0 := hr.head.cell 0 rfl
  have hm := hr.most
  have hle := hr.le
  have hp0 := hr.head.free 0
  have hd1 := hr.head
  have hsl := hr.own.sl.2
  have HS := Lib.hid hS
  have hplt := hr.head.lt
  have HOwn := Lib.hid hr.own
  obtain ⟨j, rfl⟩ := Int.eq_ofNat_of_zero_le hk0
  have ej : ((j : Int)).toNat = j := rfl
  rw [ej]
  obtain ⟨M, hM⟩ : ∃ M, M = L.drop j := ⟨_, rfl⟩
  rw [← hM]
  have hMl : M.length = L.length - j := by rw [hM]; simp
  have HMl := Lib.hid hMl
  have HM := Lib.hid hM
  have Hd1 := Lib.hid hd1
  have hji : (j : Int) ≤ c := by omega
  clear hr hS hM hMl hd1 ej
  cases a with
  | none =>
    have hx := Sl.of_none hsl
    obtain rfl : L = [] := by simpa using hx
    obtain rfl : j = 0 := by simp at hk1; omega
    obtain rfl : M = [] := by have := HM.out; simpa using this
    have hcn : c = 0 := by
      rcases HOwn.out.2 with ⟨h1, _⟩ | ⟨g, cap, cur, h1, _⟩
      · simp at h1; exact h1
      · simp at h1
    subst hcn
    go_enter Try.func23, Try.ntmps23
    go_wp2_with (at_builtin; go_must (refine wpList_append_fp rfl (.const (.slice none 0 0)) (.tmp 22) 22 rfl 9 i0 (.string ByteArray.empty) 1 16 Try.underlying22 Hi.out Hz0.out Hz1.out Hz2.out rfl (by decide) (.slice none 0 0) 0 [] rfl (Owns.nil _ _ _) none 0 0 [] rfl rfl (fun _ => ⟨rfl, rfl⟩) (Sl.nil _ _) (by simp) (by decide) (by decide) ?_))
    intro v7 w7 o7 f7 n7 s7 _
    have hpn : ¬ InBlock v7 p := fun hk => by
      rcases n7 p hk with h1 | h1
      · simp [Value.ownBlock] at h1
      · omega
    have head7 := Hd1.out.fr f7 (by simp [InBlock, Value.ownBlock])
    have hp0' := head7.free 0
    have hp7 := head7.cell 0 rfl
    have Head := Lib.hid head7
    obtain ⟨a7, c7, rfl, _, _⟩ := o7.shape
    clear head7 h0 hp0
    go_wp2_with (fail)
    go_ret
    refine ⟨rfl, _, ⟨_, RefAt.relaid Head.out o7 hpn hm (by first | (have := HMl.out; omega) | simp), fun k => Iff.rfl⟩, fun k hk => ?_, (f7.mono fun k _ hk => (by simp [InBlock, Value.ownBlock] at hk)).trans' (Fr.setCell ((HS.out p).2 (.inl rfl)) _)⟩
    rcases hk with rfl | hk
    · exact .inl ((HS.out _).2 (.inl rfl))
    · rcases n7 k hk with h1 | h1
      · simp [Value.ownBlock] at h1
      · exact .inr h1
  | some ad =>
    obtain ⟨b, rfl⟩ : ∃ b, ad = ⟨b, 0, none⟩ := by
      rcases HOwn.out.2 with ⟨h1, _⟩ | ⟨g, cap, cur, h1, _⟩
      · simp at h1
      · simp at h1; exact ⟨g, h1.1⟩
    have hcut : Sl w (if c = j then some ⟨b, 0, none⟩ else some ⟨b, 0 + j, none⟩) (M.map Value.string) := by
      have := Sl.cut hsl (c := c) j (by simpa using hlc)
      rw [HM.out, List.map_drop]; exact this
    rw [Nat.zero_add] at hcut
    go_enter Try.func23, Try.ntmps23
    go_wp2_with (at_builtin; go_must (refine wpList_append_fp rfl (.const (.slice none 0 0)) (.tmp 22) 22 rfl 9 i0 (.string ByteArray.empty) 1 16 Try.underlying22 Hi.out Hz0.out Hz1.out Hz2.out rfl (by decide) (.slice none 0 0) 0 [] rfl (Owns.nil _ _ _) _ (L.length - j) _ (M.map Value.string) rfl (by rw [List.length_map, HMl.out, Nat.mul_one]) (fun h => by by_cases hcj : c = j <;> simp [hcj] at h) hcut (one_texts M) (by unfold maxLen; omega) (by omega) ?_))
    all_goals
      intro v7 w7 o7 f7 n7 s7 _
      have o7' : Owns w7 9 1 v7 M.length (M.map Value.string) := by rw [HMl.out]; simpa using o7
      clear o7
      have o7 := o7'
      clear o7' hcut
      have hpn : ¬ InBlock v7 p := fun hk => by
        rcases n7 p hk with h1 | h1
        · simp [Value.ownBlock] at h1
        · omega
      have head7 := Hd1.out.fr f7 (by simp [InBlock, Value.ownBlock])
      have hp0' := head7.free 0
      have hp7 := head7.cell 0 rfl
      have Head := Lib.hid head7
      obtain ⟨a7, c7, rfl, _, _⟩ := o7.shape
      clear head7 h0 hp0
      go_wp2_with (fail)
      go_ret
      refine ⟨rfl, _, ⟨_, RefAt.relaid Head.out o7 hpn hm (by first | (have := HMl.out; omega) | simp), fun k => Iff.rfl⟩, fun k hk => ?_, (f7.mono fun k _ hk => (by simp [InBlock, Value.ownBlock] at hk)).trans' (Fr.setCell ((HS.out p).2 (.inl rfl)) _)⟩
      rcases hk with rfl | hk
      · exact .inl ((HS.out _).2 (.inl rfl))
      · rcases n7 k hk with h1 | h1
        · simp [Value.ownBlock] at h1
        · exact .inr h1

/-- What the reference's Cut tells and leaves. -/
def RefCut (S : Nat → Prop) (p m k : Nat) (L : List ByteArray) (w : World) (e : Ending) (w' : World) : Prop :=
  ∃ (a : Option Addr) (c : Nat) (X Y : List ByteArray), e = .returned (.slice a Y.length c) ∧ Hid (X ++ Y = L) ∧ Hid (X.length = k) ∧ Txt w' a Y ∧ RefGone S w p m X w'

set_option maxHeartbeats 800000 in
theorem ref_cut (n : Int) (k : Nat) (h : IsRef S w p m L) (hk : (k : Int) = min (max n 0) L.length) :
    Calls Try.prog 24 #[.pointer (some ⟨p, 0, none⟩), .int .i64 n] w (RefCut S p m k L w) := by
  obtain ⟨i0, hi, hz0, hz1, hz2⟩ := info_parts Try.infoString
  have Hz2 := Lib.hid hz2
  have Hz1 := Lib.hid hz1
  have Hz0 := Lib.hid hz0
  have Hi := Lib.hid hi
  clear hz2 hz1 hz0 hi
  obtain ⟨v, hr, hS⟩ := h
  obtain ⟨a, c, rfl, hlc, _⟩ := hr.own.shape
  have h0 := hr.head.cell 0 rfl
  have hm := hr.most
  have hle := hr.le
  have hd1 := hr.head
  have hsl := hr.own.sl.2
  have HS := Lib.hid hS
  have hplt := hr.head.lt
  have hown := hr.own
  have hne := hr.ne
  obtain ⟨c1, c2, c3, c4⟩ := clamp_ways hk
  obtain ⟨X, hX⟩ : ∃ X, X = L.take k := ⟨_, rfl⟩
  obtain ⟨Y, hY⟩ : ∃ Y, Y = L.drop k := ⟨_, rfl⟩
  have hXl : X.length = k := by rw [hX]; simp; omega
  have hYl : Y.length = L.length - k := by rw [hY]; simp
  have hXY : X ++ Y = L := by rw [hX, hY]; exact List.take_append_drop k L
  have HXl := Lib.hid hXl
  have HYl := Lib.hid hYl
  have HX := Lib.hid hX
  have HY := Lib.hid hY
  have HXY := Lib.hid hXY
  have Hd1 := Lib.hid hd1
  have hki : (k : Int) ≤ c := by omega
  have hki2 : (k : Int) ≤ L.length := by omega
  have Hc := Lib.hid (And.intro c1 (And.intro c2 c3))
  clear hr hS hX hY hXl hYl hXY hd1 c1 c2 c3 hk
  have hcutY : ∀ b, a = some ⟨b, 0, none⟩ → Sl w (if c = k then some ⟨b, 0, none⟩ else some ⟨b, k, none⟩) (Y.map Value.string) := by
    rintro b rfl
    have := Sl.cut hsl (c := c) k (by simpa using hlc)
    rw [Nat.zero_add, ← List.map_drop, ← HY.out] at this; exact this
  have hcutX : Sl w a (X.map Value.string) := by
    have := hsl.take k
    rw [← List.map_take, ← HX.out] at this; exact this
  have HcutY := Lib.hid hcutY
  have HcutX := Lib.hid hcutX
  clear hcutY hcutX
  go_enter Try.func24, Try.ntmps24
  go_upto_region 1 with (fail)
  go_cut [1] (fun s wx => s = .int .i64 k ∧ w = wx)
  case first =>
    go_wp2_with (fail)
    all_goals
      obtain ⟨c1, c2, c3⟩ := Hc.out
      go_meet
      case rel => exact ⟨by congr 1; omega, rfl⟩
  case rest =>
    obtain ⟨rfl, rfl⟩ := hcut
    go_upto_region 2 with (fail)
    go_cut [5] (fun s wx => Owns wx 9 1 s Y.length (Y.map Value.string) ∧ Fr Nothing w wx ∧ (∀ q, InBlock s q → w.heap.size ≤ q))
    case first =>
      cases a with
      | none =>
        have hx := Sl.of_none hsl
        obtain rfl : L = [] := by simpa using hx
        obtain rfl : k = 0 := by simp at c4; omega
        obtain rfl : Y = [] := by have := HY.out; simpa using this
        have hcn : c = 0 := by
          rcases hown.2 with ⟨h1, _⟩ | ⟨g, cap, cur, h1, _⟩
          · simp at h1; exact h1
          · simp at h1
        subst hcn
        go_wp2_with (at_builtin; go_must (refine wpList_append_fp rfl (.const (.slice none 0 0)) (.tmp 19) 22 rfl 9 i0 (.string ByteArray.empty) 1 16 Try.underlying22 Hi.out Hz0.out Hz1.out Hz2.out rfl (by decide) (.slice none 0 0) 0 [] rfl (Owns.nil _ _ _) none 0 0 [] rfl rfl (fun _ => ⟨rfl, rfl⟩) (Sl.nil _ _) (by simp) (by decide) (by decide) ?_))
        intro v7 w7 o7 f7 n7 s7 _
        go_wp2_with (fail)
        go_meet
        case rel => exact ⟨by simpa using o7, f7.ofNil, fun q hq => n7.fresh hq⟩
      | some ad =>
        obtain ⟨b, rfl⟩ : ∃ b, ad = ⟨b, 0, none⟩ := by
          rcases hown.2 with ⟨h1, _⟩ | ⟨g, cap, cur, h1, _⟩
          · simp at h1
          · simp at h1; exact ⟨g, h1.1⟩
        have hcut := HcutY.out b rfl
        go_wp2_with (at_builtin; go_must (refine wpList_append_fp rfl (.const (.slice none 0 0)) (.tmp 19) 22 rfl 9 i0 (.string ByteArray.empty) 1 16 Try.underlying22 Hi.out Hz0.out Hz1.out Hz2.out rfl (by decide) (.slice none 0 0) 0 [] rfl (Owns.nil _ _ _) _ (L.length - k) _ (Y.map Value.string) rfl (by rw [List.length_map, HYl.out, Nat.mul_one]) (fun h => by by_cases hcj : c = k <;> simp [hcj] at h) hcut (one_texts Y) (by unfold maxLen; omega) (by omega) ?_))
        all_goals
          intro v7 w7 o7 f7 n7 s7 _
          go_wp2_with (fail)
          go_meet
          case rel => exact ⟨by rw [HYl.out]; simpa using o7, f7.ofNil, fun q hq => n7.fresh hq⟩
    case rest =>
      obtain ⟨oY, fY, nY⟩ := hcut
      obtain ⟨aY, cY, rfl, _, _⟩ := oY.shape
      have hd2 := Hd1.out.fr fY (fun h => h)
      have h0' := hd2.cell 0 rfl
      have Hd2 := Lib.hid hd2
      have hslX : Sl wc a (X.map Value.string) := Sl.fr HcutX.out fY (fun _ _ h => h)
      have hnX : a = none → k = 0 ∧ c = 0 := fun ha => by
        subst ha
        rcases hown.2 with ⟨h1, h2⟩ | ⟨g, cap, cur, h1, _⟩
        · simp at h1; omega
        · simp at h1
      have hnY : ¬ InBlock (.slice aY Y.length cY) p := fun hq => by have := nY p hq; omega
      clear hd2 hown hsl h0 hne
      go_wp2_with (at_builtin; go_must (refine wpList_append_fp rfl (.const (.slice none 0 0)) (.tmp 27) 22 rfl 9 i0 (.string ByteArray.empty) 1 16 Try.underlying22 Hi.out Hz0.out Hz1.out Hz2.out rfl (by decide) (.slice none 0 0) 0 [] rfl (Owns.nil _ _ _) a k c (X.map Value.string) rfl (by rw [List.length_map, HXl.out, Nat.mul_one]) hnX hslX (one_texts X) (by unfold maxLen; omega) (by omega) ?_))
      intro v8 w8 o8 f8 n8 s8 _
      have o8' : Owns w8 9 1 v8 X.length (X.map Value.string) := by rw [HXl.out]; simpa using o8
      have hd8 := Hd2.out.fr f8.ofNil (fun h => h)
      have hp8 := hd8.free 0
      have h08 := hd8.cell 0 rfl
      have Hd8 := Lib.hid hd8
      have hn8 : ¬ InBlock v8 p := fun hq => by have := n8.fresh hq; have := fY.size; omega
      obtain ⟨a8, c8, rfl, _, _⟩ := o8'.shape
      clear o8 hd8 h0' hslX
      go_wp2_with (fail)
      go_ret
      have hset : Fr (fun k => k = p) w8 (w8.setCell ⟨p, 0, none⟩ (.slice a8 X.length c8)) := Fr.setCell (S := fun k => k = p) (p := ⟨p, 0, none⟩) rfl _
      refine ⟨aY, cY, X, Y, rfl, HXY.out, HXl.out, ?_, _, ⟨_, RefAt.relaid Hd8.out o8' hn8 hm (by have := HXl.out; omega), fun k => Iff.rfl⟩, fun q hq => ?_, ((fY.mono fun _ _ h => h.elim).trans' (f8.ofNil.mono fun _ _ h => h.elim)).trans' (hset.mono fun q _ hq => (HS.out q).2 (.inl hq))⟩
      · exact ((oY.fr f8.ofNil (fun _ _ h => h)).fr hset (fun q hq e => by subst e; exact hnY hq)).sl.2
      · rcases hq with rfl | hq
        · exact .inl ((HS.out _).2 (.inl rfl))
        · exact .inr (Nat.le_trans fY.size (n8.fresh hq))
end

end Go.Proofs.Ytdllfjmhmiganaa
