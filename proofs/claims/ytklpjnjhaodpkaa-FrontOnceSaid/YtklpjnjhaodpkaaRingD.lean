/- Contracts of package ring, the memory hidden: a ring at block p of n places that holds the texts L. Condition: IsRing, as New makes it and each call keeps it. -/
import Derived.Test.YtklpjnjhaodpkaaRingC
import Derived.Test.YtklpjnjhaodpkaaTexts
import Derived.Test.YtklpjnjhaodpkaaAppend
namespace Go.Proofs.Ytklpjnjhaodpkaa
open Go.RowKit

/-- A ring at block p, of n places, with the texts L, in the blocks S. -/
def IsRing (S : Nat → Prop) (w : World) (p n : Nat) (L : List ByteArray) : Prop :=
  ∃ g f ss, ss.length = n ∧ RingAt w p g f ss L ∧ ∀ k, S k ↔ k = p ∨ k = g

section
variable {S T : Nat → Prop} {w w' : World} {p n : Nat} {L : List ByteArray}
theorem IsRing.fr (h : IsRing S w p n L) (F : Fr T w w') (hd : ∀ k, S k → ¬ T k) : IsRing S w' p n L := by
  obtain ⟨g, f, ss, hn, hr, hS⟩ := h
  exact ⟨g, f, ss, hn, hr.fr F (hd _ ((hS _).2 (.inl rfl))) (hd _ ((hS _).2 (.inr rfl))), hS⟩
theorem IsRing.drewN (h : IsRing S w p n L) (m : Nat) : IsRing S (w.drewN m) p n L := by
  obtain ⟨g, f, ss, hn, hr, hS⟩ := h
  exact ⟨g, f, ss, hn, hr.drewN m, hS⟩
theorem IsRing.drew (h : IsRing S w p n L) : IsRing S w.drew p n L := by
  obtain ⟨g, f, ss, hn, hr, hS⟩ := h
  exact ⟨g, f, ss, hn, hr.drew, hS⟩
theorem IsRing.lt (h : IsRing S w p n L) {k : Nat} (hk : S k) : k < w.heap.size := by
  obtain ⟨g, f, ss, hn, hr, hS⟩ := h
  rcases (hS k).1 hk with rfl | rfl
  · exact hr.head.lt
  · exact hr.body.lt
theorem IsRing.self (h : IsRing S w p n L) : S p := by
  obtain ⟨g, f, ss, hn, hr, hS⟩ := h
  exact (hS p).2 (.inl rfl)
theorem IsRing.le (h : IsRing S w p n L) : L.length ≤ n := by
  obtain ⟨g, f, ss, hn, hr, hS⟩ := h
  have := hr.ln; omega
theorem IsRing.one (h : IsRing S w p n L) : 1 ≤ n := by
  obtain ⟨g, f, ss, hn, hr, hS⟩ := h
  have := hr.n1; omega
theorem IsRing.most (h : IsRing S w p n L) : n ≤ 64 := by
  obtain ⟨g, f, ss, hn, hr, hS⟩ := h
  have := hr.n64; omega

theorem ring_push_ok (s : ByteArray) (h : IsRing S w p n L) (hl : L.length < n) :
    Calls Try.prog 66 #[.pointer (some ⟨p, 0, none⟩), .string s] w fun e w' => e = .returned (.bool true) ∧ IsRing S w' p n (L ++ [s]) ∧ Fr S w w' := by
  obtain ⟨g, f, ss, hn, hr, hS⟩ := h
  refine (push_room p g f ss L s w hr (by omega)).mono ?_
  rintro e w' ⟨he, hr', hf⟩
  exact ⟨he, ⟨g, f, _, by simpa using hn, hr', hS⟩, hf.mono fun k _ hk => (hS k).2 hk⟩
theorem ring_push_no (s : ByteArray) (h : IsRing S w p n L) (hl : n ≤ L.length) :
    Calls Try.prog 66 #[.pointer (some ⟨p, 0, none⟩), .string s] w fun e w' => e = .returned (.bool false) ∧ ∃ m, w' = w.drewN m := by
  have := h.le
  obtain ⟨g, f, ss, hn, hr, hS⟩ := h
  exact push_full p g f ss L s w hr (by omega)
theorem ring_drop_ok (k : Int) (h : IsRing S w p n L) (h0 : 0 ≤ k) (hk : k ≤ L.length) :
    Calls Try.prog 54 #[.pointer (some ⟨p, 0, none⟩), .int .i64 k] w fun e w' => e = .returned (.bool true) ∧ IsRing S w' p n (L.drop k.toNat) ∧ Fr S w w' := by
  obtain ⟨g, f, ss, hn, hr, hS⟩ := h
  obtain ⟨j, rfl⟩ := Int.eq_ofNat_of_zero_le h0
  refine (drop_yes p g f ss L j w hr (by omega)).mono ?_
  rintro e w' ⟨he, ⟨ss', hs', hr'⟩, hf⟩
  exact ⟨he, ⟨g, _, ss', by omega, hr', hS⟩, hf.mono fun k _ hk => (hS k).2 hk⟩
theorem ring_drop_no (k : Int) (h : IsRing S w p n L) (hk : k < 0 ∨ (L.length : Int) < k) :
    Calls Try.prog 54 #[.pointer (some ⟨p, 0, none⟩), .int .i64 k] w fun e w' => e = .returned (.bool false) ∧ w = w' := by
  obtain ⟨g, f, ss, hn, hr, hS⟩ := h
  exact drop_no p g f ss L k w hr hk
theorem ring_len (h : IsRing S w p n L) :
    Calls Try.prog 33 #[.pointer (some ⟨p, 0, none⟩)] w fun e w' => e = .returned (.int .i64 L.length) ∧ w = w' := by
  obtain ⟨g, f, ss, hn, hr, hS⟩ := h
  exact len_any p g f ss L w hr
/-- A new slice of the texts L, as large as it is long; nothing else has changed. -/
def Listed (L : List ByteArray) (w : World) (e : Ending) (w' : World) : Prop :=
  ∃ a : Option Addr, e = .returned (.slice a L.length L.length) ∧ Txt w' a L ∧ (∀ ad, a = some ad → ad = ⟨w.heap.size, 0, none⟩ ∧ Row w' w.heap.size (L.map Value.string) 9) ∧ (a = none → L = []) ∧ Fr Nothing w w'
theorem listed_owns {a : Option Addr} {b : Nat} (ht : Txt w' a L) (hb : ∀ ad, a = some ad → ad = ⟨b, 0, none⟩ ∧ Row w' b (L.map Value.string) 9) (hm : L.length ≤ maxLen) :
    Owns w' 9 1 (.slice a L.length L.length) L.length (L.map Value.string) := by
  cases a with
  | none =>
    have h := Sl.of_none ht
    obtain rfl : L = [] := by simpa using h
    exact Owns.nil _ _ _
  | some ad =>
    obtain ⟨rfl, hr⟩ := hb ad rfl
    have := Owns.ofRow hr (by simpa using hm)
    simpa using this
theorem ring_list (h : IsRing S w p n L) :
    Calls Try.prog 60 #[.pointer (some ⟨p, 0, none⟩)] w (Listed L w) := by
  obtain ⟨g, f, ss, hn, hr, hS⟩ := h
  by_cases hl : L = []
  · subst hl
    refine (list_nil p g f ss w hr).mono ?_
    rintro e w' ⟨rfl, rfl⟩
    exact ⟨none, rfl, Sl.nil _ _, fun ad had => by simp at had, fun _ => rfl, Fr.refl _ _⟩
  · refine (list_some p g f ss L w hr (List.length_pos_iff.2 hl)).mono ?_
    rintro e w' ⟨rfl, hrow, hf⟩
    exact ⟨_, rfl, Sl.ofRow hrow, fun ad had => by simp at had; exact ⟨had.symm, hrow⟩, fun h => by simp at h, hf⟩

/-- What Cut tells and leaves. -/
def CutAt (S : Nat → Prop) (p n m : Nat) (L : List ByteArray) (w : World) (e : Ending) (w' : World) : Prop :=
  ∃ (a : Option Addr) (X Y : List ByteArray), e = .returned (.slice a Y.length Y.length) ∧ Hid (X ++ Y = L) ∧ Hid (X.length = m) ∧ Txt w' a Y ∧ (∀ ad, a = some ad → w.heap.size = ad.block) ∧ IsRing S w' p n X ∧ Fr S w w'
/-- A new ring. -/
def RingNew (n : Nat) (w : World) (e : Ending) (w' : World) : Prop :=
  ∃ p S, e = .returned (.pointer (some ⟨p, 0, none⟩)) ∧ IsRing S w' p n [] ∧ (∀ k, S k → w.heap.size ≤ k) ∧ Fr Nothing w w'
theorem ring_new (k : Int) (m : Nat) (w : World) (hm : (m : Int) = min (max k 1) 64) :
    Calls Try.prog 45 #[.int .i64 k] w (RingNew m w) := by
  refine (new_ring k m w hm).mono ?_
  rintro e w' ⟨p, g, ss, rfl, hs, hr, h1, h2, hf⟩
  exact ⟨p, _, rfl, ⟨g, 0, ss, hs, hr, fun k => Iff.rfl⟩, fun k hk => by rcases hk with rfl | rfl <;> assumption, hf⟩
end

end Go.Proofs.Ytklpjnjhaodpkaa
