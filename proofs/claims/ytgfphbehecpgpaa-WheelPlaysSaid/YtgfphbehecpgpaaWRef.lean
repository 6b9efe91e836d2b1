/- The document's wheel as it lies in memory: a slice in order. Condition: IsRefW, as each call keeps it. -/
import Derived.Test.YtgfphbehecpgpaaOnceR
namespace Go.Proofs.Ytgfphbehecpgpaa
open Go.RowKit
def rcells (d : Due) : List Value := [.int .i64 d.1, .int .i64 d.2]
theorem rcells_len (d : Due) : (rcells d).length = 2 := rfl
theorem rflat_len (L : List Due) : (L.flatMap rcells).length = L.length * 2 := flat_len rcells 2 rcells_len L
theorem rcells_one (L : List Due) : ∀ u ∈ L.flatMap rcells, u.oneCell' = true := by
  intro u hu
  obtain ⟨d, _, hd⟩ := List.mem_flatMap.1 hu
  simp [rcells] at hd
  rcases hd with rfl | rfl <;> rfl
structure RefAt (w : World) (q : Nat) (a : Option Addr) (c : Nat) (T : Int) (L : List Due) : Prop where
  head : Row w q [.slice a L.length c, .int .i64 T] 42
  recs : Recs rcells 2 w a L
  le : L.length ≤ c
  cap : c ≤ maxLen
  shape : (a = none ∧ c = 0) ∨ ∃ b o, a = some ⟨b, o, none⟩ ∧ b ≠ q ∧ b < w.heap.size
def RB (q : Nat) (a : Option Addr) (k : Nat) : Prop := k = q ∨ ∃ ad, a = some ad ∧ k = ad.block
def IsRefW (S : Nat → Prop) (w : World) (q : Nat) (T : Int) (L : List Due) : Prop := ∃ a c, RefAt w q a c T L ∧ ∀ k, S k ↔ RB q a k
def RefGone (S : Nat → Prop) (w : World) (q : Nat) (T : Int) (L : List Due) (w' : World) : Prop := ∃ S', IsRefW S' w' q T L ∧ Grown w S S' ∧ Fr S w w'
section
variable {S T' : Nat → Prop} {w w' : World} {q : Nat} {T : Int} {L : List Due} {a : Option Addr} {c : Nat}
theorem RefAt.fr (h : RefAt w q a c T L) (F : Fr T' w w') (hn : ∀ k, RB q a k → ¬ T' k) : RefAt w' q a c T L := by
  refine ⟨h.head.fr F (hn q (.inl rfl)), h.recs.fr F (fun ad ha => hn _ (.inr ⟨ad, ha, rfl⟩)), h.le, h.cap, ?_⟩
  rcases h.shape with h1 | ⟨b, o, h1, h2, h3⟩
  · exact .inl h1
  · exact .inr ⟨b, o, h1, h2, Nat.lt_of_lt_of_le h3 F.size⟩
theorem RefAt.lt (h : RefAt w q a c T L) {k : Nat} (hk : RB q a k) : k < w.heap.size := by
  rcases hk with rfl | ⟨ad, rfl, rfl⟩
  · exact h.head.lt
  · rcases h.shape with ⟨h1, _⟩ | ⟨b, o, h1, h2, h3⟩
    · simp at h1
    · obtain rfl := Option.some.inj h1; exact h3
theorem IsRefW.fr (h : IsRefW S w q T L) (F : Fr T' w w') (hn : ∀ k, S k → ¬ T' k) : IsRefW S w' q T L := by
  obtain ⟨a, c, h1, h2⟩ := h
  exact ⟨a, c, h1.fr F (fun k hk => hn k ((h2 k).2 hk)), h2⟩
theorem IsRefW.lt (h : IsRefW S w q T L) {k : Nat} (hk : S k) : k < w.heap.size := by
  obtain ⟨a, c, h1, h2⟩ := h
  exact h1.lt ((h2 k).1 hk)
theorem IsRefW.new (w : World) : IsRefW (fun k => k = w.heap.size) (w.alloc (.cells #[.slice none 0 0, .int .i64 0] 42)) w.heap.size 0 [] :=
  ⟨none, 0, ⟨Row.allocNew w [.slice none 0 0, .int .i64 0] _, ⟨rcells_len, by omega, Sl.nil _ _⟩, Nat.le_refl _, Nat.zero_le _, .inl ⟨rfl, rfl⟩⟩, fun k => ⟨.inl, fun h => h.elim id (fun ⟨_, h, _⟩ => by simp at h)⟩⟩

/-- Where a number stands. -/
theorem wref_at_no (id : Int) (h : IsRefW S w q T L) (hf : id ∉ L.map Prod.fst) :
    Calls Try.prog 28 #[.pointer (some ⟨q, 0, none⟩), .int .i64 id] w fun e w' => e = .returned (.int .i64 (-1)) ∧ w = w' := by
  obtain ⟨a, c, hr, hS⟩ := h
  have h0 := hr.head.cell 0 rfl
  have hle := hr.le
  have hc9 : (c : Int) ≤ 9223372036854775807 := by have := hr.cap; unfold maxLen at this; omega
  have HR := Lib.hid hr.recs
  have Hf := Lib.hid hf
  clear hr hS hf
  go_enter Try.func28, Try.ntmps28
  go_wp2_with (fail)
  go_loopw [5] (fun i wr => ∃ j : Nat, j ≤ L.length ∧ i = .int .i64 j ∧ w = wr) (fun i _ => L.length - (intOf i).toNat)
  case atStart => exact ⟨0, Nat.zero_le _, rfl, rfl⟩
  case round =>
    obtain ⟨j, hj, rfl, rfl⟩ := hrel
    by_cases hlt : j < L.length
    · obtain ⟨b, o, rfl, hc⟩ := HR.out.at_ hlt
      have c0 := hc 0 _ rfl
      rw [Nat.add_zero] at c0
      have hd : (L[j].1 == id) = false := by
        have : L[j].1 ≠ id := fun e => Hf.out (e ▸ List.mem_map_of_mem (List.getElem_mem hlt))
        simpa using this
      clear hc
      go_wp2_with (fail)
      go_roundw
      case rel => exact ⟨j + 1, by omega, by go_num, trivial⟩
      case measure => simp [intOf]; omega
    · obtain rfl : j = L.length := by omega
      go_wp2_with (fail)
      go_ret
      exact ⟨rfl, rfl⟩
theorem wref_at_yes (id : Int) (h : IsRefW S w q T L) (hf : id ∈ L.map Prod.fst) :
    Calls Try.prog 28 #[.pointer (some ⟨q, 0, none⟩), .int .i64 id] w fun e w' => ∃ (k : Nat) (hk : k < L.length), e = .returned (.int .i64 k) ∧ L[k].1 = id ∧ w = w' := by
  obtain ⟨a, c, hr, hS⟩ := h
  have h0 := hr.head.cell 0 rfl
  have hle := hr.le
  have hc9 : (c : Int) ≤ 9223372036854775807 := by have := hr.cap; unfold maxLen at this; omega
  have HR := Lib.hid hr.recs
  have Hf := Lib.hid hf
  clear hr hS hf
  go_enter Try.func28, Try.ntmps28
  go_wp2_with (fail)
  go_loopw [5] (fun i wr => ∃ j : Nat, j ≤ L.length ∧ i = .int .i64 j ∧ w = wr ∧ Hid (∀ (m : Nat) (hm : m < L.length), m < j → L[m].1 ≠ id)) (fun i _ => L.length - (intOf i).toNat)
  case atStart => exact ⟨0, Nat.zero_le _, rfl, rfl, Lib.hid (fun m hm h => by omega)⟩
  case round =>
    obtain ⟨j, hj, rfl, rfl, HN⟩ := hrel
    by_cases hlt : j < L.length
    · obtain ⟨b, o, rfl, hc⟩ := HR.out.at_ hlt
      have c0 := hc 0 _ rfl
      rw [Nat.add_zero] at c0
      clear hc
      by_cases he : L[j].1 = id
      · have hd : (L[j].1 == id) = true := by simpa using he
        have He := Lib.hid he
        clear he
        go_wp2_with (fail)
        go_ret
        exact ⟨j, hlt, rfl, He.out, rfl⟩
      · have hd : (L[j].1 == id) = false := by simpa using he
        go_wp2_with (fail)
        go_roundw
        case rel =>
          refine ⟨j + 1, by omega, by go_num, trivial, Lib.hid (fun m hm h => ?_)⟩
          rcases Nat.lt_or_ge m j with h1 | h1
          · exact HN.out m hm h1
          · obtain rfl : m = j := by omega
            exact he
        case measure => simp [intOf]; omega
    · exfalso
      obtain ⟨x, hx, e⟩ := List.mem_map.1 Hf.out
      obtain ⟨m, hm, rfl⟩ := List.getElem_of_mem hx
      exact HN.out m hm (by omega) e
end
end Go.Proofs.Ytgfphbehecpgpaa
