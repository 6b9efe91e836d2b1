/- Slices of strings and of ints as they are read. No condition. -/
import Derived.Test.YtbpbghmhenilcaaDoorRows
import Derived.Test.YtbpbghmhenilcaaDoorBase
import Derived.ProofKit
namespace Go.Proofs.YtbpbghmhenilcaaDoor
open Go.RowKit

/-- A slice of strings that reads as L. -/
def Txt (w : World) (a : Option Addr) (L : List ByteArray) : Prop := Sl w a (L.map Value.string)
theorem Txt.at_ {w : World} {a : Option Addr} {L : List ByteArray} (h : Txt w a L) {i : Nat} (hi : i < L.length) : ∃ b o, a = some ⟨b, o, none⟩ ∧ w.cell? ⟨b, o + i, none⟩ = some (.string L[i]) :=
  Sl.oneCell h (j := i) (v := .string L[i]) (by simp [hi])

theorem Txt.kept {w w' : World} {a : Option Addr} {L : List ByteArray} (h : Txt w a L) (F : Fr (FromB w.heap.size) w w') : Txt w' a L := Sl.kept h F

/-- What the form says of an argument of type []string. -/
def TxtArg (w : World) (a : Option Addr) (len cap : Nat) (L : List ByteArray) : Prop := len = L.length ∧ Txt w a L ∧ L.length ≤ cap ∧ cap ≤ maxLen ∧ ∀ s ∈ L, s.size ≤ maxLen
theorem TxtArg.none (w : World) : TxtArg w none 0 0 [] := ⟨rfl, Sl.nil _ _, Nat.zero_le _, Nat.zero_le _, fun _ h => by simp at h⟩
theorem TxtArg.some {w : World} {x : Addr} {l c : Nat} {ss : List ByteArray} (hl : l ≤ c) (hm : c ≤ maxLen) (hz : ss.length = c) (hcell : ∀ i, i < ss.length → w.cell? (x.add i) = some (.string (ss.getD i ByteArray.empty))) (hws : ∀ s ∈ ss, s.size ≤ maxLen) :
    TxtArg w (some x) l c (ss.take l) := by
  have hlen : (ss.take l).length = l := by simp; omega
  refine ⟨hlen.symm, ?_, by omega, hm, fun s hs => hws s (List.mem_of_mem_take hs)⟩
  obtain ⟨b, o, spot⟩ := x
  by_cases h0 : l = 0
  · exact .inl (by subst h0; simp)
  · have hc := hcell 0 (by omega)
    have hspot : spot = Option.none := by simpa [Addr.add] using World.cell?_spot hc
    subst hspot
    refine .inr ⟨b, o, rfl, fun i hi => ?_⟩
    simp only [List.length_map] at hi
    have hi' : i < ss.length := by omega
    have := hcell i hi'
    rw [Addr.add_lit] at this
    rw [this, List.getElem?_map, List.getElem?_take_of_lt (by omega)]
    simp [hi']

/-- A slice of ints that reads as D. -/
def Ints (w : World) (a : Option Addr) (D : List Int) : Prop := Sl w a (D.map (Value.int .i64))
theorem Ints.at_ {w : World} {a : Option Addr} {D : List Int} (h : Ints w a D) {i : Nat} (hi : i < D.length) : ∃ b o, a = some ⟨b, o, none⟩ ∧ w.cell? ⟨b, o + i, none⟩ = some (.int .i64 D[i]) :=
  Sl.oneCell h (j := i) (v := .int .i64 D[i]) (by simp [hi])
theorem Ints.kept {w w' : World} {a : Option Addr} {D : List Int} (h : Ints w a D) (F : Fr (FromB w.heap.size) w w') : Ints w' a D := Sl.kept h F
/-- What the form says of an argument of type []int. -/
def IntsArg (w : World) (a : Option Addr) (len cap : Nat) (D : List Int) : Prop := len = D.length ∧ Ints w a D ∧ D.length ≤ cap ∧ cap ≤ maxLen ∧ ∀ n ∈ D, (Lit.int .i64 n).wf = true
theorem IntsArg.none (w : World) : IntsArg w none 0 0 [] := ⟨rfl, Sl.nil _ _, Nat.zero_le _, Nat.zero_le _, fun _ h => by simp at h⟩
theorem IntsArg.some {w : World} {x : Addr} {l c : Nat} {zs : List Int} (hl : l ≤ c) (hm : c ≤ maxLen) (hz : zs.length = c) (hcell : ∀ i, i < zs.length → w.cell? (x.add i) = some (.int .i64 (zs.getD i 0))) (hws : ∀ n ∈ zs, (Lit.int .i64 n).wf = true) :
    IntsArg w (some x) l c (zs.take l) := by
  have hlen : (zs.take l).length = l := by simp; omega
  refine ⟨hlen.symm, ?_, by omega, hm, fun s hs => hws s (List.mem_of_mem_take hs)⟩
  obtain ⟨b, o, spot⟩ := x
  by_cases h0 : l = 0
  · exact .inl (by subst h0; simp)
  · have hc := hcell 0 (by omega)
    have hspot : spot = Option.none := by simpa [Addr.add] using World.cell?_spot hc
    subst hspot
    refine .inr ⟨b, o, rfl, fun i hi => ?_⟩
    simp only [List.length_map] at hi
    have hi' : i < zs.length := by omega
    have := hcell i hi'
    rw [Addr.add_lit] at this
    rw [this, List.getElem?_map, List.getElem?_take_of_lt (by omega)]
    simp [hi']

end Go.Proofs.YtbpbghmhenilcaaDoor
