/- Items and steps as values of a map. No condition. -/
import Derived.Test.YtfedaolpanncoaaMapV
import Derived.Test.YtfedaolpanncoaaDigOf
namespace Go.Proofs.Ytfedaolpanncoaa
open Go.RowKit

theorem Try.infoItemV : (Try.prog.info? 27).map (fun i => (i.zero, i.size, i.bytes)) = some (some (.agg #[.string ByteArray.empty, .string ByteArray.empty, .int .i64 0, .bool false]), 4, 48) := by kernel_rfl
def itemV (x : Item) : Value := .agg #[.string x.user, .string x.name, .int .i64 x.sub, .bool x.asked]
def itemD : List Value → Option Item
  | [.string u, .string n, .int .i64 s, .bool a] => some ⟨u, n, s, a⟩
  | _ => none
def aggL : Value → List Value
  | .agg cs => cs.toList
  | _ => []
theorem aggL_inv {v : Value} {x : Value} {l : List Value} (h : aggL v = x :: l) : v = .agg (x :: l).toArray := by
  cases v with
  | agg cs =>
    have h' : cs.toList = x :: l := h
    rw [← h']
  | _ => cases h
def itemR (v : Value) : Option (DataW Item × List MemPlace) := (itemD (aggL v)).map fun x => (.held x, [])
theorem itemD_inv {l : List Value} {x : Item} (h : itemD l = some x) : l = [.string x.user, .string x.name, .int .i64 x.sub, .bool x.asked] := by
  unfold itemD at h
  split at h
  · cases h; rfl
  · cases h
def itemE : Elem Item where
  enc := itemV
  R := itemR
  to_ := fun _ => rfl
  inv := fun v z h => by
    unfold itemR at h
    obtain ⟨x, hx, rfl⟩ := Option.map_eq_some_iff.1 h
    exact ⟨x, aggL_inv (itemD_inv hx), rfl⟩
  zero := noItem
def stepV (x : DStep) : Value := .agg #[.string x.user, .string x.item.user, .string x.item.name, .int .i64 x.item.sub, .bool x.item.asked, .bool x.gone]
def stepD : List Value → Option DStep
  | [.string u, .string v, .string n, .int .i64 s, .bool a, .bool g] => some ⟨u, ⟨v, n, s, a⟩, g⟩
  | _ => none
def stepR (v : Value) : Option (DataW DStep × List MemPlace) := (stepD (aggL v)).map fun x => (.held x, [])
theorem stepD_inv {l : List Value} {x : DStep} (h : stepD l = some x) : l = [.string x.user, .string x.item.user, .string x.item.name, .int .i64 x.item.sub, .bool x.item.asked, .bool x.gone] := by
  unfold stepD at h
  split at h
  · cases h; rfl
  · cases h
def stepE : Elem DStep where
  enc := stepV
  R := stepR
  to_ := fun _ => rfl
  inv := fun v z h => by
    unfold stepR at h
    obtain ⟨x, hx, rfl⟩ := Option.map_eq_some_iff.1 h
    exact ⟨x, aggL_inv (stepD_inv hx), rfl⟩
  zero := ⟨ByteArray.empty, noItem, false⟩
end Go.Proofs.Ytfedaolpanncoaa
