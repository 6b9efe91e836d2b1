/- Slices of records as they come in: each element's cells, by a decoding of one element. No program is named here. -/
import Derived.Test.YtdgaiacigmcibaaBase
import Derived.ProofKit
namespace Go.Proofs.Ytdgaiacigmcibaa
open Go.RowKit

theorem flat_get {R : Type} (f : R → List Value) (k : Nat) (hf : ∀ r, (f r).length = k) : ∀ (rs : List R) (i j : Nat) (r : R), rs[i]? = some r → j < k → (rs.flatMap f)[i * k + j]? = (f r)[j]?
  | [], i, j, r, h, _ => by simp at h
  | x :: rs, 0, j, r, h, hj => by
    simp at h; subst h
    rw [List.flatMap_cons, Nat.zero_mul, Nat.zero_add, List.getElem?_append_left (by rw [hf]; exact hj)]
  | x :: rs, i + 1, j, r, h, hj => by
    simp at h
    have := flat_get f k hf rs i j r h hj
    rw [List.flatMap_cons, List.getElem?_append_right (by rw [hf, Nat.add_mul]; omega), hf, ← this]
    congr 1
    rw [Nat.add_mul]; omega
theorem flat_len {R : Type} (f : R → List Value) (k : Nat) (hf : ∀ r, (f r).length = k) (rs : List R) : (rs.flatMap f).length = rs.length * k := by
  induction rs with
  | nil => simp
  | cons x rs ih => rw [List.flatMap_cons, List.length_append, hf, ih, List.length_cons, Nat.add_mul]; omega

/-- A slice at a of records: each lies in k cells, as f tells them. -/
def Recs {R : Type} (f : R → List Value) (k : Nat) (w : World) (a : Option Addr) (rs : List R) : Prop := (∀ r, (f r).length = k) ∧ 0 < k ∧ Sl w a (rs.flatMap f)
theorem Recs.at_ {R : Type} {f : R → List Value} {k : Nat} {w : World} {a : Option Addr} {rs : List R} (h : Recs f k w a rs) {i : Nat} (hi : i < rs.length) :
    ∃ b o, a = some ⟨b, o, none⟩ ∧ ∀ j v, (f rs[i])[j]? = some v → w.cell? ⟨b, o + i * k + j, none⟩ = some v := by
  obtain ⟨hf, hk, hs⟩ := h
  have hlen := flat_len f k hf rs
  have hmul : i * k + k ≤ rs.length * k := by rw [← Nat.succ_mul]; exact Nat.mul_le_mul_right _ hi
  obtain ⟨b, o, ha, hc⟩ := hs.at_ (i := i * k) (by omega)
  refine ⟨b, o, ha, fun j v hv => ?_⟩
  have hj : j < k := by
    have := (List.getElem?_eq_some_iff.1 hv).1
    rw [hf] at this; exact this
  have := hc (i * k + j) (by omega)
  rw [flat_get f k hf rs i j rs[i] (by simp) hj, hv] at this
  rw [Nat.add_assoc]; exact this
theorem Recs.kept {R : Type} {f : R → List Value} {k : Nat} {w w' : World} {a : Option Addr} {rs : List R} (h : Recs f k w a rs) (F : Fr (FromB w.heap.size) w w') : Recs f k w' a rs := ⟨h.1, h.2.1, h.2.2.kept F⟩
theorem Recs.fr {R : Type} {S : Nat → Prop} {f : R → List Value} {k : Nat} {w w' : World} {a : Option Addr} {rs : List R} (h : Recs f k w a rs) (F : Fr S w w') (hn : ∀ ad, a = some ad → ¬ S ad.block) : Recs f k w' a rs := ⟨h.1, h.2.1, h.2.2.fr F hn⟩
theorem Recs.drewN {R : Type} {f : R → List Value} {k : Nat} {w : World} {a : Option Addr} {rs : List R} (h : Recs f k w a rs) (n : Nat) : Recs f k (w.drewN n) a rs := h
theorem Recs.take {R : Type} {f : R → List Value} {k : Nat} {w : World} {a : Option Addr} {rs : List R} (h : Recs f k w a rs) (n : Nat) : Recs f k w a (rs.take n) := by
  refine ⟨h.1, h.2.1, ?_⟩
  have e : (rs.take n).flatMap f = (rs.flatMap f).take (n * k) := by
    have key : ∀ (rs : List R) (n : Nat), (rs.take n).flatMap f = (rs.flatMap f).take (n * k) := by
      intro rs
      induction rs with
      | nil => intro n; simp
      | cons x rs ih =>
        intro n
        cases n with
        | zero => simp
        | succ n =>
          have e1 : n * k + k - k = n * k := by omega
          have e2 : (f x).take (n * k + k) = f x := List.take_of_length_le (by rw [h.1]; omega)
          rw [List.take_succ_cons, List.flatMap_cons, List.flatMap_cons, ih, Nat.succ_mul, List.take_append, h.1, e1, e2]
    exact key rs n
  rw [e]; exact h.2.2.take _

/-- What the form says of an argument that is a slice of records. -/
def RecsArg {R : Type} (f : R → List Value) (k : Nat) (Good : R → Prop) (w : World) (a : Option Addr) (len cap : Nat) (rs : List R) : Prop :=
  len = rs.length ∧ Recs f k w a rs ∧ rs.length ≤ cap ∧ cap ≤ maxLen ∧ ∀ r ∈ rs, Good r

theorem open_recs {H : Type} {enc : TypeId × Value → H} {P : Program} {w : World} {R : Type} {f : R → List Value} {k : Nat} {Good : R → Prop} {t e : TypeId} {fuel : Nat} {a : Option Addr} {len cap : Nat} {x : DataW H × List MemPlace}
    (ht : P.underlying t = some (.slice e)) (hk : P.cellsOf e = k) (h0 : 0 < k) (hf : ∀ r, (f r).length = k)
    (hdec : ∀ n cs y, DataW.trod enc P w 0 (fun _ => true) true n e cs = some y → ∃ r, cs = f r ∧ Good r)
    (h : DataW.trod enc P w 0 (fun _ => true) true fuel t [.slice a len cap] = some x) : ∃ rs : List R, RecsArg f k Good w a len cap rs := by
  rcases DataW.trod_slice ht h with ⟨hcs, _⟩ | ⟨ad, l, c, elems, rest, n, _, hcs, _, hb, hl, hm, hlen, hel, _, _⟩
  · simp at hcs
    obtain ⟨rfl, rfl, rfl⟩ := hcs
    exact ⟨[], rfl, ⟨hf, h0, Sl.nil _ _⟩, Nat.zero_le _, Nat.zero_le _, fun _ h => by simp at h⟩
  · simp at hcs
    obtain ⟨rfl, rfl, rfl⟩ := hcs
    have each : ∀ i : Fin len, ∃ r, w.cells? 0 (ad.add (i.1 * k)) k = some (f r) ∧ Good r := by
      intro i
      have h1 := hel i.1 i.2
      have h2 : elems[i.1]? = some elems[i.1] := by simp
      rw [h2, Option.bind_eq_some_iff, hk] at h1
      obtain ⟨cs, hcs, hy⟩ := h1
      obtain ⟨r, rfl, hg⟩ := hdec _ _ _ hy
      exact ⟨r, hcs, hg⟩
    obtain ⟨pick, hpick⟩ : ∃ pick : Fin len → R, ∀ i : Fin len, w.cells? 0 (ad.add (i.1 * k)) k = some (f (pick i)) ∧ Good (pick i) := ⟨fun i => Classical.choose (each i), fun i => Classical.choose_spec (each i)⟩
    clear each
    refine ⟨List.ofFn pick, by simp, ⟨hf, h0, ?_⟩, by simpa using hl, hm, fun r hr => ?_⟩
    · by_cases hz : len = 0
      · subst hz; exact .inl (by simp)
      · obtain ⟨b, o, spot⟩ := ad
        have cellAt : ∀ (i : Fin len) (j : Nat), j < k → w.cell? (((⟨b, o, spot⟩ : Addr).add (i.1 * k)).add j) = (f (pick i))[j]? := by
          intro i j hj
          have hc := (hpick i).1
          exact (World.cells?_some hc).2.2 j hj
        have hspot : spot = none := by
          have h1 := cellAt ⟨0, by omega⟩ 0 h0
          have h2 : (f (pick ⟨0, by omega⟩))[0]? = some ((f (pick ⟨0, by omega⟩))[0]'(by rw [hf]; exact h0)) := by simp [hf, h0]
          rw [h2] at h1
          have := World.cell?_spot h1
          simpa [Addr.add] using this
        subst hspot
        refine .inr ⟨b, o, rfl, fun q hq => ?_⟩
        rw [flat_len f k hf, List.length_ofFn] at hq
        have hqi : q / k < len := (Nat.div_lt_iff_lt_mul h0).2 hq
        have hqj : q % k < k := Nat.mod_lt _ h0
        have hq' : q / k * k + q % k = q := by rw [Nat.mul_comm]; exact Nat.div_add_mod q k
        have := cellAt ⟨q / k, hqi⟩ (q % k) hqj
        rw [Addr.add_lit, Addr.add_lit, Nat.add_assoc, hq'] at this
        rw [this]
        have h3 := flat_get f k hf (List.ofFn pick) (q / k) (q % k) (pick ⟨q / k, hqi⟩) (by simp [hqi]) hqj
        rw [hq'] at h3
        exact h3.symm
    · obtain ⟨i, rfl⟩ := List.mem_ofFn.1 hr
      exact (hpick i).2

end Go.Proofs.Ytdgaiacigmcibaa
