/- Slices of records as they come in, and what the form says of their sizes. No program is named here. -/
import Derived.Test.YtfedaolpanncoaaOpen
import Derived.SizedLaws
namespace Go.Proofs.Ytfedaolpanncoaa
open Go.RowKit

theorem weightsAll_mem {H : Type} {P : Program} {e : TypeId} : ∀ {l : List (DataW H)} {d : DataW H}, d ∈ l → ∀ n ∈ d.weights P e, n ∈ DataW.weightsAll P e l
  | y :: l, d, hd, n, hn => by
    simp only [DataW.weightsAll, List.mem_append]
    rcases List.mem_cons.1 hd with rfl | h
    · exact .inl hn
    · exact .inr (weightsAll_mem h n hn)

theorem open_recs_sized {H : Type} {enc : TypeId × Value → H} {P : Program} {w : World} {R : Type} {f : R → List Value} {k : Nat} {Good : R → Prop} {t e : TypeId} {fuel : Nat} {a : Option Addr} {len cap : Nat} {x : DataW H × List MemPlace}
    (ht : P.underlying t = some (.slice e)) (hk : P.cellsOf e = k) (h0 : 0 < k) (hf : ∀ r, (f r).length = k)
    (hdec : ∀ n cs y, DataW.trod enc P w 0 (fun _ => true) true n e cs = some y → (∀ m ∈ y.1.weights P e, m ≤ reachBytes) → ∃ r, cs = f r ∧ Good r)
    (h : DataW.trod enc P w 0 (fun _ => true) true fuel t [.slice a len cap] = some x) (hw : ∀ m ∈ x.1.weights P t, m ≤ reachBytes) : ∃ rs : List R, RecsArg f k Good w a len cap rs := by
  rcases DataW.trod_slice ht h with ⟨hcs, _⟩ | ⟨ad, l, c, elems, rest, n, _, hcs, hx, hb, hl, hm, hlen, hel, _, _⟩
  · simp at hcs
    obtain ⟨rfl, rfl, rfl⟩ := hcs
    exact ⟨[], rfl, ⟨hf, h0, Sl.nil _ _⟩, Nat.zero_le _, Nat.zero_le _, fun _ h => by simp at h⟩
  · simp at hcs
    obtain ⟨rfl, rfl, rfl⟩ := hcs
    have each : ∀ i : Fin len, ∃ r, w.cells? 0 (ad.add (i.1 * k)) k = some (f r) ∧ Good r := by
      intro i
      have h1 := hel i.1 i.2
      have h2 : elems[i.1]? = some elems[i.1] := by simp
      rw [h2, Option.bind_eq_some_iff, hk] at h1
      obtain ⟨cs, hcs, hy⟩ := h1
      obtain ⟨r, rfl, hg⟩ := hdec _ _ _ hy (fun m hm => hw m (by
        rw [hx]
        simp only [DataW.weights, ht, List.mem_cons, List.mem_append]
        exact .inr (.inl (weightsAll_mem (List.mem_map.2 ⟨_, List.getElem_mem (by omega), rfl⟩) m hm))))
      exact ⟨r, hcs, hg⟩
    obtain ⟨pick, hpick⟩ : ∃ pick : Fin len → R, ∀ i : Fin len, w.cells? 0 (ad.add (i.1 * k)) k = some (f (pick i)) ∧ Good (pick i) := ⟨fun i => Classical.choose (each i), fun i => Classical.choose_spec (each i)⟩
    clear each
    refine ⟨List.ofFn pick, by simp, ⟨hf, h0, ?_⟩, by simpa using hl, hm, fun r hr => ?_⟩
    · by_cases hz : len = 0
      · subst hz; exact .inl (by simp)
      · obtain ⟨b, o, spot⟩ := ad
        have cellAt : ∀ (i : Fin len) (j : Nat), j < k → w.cell? (((⟨b, o, spot⟩ : Addr).add (i.1 * k)).add j) = (f (pick i))[j]? := by
          intro i j hj
          have hc := (hpick i).1
          exact (World.cells?_some hc).2.2 j hj
        have hspot : spot = none := by
          have h1 := cellAt ⟨0, by omega⟩ 0 h0
          have h2 : (f (pick ⟨0, by omega⟩))[0]? = some ((f (pick ⟨0, by omega⟩))[0]'(by rw [hf]; exact h0)) := by simp [hf, h0]
          rw [h2] at h1
          have := World.cell?_spot h1
          simpa [Addr.add] using this
        subst hspot
        refine .inr ⟨b, o, rfl, fun q hq => ?_⟩
        rw [flat_len f k hf, List.length_ofFn] at hq
        have hqi : q / k < len := (Nat.div_lt_iff_lt_mul h0).2 hq
        have hqj : q % k < k := Nat.mod_lt _ h0
        have hq' : q / k * k + q % k = q := by rw [Nat.mul_comm]; exact Nat.div_add_mod q k
        have := cellAt ⟨q / k, hqi⟩ (q % k) hqj
        rw [Addr.add_lit, Addr.add_lit, Nat.add_assoc, hq'] at this
        rw [this]
        have h3 := flat_get f k hf (List.ofFn pick) (q / k) (q % k) (pick ⟨q / k, hqi⟩) (by simp [hqi]) hqj
        rw [hq'] at h3
        exact h3.symm
    · obtain ⟨i, rfl⟩ := List.mem_ofFn.1 hr
      exact (hpick i).2

end Go.Proofs.Ytfedaolpanncoaa
