/- What holds of devices and their row, as lists: plain laws. No condition. -/
import Derived.Test.YtipkkhigcnhjdaaWakeA
namespace Go.Proofs.Ytipkkhigcnhjdaa
open Go.RowKit

/-- The row has each that is marked, once. -/
structure RL (L : List Dev) (R : List ByteArray) : Prop where
  nn : (L.map Dev.name).Nodup
  rn : R.Nodup
  rs : ∀ r ∈ R, r ∈ L.map Dev.name
  rf : ∀ d ∈ L, (d.rowed = true ↔ d.name ∈ R)
  w0 : ∀ d ∈ L, 0 ≤ d.waits
  rw : ∀ d ∈ L, d.rowed = true → 1 ≤ d.waits
theorem RL.start : RL [] [] := ⟨by simp, by simp, by simp, by simp, by simp, by simp⟩
section
variable {L : List Dev} {R N : List ByteArray} {now qt : Int} {k : ByteArray}
theorem mem_set {j : Nat} (_hj : j < L.length) {d x : Dev} (h : x ∈ L.set j d) : x = d ∨ ∃ i, ∃ (hi : i < L.length), i ≠ j ∧ x = L[i] := by
  obtain ⟨i, hi, rfl⟩ := List.mem_iff_getElem.1 h
  rw [List.getElem_set]
  split
  · exact .inl rfl
  · rename_i hne
    exact .inr ⟨i, by simpa using hi, fun e => hne e.symm, rfl⟩
theorem RL.inc (h : RL L R) {j : Nat} (hj : j < L.length) : RL (L.set j { L[j] with waits := L[j].waits + 1 }) R := by
  have e : (L.set j { L[j] with waits := L[j].waits + 1 }).map Dev.name = L.map Dev.name := map_set_same _ hj rfl
  have hm := List.getElem_mem hj
  refine ⟨by rw [e]; exact h.nn, h.rn, by rw [e]; exact h.rs, fun d hd => ?_, fun d hd => ?_, fun d hd hr => ?_⟩
  · rcases mem_set hj hd with rfl | ⟨i, hi, _, rfl⟩
    · exact h.rf L[j] hm
    · exact h.rf _ (List.getElem_mem hi)
  · rcases mem_set hj hd with rfl | ⟨i, hi, _, rfl⟩
    · have := h.w0 _ hm; show (0 : Int) ≤ L[j].waits + 1; omega
    · exact h.w0 _ (List.getElem_mem hi)
  · rcases mem_set hj hd with rfl | ⟨i, hi, _, rfl⟩
    · have := h.w0 _ hm; show (1 : Int) ≤ L[j].waits + 1; omega
    · exact h.rw _ (List.getElem_mem hi) hr
theorem RL.call (h : RL L R) {j : Nat} (hj : j < L.length) : RL (callL L j now qt) (callR L R j now qt) := by
  have hj' : L[j]? = some L[j] := by simp [hj]
  have hm := List.getElem_mem hj
  simp only [callL, callR, hj']
  cases hc : callsB L[j] now qt with
  | false => simp only [Bool.false_eq_true, if_false]; exact h
  | true =>
    have hc2 := hc
    unfold callsB at hc2
    simp only [Bool.and_eq_true, Bool.not_eq_true', decide_eq_true_eq] at hc2
    have hnot : L[j].name ∉ R := fun e => by
      have := (h.rf _ hm).2 e
      rw [hc2.1.2] at this; simp at this
    have e : (L.set j { L[j] with rowed := true }).map Dev.name = L.map Dev.name := map_set_same _ hj rfl
    simp only [if_true]
    refine ⟨by rw [e]; exact h.nn, ?_, fun r hr => ?_, fun d hd => ?_, fun d hd => ?_, fun d hd hr => ?_⟩
    · rw [List.nodup_append]
      refine ⟨h.rn, by simp, fun x hx y hy => ?_⟩
      obtain rfl : y = L[j].name := by simpa using hy
      exact fun e => hnot (e ▸ hx)
    · rw [e]
      rcases List.mem_append.1 hr with h1 | h1
      · exact h.rs r h1
      · obtain rfl : r = L[j].name := by simpa using h1
        exact List.mem_map_of_mem hm
    · rcases mem_set hj hd with rfl | ⟨i, hi, hne, rfl⟩
      · simp
      · have hne2 : ¬ L[i].name = L[j].name := fun e => hne (names_inj h.nn hi hj e)
        rw [h.rf _ (List.getElem_mem hi), List.mem_append]
        simp [hne2]
    · rcases mem_set hj hd with rfl | ⟨i, hi, _, rfl⟩
      · exact h.w0 L[j] hm
      · exact h.w0 _ (List.getElem_mem hi)
    · rcases mem_set hj hd with rfl | ⟨i, hi, _, rfl⟩
      · show (1 : Int) ≤ L[j].waits; have := hc2.1.1; omega
      · exact h.rw _ (List.getElem_mem hi) hr
theorem RL.new (h : RL L R) (hk : k ∉ L.map Dev.name) (B : Nat) : RL (L ++ [newDev k B]) R := by
  refine ⟨?_, h.rn, fun r hr => ?_, fun d hd => ?_, fun d hd => ?_, fun d hd hr => ?_⟩
  · rw [List.map_append, List.nodup_append]
    refine ⟨h.nn, by simp, fun x hx y hy => ?_⟩
    obtain rfl : y = k := by simpa [newDev] using hy
    exact fun e => hk (e ▸ hx)
  · rw [List.map_append]; exact List.mem_append.2 (.inl (h.rs r hr))
  · rcases List.mem_append.1 hd with h1 | h1
    · exact h.rf d h1
    · obtain rfl : d = newDev k B := by simpa using h1
      exact ⟨fun h => by simp [newDev] at h, fun h2 => absurd (h.rs _ h2) hk⟩
  · rcases List.mem_append.1 hd with h1 | h1
    · exact h.w0 d h1
    · obtain rfl : d = newDev k B := by simpa using h1
      simp [newDev]
  · rcases List.mem_append.1 hd with h1 | h1
    · exact h.rw d h1 hr
    · obtain rfl : d = newDev k B := by simpa using h1
      simp [newDev]
theorem tickD_name (now qt : Int) (d : Dev) : (tickD now qt d).name = d.name := by unfold tickD; split <;> rfl
theorem tickD_waits (now qt : Int) (d : Dev) : (tickD now qt d).waits = d.waits := by unfold tickD; split <;> rfl
theorem tickL_names (L : List Dev) (now qt : Int) : (L.map (tickD now qt)).map Dev.name = L.map Dev.name := by
  rw [List.map_map]
  exact List.map_congr_left fun d _ => tickD_name now qt d
theorem RL.tick (h : RL L R) (hN : N.Perm (L.map Dev.name)) : RL (L.map (tickD now qt)) (R ++ N.filter (callsN L now qt)) := by
  have hNn : N.Nodup := hN.nodup_iff.2 h.nn
  have hcn : ∀ d ∈ L, callsN L now qt d.name = callsB d now qt := fun d hd => by
    obtain ⟨i, hi, rfl⟩ := List.mem_iff_getElem.1 hd
    exact callsN_at h.nn hi now qt
  refine ⟨by rw [tickL_names]; exact h.nn, ?_, fun r hr => ?_, fun d hd => ?_, fun d hd => ?_, fun d hd hr => ?_⟩
  · rw [List.nodup_append]
    refine ⟨h.rn, hNn.filter _, fun x hx y hy e => ?_⟩
    subst e
    obtain ⟨hyN, hyc⟩ := List.mem_filter.1 hy
    obtain ⟨d, hd, rfl⟩ := List.mem_map.1 (hN.mem_iff.1 hyN)
    rw [hcn d hd] at hyc
    have := (h.rf d hd).2 hx
    unfold callsB at hyc
    rw [this] at hyc; simp at hyc
  · rw [tickL_names]
    rcases List.mem_append.1 hr with h1 | h1
    · exact h.rs r h1
    · exact hN.mem_iff.1 (List.mem_filter.1 h1).1
  · obtain ⟨d0, hd0, rfl⟩ := List.mem_map.1 hd
    rw [tickD_name, List.mem_append, List.mem_filter, hcn d0 hd0, ← h.rf d0 hd0]
    have hmem : d0.name ∈ N := hN.mem_iff.2 (List.mem_map_of_mem hd0)
    cases hc : callsB d0 now qt with
    | true => simp [tickD, hc, hmem]
    | false => simp [tickD, hc]
  · obtain ⟨d0, hd0, rfl⟩ := List.mem_map.1 hd
    rw [tickD_waits]; exact h.w0 d0 hd0
  · obtain ⟨d0, hd0, rfl⟩ := List.mem_map.1 hd
    rw [tickD_waits]
    cases hc : callsB d0 now qt with
    | true =>
      unfold callsB at hc
      simp only [Bool.and_eq_true, decide_eq_true_eq] at hc
      have := hc.1.1; omega
    | false =>
      simp [tickD, hc] at hr
      exact h.rw d0 hd0 hr
theorem RL.fetch (h : RL L R) : RL (fetchL L R now) [] := by
  refine ⟨by rw [fetchL_names]; exact h.nn, by simp, by simp, fun d hd => ?_, fun d hd => ?_, fun d hd hr => ?_⟩
  · unfold fetchL at hd
    obtain ⟨d0, hd0, rfl⟩ := List.mem_map.1 hd
    split
    · simp [resetD]
    · rename_i hn
      have : ¬ d0.rowed = true := fun e => hn (inR_iff.2 ((h.rf d0 hd0).1 e))
      simp [this]
  · unfold fetchL at hd
    obtain ⟨d0, hd0, rfl⟩ := List.mem_map.1 hd
    split
    · simp [resetD]
    · exact h.w0 d0 hd0
  · unfold fetchL at hd
    obtain ⟨d0, hd0, rfl⟩ := List.mem_map.1 hd
    split at hr
    · simp [resetD] at hr
    · rename_i hn
      exact absurd (inR_iff.2 ((h.rf d0 hd0).1 hr)) hn
theorem RL.awake (h : RL L R) (k : ByteArray) : RL (wakeL L k) (wakeR R k) := by
  have hsub : ∀ d, d ∈ wakeL L k → d ∈ L ∧ d.name ≠ k := fun d hd => by
    obtain ⟨h1, h2⟩ := List.mem_filter.1 hd
    exact ⟨h1, by simpa using h2⟩
  refine ⟨nodup_filter_map _ _ h.nn, h.rn.filter _, fun r hr => ?_, fun d hd => ?_, fun d hd => h.w0 d (hsub d hd).1, fun d hd => h.rw d (hsub d hd).1⟩
  · obtain ⟨h1, h2⟩ := List.mem_filter.1 hr
    obtain ⟨d, hd, rfl⟩ := List.mem_map.1 (h.rs r h1)
    exact List.mem_map_of_mem (List.mem_filter.2 ⟨hd, by simpa using h2⟩)
  · obtain ⟨h1, h2⟩ := hsub d hd
    rw [h.rf d h1, List.mem_filter]
    simp [h2]
end

end Go.Proofs.Ytipkkhigcnhjdaa
