/- A heap as a list: one step up, one step down, what is on top. Plain lists, no program. No condition. -/
import Derived.Test.YtgfphbehecpgpaaBase
namespace Go.Proofs.Ytgfphbehecpgpaa

/-- A number, and its time. -/
abbrev Due := Int × Int
def dless (a b : Due) : Prop := a.2 < b.2 ∨ (a.2 = b.2 ∧ a.1 < b.1)
instance (a b : Due) : Decidable (dless a b) := inferInstanceAs (Decidable (_ ∨ _))
theorem dless_asym {a b : Due} (h : dless a b) : ¬ dless b a := by unfold dless at *; omega
theorem dless_trans {a b c : Due} (h : dless a b) (h' : dless b c) : dless a c := by unfold dless at *; omega
theorem dless_ge {a b c : Due} (h : ¬ dless a b) (h' : ¬ dless b c) : ¬ dless a c := by unfold dless at *; omega
theorem dless_irrefl (a : Due) : ¬ dless a a := by unfold dless; omega
theorem dless_tri {a b : Due} (h : ¬ dless a b) (h' : ¬ dless b a) : a = b := by
  unfold dless at *
  exact Prod.ext (by omega) (by omega)

def gd (H : List Due) (i : Nat) : Due := H.getD i (0, 0)
def swp (H : List Due) (i j : Nat) : List Due := (H.set i (gd H j)).set j (gd H i)
theorem swp_len (H : List Due) (i j : Nat) : (swp H i j).length = H.length := by simp [swp]
theorem gd_swp {H : List Due} {i j : Nat} (hi : i < H.length) (hj : j < H.length) (c : Nat) : gd (swp H i j) c = if c = j then gd H i else if c = i then gd H j else gd H c := by
  unfold gd swp
  rw [List.getD_eq_getElem?_getD, List.getElem?_set]
  by_cases h1 : j = c
  · subst h1
    simp [hj, gd, List.getD_eq_getElem?_getD]
  · rw [if_neg h1, List.getElem?_set]
    have h1' : ¬ c = j := fun e => h1 e.symm
    rw [if_neg h1']
    by_cases h2 : i = c
    · subst h2; simp [hi, gd, List.getD_eq_getElem?_getD]
    · have h2' : ¬ c = i := fun e => h2 e.symm
      rw [if_neg h2, if_neg h2', ← List.getD_eq_getElem?_getD]
theorem gd_at {H : List Due} {i : Nat} (hi : i < H.length) : gd H i = H[i] := by simp [gd, List.getD_eq_getElem?_getD, hi]
theorem gd_eq {H : List Due} {i : Nat} (hi : i < H.length) : H[i]? = some (gd H i) := by rw [gd_at hi]; simp [hi]
theorem swp_perm {H : List Due} {i j : Nat} (hi : i < H.length) (hj : j < H.length) : (swp H i j).Perm H := by
  unfold swp
  rw [gd_at hi, gd_at hj]
  exact List.set_set_perm hi hj

/-- No one stands ahead of its parent, below n. -/
def HeapTo (H : List Due) (n : Nat) : Prop := ∀ c, 0 < c → c < n → ¬ dless (gd H c) (gd H ((c - 1) / 2))
theorem heap_top {H : List Due} {n : Nat} (h : HeapTo H n) : ∀ c, c < n → ¬ dless (gd H c) (gd H 0) := by
  intro c
  induction c using Nat.strongRecOn with
  | _ c ih =>
    intro hc
    by_cases h0 : c = 0
    · subst h0; exact dless_irrefl _
    · exact dless_ge (h c (by omega) hc) (ih ((c - 1) / 2) (by omega) (by omega))

/-- All is right but at j, on the way up. -/
def UpInv (H : List Due) (j : Nat) : Prop :=
  (∀ c, 0 < c → c < H.length → c ≠ j → ¬ dless (gd H c) (gd H ((c - 1) / 2))) ∧ (0 < j → ∀ c, 0 < c → c < H.length → (c - 1) / 2 = j → ¬ dless (gd H c) (gd H ((j - 1) / 2)))
theorem up_step {H : List Due} {j : Nat} (h : UpInv H j) (h0 : 0 < j) (hj : j < H.length) (hl : dless (gd H j) (gd H ((j - 1) / 2))) : UpInv (swp H ((j - 1) / 2) j) ((j - 1) / 2) := by
  obtain ⟨h1, h2⟩ := h
  have hi : (j - 1) / 2 < H.length := by omega
  obtain ⟨i, hij⟩ : ∃ i, i = (j - 1) / 2 := ⟨_, rfl⟩
  rw [← hij] at hl hi ⊢
  have hne : i ≠ j := by omega
  have g := fun c => gd_swp (H := H) (i := i) (j := j) hi hj c
  refine ⟨fun c hc0 hc hci => ?_, fun hi0 c hc0 hc hpc => ?_⟩
  · rw [swp_len] at hc
    rw [g, g]
    by_cases hcj : c = j
    · rw [if_pos hcj, hcj, ← hij, if_neg hne, if_pos rfl]; exact dless_asym hl
    · rw [if_neg hcj, if_neg hci]
      by_cases hp : (c - 1) / 2 = j
      · rw [if_pos hp]
        have := h2 h0 c hc0 hc hp
        rw [← hij] at this; exact this
      · rw [if_neg hp]
        by_cases hp2 : (c - 1) / 2 = i
        · rw [if_pos hp2]
          intro hcl
          have := h1 c hc0 hc hcj
          rw [hp2] at this
          exact this (dless_trans hcl hl)
        · rw [if_neg hp2]; exact h1 c hc0 hc hcj
  · rw [swp_len] at hc
    rw [g, g, if_neg (show ¬ (i - 1) / 2 = j by omega), if_neg (show ¬ (i - 1) / 2 = i by omega)]
    have hpi := h1 i hi0 hi hne
    by_cases hcj : c = j
    · rw [if_pos hcj]; exact hpi
    · rw [if_neg hcj, if_neg (by omega)]
      have := h1 c hc0 hc hcj
      rw [hpc] at this
      exact dless_ge this hpi
theorem up_done {H : List Due} {j : Nat} (h : UpInv H j) (hl : j = 0 ∨ ¬ dless (gd H j) (gd H ((j - 1) / 2))) : HeapTo H H.length := by
  intro c hc0 hc
  by_cases hcj : c = j
  · subst hcj
    rcases hl with h1 | h1
    · omega
    · exact h1
  · exact h.1 c hc0 hc hcj

/-- All is right but at i, on the way down, below n. -/
def DownInv (H : List Due) (i n : Nat) : Prop :=
  (∀ c, 0 < c → c < n → (c - 1) / 2 ≠ i → ¬ dless (gd H c) (gd H ((c - 1) / 2))) ∧ (0 < i → ∀ c, 0 < c → c < n → (c - 1) / 2 = i → ¬ dless (gd H c) (gd H ((i - 1) / 2)))
theorem down_step {H : List Due} {i j n : Nat} (h : DownInv H i n) (hn : n ≤ H.length) (hj : j < n) (hp : (j - 1) / 2 = i) (h0 : 0 < j) (hl : dless (gd H j) (gd H i)) (hs : ∀ c, 0 < c → c < n → (c - 1) / 2 = i → ¬ dless (gd H c) (gd H j)) :
    DownInv (swp H i j) j n := by
  obtain ⟨h1, h2⟩ := h
  have hi : i < H.length := by omega
  have hjl : j < H.length := by omega
  have hne : i ≠ j := by omega
  have g := fun c => gd_swp (H := H) (i := i) (j := j) hi hjl c
  refine ⟨fun c hc0 hc hpc => ?_, fun _ c hc0 hc hpc => ?_⟩
  · rw [g, g]
    by_cases hcj : c = j
    · rw [if_pos hcj, hcj, hp, if_neg hne, if_pos rfl]; exact dless_asym hl
    · rw [if_neg hcj, if_neg hpc]
      by_cases hci : c = i
      · rw [if_pos hci]
        rw [hci] at hpc hc0 ⊢
        rw [if_neg (show ¬ (i - 1) / 2 = i by omega)]
        exact h2 hc0 j h0 hj hp
      · rw [if_neg hci]
        by_cases hpi : (c - 1) / 2 = i
        · rw [if_pos hpi]; exact hs c hc0 hc hpi
        · rw [if_neg hpi]; exact h1 c hc0 hc hpi
  · rw [g, g, if_neg (show ¬ c = j by omega), if_neg (show ¬ c = i by omega), if_neg (show ¬ (j - 1) / 2 = j by omega), if_pos hp]
    have := h1 c hc0 hc (by omega)
    rw [hpc] at this; exact this
theorem down_done {H : List Due} {i n : Nat} (h : DownInv H i n) (hs : ∀ c, 0 < c → c < n → (c - 1) / 2 = i → ¬ dless (gd H c) (gd H i)) : HeapTo H n := by
  intro c hc0 hc
  by_cases hp : (c - 1) / 2 = i
  · rw [hp]; exact hs c hc0 hc hp
  · exact h.1 c hc0 hc hp
theorem down_start {H : List Due} (h : HeapTo H H.length) (hn : 0 < H.length) : DownInv (swp H 0 (H.length - 1)) 0 (H.length - 1) := by
  have g := fun c => gd_swp (H := H) (i := 0) (j := H.length - 1) hn (by omega) c
  refine ⟨fun c hc0 hc hpc => ?_, fun h0 => by omega⟩
  rw [g, g, if_neg (by omega), if_neg (by omega), if_neg (by omega), if_neg hpc]
  exact h c hc0 (by omega)
end Go.Proofs.Ytgfphbehecpgpaa
