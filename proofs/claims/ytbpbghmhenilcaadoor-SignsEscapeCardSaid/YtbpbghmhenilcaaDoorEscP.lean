/- What is escaped, in plain words. No condition. -/
import Derived.Test.YtbpbghmhenilcaaDoorReplB
import Derived.Lib.Bytealg
namespace Go.Proofs.YtbpbghmhenilcaaDoor

/-- The place of a sign among the five. -/
def subIx (u : UInt8) : Option Nat := if u = 38 then some 0 else if u = 60 then some 1 else if u = 62 then some 2 else if u = 34 then some 3 else if u = 39 then some 4 else none
theorem subIx_some {u : UInt8} {j : Nat} (h : subIx u = some j) : j < 5 ∧ keyB j = u := by
  unfold subIx at h
  split at h
  · cases h; subst_vars; exact ⟨by decide, rfl⟩
  split at h
  · cases h; subst_vars; exact ⟨by decide, rfl⟩
  split at h
  · cases h; subst_vars; exact ⟨by decide, rfl⟩
  split at h
  · cases h; subst_vars; exact ⟨by decide, rfl⟩
  split at h
  · cases h; subst_vars; exact ⟨by decide, rfl⟩
  cases h
theorem subIx_key {j : Nat} (h : j < 5) : subIx (keyB j) = some j := by
  match j, h with
  | 0, _ => rfl
  | 1, _ => rfl
  | 2, _ => rfl
  | 3, _ => rfl
  | 4, _ => rfl
theorem subIx_none {u : UInt8} (h : subIx u = none) : ∀ j, j < 5 → (keyB j).toNat ≠ u.toNat := by
  intro j hj e
  have e2 : keyB j = u := UInt8.toNat_inj.1 e
  rw [← e2, subIx_key hj] at h
  cases h
/-- What stands for a byte. -/
def piece (u : UInt8) : List UInt8 := match subIx u with | some j => (txtB j).data.toList | none => [u]
theorem piece_some {u : UInt8} {j : Nat} (h : subIx u = some j) : piece u = (txtB j).data.toList := by unfold piece; rw [h]
theorem piece_none {u : UInt8} (h : subIx u = none) : piece u = [u] := by unfold piece; rw [h]
theorem piece_len (u : UInt8) : 1 ≤ (piece u).length ∧ (piece u).length ≤ 6 := by
  cases h : subIx u with
  | none => rw [piece_none h]; simp
  | some j =>
    rw [piece_some h]
    have := txt_size (subIx_some h).1
    have e : (txtB j).data.toList.length = (txtB j).size := by simp
    omega
def escL (l : List UInt8) : List UInt8 := l.flatMap piece
def escS (s : ByteArray) : ByteArray := ⟨(escL s.data.toList).toArray⟩
def anyS (l : List UInt8) : Bool := l.any fun u => (subIx u).isSome
theorem escL_nil : escL [] = [] := rfl
theorem escL_cons (u : UInt8) (l : List UInt8) : escL (u :: l) = piece u ++ escL l := rfl
theorem escL_append (k l : List UInt8) : escL (k ++ l) = escL k ++ escL l := List.flatMap_append
theorem escL_len (l : List UInt8) : l.length ≤ (escL l).length ∧ (escL l).length ≤ 6 * l.length := by
  induction l with
  | nil => exact ⟨Nat.le_refl _, Nat.le_refl _⟩
  | cons u l ih =>
    rw [escL_cons, List.length_append, List.length_cons]
    have := piece_len u
    omega
theorem escL_none {l : List UInt8} (h : anyS l = false) : escL l = l := by
  induction l with
  | nil => rfl
  | cons u l ih =>
    have h2 : (subIx u).isSome = false ∧ anyS l = false := by
      unfold anyS at h; rw [List.any_cons, Bool.or_eq_false_iff] at h; exact h
    rw [escL_cons, ih h2.2, piece_none (by simpa using h2.1)]; rfl
theorem take_succ_at {l : List UInt8} {i : Nat} (h : i < l.length) : l.take (i + 1) = l.take i ++ [l[i]] := by
  rw [List.take_add_one, List.getElem?_eq_getElem h]; rfl
theorem escL_step {l : List UInt8} {i : Nat} (h : i < l.length) : escL (l.take (i + 1)) = escL (l.take i) ++ piece l[i] := by
  rw [take_succ_at h, escL_append, escL_cons, escL_nil, List.append_nil]
theorem anyS_step {l : List UInt8} {i : Nat} (h : i < l.length) : anyS (l.take (i + 1)) = (anyS (l.take i) || (subIx l[i]).isSome) := by
  rw [take_succ_at h]; unfold anyS; rw [List.any_append]; simp
/-- The new size behind i bytes. -/
def nsz (l : List UInt8) (i : Nat) : Int := (l.length : Int) + (escL (l.take i)).length - i
theorem nsz_zero (l : List UInt8) : nsz l 0 = l.length := by unfold nsz; simp [escL_nil]
theorem nsz_all (l : List UInt8) : nsz l l.length = (escL l).length := by unfold nsz; rw [List.take_length]; omega
theorem nsz_some {l : List UInt8} {i j : Nat} (h : i < l.length) (hj : subIx l[i] = some j) : nsz l (i + 1) = nsz l i + ((txtB j).size - 1) := by
  unfold nsz
  rw [escL_step h, List.length_append, piece_some hj]
  have e : (txtB j).data.toList.length = (txtB j).size := by simp
  omega
theorem nsz_none {l : List UInt8} {i : Nat} (h : i < l.length) (hj : subIx l[i] = none) : nsz l (i + 1) = nsz l i := by
  unfold nsz
  rw [escL_step h, List.length_append, piece_none hj, List.length_singleton]
  omega
theorem nsz_bd (l : List UInt8) {i : Nat} (h : i ≤ l.length) : 0 ≤ nsz l i ∧ nsz l i ≤ 6 * l.length := by
  unfold nsz
  have := escL_len (l.take i)
  rw [List.length_take, Nat.min_eq_left h] at this
  omega
/-- .. counted, key by key from the last. -/
def csz (l : List UInt8) : Nat → Int
  | 0 => l.length
  | r + 1 => csz l r + (Lib.countByte l (keyB (4 - r)) : Int) * ((txtB (4 - r)).size - 1)
def cany (l : List UInt8) : Nat → Bool
  | 0 => false
  | r + 1 => cany l r || decide (Lib.countByte l (keyB (4 - r)) ≠ 0)
theorem csz_all (l : List UInt8) : csz l 5 = (escL l).length := by
  induction l with
  | nil => rfl
  | cons u l ih =>
    simp only [csz, Lib.countByte, keyB, List.count_cons, List.length_cons] at ih ⊢
    rw [escL_cons, List.length_append]
    have e0 : ((txtB 4).size : Int) = 6 := rfl
    have e1 : ((txtB 3).size : Int) = 6 := rfl
    have e2 : ((txtB 2).size : Int) = 4 := rfl
    have e3 : ((txtB 1).size : Int) = 4 := rfl
    have e4 : ((txtB 0).size : Int) = 5 := rfl
    simp only [Nat.sub_zero, Nat.reduceSub, e0, e1, e2, e3, e4] at ih ⊢
    by_cases h0 : u = 38
    · subst h0; rw [show (piece 38).length = 5 from rfl]; simp; omega
    by_cases h1 : u = 60
    · subst h1; rw [show (piece 60).length = 4 from rfl]; simp; omega
    by_cases h2 : u = 62
    · subst h2; rw [show (piece 62).length = 4 from rfl]; simp; omega
    by_cases h3 : u = 34
    · subst h3; rw [show (piece 34).length = 6 from rfl]; simp; omega
    by_cases h4 : u = 39
    · subst h4; rw [show (piece 39).length = 6 from rfl]; simp; omega
    have hn : subIx u = none := by unfold subIx; rw [if_neg h0, if_neg h1, if_neg h2, if_neg h3, if_neg h4]
    rw [piece_none hn, List.length_singleton]
    simp [h0, h1, h2, h3, h4]
    omega
theorem csz_bd (l : List UInt8) : ∀ r, (l.length : Int) ≤ csz l r ∧ csz l r ≤ (l.length : Int) + 5 * r * l.length
  | 0 => by simp [csz]
  | r + 1 => by
    have ih := csz_bd l r
    have hc : Lib.countByte l (keyB (4 - r)) ≤ l.length := List.count_le_length
    obtain ⟨s1, s2⟩ := txt_size (j := 4 - r) (by omega)
    rw [csz]
    obtain ⟨c, hcc⟩ : ∃ c, c = Lib.countByte l (keyB (4 - r)) := ⟨_, rfl⟩
    obtain ⟨z, hz⟩ : ∃ z : Nat, z + 1 = (txtB (4 - r)).size := ⟨(txtB (4 - r)).size - 1, by omega⟩
    rw [← hcc] at hc ⊢
    have e : ((txtB (4 - r)).size : Int) - 1 = z := by omega
    rw [e]
    have h1 : (c : Int) * z ≤ (l.length : Int) * 5 := Int.mul_le_mul (by omega) (by omega) (by omega) (by omega)
    have h0 : 0 ≤ (c : Int) * z := Int.mul_nonneg (by omega) (by omega)
    have e2 : (5 * ((r + 1 : Nat) : Int)) * l.length = 5 * (r : Int) * l.length + (l.length : Int) * 5 := by
      rw [Int.natCast_add, Int.mul_add, Int.add_mul]; omega
    omega
theorem cany_all (l : List UInt8) : cany l 5 = anyS l := by
  rw [Bool.eq_iff_iff]
  simp only [cany, Lib.countByte, Bool.or_eq_true, Bool.false_eq_true, false_or]
  constructor
  · intro h
    have go : ∀ j, j < 5 → List.count (keyB j) l ≠ 0 → anyS l = true := fun j hj hc => by
      unfold anyS
      rw [List.any_eq_true]
      exact ⟨keyB j, List.count_pos_iff.1 (by omega), by rw [subIx_key hj]; rfl⟩
    rcases h with (((h | h) | h) | h) | h
    · exact go 4 (by omega) (of_decide_eq_true h)
    · exact go 3 (by omega) (of_decide_eq_true h)
    · exact go 2 (by omega) (of_decide_eq_true h)
    · exact go 1 (by omega) (of_decide_eq_true h)
    · exact go 0 (by omega) (of_decide_eq_true h)
  · intro h
    unfold anyS at h
    obtain ⟨u, hu, hs⟩ := List.any_eq_true.1 h
    obtain ⟨j, hj⟩ := Option.isSome_iff_exists.1 hs
    obtain ⟨h5, hk⟩ := subIx_some hj
    have hc : List.count (keyB j) l ≠ 0 := by
      rw [hk]; have := List.count_pos_iff.2 hu; omega
    match j, h5, hc with
    | 0, _, hc => exact Or.inr (decide_eq_true hc)
    | 1, _, hc => exact Or.inl (Or.inr (decide_eq_true hc))
    | 2, _, hc => exact Or.inl (Or.inl (Or.inr (decide_eq_true hc)))
    | 3, _, hc => exact Or.inl (Or.inl (Or.inl (Or.inr (decide_eq_true hc))))
    | 4, _, hc => exact Or.inl (Or.inl (Or.inl (Or.inl (decide_eq_true hc))))
end Go.Proofs.YtbpbghmhenilcaaDoor
