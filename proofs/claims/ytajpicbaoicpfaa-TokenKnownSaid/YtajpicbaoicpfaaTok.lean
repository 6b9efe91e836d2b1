/- Tokens: numbers below 2^64 as 13 signs of 5 bits each, and back. Plain arithmetic on lists of bytes, no program. No condition. -/
import Derived.WalkKit
namespace Go.Proofs.Ytajpicbaoicpfaa

/-- The sign of a digit; a sign's digit. -/
def sg (d : Nat) : UInt8 := if d < 10 then UInt8.ofNat (48 + d) else UInt8.ofNat (87 + d)
def dg (c : UInt8) : Option Nat := if 48 ≤ c.toNat ∧ c.toNat ≤ 57 then some (c.toNat - 48) else if 97 ≤ c.toNat ∧ c.toNat ≤ 118 then some (c.toNat - 87) else none
/-- The digit, or -1. -/
def dgI (c : UInt8) : Int := match dg c with | some d => d | none => -1
theorem sg_nat {d : Nat} (h : d < 32) : (sg d).toNat = if d < 10 then 48 + d else 87 + d := by
  unfold sg
  split
  · rw [UInt8.toNat_ofNat']; exact Nat.mod_eq_of_lt (by omega)
  · rw [UInt8.toNat_ofNat']; exact Nat.mod_eq_of_lt (by omega)
theorem dg_sg {d : Nat} (h : d < 32) : dg (sg d) = some d := by
  unfold dg
  rw [sg_nat h]
  split
  · rw [if_pos (by omega)]; congr 1; omega
  · rw [if_neg (by omega), if_pos (by omega)]; congr 1; omega
theorem dg_lt {c : UInt8} {d : Nat} (h : dg c = some d) : d < 32 := by
  unfold dg at h
  split at h
  · cases h; omega
  · split at h
    · cases h; omega
    · cases h
theorem sg_dg {c : UInt8} {d : Nat} (h : dg c = some d) : sg d = c := by
  apply UInt8.toNat_inj.1
  rw [sg_nat (dg_lt h)]
  unfold dg at h
  split at h
  · cases h; rw [if_pos (by omega)]; omega
  · split at h
    · cases h; rw [if_neg (by omega)]; omega
    · cases h
theorem dg_mono {c c' : UInt8} {d d' : Nat} (h : dg c = some d) (h' : dg c' = some d') : c < c' ↔ d < d' := by
  rw [UInt8.lt_iff_toNat_lt, ← sg_dg h, ← sg_dg h', sg_nat (dg_lt h), sg_nat (dg_lt h')]
  split <;> split <;> omega
theorem dgI_some {c : UInt8} {d : Nat} (h : dg c = some d) : dgI c = d := by unfold dgI; rw [h]
theorem dgI_none {c : UInt8} (h : dg c = none) : dgI c = -1 := by unfold dgI; rw [h]
theorem dgI_nonneg {c : UInt8} (h : 0 ≤ dgI c) : ∃ d, dg c = some d ∧ dgI c = d ∧ d < 32 := by
  cases hc : dg c with
  | none => rw [dgI_none hc] at h; omega
  | some d => exact ⟨d, rfl, dgI_some hc, dg_lt hc⟩

/-- k signs of a number. -/
def tokk (n : Nat) : Nat → List UInt8
  | 0 => []
  | k + 1 => tokk (n / 32) k ++ [sg (n % 32)]
def tok (n : Nat) : List UInt8 := tokk n 13
def vlA (a : Nat) (s : List UInt8) : Nat := s.foldl (fun n c => 32 * n + (dg c).getD 0) a
def vl (s : List UInt8) : Nat := vlA 0 s
def digs (s : List UInt8) : Prop := ∀ c ∈ s, ∃ d, dg c = some d
theorem tokk_len (n k : Nat) : (tokk n k).length = k := by
  induction k generalizing n with
  | zero => rfl
  | succ k ih => unfold tokk; simp [ih]
theorem tok_len (n : Nat) : (tok n).length = 13 := tokk_len n 13
theorem tokk_digs (n k : Nat) : digs (tokk n k) := by
  induction k generalizing n with
  | zero => intro c hc; cases hc
  | succ k ih =>
    intro c hc
    unfold tokk at hc
    rcases List.mem_append.1 hc with hc | hc
    · exact ih _ c hc
    · rw [List.mem_singleton] at hc; subst hc
      exact ⟨_, dg_sg (Nat.mod_lt _ (by omega))⟩
theorem vl_snoc (s : List UInt8) (c : UInt8) : vl (s ++ [c]) = 32 * vl s + (dg c).getD 0 := by
  unfold vl vlA; rw [List.foldl_append]; rfl
theorem vl_tokk (n k : Nat) : vl (tokk n k) = n % 32 ^ k := by
  induction k generalizing n with
  | zero => rw [Nat.pow_zero, Nat.mod_one]; rfl
  | succ k ih =>
    unfold tokk
    rw [vl_snoc, ih, dg_sg (Nat.mod_lt _ (by omega)), Nat.pow_succ, Nat.mul_comm (32 ^ k) 32, Nat.mod_mul]
    show 32 * (n / 32 % 32 ^ k) + n % 32 = _
    omega
theorem vl_tok {n : Nat} (h : n < 2 ^ 64) : vl (tok n) = n := by
  unfold tok; rw [vl_tokk]; exact Nat.mod_eq_of_lt (by omega)
theorem vlA_eq (a : Nat) (s : List UInt8) : vlA a s = a * 32 ^ s.length + vl s := by
  induction s generalizing a with
  | nil => show a = a * 1 + 0; omega
  | cons c s ih =>
    show vlA (32 * a + (dg c).getD 0) s = a * 32 ^ (s.length + 1) + vlA (32 * 0 + (dg c).getD 0) s
    rw [ih, ih (32 * 0 + (dg c).getD 0), Nat.pow_succ, Nat.add_mul, Nat.add_mul]
    have : 32 * a * 32 ^ s.length = a * (32 ^ s.length * 32) := by rw [Nat.mul_comm 32 a, Nat.mul_assoc, Nat.mul_comm 32]
    omega
theorem vl_cons (c : UInt8) (s : List UInt8) : vl (c :: s) = (dg c).getD 0 * 32 ^ s.length + vl s := by
  show vlA (32 * 0 + (dg c).getD 0) s = _
  rw [vlA_eq]; simp
theorem dg_getD (c : UInt8) : (dg c).getD 0 < 32 := by
  cases h : dg c with
  | none => decide
  | some d => exact dg_lt h
theorem vl_lt (s : List UInt8) : vl s < 32 ^ s.length := by
  induction s with
  | nil => decide
  | cons c s ih =>
    rw [vl_cons, List.length_cons, Nat.pow_succ]
    have h1 := dg_getD c
    have h2 : (dg c).getD 0 * 32 ^ s.length ≤ 31 * 32 ^ s.length := Nat.mul_le_mul_right _ (by omega)
    omega
theorem digs_snoc {s : List UInt8} {c : UInt8} (h : digs (s ++ [c])) : digs s ∧ ∃ d, dg c = some d :=
  ⟨fun x hx => h x (List.mem_append.2 (.inl hx)), h c (by simp)⟩
theorem tokk_vl (k : Nat) : ∀ (s : List UInt8), s.length = k → digs s → tokk (vl s) k = s := by
  induction k with
  | zero => intro s hs _; rw [List.length_eq_zero_iff] at hs; subst hs; rfl
  | succ k ih =>
    intro s hs hd
    obtain ⟨t, c, rfl⟩ : ∃ t c, s = t ++ [c] := by
      refine ⟨s.dropLast, s.getLast (by intro h; rw [h] at hs; cases hs), (List.dropLast_concat_getLast _).symm⟩
    obtain ⟨h1, d, h2⟩ := digs_snoc hd
    have hl : t.length = k := by simpa using hs
    unfold tokk
    have hdl := dg_lt h2
    rw [vl_snoc, h2]
    show tokk ((32 * vl t + d) / 32) k ++ [sg ((32 * vl t + d) % 32)] = _
    rw [show (32 * vl t + d) / 32 = vl t by omega, show (32 * vl t + d) % 32 = d by omega, ih t hl h1, sg_dg h2]
theorem tok_vl {s : List UInt8} (h : s.length = 13) (hd : digs s) : tok (vl s) = s := tokk_vl 13 s h hd
theorem tok_inj {a b : Nat} (ha : a < 2 ^ 64) (hb : b < 2 ^ 64) (h : tok a = tok b) : a = b := by
  rw [← vl_tok ha, ← vl_tok hb, h]
/-- A text of less signs is less. -/
theorem vl_mono : ∀ {s t : List UInt8}, s.length = t.length → digs s → digs t → s < t → vl s < vl t := by
  intro s
  induction s with
  | nil => intro t hl _ _ h; cases t with
    | nil => exact absurd h (List.lt_irrefl _)
    | cons _ _ => cases hl
  | cons c s ih =>
    intro t hl hs ht h
    cases t with
    | nil => cases hl
    | cons c' t =>
      have hl' : s.length = t.length := by simpa using hl
      obtain ⟨d, hd⟩ := hs c (by simp)
      obtain ⟨d', hd'⟩ := ht c' (by simp)
      rw [vl_cons, vl_cons, hd, hd', hl']
      show d * _ + _ < d' * _ + _
      have b1 := vl_lt s
      rw [hl'] at b1
      rcases List.cons_lt_cons_iff.1 h with h | ⟨rfl, h'⟩
      · have : d < d' := (dg_mono hd hd').1 h
        have h2 : (d + 1) * 32 ^ t.length ≤ d' * 32 ^ t.length := Nat.mul_le_mul_right _ this
        rw [Nat.add_mul] at h2
        omega
      · rw [hd] at hd'; cases hd'
        have := ih hl' (fun x hx => hs x (by simp [hx])) (fun x hx => ht x (by simp [hx])) h'
        omega
theorem tok_digs (n : Nat) : digs (tok n) := tokk_digs n 13
theorem tok_lt {a b : Nat} (ha : a < 2 ^ 64) (hb : b < 2 ^ 64) : tok a < tok b ↔ a < b := by
  constructor
  · intro h
    have := vl_mono (by rw [tok_len, tok_len]) (tok_digs a) (tok_digs b) h
    rwa [vl_tok ha, vl_tok hb] at this
  · intro h
    apply Classical.byContradiction
    intro hn
    have hle : tok b ≤ tok a := hn
    rcases List.le_iff_lt_or_eq.1 hle with h1 | h1
    · have := vl_mono (by rw [tok_len, tok_len]) (tok_digs b) (tok_digs a) h1
      rw [vl_tok ha, vl_tok hb] at this
      omega
    · have := tok_inj hb ha h1
      omega
/-- The number of a text. -/
def rd (s : List UInt8) : Option Nat := if s.length = 13 ∧ (∀ c ∈ s, (dg c).isSome = true) ∧ vl s < 2 ^ 64 then some (vl s) else none
theorem digs_iff {s : List UInt8} : digs s ↔ ∀ c ∈ s, (dg c).isSome = true := by
  constructor
  · intro h c hc; obtain ⟨d, hd⟩ := h c hc; rw [hd]; rfl
  · intro h c hc; exact Option.isSome_iff_exists.1 (h c hc)
theorem rd_tok {n : Nat} (h : n < 2 ^ 64) : rd (tok n) = some n := by
  unfold rd
  rw [if_pos ⟨tok_len n, digs_iff.1 (tok_digs n), by rw [vl_tok h]; exact h⟩, vl_tok h]
theorem rd_some {s : List UInt8} {m : Nat} (h : rd s = some m) : tok m = s ∧ m < 2 ^ 64 := by
  unfold rd at h
  split at h
  · rename_i hh
    cases h
    exact ⟨tok_vl hh.1 (digs_iff.2 hh.2.1), hh.2.2⟩
  · cases h
/-- By way of what is left of the number in 64 bits. -/
theorem rd_way {s : List UInt8} (hl : s.length = 13) (hd : digs s) : rd s = if tok (vl s % 2 ^ 64) = s then some (vl s % 2 ^ 64) else none := by
  by_cases hv : vl s < 2 ^ 64
  · rw [Nat.mod_eq_of_lt hv, if_pos (tok_vl hl hd)]
    unfold rd
    rw [if_pos ⟨hl, digs_iff.1 hd, hv⟩]
  · rw [if_neg]
    · unfold rd; rw [if_neg (fun h => hv h.2.2)]
    · intro e
      have h1 := vl_tok (n := vl s % 2 ^ 64) (Nat.mod_lt _ (by decide))
      rw [e] at h1
      have := Nat.mod_lt (vl s) (show 0 < 2 ^ 64 by decide)
      omega
theorem rd_bad {s : List UInt8} {i : Nat} (hi : i < s.length) (h : dg s[i] = none) : rd s = none := by
  unfold rd
  rw [if_neg]
  rintro ⟨_, hd, _⟩
  have := hd s[i] (List.getElem_mem hi)
  rw [h] at this; cases this
theorem rd_len {s : List UInt8} (h : s.length ≠ 13) : rd s = none := by unfold rd; rw [if_neg (fun hh => h hh.1)]
theorem rd_first {s : List UInt8} (hi : 0 < s.length) {d : Nat} (h : dg s[0] = some d) (hd : 15 < d) : rd s = none := by
  unfold rd
  rw [if_neg]
  rintro ⟨hl, _, hv⟩
  cases s with
  | nil => cases hl
  | cons c s =>
    have h' : dg c = some d := h
    have hl' : s.length = 12 := by simpa using hl
    rw [vl_cons, h', hl'] at hv
    have h2 : 16 * 32 ^ 12 ≤ d * 32 ^ 12 := Nat.mul_le_mul_right _ (by omega)
    have h3 : (Option.some d).getD 0 = d := rfl
    rw [h3] at hv
    omega
theorem rd_way2 {s : List UInt8} (hl : s.length = 13) (hd : digs s) (hf : ∀ d, dg (s[0]'(by omega)) = some d → d ≤ 15) : rd s = some (vl s) ∧ vl s < 2 ^ 64 := by
  have hv : vl s < 2 ^ 64 := by
    cases s with
    | nil => cases hl
    | cons c s =>
      obtain ⟨d, h⟩ := hd c (by simp)
      have h15 := hf d h
      have hl' : s.length = 12 := by simpa using hl
      rw [vl_cons, h, hl']
      have h2 : d * 32 ^ 12 ≤ 15 * 32 ^ 12 := Nat.mul_le_mul_right _ h15
      have h4 := vl_lt s
      rw [hl'] at h4
      have h3 : (Option.some d).getD 0 = d := rfl
      rw [h3]
      omega
  refine ⟨?_, hv⟩
  unfold rd
  rw [if_pos ⟨hl, digs_iff.1 hd, hv⟩]
theorem digs_take {s : List UInt8} {k : Nat} (hk : k < s.length) (h : digs (s.take k)) {d : Nat} (hd : dg s[k] = some d) : digs (s.take (k + 1)) := by
  rw [List.take_succ_eq_append_getElem hk]
  intro c hc
  rcases List.mem_append.1 hc with hc | hc
  · exact h c hc
  · rw [List.mem_singleton] at hc; subst hc; exact ⟨d, hd⟩
theorem vl_take {s : List UInt8} {k : Nat} (hk : k < s.length) {d : Nat} (hd : dg s[k] = some d) : vl (s.take (k + 1)) = 32 * vl (s.take k) + d := by
  rw [List.take_succ_eq_append_getElem hk, vl_snoc, hd]; rfl
end Go.Proofs.Ytajpicbaoicpfaa
