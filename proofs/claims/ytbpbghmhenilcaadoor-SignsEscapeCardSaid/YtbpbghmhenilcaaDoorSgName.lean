/- Names, in plain words. No condition. -/
import Derived.Test.YtbpbghmhenilcaaDoorSgLives
namespace Go.Proofs.YtbpbghmhenilcaaDoor

theorem okFrom_iff (l : List Nat) : ∀ n, okFrom l n = true ↔ ∀ i, i < n → okAt i (l.getD i 0) = true
  | 0 => ⟨fun _ i h => by omega, fun _ => rfl⟩
  | n + 1 => by
    rw [okFrom, Bool.and_eq_true, okFrom_iff l n]
    constructor
    · intro ⟨h1, h2⟩ i hi
      by_cases e : i = n
      · rw [e]; exact h2
      · exact h1 i (by omega)
    · intro h
      exact ⟨fun i hi => h i (by omega), h n (by omega)⟩
theorem name_iff (s : ByteArray) : nameS s = true ↔ (∀ i, i < s.size → okAt i (s.data.toList.getD i 0).toNat = true) ∧ 1 ≤ s.size ∧ s.size ≤ 16 := by
  unfold nameS
  rw [Bool.and_eq_true, okFrom_iff, decide_eq_true_iff]
  have e : ∀ i, i < s.size → (strB s).getD i 0 = (s.data.toList.getD i 0).toNat := fun i hi => by
    have : s.data.toList.length = s.size := (Lib.size_eq s).symm
    unfold strB
    simp [List.getD, this, hi]
  constructor
  · intro ⟨h1, h2⟩
    exact ⟨fun i hi => by rw [← e i hi]; exact h1 i hi, h2⟩
  · intro ⟨h1, h2⟩
    exact ⟨fun i hi => by rw [e i hi]; exact h1 i hi, h2⟩
theorem name_take {s : ByteArray} (h : nameS s = true) (k : Nat) (h1 : 1 ≤ k) (hk : k ≤ s.size) : nameS (s.extract 0 k) = true := by
  obtain ⟨a, b, c⟩ := (name_iff s).1 h
  have hz : (s.extract 0 k).size = k := by rw [ByteArray.size_extract]; omega
  refine (name_iff _).2 ⟨fun i hi => ?_, by omega, by omega⟩
  rw [ext_take, Lib.getD_takeU _ _ _ (by omega)]
  exact a i (by omega)
theorem getD_last (l : List UInt8) (c : UInt8) : (l ++ [c]).getD l.length 0 = c := by simp [List.getD]
theorem name_more {s : ByteArray} (h : nameS s = true) (c : UInt8) : nameS (s ++ ⟨#[c]⟩) = ((letterN c.toNat || otherN c.toNat) && decide (s.size < 16)) := by
  obtain ⟨a, b, d⟩ := (name_iff s).1 h
  have hl : s.data.toList.length = s.size := (Lib.size_eq s).symm
  have hz : (s ++ ⟨#[c]⟩ : ByteArray).size = s.size + 1 := by rw [ByteArray.size_append]; rfl
  have hlist : (s ++ ⟨#[c]⟩ : ByteArray).data.toList = s.data.toList ++ [c] := by simp
  rw [Bool.eq_iff_iff, name_iff, hz, hlist, Bool.and_eq_true, decide_eq_true_iff]
  constructor
  · intro ⟨h1, _, h3⟩
    refine ⟨?_, by omega⟩
    have := h1 s.size (by omega)
    rw [← hl, getD_last] at this
    rw [hl] at this
    unfold okAt at this
    rw [decide_eq_true (by omega : s.size ≠ 0), Bool.true_and] at this
    exact this
  · intro ⟨h1, h2⟩
    refine ⟨fun i hi => ?_, by omega, by omega⟩
    by_cases e : i = s.size
    · rw [e, ← hl, getD_last, hl]
      unfold okAt
      rw [decide_eq_true (by omega : s.size ≠ 0), Bool.true_and]
      exact h1
    · rw [getD_app (by omega)]
      exact a i (by omega)
theorem name_zero (s : ByteArray) : nameS (⟨#[48]⟩ ++ s) = false := by
  cases h : nameS (⟨#[48]⟩ ++ s) with
  | false => rfl
  | true =>
    obtain ⟨a, b, d⟩ := (name_iff _).1 h
    have := a 0 (by omega)
    have hlist : ((⟨#[48]⟩ : ByteArray) ++ s).data.toList = 48 :: s.data.toList := by simp
    rw [hlist, show (48 :: s.data.toList).getD 0 0 = (48 : UInt8) from rfl] at this
    revert this; decide
theorem name_one {s : ByteArray} (h : nameS s = false) (h1 : s.size = 1) : ¬ (97 ≤ (s.data.toList.getD 0 0).toNat ∧ (s.data.toList.getD 0 0).toNat ≤ 122) := by
  intro hc
  have : nameS s = true := by
    refine (name_iff s).2 ⟨fun i hi => ?_, by omega, by omega⟩
    obtain rfl : i = 0 := by omega
    unfold okAt letterN
    rw [decide_eq_true hc]; rfl
  rw [this] at h; cases h
theorem sg_ascii {c : UInt8} {l : List UInt8} (h : c.toNat < 128) : sg (c :: l) = (c.toNat, 1) := by
  unfold sg
  exact SgI.det (.one (by simp) h)
theorem right_ascii {c : UInt8} {l : List UInt8} (h : c.toNat < 128) (hm : mayS c.toNat = true) : rightL (c :: l) = rightL l := by
  have e := sg_ascii (l := l) h
  have ho : okS (c :: l) = true := by
    unfold okS; rw [e]; simp only [hm, Bool.and_true]; rfl
  have hw : wid (c :: l) = 1 := by unfold wid; rw [e]; rfl
  rw [right_cons ho, hw]; rfl
/-- A byte that may stand in a name. -/
theorem name_byte {i c : Nat} (h : okAt i c = true) : (45 ≤ c ∧ c ≤ 58) ∨ (97 ≤ c ∧ c ≤ 122) := by
  unfold okAt letterN otherN at h
  simp at h
  omega
theorem plain_right : ∀ (l : List UInt8), (∀ c ∈ l, (45 ≤ c.toNat ∧ c.toNat ≤ 58) ∨ (97 ≤ c.toNat ∧ c.toNat ≤ 122)) → rightL l = true ∧ escL l = l
  | [], _ => ⟨rfl, rfl⟩
  | c :: l, h => by
    have hc := h c (List.mem_cons_self ..)
    obtain ⟨i1, i2⟩ := plain_right l (fun d hd => h d (List.mem_cons_of_mem _ hd))
    refine ⟨?_, ?_⟩
    · rw [right_ascii (by omega) (by unfold mayS; exact decide_eq_true (by omega))]; exact i1
    · have hn : subIx c = none := by
        have e : ∀ d : UInt8, d.toNat < 45 ∨ (58 < d.toNat ∧ d.toNat < 97) → c ≠ d := fun d hd e => by rw [e] at hc; omega
        unfold subIx
        rw [if_neg (e 38 (by decide)), if_neg (e 60 (by decide)), if_neg (e 62 (by decide)), if_neg (e 34 (by decide)), if_neg (e 39 (by decide))]
      rw [escL_cons, piece_none hn, i2]; rfl
theorem name_esc {s : ByteArray} (h : nameS s = true) : escV s = .tuple #[.string s, .int .i64 0] := by
  obtain ⟨a, b, d⟩ := (name_iff s).1 h
  have hl : s.data.toList.length = s.size := (Lib.size_eq s).symm
  have hp := plain_right s.data.toList (fun c hc => by
    obtain ⟨i, hi, rfl⟩ := List.getElem_of_mem hc
    have := name_byte (a i (by omega))
    rw [show s.data.toList.getD i 0 = s.data.toList[i] by rw [List.getD, List.getElem?_eq_getElem hi]; rfl] at this
    exact this)
  unfold escV escS
  rw [rightS_eq, hp.1, hp.2, if_pos rfl]
end Go.Proofs.YtbpbghmhenilcaaDoor
