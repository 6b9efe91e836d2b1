/- What others stand for, byte by byte, in plain words. No condition. -/
import Derived.Test.YtbpbghmhenilcaaDoorSgName
namespace Go.Proofs.YtbpbghmhenilcaaDoor

/-- The names of the five signs. -/
def nameB : Nat → List UInt8
  | 0 => [97, 109, 112]
  | 1 => [108, 116]
  | 2 => [103, 116]
  | 3 => [113, 117, 111, 116]
  | _ => [97, 112, 111, 115]
theorem txt_name {j : Nat} (h : j < 5) : (txtB j).data.toList = 38 :: (nameB j ++ [59]) := by
  match j, h with
  | 0, _ => rfl
  | 1, _ => rfl
  | 2, _ => rfl
  | 3, _ => rfl
  | 4, _ => rfl
theorem name_semi (j : Nat) : (59 : UInt8) ∉ nameB j := by
  match j with
  | 0 => decide
  | 1 => decide
  | 2 => decide
  | 3 => decide
  | n + 4 => show (59 : UInt8) ∉ [97, 112, 111, 115]; decide
/-- Which name stands here, ended. -/
def entAt (l : List UInt8) : Option Nat := if (nameB 0 ++ [59]).isPrefixOf l then some 0 else if (nameB 1 ++ [59]).isPrefixOf l then some 1 else if (nameB 2 ++ [59]).isPrefixOf l then some 2 else if (nameB 3 ++ [59]).isPrefixOf l then some 3 else if (nameB 4 ++ [59]).isPrefixOf l then some 4 else none
theorem prefix_semi : ∀ (a b t : List UInt8), 59 ∉ a → 59 ∉ b → (a ++ [59]).isPrefixOf (b ++ 59 :: t) = decide (a = b)
  | [], [], t, _, _ => by simp [List.isPrefixOf]
  | [], c :: b, t, _, hb => by
    simp only [List.mem_cons, not_or] at hb
    simp [List.isPrefixOf, hb.1]
  | c :: a, [], t, ha, _ => by
    simp only [List.mem_cons, not_or] at ha
    have : c ≠ 59 := fun e => ha.1 e.symm
    simp [List.isPrefixOf, this]
  | c :: a, d :: b, t, ha, hb => by
    simp only [List.mem_cons, not_or] at ha hb
    have ih := prefix_semi a b t ha.2 hb.2
    simp only [List.cons_append, List.isPrefixOf, ih]
    by_cases h : c = d
    · subst h; simp
    · simp [h]
theorem no_semi : ∀ (a l : List UInt8), 59 ∉ l → (a ++ [59]).isPrefixOf l = false
  | a, [], _ => by cases a <;> rfl
  | [], d :: l, h => by
    simp only [List.mem_cons, not_or] at h
    simp [List.isPrefixOf, h.1]
  | c :: a, d :: l, h => by
    simp only [List.mem_cons, not_or] at h
    simp only [List.cons_append, List.isPrefixOf, no_semi a l h.2, Bool.and_false]
/-- Its place among the five. -/
def namedIx (l : List UInt8) : Option Nat := if nameB 0 = l then some 0 else if nameB 1 = l then some 1 else if nameB 2 = l then some 2 else if nameB 3 = l then some 3 else if nameB 4 = l then some 4 else none
theorem ent_named (nm t : List UInt8) (h : 59 ∉ nm) : entAt (nm ++ 59 :: t) = namedIx nm := by
  unfold entAt namedIx
  simp only [prefix_semi _ _ _ (name_semi _) h, decide_eq_true_eq]
theorem ent_none (l : List UInt8) (h : 59 ∉ l) : entAt l = none := by
  unfold entAt
  simp only [no_semi _ _ h, Bool.false_eq_true, if_false]
theorem named_ix (l : List UInt8) : namedS ⟨l.toArray⟩ = (namedIx l).map fun j => ⟨#[keyB j]⟩ := by
  have e : ∀ k : List UInt8, k ≠ l → (⟨l.toArray⟩ : ByteArray) ≠ ⟨k.toArray⟩ := fun k hk h => by injection h with h2; have := congrArg Array.toList h2; simp at this; exact hk this.symm
  by_cases h0 : nameB 0 = l
  · subst h0; rfl
  by_cases h1 : nameB 1 = l
  · subst h1; rfl
  by_cases h2 : nameB 2 = l
  · subst h2; rfl
  by_cases h3 : nameB 3 = l
  · subst h3; rfl
  by_cases h4 : nameB 4 = l
  · subst h4; rfl
  unfold namedS namedIx
  rw [if_neg (show ¬ ((⟨l.toArray⟩ : ByteArray) = ⟨#[97, 109, 112]⟩) from e _ h0), if_neg (show ¬ ((⟨l.toArray⟩ : ByteArray) = ⟨#[108, 116]⟩) from e _ h1), if_neg (show ¬ ((⟨l.toArray⟩ : ByteArray) = ⟨#[103, 116]⟩) from e _ h2), if_neg (show ¬ ((⟨l.toArray⟩ : ByteArray) = ⟨#[113, 117, 111, 116]⟩) from e _ h3), if_neg (show ¬ ((⟨l.toArray⟩ : ByteArray) = ⟨#[97, 112, 111, 115]⟩) from e _ h4), if_neg h0, if_neg h1, if_neg h2, if_neg h3, if_neg h4]
  rfl
theorem namedIx_lt {l : List UInt8} {j : Nat} (h : namedIx l = some j) : j < 5 ∧ l = nameB j := by
  unfold namedIx at h
  repeat' split at h
  all_goals first | (cases h; done) | (cases h; exact ⟨by omega, by simp [*]⟩)
/-- What is read, byte by byte. -/
def unB : Nat → List UInt8 → Option (List UInt8)
  | 0, _ => some []
  | _ + 1, [] => some []
  | f + 1, c :: r =>
    if c = 60 then none
    else if c = 38 then
      (match entAt r with
       | some j => (unB f (r.drop ((nameB j).length + 1))).map (keyB j :: ·)
       | none => none)
    else (unB f r).map (c :: ·)
theorem unB_fuel : ∀ (f g : Nat) (l : List UInt8), l.length ≤ f → l.length ≤ g → unB f l = unB g l
  | 0, g, l, hf, _ => by
    obtain rfl : l = [] := List.eq_nil_of_length_eq_zero (by omega)
    cases g <;> rfl
  | f + 1, 0, l, _, hg => by
    obtain rfl : l = [] := List.eq_nil_of_length_eq_zero (by omega)
    rfl
  | f + 1, g + 1, [], _, _ => rfl
  | f + 1, g + 1, c :: r, hf, hg => by
    simp only [List.length_cons] at hf hg
    rw [unB, unB, unB_fuel f g r (by omega) (by omega)]
    have e : ∀ k, unB f (r.drop k) = unB g (r.drop k) := fun k => unB_fuel f g _ (by rw [List.length_drop]; omega) (by rw [List.length_drop]; omega)
    simp only [e]
def unL (l : List UInt8) : Option (List UInt8) := unB l.length l
theorem unL_nil : unL [] = some [] := rfl
theorem unL_cons (c : UInt8) (r : List UInt8) : unL (c :: r) = if c = 60 then none else if c = 38 then (match entAt r with | some j => (unL (r.drop ((nameB j).length + 1))).map (keyB j :: ·) | none => none) else (unL r).map (c :: ·) := by
  have e : ∀ k, unB r.length (r.drop k) = unL (r.drop k) := fun k => unB_fuel _ _ _ (by rw [List.length_drop]; omega) (Nat.le_refl _)
  unfold unL at e ⊢
  rw [List.length_cons, unB]
  simp only [e]
theorem unL_plain {c : UInt8} (r : List UInt8) (h1 : c ≠ 60) (h2 : c ≠ 38) : unL (c :: r) = (unL r).map (c :: ·) := by rw [unL_cons, if_neg h1, if_neg h2]
theorem unL_some {r : List UInt8} {j : Nat} (h : entAt r = some j) : unL (38 :: r) = (unL (r.drop ((nameB j).length + 1))).map (keyB j :: ·) := by
  rw [unL_cons, if_neg (by decide), if_pos rfl, h]
theorem unL_none {r : List UInt8} (h : entAt r = none) : unL (38 :: r) = none := by
  rw [unL_cons, if_neg (by decide), if_pos rfl, h]
/-- Bytes that stand for themselves. -/
theorem unL_skip : ∀ (h r : List UInt8), 38 ∉ h → 60 ∉ h → unL (h ++ r) = (unL r).map (h ++ ·)
  | [], r, _, _ => by simp
  | c :: h, r, h1, h2 => by
    simp only [List.mem_cons, not_or] at h1 h2
    rw [List.cons_append, unL_plain _ (fun e => h2.1 e.symm) (fun e => h1.1 e.symm), unL_skip h r h1.2 h2.2, Option.map_map]
    rfl
theorem unL_less (l : List UInt8) : ∀ n, l.length ≤ n → 60 ∈ l → unL l = none
  | n, hn, h => by
    match l, n, hn, h with
    | c :: r, n + 1, hn, h =>
      simp only [List.length_cons] at hn
      by_cases h1 : c = 60
      · rw [unL_cons, if_pos h1]
      have h2 : 60 ∈ r := by
        rcases List.mem_cons.1 h with e | e
        · exact absurd e.symm h1
        · exact e
      by_cases h3 : c = 38
      · subst h3
        cases he : entAt r with
        | none => exact unL_none he
        | some j =>
          rw [unL_some he]
          have hd : 60 ∈ r.drop ((nameB j).length + 1) := by
            have key : ∀ k, (nameB k ++ [59]).isPrefixOf r = true → 60 ∈ r.drop ((nameB k).length + 1) := fun k hk => by
              obtain ⟨t, rfl⟩ := List.isPrefixOf_iff_prefix.1 hk
              rw [List.drop_left' (by simp)]
              rcases List.mem_append.1 h2 with e | e
              · exfalso
                match k with
                | 0 => revert e; decide
                | 1 => revert e; decide
                | 2 => revert e; decide
                | 3 => revert e; decide
                | n + 4 => change 60 ∈ [97, 112, 111, 115] ++ [59] at e; revert e; decide
              · exact e
            unfold entAt at he
            repeat' split at he
            all_goals first | (cases he; done) | (cases he; exact key _ (by assumption))
          rw [unL_less (r.drop ((nameB j).length + 1)) n (by rw [List.length_drop]; omega) hd]
          rfl
      · rw [unL_plain r h1 h3, unL_less r n (by omega) h2]; rfl
/-- Sign by sign or byte by byte: the same. -/
theorem unesc_go : ∀ (g : Nat) (l acc : List UInt8), l.length < g → 60 ∉ l → unescGo g l acc = (unL l).map (acc ++ ·)
  | 0, l, acc, h, _ => by omega
  | g + 1, l, acc, h, h6 => by
    rw [unescGo]
    cases hm : (cutB 38 l).2.2 with
    | false =>
      obtain ⟨h1, _, h3⟩ := cutB_none hm
      rw [if_pos rfl, h1]
      have := unL_skip l [] h3 h6
      rw [List.append_nil, unL_nil] at this
      rw [this]; simp
    | true =>
      rw [if_neg (by decide)]
      obtain ⟨h1, h2⟩ := cutB_some hm
      obtain ⟨hd, hhd⟩ : ∃ hd, hd = (cutB 38 l).1 := ⟨_, rfl⟩
      obtain ⟨rs, hrs⟩ : ∃ rs, rs = (cutB 38 l).2.1 := ⟨_, rfl⟩
      rw [← hhd, ← hrs] at h1
      rw [← hhd] at h2
      rw [← hhd, ← hrs]
      rw [h1] at h h6 ⊢
      simp only [List.mem_append, List.mem_cons, not_or] at h6
      simp only [List.length_append, List.length_cons] at h
      rw [unL_skip hd _ h2 h6.1, Option.map_map]
      cases hn : (cutB 59 rs).2.2 with
      | false =>
        obtain ⟨_, _, h5⟩ := cutB_none hn
        rw [if_pos rfl, unL_none (ent_none _ h5)]; rfl
      | true =>
        rw [if_neg (by decide)]
        obtain ⟨h4, h5⟩ := cutB_some hn
        obtain ⟨nm, hnm⟩ : ∃ nm, nm = (cutB 59 rs).1 := ⟨_, rfl⟩
        obtain ⟨bh, hbh⟩ : ∃ bh, bh = (cutB 59 rs).2.1 := ⟨_, rfl⟩
        rw [← hnm, ← hbh] at h4
        rw [← hnm] at h5
        rw [← hnm, ← hbh, named_ix]
        rw [h4] at h h6 ⊢
        simp only [List.mem_append, List.mem_cons, not_or] at h6
        simp only [List.length_append, List.length_cons] at h
        cases hx : namedIx nm with
        | none =>
          rw [unL_none (by rw [ent_named nm bh h5, hx])]; rfl
        | some j =>
          rw [unL_some (by rw [ent_named nm bh h5, hx])]
          simp only [Option.map_some]
          obtain ⟨_, rfl⟩ := namedIx_lt hx
          have hdr : (nameB j ++ 59 :: bh).drop ((nameB j).length + 1) = bh := by
            rw [show nameB j ++ 59 :: bh = (nameB j ++ [59]) ++ bh by simp]
            exact List.drop_left' (by simp)
          rw [unesc_go g bh _ (by omega) h6.2.2.2.2, hdr, Option.map_map]
          congr 1
          funext x
          simp
theorem unesc_eq (l : List UInt8) (h : 60 ∉ l) : unescL l = unL l := by
  unfold unescL
  rw [unesc_go _ l [] (by omega) h]
  cases unL l <;> rfl
/-- What Unescape answers. -/
theorem unescV_eq (s : ByteArray) : unescV s = if rightL s.data.toList = true then uneV (unL s.data.toList) else .tuple #[.string ByteArray.empty, .int .i64 2] := by
  unfold unescV
  rw [rightS_eq]
  cases rightL s.data.toList with
  | false => rfl
  | true =>
    rw [if_pos rfl, if_pos rfl]
    cases hc : s.data.toList.contains 60 with
    | true =>
      rw [if_pos rfl, unL_less _ _ (Nat.le_refl _) (by simpa using hc)]; rfl
    | false =>
      rw [if_neg (by decide), unesc_eq _ (by simpa using hc)]
end Go.Proofs.YtbpbghmhenilcaaDoor
