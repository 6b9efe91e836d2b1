/- The sign at the beginning of bytes, by the bytes. No condition. -/
import Derived.Test.YtbpbghmhenilcaaDoorWhl
import Derived.Lib.TrimUEq
namespace Go.Proofs.YtbpbghmhenilcaaDoor
def sg2 (n b0 b1 : Nat) : Nat × Int :=
  if b0 < 194 then (0, 0) else if n < 2 then (0, -1) else if b1 / 64 = 2 then ((b0 - 192) * 64 + (b1 - 128), 2) else (0, 0)
def sg3 (n b0 b1 b2 : Nat) : Nat × Int :=
  if n < 2 then (0, -1) else if b1 / 64 ≠ 2 ∨ (b0 = 224 ∧ b1 < 160) ∨ (b0 = 237 ∧ 160 ≤ b1) then (0, 0)
  else if n < 3 then (0, -1) else if b2 / 64 = 2 then (((b0 - 224) * 64 + (b1 - 128)) * 64 + (b2 - 128), 3) else (0, 0)
def sg4 (n b0 b1 b2 b3 : Nat) : Nat × Int :=
  if n < 2 then (0, -1) else if b1 / 64 ≠ 2 ∨ (b0 = 240 ∧ b1 < 144) ∨ (b0 = 244 ∧ 144 ≤ b1) then (0, 0)
  else if n < 3 then (0, -1) else if b2 / 64 ≠ 2 then (0, 0)
  else if n < 4 then (0, -1) else if b3 / 64 = 2 then ((((b0 - 240) * 64 + (b1 - 128)) * 64 + (b2 - 128)) * 64 + (b3 - 128), 4) else (0, 0)
/-- The sign at the beginning of n bytes, and how many it has; 0: they are none's; -1: they may be the beginning of one. -/
def sgN (n b0 b1 b2 b3 : Nat) : Nat × Int :=
  if n = 0 then (0, -1) else if b0 < 128 then (b0, 1) else if b0 < 192 then (0, 0)
  else if b0 < 224 then sg2 n b0 b1 else if b0 < 240 then sg3 n b0 b1 b2 else if b0 < 245 then sg4 n b0 b1 b2 b3 else (0, 0)
/-- What makes them none's. -/
def BadN (n b0 b1 b2 b3 : Nat) : Prop :=
  128 ≤ b0 ∧ (b0 < 194 ∨ 245 ≤ b0 ∨ (2 ≤ n ∧ b1 / 64 ≠ 2) ∨ (2 ≤ n ∧ ((b0 = 224 ∧ b1 < 160) ∨ (b0 = 237 ∧ 160 ≤ b1) ∨ (b0 = 240 ∧ b1 < 144) ∨ (b0 = 244 ∧ 144 ≤ b1))) ∨ (224 ≤ b0 ∧ 3 ≤ n ∧ b2 / 64 ≠ 2) ∨ (240 ≤ b0 ∧ 4 ≤ n ∧ b3 / 64 ≠ 2))
inductive SgI (n b0 b1 b2 b3 : Nat) : Nat × Int → Prop where
  | nil : n = 0 → SgI n b0 b1 b2 b3 (0, -1)
  | one : 1 ≤ n → b0 < 128 → SgI n b0 b1 b2 b3 (b0, 1)
  | two : 2 ≤ n → 194 ≤ b0 → b0 < 224 → b1 / 64 = 2 → SgI n b0 b1 b2 b3 ((b0 - 192) * 64 + (b1 - 128), 2)
  | three : 3 ≤ n → 224 ≤ b0 → b0 < 240 → b1 / 64 = 2 → b2 / 64 = 2 → ¬((b0 = 224 ∧ b1 < 160) ∨ (b0 = 237 ∧ 160 ≤ b1)) → SgI n b0 b1 b2 b3 (((b0 - 224) * 64 + (b1 - 128)) * 64 + (b2 - 128), 3)
  | four : 4 ≤ n → 240 ≤ b0 → b0 < 245 → b1 / 64 = 2 → b2 / 64 = 2 → b3 / 64 = 2 → ¬((b0 = 240 ∧ b1 < 144) ∨ (b0 = 244 ∧ 144 ≤ b1)) → SgI n b0 b1 b2 b3 ((((b0 - 240) * 64 + (b1 - 128)) * 64 + (b2 - 128)) * 64 + (b3 - 128), 4)
  | bad : 1 ≤ n → BadN n b0 b1 b2 b3 → SgI n b0 b1 b2 b3 (0, 0)
  | part : 1 ≤ n → 194 ≤ b0 → b0 < 245 → (n < 2 ∨ (224 ≤ b0 ∧ n < 3) ∨ (240 ≤ b0 ∧ n < 4)) → ¬BadN n b0 b1 b2 b3 → SgI n b0 b1 b2 b3 (0, -1)
theorem sgN_inv (n b0 b1 b2 b3 : Nat) : SgI n b0 b1 b2 b3 (sgN n b0 b1 b2 b3) := by
  obtain ⟨r, hr⟩ : ∃ r, sgN n b0 b1 b2 b3 = r := ⟨_, rfl⟩
  rw [hr]
  unfold sgN at hr
  repeat' split at hr
  · subst hr; exact .nil (by omega)
  · subst hr; exact .one (by omega) (by omega)
  · subst hr; exact .bad (by omega) (by unfold BadN; omega)
  · unfold sg2 at hr
    repeat' split at hr
    all_goals subst hr
    · exact .bad (by omega) (by unfold BadN; omega)
    · exact .part (by omega) (by omega) (by omega) (by omega) (by unfold BadN; omega)
    · exact .two (by omega) (by omega) (by omega) (by omega)
    · exact .bad (by omega) (by unfold BadN; omega)
  · unfold sg3 at hr
    repeat' split at hr
    all_goals subst hr
    · exact .part (by omega) (by omega) (by omega) (by omega) (by unfold BadN; omega)
    · exact .bad (by omega) (by unfold BadN; omega)
    · exact .part (by omega) (by omega) (by omega) (by omega) (by unfold BadN; omega)
    · exact .three (by omega) (by omega) (by omega) (by omega) (by omega) (by omega)
    · exact .bad (by omega) (by unfold BadN; omega)
  · unfold sg4 at hr
    repeat' split at hr
    all_goals subst hr
    · exact .part (by omega) (by omega) (by omega) (by omega) (by unfold BadN; omega)
    · exact .bad (by omega) (by unfold BadN; omega)
    · exact .part (by omega) (by omega) (by omega) (by omega) (by unfold BadN; omega)
    · exact .bad (by omega) (by unfold BadN; omega)
    · exact .part (by omega) (by omega) (by omega) (by omega) (by unfold BadN; omega)
    · exact .four (by omega) (by omega) (by omega) (by omega) (by omega) (by omega) (by omega)
    · exact .bad (by omega) (by unfold BadN; omega)
  · subst hr; exact .bad (by omega) (by unfold BadN; omega)
theorem SgI.det {n b0 b1 b2 b3 : Nat} {r : Nat × Int} (h : SgI n b0 b1 b2 b3 r) : sgN n b0 b1 b2 b3 = r := by
  have h2 := sgN_inv n b0 b1 b2 b3
  obtain ⟨q, hq⟩ : ∃ q, q = sgN n b0 b1 b2 b3 := ⟨_, rfl⟩
  rw [← hq] at h2 ⊢
  clear hq
  cases h <;> cases h2 <;> first | (exfalso; omega) | (exfalso; unfold BadN at *; omega) | rfl
theorem sgN_more {n n' b0 b1 b2 b3 c0 c1 c2 c3 : Nat} (hnn : n ≤ n') (e0 : 0 < n → c0 = b0) (e1 : 1 < n → c1 = b1) (e2 : 2 < n → c2 = b2) (e3 : 3 < n → c3 = b3) (h : (sgN n b0 b1 b2 b3).2 ≠ -1) :
    sgN n' c0 c1 c2 c3 = sgN n b0 b1 b2 b3 := by
  have h1 := sgN_inv n b0 b1 b2 b3
  obtain ⟨r, hr⟩ : ∃ r, r = sgN n b0 b1 b2 b3 := ⟨_, rfl⟩
  rw [← hr] at h1 h ⊢
  refine SgI.det ?_
  cases h1 with
  | nil h => exact absurd rfl ‹_›
  | one a b => obtain rfl := e0 (by omega); exact .one (by omega) b
  | two a b c d => obtain rfl := e0 (by omega); obtain rfl := e1 (by omega); exact .two (by omega) b c d
  | three a b c d e f => obtain rfl := e0 (by omega); obtain rfl := e1 (by omega); obtain rfl := e2 (by omega); exact .three (by omega) b c d e f
  | four a b c d e f g => obtain rfl := e0 (by omega); obtain rfl := e1 (by omega); obtain rfl := e2 (by omega); obtain rfl := e3 (by omega); exact .four (by omega) b c d e f g
  | bad a b =>
    refine .bad (by omega) ?_
    obtain rfl := e0 (by omega)
    unfold BadN at b ⊢
    by_cases q1 : 1 < n
    · obtain rfl := e1 q1
      by_cases q2 : 2 < n
      · obtain rfl := e2 q2
        by_cases q3 : 3 < n
        · obtain rfl := e3 q3
          omega
        · omega
      · omega
    · omega
  | part => exact absurd rfl ‹_›
theorem sgN_less {n n' b0 b1 b2 b3 c0 c1 c2 c3 : Nat} (h : 0 < (sgN n b0 b1 b2 b3).2) (hnn : ((sgN n b0 b1 b2 b3).2) ≤ n') (e0 : 0 < n' → c0 = b0) (e1 : 1 < n' → c1 = b1) (e2 : 2 < n' → c2 = b2) (e3 : 3 < n' → c3 = b3) :
    sgN n' c0 c1 c2 c3 = sgN n b0 b1 b2 b3 := by
  have h1 := sgN_inv n b0 b1 b2 b3
  obtain ⟨r, hr⟩ : ∃ r, r = sgN n b0 b1 b2 b3 := ⟨_, rfl⟩
  rw [← hr] at h1 h hnn ⊢
  refine SgI.det ?_
  cases h1 with
  | nil => exact absurd h (by decide)
  | one a b => simp only at hnn; obtain rfl := e0 (by omega); exact .one (by omega) b
  | two a b c d => simp only at hnn; obtain rfl := e0 (by omega); obtain rfl := e1 (by omega); exact .two (by omega) b c d
  | three a b c d e f => simp only at hnn; obtain rfl := e0 (by omega); obtain rfl := e1 (by omega); obtain rfl := e2 (by omega); exact .three (by omega) b c d e f
  | four a b c d e f g => simp only at hnn; obtain rfl := e0 (by omega); obtain rfl := e1 (by omega); obtain rfl := e2 (by omega); obtain rfl := e3 (by omega); exact .four (by omega) b c d e f g
  | bad => exact absurd h (by decide)
  | part => exact absurd h (by decide)
theorem sgN_bd (n b0 b1 b2 b3 : Nat) : -1 ≤ (sgN n b0 b1 b2 b3).2 ∧ (sgN n b0 b1 b2 b3).2 ≤ n ∧ (sgN n b0 b1 b2 b3).2 ≤ 4 := by
  have h1 := sgN_inv n b0 b1 b2 b3
  obtain ⟨r, hr⟩ : ∃ r, r = sgN n b0 b1 b2 b3 := ⟨_, rfl⟩
  rw [← hr] at h1 ⊢
  cases h1 <;> simp only <;> omega
theorem sgN_part_lead (n b0 b1 b2 b3 : Nat) (hn : 1 ≤ n) (h : (sgN n b0 b1 b2 b3).2 = -1) : 194 ≤ b0 ∧ n ≤ 3 := by
  have h1 := sgN_inv n b0 b1 b2 b3
  obtain ⟨r, hr⟩ : ∃ r, r = sgN n b0 b1 b2 b3 := ⟨_, rfl⟩
  rw [← hr] at h1 h
  cases h1 <;> simp only at h <;> omega
/-- Behind its first a sign's bytes are from 128 to 191. -/
theorem sgN_cont (n b0 b1 b2 b3 : Nat) (r : Nat × Int) (hr : sgN n b0 b1 b2 b3 = r) (h : 0 < r.2) : (1 < r.2 → 128 ≤ b0 ∧ b1 / 64 = 2) ∧ (2 < r.2 → b2 / 64 = 2) ∧ (3 < r.2 → b3 / 64 = 2) ∧ (r.2 = 1 → b0 < 128 ∧ r.1 = b0) ∧ b0 / 64 ≠ 2 := by
  have h1 := sgN_inv n b0 b1 b2 b3
  rw [hr] at h1
  cases h1 <;> dsimp only at h ⊢ <;> omega
theorem sgN_ok (n b0 b1 b2 b3 : Nat) (r : Nat × Int) (hr : sgN n b0 b1 b2 b3 = r) (h1 : b1 < 256) (h2 : b2 < 256) (h3 : b3 < 256) (h : 0 < r.2) :
    Lib.decodeN n b0 b1 b2 b3 = (r.1, r.2.toNat) ∧ ¬(r.1 = 65533 ∧ r.2.toNat = 1) := by
  have hI := sgN_inv n b0 b1 b2 b3
  rw [hr] at hI
  cases hI with
  | nil => exact absurd h (by decide)
  | one a b => exact ⟨by rw [Lib.decodeN_ascii _ _ _ _ _ b]; rfl, fun h => by have := h.1; simp only at this; omega⟩
  | two a b c d =>
    refine ⟨?_, by simp only; omega⟩
    unfold Lib.decodeN
    rw [if_neg (by omega), if_pos (by omega), if_pos (by omega)]
    exact Prod.ext (by simp only; omega) rfl
  | three a b c d e f =>
    refine ⟨?_, by simp only; omega⟩
    unfold Lib.decodeN
    rw [if_neg (by omega), if_neg (by omega), if_pos (by omega), if_pos (by omega)]
    exact Prod.ext (by simp only; omega) rfl
  | four a b c d e f g =>
    refine ⟨?_, by simp only; omega⟩
    unfold Lib.decodeN
    rw [if_neg (by omega), if_neg (by omega), if_neg (by omega), if_pos (by omega), if_pos (by omega)]
    exact Prod.ext (by simp only; omega) rfl
  | bad => exact absurd h (by decide)
  | part => exact absurd h (by decide)
set_option maxHeartbeats 1000000 in
theorem sgN_no (n b0 b1 b2 b3 : Nat) (hn : 1 ≤ n) (h1 : b1 < 256) (h : ¬ 0 < (sgN n b0 b1 b2 b3).2) :
    Lib.decodeN n b0 b1 b2 b3 = (65533, 1) := by
  have hI := sgN_inv n b0 b1 b2 b3
  obtain ⟨r, hr⟩ : ∃ r, r = sgN n b0 b1 b2 b3 := ⟨_, rfl⟩
  rw [← hr] at hI h
  cases hI with
  | nil => omega
  | one => exact absurd (show (0:Int) < _ from Int.natCast_pos.2 (Nat.succ_pos _)) h
  | two => exact absurd (show (0:Int) < _ from Int.natCast_pos.2 (Nat.succ_pos _)) h
  | three => exact absurd (show (0:Int) < _ from Int.natCast_pos.2 (Nat.succ_pos _)) h
  | four => exact absurd (show (0:Int) < _ from Int.natCast_pos.2 (Nat.succ_pos _)) h
  | bad a b =>
    unfold BadN at b
    unfold Lib.decodeN
    repeat' split
    all_goals first | rfl | (exfalso; omega)
  | part a b c d e =>
    unfold Lib.decodeN
    repeat' split
    all_goals first | rfl | (exfalso; omega)
theorem fullN_no {n b0 b1 b2 k i : Nat} (hn : 1 ≤ n) (hk : Lib.firstT b0 % 8 = k) (hi : Lib.firstT b0 / 16 = i) : fullN n b0 b1 b2 = false ↔ n < k ∧ ¬(1 < n ∧ (b1 < Lib.accLo i ∨ Lib.accHi i < b1)) ∧ ¬(2 < n ∧ (b2 < 128 ∨ 191 < b2)) := by
  unfold fullN
  rw [hk, hi, if_neg (by omega)]
  by_cases h1 : k ≤ n
  · rw [if_pos h1]; simp; omega
  rw [if_neg h1]
  by_cases h2 : 1 < n ∧ (b1 < Lib.accLo i ∨ Lib.accHi i < b1)
  · rw [if_pos h2]
    constructor
    · intro h; cases h
    · intro h; exact absurd h2 h.2.1
  rw [if_neg h2]
  by_cases h3 : 2 < n ∧ (b2 < 128 ∨ 191 < b2)
  · rw [if_pos h3]
    constructor
    · intro h; cases h
    · intro h; exact absurd h3 h.2.2
  rw [if_neg h3]
  exact ⟨fun _ => ⟨by omega, h2, h3⟩, fun _ => rfl⟩
/-- It may be the beginning of one: just where utf8.FullRune says no. -/
theorem sgN_part (n b0 b1 b2 b3 : Nat) (hn : 1 ≤ n) (h0 : b0 < 256) (h1 : b1 < 256) (h2 : b2 < 256) : (sgN n b0 b1 b2 b3).2 = -1 ↔ fullN n b0 b1 b2 = false := by
  have key : ∀ k lo hi i, Lib.firstT b0 % 8 = k → Lib.firstT b0 / 16 = i → Lib.accLo i = lo → Lib.accHi i = hi →
      ((sgN n b0 b1 b2 b3).2 = -1 ↔ n < k ∧ ¬(1 < n ∧ (b1 < lo ∨ hi < b1)) ∧ ¬(2 < n ∧ (b2 < 128 ∨ 191 < b2))) → ((sgN n b0 b1 b2 b3).2 = -1 ↔ fullN n b0 b1 b2 = false) := by
    intro k lo hi i e1 e2 e3 e4 h
    rw [h, fullN_no hn e1 e2, e3, e4]
  have hI := sgN_inv n b0 b1 b2 b3
  obtain ⟨r, hr⟩ : ∃ r, r = sgN n b0 b1 b2 b3 := ⟨_, rfl⟩
  rw [← hr] at hI key ⊢
  obtain ⟨z, hz⟩ : ∃ z, z = r.2 := ⟨_, rfl⟩
  rw [← hz] at key ⊢
  clear hr
  by_cases c1 : b0 < 128
  · refine key 0 0 0 15 (by unfold Lib.firstT; rw [if_pos c1]) (by unfold Lib.firstT; rw [if_pos c1]) rfl rfl ?_
    clear key; cases hI <;> dsimp only at hz <;> first | omega | (unfold BadN at *; omega)
  by_cases c2 : b0 < 194
  · refine key 1 0 0 15 (by unfold Lib.firstT; rw [if_neg c1, if_pos c2]) (by unfold Lib.firstT; rw [if_neg c1, if_pos c2]) rfl rfl ?_
    clear key; cases hI <;> dsimp only at hz <;> first | omega | (unfold BadN at *; omega)
  by_cases c3 : b0 < 224
  · refine key 2 128 191 0 (by unfold Lib.firstT; rw [if_neg c1, if_neg c2, if_pos c3]) (by unfold Lib.firstT; rw [if_neg c1, if_neg c2, if_pos c3]) rfl rfl ?_
    clear key; cases hI <;> dsimp only at hz <;> first | omega | (unfold BadN at *; omega)
  by_cases c4 : b0 = 224
  · refine key 3 160 191 1 (by unfold Lib.firstT; rw [if_neg c1, if_neg c2, if_neg c3, if_pos c4]) (by unfold Lib.firstT; rw [if_neg c1, if_neg c2, if_neg c3, if_pos c4]) rfl rfl ?_
    clear key; cases hI <;> dsimp only at hz <;> first | omega | (unfold BadN at *; omega)
  by_cases c5 : b0 < 237
  · refine key 3 128 191 0 (by unfold Lib.firstT; rw [if_neg c1, if_neg c2, if_neg c3, if_neg c4, if_pos c5]) (by unfold Lib.firstT; rw [if_neg c1, if_neg c2, if_neg c3, if_neg c4, if_pos c5]) rfl rfl ?_
    clear key; cases hI <;> dsimp only at hz <;> first | omega | (unfold BadN at *; omega)
  by_cases c6 : b0 = 237
  · refine key 3 128 159 2 (by unfold Lib.firstT; rw [if_neg c1, if_neg c2, if_neg c3, if_neg c4, if_neg c5, if_pos c6]) (by unfold Lib.firstT; rw [if_neg c1, if_neg c2, if_neg c3, if_neg c4, if_neg c5, if_pos c6]) rfl rfl ?_
    clear key; cases hI <;> dsimp only at hz <;> first | omega | (unfold BadN at *; omega)
  by_cases c7 : b0 < 240
  · refine key 3 128 191 0 (by unfold Lib.firstT; rw [if_neg c1, if_neg c2, if_neg c3, if_neg c4, if_neg c5, if_neg c6, if_pos c7]) (by unfold Lib.firstT; rw [if_neg c1, if_neg c2, if_neg c3, if_neg c4, if_neg c5, if_neg c6, if_pos c7]) rfl rfl ?_
    clear key; cases hI <;> dsimp only at hz <;> first | omega | (unfold BadN at *; omega)
  by_cases c8 : b0 = 240
  · refine key 4 144 191 3 (by unfold Lib.firstT; rw [if_neg c1, if_neg c2, if_neg c3, if_neg c4, if_neg c5, if_neg c6, if_neg c7, if_pos c8]) (by unfold Lib.firstT; rw [if_neg c1, if_neg c2, if_neg c3, if_neg c4, if_neg c5, if_neg c6, if_neg c7, if_pos c8]) rfl rfl ?_
    clear key; cases hI <;> dsimp only at hz <;> first | omega | (unfold BadN at *; omega)
  by_cases c9 : b0 < 244
  · refine key 4 128 191 0 (by unfold Lib.firstT; rw [if_neg c1, if_neg c2, if_neg c3, if_neg c4, if_neg c5, if_neg c6, if_neg c7, if_neg c8, if_pos c9]) (by unfold Lib.firstT; rw [if_neg c1, if_neg c2, if_neg c3, if_neg c4, if_neg c5, if_neg c6, if_neg c7, if_neg c8, if_pos c9]) rfl rfl ?_
    clear key; cases hI <;> dsimp only at hz <;> first | omega | (unfold BadN at *; omega)
  by_cases c10 : b0 = 244
  · refine key 4 128 143 4 (by unfold Lib.firstT; rw [if_neg c1, if_neg c2, if_neg c3, if_neg c4, if_neg c5, if_neg c6, if_neg c7, if_neg c8, if_neg c9, if_pos c10]) (by unfold Lib.firstT; rw [if_neg c1, if_neg c2, if_neg c3, if_neg c4, if_neg c5, if_neg c6, if_neg c7, if_neg c8, if_neg c9, if_pos c10]) rfl rfl ?_
    clear key; cases hI <;> dsimp only at hz <;> first | omega | (unfold BadN at *; omega)
  · refine key 1 0 0 15 (by unfold Lib.firstT; rw [if_neg c1, if_neg c2, if_neg c3, if_neg c4, if_neg c5, if_neg c6, if_neg c7, if_neg c8, if_neg c9, if_neg c10]) (by unfold Lib.firstT; rw [if_neg c1, if_neg c2, if_neg c3, if_neg c4, if_neg c5, if_neg c6, if_neg c7, if_neg c8, if_neg c9, if_neg c10]) rfl rfl ?_
    clear key; cases hI <;> dsimp only at hz <;> first | omega | (unfold BadN at *; omega)
end Go.Proofs.YtbpbghmhenilcaaDoor
