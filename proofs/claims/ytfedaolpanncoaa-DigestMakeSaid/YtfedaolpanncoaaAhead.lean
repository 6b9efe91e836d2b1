/- Ahead answers whether a text stands ahead of another one, byte by byte. Condition: both are no longer than a text may be. -/
import Derived.Test.YtfedaolpanncoaaRows
import Derived.Test.YtfedaolpanncoaaBase
import Derived.ProofKit
namespace Go.Proofs.Ytfedaolpanncoaa
open Go.RowKit

/-- Whether the first text stands ahead of the second. -/
def aheadB (x y : ByteArray) : Bool := decide (x.data.toList < y.data.toList)
theorem lt_split (P X Y : List UInt8) {x y : UInt8} (h : x ≠ y) : (P ++ x :: X < P ++ y :: Y) ↔ x < y := by
  induction P with
  | nil => simp [List.cons_lt_cons_iff, h]
  | cons p P ih => simpa [List.cons_lt_cons_iff] using ih
theorem lt_pre (P Y : List UInt8) : (P < P ++ Y) ↔ Y ≠ [] := by
  induction P with
  | nil => cases Y <;> simp
  | cons p P ih => simpa [List.cons_lt_cons_iff] using ih
theorem lt_post (P X : List UInt8) : ¬ (P ++ X < P) := by
  induction P with
  | nil => simp
  | cons p P ih => simpa [List.cons_lt_cons_iff] using ih
theorem ahead_at {X Y : List UInt8} {k : Nat} (he : X.take k = Y.take k) (hx : k < X.length) (hy : k < Y.length) (hn : X[k] ≠ Y[k]) : (X < Y) ↔ X[k] < Y[k] := by
  have e1 : X = X.take k ++ X[k] :: X.drop (k + 1) := by rw [← List.drop_eq_getElem_cons hx, List.take_append_drop]
  have e2 : Y = X.take k ++ Y[k] :: Y.drop (k + 1) := by rw [he, ← List.drop_eq_getElem_cons hy, List.take_append_drop]
  have h := lt_split (X.take k) (X.drop (k + 1)) (Y.drop (k + 1)) hn
  rw [← e1, ← e2] at h
  exact h
theorem ahead_end {X Y : List UInt8} {k : Nat} (he : X.take k = Y.take k) (hk : k = X.length ∨ k = Y.length) (h1 : k ≤ X.length) (h2 : k ≤ Y.length) : (X < Y) ↔ X.length < Y.length := by
  rcases hk with rfl | rfl
  · rw [List.take_length] at he
    have e : Y = X ++ Y.drop X.length := by conv => lhs; rw [← List.take_append_drop X.length Y, ← he]
    have h := lt_pre X (Y.drop X.length)
    rw [← e] at h
    rw [h, ne_eq, List.drop_eq_nil_iff]; omega
  · rw [List.take_length] at he
    have e : X = Y ++ X.drop Y.length := by conv => lhs; rw [← List.take_append_drop Y.length X, he]
    have h := lt_post Y (X.drop Y.length)
    rw [← e] at h
    constructor
    · intro h3; exact absurd h3 h
    · omega

set_option maxHeartbeats 1000000 in
theorem ref_ahead (x y : ByteArray) (w : World) (hx : x.size ≤ maxLen) (_hy : y.size ≤ maxLen) :
    Calls Try.prog 30 #[.string x, .string y] w fun e w' => e = .returned (.bool (aheadB x y)) ∧ ∃ n, w' = w.drewN n := by
  unfold maxLen at hx
  go_enter Try.func30, Try.ntmps30
  go_wp2
  go_loopw [5] (fun i wr => ∃ k : Nat, k ≤ x.size ∧ k ≤ y.size ∧ i = .int .i64 k ∧ Hid (x.data.toList.take k = y.data.toList.take k) ∧ ∃ m, wr = w.drewN m) (fun i _ => x.size - (intOf i).toNat)
  case atStart => exact ⟨0, Nat.zero_le _, Nat.zero_le _, rfl, rfl, 0, rfl⟩
  case round =>
    obtain ⟨k, hkx, hky, rfl, HE, m, rfl⟩ := hrel
    by_cases hlx : k < x.size
    · by_cases hly : k < y.size
      · by_cases hne : x[k] = y[k]
        · go_wp2
          go_quiet (fail)
          go_wp2
          go_roundw
          case rel => exact ⟨k + 1, by omega, by omega, by go_num, by
            have a1 : k < x.data.toList.length := by simpa using hlx
            have a2 : k < y.data.toList.length := by simpa using hly
            show _ = _
            rw [List.take_succ_eq_append_getElem a1, List.take_succ_eq_append_getElem a2, HE.out]
            have : x.data.toList[k] = y.data.toList[k] := by simpa [ByteArray.getElem_eq_getElem_data] using hne
            rw [this], m + nq, by simp⟩
          case measure => simp [intOf]; omega
        · have hd : ((x[k].toNat : Int) != (y[k].toNat : Int)) = true := by
            rw [bne_iff_ne]
            intro h
            exact hne (UInt8.toNat_inj.1 (by omega))
          go_wp2
          go_quiet (fail)
          obtain ⟨q, hq⟩ : ∃ q, q = nq := ⟨_, rfl⟩
          go_wp2
          go_quiet (fail)
          go_wp2
          go_ret
          refine ⟨?_, m + q + nq, by simp [hq]⟩
          have a1 : k < x.data.toList.length := by simpa using hlx
          have a2 : k < y.data.toList.length := by simpa using hly
          have h1 := ahead_at HE.out a1 a2 (by simpa [ByteArray.getElem_eq_getElem_data] using hne)
          have h2 : aheadB x y = decide (x[k].toNat < y[k].toNat) := by
            unfold aheadB
            rw [decide_eq_decide, h1]
            simp [ByteArray.getElem_eq_getElem_data, UInt8.lt_iff_toNat_lt]
          rw [h2]; rfl
      · go_wp2
        go_ret
        refine ⟨?_, m, rfl⟩
        have h1 := ahead_end HE.out (.inr (by simp; omega)) (by simpa using hkx) (by simpa using hky)
        have h2 : aheadB x y = decide (x.size < y.size) := by
          unfold aheadB
          rw [decide_eq_decide, h1]
          simp
        rw [h2]; rfl
    · go_wp2
      go_ret
      refine ⟨?_, m, rfl⟩
      have h1 := ahead_end HE.out (.inl (by simp; omega)) (by simpa using hkx) (by simpa using hky)
      have h2 : aheadB x y = decide (x.size < y.size) := by
        unfold aheadB
        rw [decide_eq_decide, h1]
        simp
      rw [h2]; rfl

end Go.Proofs.Ytfedaolpanncoaa
