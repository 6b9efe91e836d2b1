/- The first token that isn't known, as the program and the document's answer draw it. No condition. -/
import Derived.Test.YtajpicbaoicpfaaTokRead
import Derived.Test.YtajpicbaoicpfaaMix
namespace Go.Proofs.Ytajpicbaoicpfaa
open Go.RowKit

/-- Numbers, as natural ones. -/
def Us (w : World) (a : Option Addr) (L : List Nat) : Prop := Sl w a (L.map fun n : Nat => Value.int .u64 (n : Int))
theorem Us.at_ {w : World} {a : Option Addr} {D : List Nat} (h : Us w a D) {i : Nat} (hi : i < D.length) : ∃ b o, a = some ⟨b, o, none⟩ ∧ w.cell? ⟨b, o + i, none⟩ = some (.int .u64 (D[i] : Int)) :=
  Sl.oneCell h (by simp [hi])
theorem Us.take {w : World} {a : Option Addr} {D : List Nat} (h : Us w a D) (n : Nat) : Us w a (D.take n) := by
  have := Sl.take h n
  rw [← List.map_take] at this; exact this
/-- Is a token known? -/
def inK (K : List ByteArray) (s : ByteArray) : Bool := K.any fun x => decide (x = s)
theorem inK_iff {K : List ByteArray} {s : ByteArray} : inK K s = true ↔ s ∈ K := by
  unfold inK
  rw [List.any_eq_true]
  constructor
  · rintro ⟨x, hx, h⟩
    rw [decide_eq_true_iff] at h; subst h; exact hx
  · intro h; exact ⟨s, h, by simp⟩
/-- What is drawn. -/
def drawV (Q : List Nat) (K : List ByteArray) : Value := match Q.findIdx? (fun n => !inK K (tokB n)) with
  | some i => .tuple #[.string (tokB (Q.getD i 0)), .int .i64 (i + 1 : Nat), .int .i64 0]
  | none => .tuple #[.string { data := #[] }, .int .i64 Q.length, .int .i64 14]
theorem drawV_some {Q : List Nat} {K : List ByteArray} {i : Nat} (hi : i < Q.length) (h : inK K (tokB Q[i]) = false) (hn : ∀ j (hj : j < i), inK K (tokB (Q[j]'(by omega))) = true) :
    drawV Q K = .tuple #[.string (tokB Q[i]), .int .i64 (i + 1 : Nat), .int .i64 0] := by
  have : Q.findIdx? (fun n => !inK K (tokB n)) = some i := by
    rw [List.findIdx?_eq_some_iff_getElem]
    exact ⟨hi, by simp [h], fun j hj => by simp [hn j hj]⟩
  unfold drawV; rw [this]
  simp [List.getD_eq_getElem?_getD, List.getElem?_eq_getElem hi]
theorem drawV_none {Q : List Nat} {K : List ByteArray} (hn : ∀ j (hj : j < Q.length), inK K (tokB Q[j]) = true) :
    drawV Q K = .tuple #[.string { data := #[] }, .int .i64 Q.length, .int .i64 14] := by
  have : Q.findIdx? (fun n => !inK K (tokB n)) = none := by
    rw [List.findIdx?_eq_none_iff]
    intro d hd
    obtain ⟨i, hi, rfl⟩ := List.mem_iff_getElem.1 hd
    simp [hn i hi]
  unfold drawV; rw [this]
theorem contains_call (K : List ByteArray) (a : Option Addr) (c : Nat) (s : ByteArray) (w : World) (h : Txt w a K) (hl : K.length ≤ 9223372036854775807) :
    Calls Try.prog 21 #[.slice a K.length c, .string s] w fun e w' => e = .returned (.bool (inK K s)) ∧ w' = w := by
  have e : ∀ K : List ByteArray, Lib.containsS K s = inK K s := by
    intro K
    rw [Bool.eq_iff_iff, inK_iff]
    exact Lib.containsS_iff K s
  by_cases h0 : K.length = 0
  · rw [h0]
    obtain rfl := List.eq_nil_of_length_eq_zero h0
    exact Try.slices_Contains_string_empty a c s w
  · obtain ⟨b, o, rfl, _⟩ := h.at_ (i := 0) (by omega)
    have h1 := Try.slices_Contains_string b o K.length c K s w (Nat.le_refl _) hl (fun j hj => by
      obtain ⟨b', o', hbo, hc⟩ := h.at_ hj
      obtain ⟨rfl, rfl⟩ : b = b' ∧ o = o' := by simpa using hbo
      rw [hc, List.getD_eq_getElem?_getD, List.getElem?_eq_getElem hj]; rfl)
    rw [List.take_length, e] at h1
    exact h1
set_option maxRecDepth 100000 in
set_option maxHeartbeats 4000000 in
theorem tok_draw (a : Option Addr) (L : List Nat) (c : Nat) (ka : Option Addr) (K : List ByteArray) (kc : Nat) (n : Int) (w : World) (hL : Us w a L) (hg : ∀ x ∈ L, x < 2 ^ 64) (hK : Txt w ka K)
    (hc : L.length ≤ c) (hc9 : (c : Int) ≤ 9223372036854775807) (hk9 : K.length ≤ 9223372036854775807) :
    Calls Try.prog 13 #[.slice a L.length c, .slice ka K.length kc, .int .i64 n] w fun e w' => e = .returned (drawV (L.take (min (max n 1) 100).toNat) K) ∧ Fr Nothing w w' := by
  obtain ⟨T, hT⟩ : ∃ T : Nat, T = min L.length (min (max n 1) 100).toNat := ⟨_, rfl⟩
  obtain ⟨Q, hQ⟩ : ∃ Q, Q = L.take (min (max n 1) 100).toNat := ⟨_, rfl⟩
  have hQL : Q.length = T := by rw [hQ, List.length_take, hT, Nat.min_comm]
  have hUQ : Us w a Q := by rw [hQ]; exact hL.take _
  have hgQ : ∀ x ∈ Q, x < 2 ^ 64 := fun x hx => hg x (by rw [hQ] at hx; exact List.mem_of_mem_take hx)
  rw [← hQ]
  have HQ := Lib.hid hUQ
  have HG := Lib.hid hgQ
  have HK := Lib.hid hK
  have hTI : (T : Int) = min (L.length : Int) (min (max n 1) 100) := by omega
  have HT := Lib.hid hTI
  have hTL : T ≤ L.length := by omega
  have hT1 : T ≤ 100 := by omega
  clear hQ hT hL hg hK hUQ hgQ hTI
  go_enter Try.func13, Try.ntmps13
  go_wp2_with (fail)
  rw [← HT.out, Int.toNat_natCast, show max (T : Int) 0 = T by omega]
  clear HT
  go_loopg [22] T (fun g i wr => ∃ k : Nat, k ≤ T ∧ g = T - k ∧ i = .int .i64 k ∧ Hid (∀ j (h : j < Q.length), j < k → inK K (tokB Q[j]) = true) ∧ Fr Nothing w wr)
  case atStart => exact ⟨0, Nat.zero_le _, rfl, rfl, Lib.hid (fun _ _ h => by omega), Fr.refl _ _⟩
  case round =>
    obtain ⟨k, hk, rfl, rfl, HN, F⟩ := hrel
    by_cases hlt : k < T
    · obtain ⟨b, o, rfl, c0⟩ := HQ.out.at_ (i := k) (by omega)
      have c1 := cell_fr c0 F (fun h => h)
      obtain ⟨x, hx⟩ : ∃ x, x = Q[k]'(by omega) := ⟨_, rfl⟩
      have hx64 := HG.out _ (List.getElem_mem (show k < Q.length by omega))
      rw [← hx] at c1 hx64
      have HX := Lib.hid hx
      have HX6 := Lib.hid hx64
      clear hx c0 hx64
      cases hi : inK K (tokB x) with
      | true =>
        have HI := Lib.hid hi
        go_wp2_with (first
          | (go_at_call 11; refine (tok_of x HX6.out _).mono ?_; rintro e w2 ⟨rfl, F2⟩; have HK2 := Lib.hid (HK.out.fr (F.trans' F2) (fun _ _ h => h)))
          | (go_at_call 21; refine (contains_call K ka kc (tokB x) _ HK2.out hk9).mono ?_; rintro e w3 ⟨rfl, rfl⟩; rw [hi]))
        go_roundg (T - (k + 1))
        case measure => omega
        case rel =>
          refine ⟨k + 1, by omega, rfl, by go_num, Lib.hid (fun j hj hjk => ?_), F.trans' F2⟩
          by_cases hjk2 : j < k
          · exact HN.out j hj hjk2
          · obtain rfl : j = k := by omega
            rw [← HX.out]; exact HI.out
      | false =>
        have hd := Lib.hid (drawV_some (Q := Q) (K := K) (i := k) (by omega) (by rw [← HX.out]; exact hi) (fun j hj => HN.out j (by omega) hj))
        go_wp2_with (first
          | (go_at_call 11; refine (tok_of x HX6.out _).mono ?_; rintro e w2 ⟨rfl, F2⟩; have HK2 := Lib.hid (HK.out.fr (F.trans' F2) (fun _ _ h => h)))
          | (go_at_call 21; refine (contains_call K ka kc (tokB x) _ HK2.out hk9).mono ?_; rintro e w3 ⟨rfl, rfl⟩; rw [hi]))
        go_ret3
        refine ⟨?_, F.trans' F2⟩
        rw [hd.out, ← HX.out]
        rfl
    · obtain rfl : k = T := by omega
      have hd := Lib.hid (drawV_none (Q := Q) (K := K) (fun j hj => HN.out j hj (by omega)))
      go_wp2_with (fail)
      go_ret3
      refine ⟨?_, F⟩
      rw [hd.out, hQL]
      rfl
end Go.Proofs.Ytajpicbaoicpfaa
