/- The reference's Apart and Draw. No condition but that lengths are a machine's. -/
import Derived.Test.YtajpicbaoicpfaaTokDraw
import Derived.Test.YtajpicbaoicpfaaTokReadR
namespace Go.Proofs.Ytajpicbaoicpfaa
open Go.RowKit

/-- No two of the first k are alike. -/
def apTo (L : List Nat) (k : Nat) : Prop := ∀ i j (hi : i < L.length), i < k → ∀ (hj : j < i), L[i] ≠ L[j]'(by omega)
theorem apTo_all {L : List Nat} (h : apTo L L.length) : L.Nodup := by
  unfold List.Nodup
  rw [List.pairwise_iff_getElem]
  exact fun i j hi hj hij e => h j i hj hj hij e.symm
theorem apTo_no {L : List Nat} {i j : Nat} (hi : i < L.length) (hj : j < i) (e : L[i] = L[j]'(by omega)) : ¬ L.Nodup := by
  unfold List.Nodup
  rw [List.pairwise_iff_getElem]
  exact fun h => h j i (by omega) hi hj e.symm
set_option maxHeartbeats 4000000 in
set_option maxRecDepth 100000 in
theorem ref_apart (a : Option Addr) (L : List Nat) (c : Nat) (w : World) (hL : Us w a L) (hl : L.length ≤ maxLen) :
    Calls Try.prog 16 #[.slice a L.length c] w fun e w' => e = .returned (.bool (decide L.Nodup)) ∧ Fr Nothing w w' := by
  obtain ⟨n, hn⟩ : ∃ n, n = L.length := ⟨_, rfl⟩
  have HL := Lib.hid hL
  have HN := Lib.hid hn.symm
  obtain ⟨B, hB⟩ : ∃ B, B = decide L.Nodup := ⟨_, rfl⟩
  have HB := Lib.hid hB
  have hl9 : (n : Int) ≤ 9223372036854775807 := by unfold maxLen at hl; omega
  rw [← hn, ← hB]
  clear hn hL hB hl
  go_enter Try.func16, Try.ntmps16
  go_wp2_with (fail)
  go_loopg [3] n (fun g i wr => ∃ k : Nat, k ≤ n ∧ g = n - k ∧ i = .int .i64 k ∧ Hid (apTo L k) ∧ Fr Nothing w wr)
  case atStart => exact ⟨0, Nat.zero_le _, rfl, rfl, Lib.hid (fun _ _ _ h => by omega), Fr.refl _ _⟩
  case round =>
    obtain ⟨k, hk, rfl, rfl, HA, F⟩ := hrel
    by_cases hlt : k < n
    · have hltI : (k : Int) < n := by omega
      obtain ⟨b, o, rfl, c0⟩ := HL.out.at_ (i := k) (by rw [HN.out]; exact hlt)
      have c1 := cell_fr c0 F (fun h => h)
      obtain ⟨x, hx⟩ : ∃ x, x = L[k]'(by rw [HN.out]; exact hlt) := ⟨_, rfl⟩
      rw [← hx] at c1
      have HX := Lib.hid hx
      clear hx c0
      have HC1 : Hid (∃ o' : Nat, o' = o + k) := Lib.hid ⟨_, rfl⟩
      have HC := Lib.hid c1
      clear c1
      go_wp2_with (fail)
      go_loopg [4] k (fun g i wr => ∃ q : Nat, q ≤ k ∧ g = k - q ∧ i = .int .i64 q ∧ Hid (∀ j (hj : j < q) (hjn : j < L.length), x ≠ L[j]) ∧ Hid (wr.cell? ⟨b, o + k, none⟩ = some (.int .u64 x)) ∧ Fr Nothing w wr)
      case atStart => exact ⟨0, Nat.zero_le _, rfl, rfl, Lib.hid (fun _ h => by omega), HC, F⟩
      case round =>
        clear HC F
        obtain ⟨q, hq, rfl, rfl, HQ, HC, F⟩ := hrel
        by_cases hlq : q < k
        · have hlqI : (q : Int) < k := by omega
          have hqn : (q : Int) < n := by omega
          obtain ⟨b2, o2, hb2, c0⟩ := HL.out.at_ (i := q) (by rw [HN.out]; omega)
          cases hb2
          have c2 := cell_fr c0 F (fun h => h)
          obtain ⟨y, hy⟩ : ∃ y, y = L[q]'(by rw [HN.out]; omega) := ⟨_, rfl⟩
          rw [← hy] at c2
          have c1 := HC.out
          have HY := Lib.hid hy
          clear hy c0
          by_cases he : x = y
          · have hev : ((x : Int) == (y : Int)) = true := by rw [he]; simp
            have HE := Lib.hid he
            clear he
            go_wp2_with (fail)
            go_quiet (fail)
            go_wp2_with (fail)
            go_ret
            have : B = false := by
              rw [HB.out]
              exact decide_eq_false (apTo_no (i := k) (j := q) (by rw [HN.out]; exact hlt) hlq (by rw [← HX.out, ← HY.out]; exact HE.out))
            exact ⟨by rw [this]; rfl, F.trans' (Fr.drewN _ _ _)⟩
          · have hev : ((x : Int) == (y : Int)) = false := by rw [beq_eq_false_iff_ne]; omega
            have HE := Lib.hid he
            clear he
            go_wp2_with (fail)
            go_quiet (fail)
            go_wp2_with (fail)
            go_roundg (k - (q + 1))
            case measure => omega
            case rel =>
              refine ⟨q + 1, by omega, rfl, by go_num, Lib.hid (fun j hj hjn => ?_), HC, F.trans' (Fr.drewN _ _ _)⟩
              by_cases hjq : j < q
              · exact HQ.out j hjq hjn
              · obtain rfl : j = q := by omega
                rw [← HY.out]; exact HE.out
        · obtain rfl : q = k := by omega
          go_wp2_with (fail)
          go_roundg (n - (q + 1))
          case measure => omega
          case rel =>
            refine ⟨q + 1, by omega, rfl, by go_num, Lib.hid (fun i j hi hik hj => ?_), F⟩
            by_cases hi2 : i < q
            · exact HA.out i j hi hi2 hj
            · obtain rfl : i = q := by omega
              rw [← HX.out]; exact HQ.out j hj _
    · obtain rfl : k = n := by omega
      go_wp2_with (fail)
      go_ret
      have : B = true := by rw [HB.out]; exact decide_eq_true (apTo_all (by rw [HN.out]; exact HA.out))
      exact ⟨by rw [this]; rfl, F⟩
theorem inK_take {K : List ByteArray} {s : ByteArray} {k : Nat} (hk : k < K.length) : inK (K.take (k + 1)) s = (inK (K.take k) s || decide (K[k] = s)) := by
  unfold inK
  rw [List.take_succ_eq_append_getElem hk, List.any_append]
  simp
set_option maxHeartbeats 4000000 in
set_option maxRecDepth 100000 in
theorem ref_draw (a : Option Addr) (L : List Nat) (c : Nat) (ka : Option Addr) (K : List ByteArray) (kc : Nat) (n : Int) (w : World) (hL : Us w a L) (hg : ∀ x ∈ L, x < 2 ^ 64) (hK : Txt w ka K)
    (hl : L.length ≤ maxLen) (hk9 : K.length ≤ maxLen) :
    Calls Try.prog 14 #[.slice a L.length c, .slice ka K.length kc, .int .i64 n] w fun e w' => e = .returned (drawV (L.take (min (max n 1) 100).toNat) K) ∧ Fr Nothing w w' := by
  obtain ⟨t, ht⟩ : ∃ t : Nat, t = (min (max n 1) 100).toNat := ⟨_, rfl⟩
  have htI : min (max n 1) 100 = (t : Int) := by omega
  obtain ⟨Q, hQ⟩ : ∃ Q, Q = L.take t := ⟨_, rfl⟩
  obtain ⟨N, hN⟩ : ∃ N, N = L.length := ⟨_, rfl⟩
  obtain ⟨M, hM⟩ : ∃ M, M = K.length := ⟨_, rfl⟩
  obtain ⟨T, hT⟩ : ∃ T, T = min N t := ⟨_, rfl⟩
  have hQL : Q.length = T := by rw [hQ, List.length_take, hT, hN, Nat.min_comm]
  have hQi : ∀ i (h1 : i < Q.length) (h2 : i < L.length), Q[i] = L[i] := fun i _ _ => by subst hQ; simp
  rw [← ht, ← hQ, ← hN, ← hM]
  have HL := Lib.hid hL
  have HG := Lib.hid hg
  have HK := Lib.hid hK
  have HQL := Lib.hid hQL
  have HQ := Lib.hid hQi
  have HN := Lib.hid hN.symm
  have HM := Lib.hid hM.symm
  have HTI := Lib.hid htI
  have hN9 : (N : Int) ≤ 9223372036854775807 := by unfold maxLen at hl; omega
  have hM9 : (M : Int) ≤ 9223372036854775807 := by unfold maxLen at hk9; omega
  have hTN : T ≤ N := by omega
  have hTt : T ≤ t := by omega
  have ht100 : (t : Int) ≤ 100 := by omega
  have HT : Hid (min (N : Int) t = T) := Lib.hid (by omega)
  have hTr : T < N → T = t := by omega
  have HTr := Lib.hid hTr
  clear hTr hQ hQL hQi hN hM hL hg hK htI ht hl hk9 hT
  go_enter Try.func14, Try.ntmps14
  go_wp2_with (fail)
  rw [HTI.out]
  go_loopg [9] T (fun g i wr => ∃ k : Nat, k ≤ T ∧ g = T - k ∧ i = .int .i64 k ∧ Hid (∀ j (h : j < Q.length), j < k → inK K (tokB Q[j]) = true) ∧ Fr Nothing w wr)
  case atStart => exact ⟨0, Nat.zero_le _, rfl, rfl, Lib.hid (fun _ _ h => by omega), Fr.refl _ _⟩
  case round =>
    obtain ⟨k, hk, rfl, rfl, HA, F⟩ := hrel
    by_cases hlt : k < T
    · have hkN : (k : Int) < N := by omega
      have hkt : (k : Int) < t := by omega
      obtain ⟨b, o, rfl, c0⟩ := HL.out.at_ (i := k) (by rw [HN.out]; omega)
      have c1 := cell_fr c0 F (fun h => h)
      obtain ⟨x, hx⟩ : ∃ x, x = L[k]'(by rw [HN.out]; omega) := ⟨_, rfl⟩
      have hx64 := HG.out _ (List.getElem_mem (show k < L.length by rw [HN.out]; omega))
      rw [← hx] at c1 hx64
      have HX : Hid (x = Q[k]'(by rw [HQL.out]; exact hlt)) := Lib.hid (by rw [hx]; exact (HQ.out k _ _).symm)
      have HX6 := Lib.hid hx64
      clear hx c0 hx64
      go_wp2_with (go_at_call 12; refine (ref_of x HX6.out _).mono ?_; rintro e w2 ⟨rfl, rfl⟩)
      have F3 := F
      clear c1
      go_loopg [11, 12] M (fun g vis vi wr => ∃ q : Nat, q ≤ M ∧ g = M - q ∧ vis = .bool (inK (K.take q) (tokB x)) ∧ vi = .int .i64 q ∧ Fr Nothing w wr)
      case atStart => exact ⟨0, Nat.zero_le _, rfl, rfl, rfl, F3⟩
      case round =>
        clear F3
        obtain ⟨q, hq, rfl, rfl, rfl, F3⟩ := hrel
        by_cases hlq : q < M
        · have hlqI : (q : Int) < M := by omega
          obtain ⟨b2, o2, rfl, c0⟩ := HK.out.at_ (i := q) (by rw [HM.out]; omega)
          have c2 := cell_fr c0 F3 (fun h => h)
          obtain ⟨y, hy⟩ : ∃ y, y = K[q]'(by rw [HM.out]; omega) := ⟨_, rfl⟩
          rw [← hy] at c2
          have hst := inK_take (s := tokB x) (k := q) (by rw [HM.out]; omega : q < K.length)
          rw [← hy] at hst
          have hv : (y.toList == (tokB x).toList) = decide (y = tokB x) := same_text _ _
          clear hy c0
          cases hi : inK (K.take q) (tokB x) with
          | true =>
            rw [hi] at hst
            have HS := Lib.hid hst
            clear hst hi
            go_wp2_with (fail)
            go_roundg (M - (q + 1))
            case measure => omega
            case rel => exact ⟨q + 1, by omega, rfl, by rw [HS.out]; rfl, by go_num, F3⟩
          | false =>
            rw [hi, Bool.false_or, ← hv] at hst
            have HS := Lib.hid hst
            clear hst hi hv
            go_wp2_with (fail)
            go_roundg (M - (q + 1))
            case measure => omega
            case rel => exact ⟨q + 1, by omega, rfl, by rw [HS.out], by go_num, F3⟩
        · obtain rfl : q = M := by omega
          have hKM : K.take q = K := List.take_of_length_le (by rw [HM.out]; exact Nat.le_refl _)
          rw [hKM]
          clear hKM
          cases hi : inK K (tokB x) with
          | true =>
            have HI := Lib.hid hi
            clear hi
            go_wp2_with (fail)
            go_roundg (T - (k + 1))
            case measure => omega
            case rel =>
              refine ⟨k + 1, by omega, rfl, by go_num, Lib.hid (fun j hj hjk => ?_), F3⟩
              by_cases hjk2 : j < k
              · exact HA.out j hj hjk2
              · obtain rfl : j = k := by omega
                rw [← HX.out]; exact HI.out
          | false =>
            have hd := Lib.hid (drawV_some (Q := Q) (K := K) (i := k) (by rw [HQL.out]; exact hlt) (by rw [← HX.out]; exact hi) (fun j hj => HA.out j (by rw [HQL.out]; omega) hj))
            clear hi
            go_wp2_with (fail)
            go_ret3
            refine ⟨?_, F3⟩
            rw [hd.out, ← HX.out]
            rfl
    · obtain rfl : k = T := by omega
      have hd := Lib.hid (drawV_none (Q := Q) (K := K) (fun j hj => HA.out j hj (by rw [HQL.out] at hj; exact hj)))
      by_cases hkN : k < N
      · have hkNI : (k : Int) < N := by omega
        have hkt : ¬ ((k : Int) < t) := by have := HTr.out hkN; omega
        go_wp2_with (fail)
        rw [HT.out]
        go_ret3
        refine ⟨?_, F⟩
        rw [hd.out, HQL.out]
        rfl
      · have hkNI : ¬ ((k : Int) < N) := by omega
        go_wp2_with (fail)
        rw [HT.out]
        go_ret3
        refine ⟨?_, F⟩
        rw [hd.out, HQL.out]
        rfl
end Go.Proofs.Ytajpicbaoicpfaa
