/- tidewaterref01.Sign, May. No condition. -/
import Derived.Test.YtbpbghmhenilcaaDoorSgW
namespace Go.Proofs.YtbpbghmhenilcaaDoor
open Go.RowKit

def badV (least lo hi : Nat) : Prop := hi < least ∨ 1114111 < lo ∨ (55296 ≤ lo ∧ hi ≤ 57343)
instance (a b c : Nat) : Decidable (badV a b c) := by unfold badV; infer_instance
/-- The loop over a sign's bytes. -/
def sgLp (s : ByteArray) (n least : Nat) : Nat → Nat → Nat → Nat → Nat × Int
  | 0, _, lo, hi => if n ≤ s.size then (if badV least lo lo then (0, 0) else (lo, n)) else (if badV least lo hi then (0, 0) else (0, -1))
  | f + 1, i, lo, hi => if s.size ≤ i then sgLp s n least f (i + 1) (lo * 64) (64 * hi + 63) else if (s.get! i).toNat < 128 ∨ 192 ≤ (s.get! i).toNat then (0, 0) else sgLp s n least f (i + 1) (64 * lo + ((s.get! i).toNat - 128)) (64 * hi + ((s.get! i).toNat - 128))
theorem sg_bytes (s : ByteArray) : sg s.data.toList = sgN s.size (s.get! 0).toNat (s.get! 1).toNat (s.get! 2).toNat (s.get! 3).toNat := by
  unfold sg
  rw [Lib.getD_get!', Lib.getD_get!', Lib.getD_get!', Lib.getD_get!', ← Lib.size_eq]
theorem lp2 (s : ByteArray) (h1 : 1 ≤ s.size) (h : 192 ≤ (s.get! 0).toNat ∧ (s.get! 0).toNat < 224) : sgLp s 2 128 1 1 ((s.get! 0).toNat - 192) ((s.get! 0).toNat - 192) = sg s.data.toList := by
  rw [sg_bytes]
  have l1 := (s.get! 1).toNat_lt
  generalize (s.get! 0).toNat = b0 at h ⊢
  refine (SgI.det ?_).symm
  simp only [sgLp]
  generalize (s.get! 1).toNat = b1 at l1 ⊢
  by_cases c1 : s.size ≤ 1
  · rw [if_pos c1, if_neg (by omega)]
    by_cases c2 : badV 128 ((b0 - 192) * 64) (64 * (b0 - 192) + 63)
    · rw [if_pos c2]; unfold badV at c2; exact .bad (by omega) (by unfold BadN; omega)
    · rw [if_neg c2]; unfold badV at c2; exact .part (by omega) (by omega) (by omega) (by omega) (by unfold BadN; omega)
  rw [if_neg c1]
  by_cases c2 : b1 < 128 ∨ 192 ≤ b1
  · rw [if_pos c2]; exact .bad (by omega) (by unfold BadN; omega)
  rw [if_neg c2, if_pos (by omega)]
  by_cases c3 : badV 128 (64 * (b0 - 192) + (b1 - 128)) (64 * (b0 - 192) + (b1 - 128))
  · rw [if_pos c3]; unfold badV at c3; exact .bad (by omega) (by unfold BadN; omega)
  rw [if_neg c3]; unfold badV at c3
  rw [show 64 * (b0 - 192) + (b1 - 128) = (b0 - 192) * 64 + (b1 - 128) by omega]
  exact .two (by omega) (by omega) (by omega) (by omega)
theorem lp3 (s : ByteArray) (h1 : 1 ≤ s.size) (h : 224 ≤ (s.get! 0).toNat ∧ (s.get! 0).toNat < 240) : sgLp s 3 2048 2 1 ((s.get! 0).toNat - 224) ((s.get! 0).toNat - 224) = sg s.data.toList := by
  rw [sg_bytes]
  have l1 := (s.get! 1).toNat_lt
  have l2 := (s.get! 2).toNat_lt
  generalize (s.get! 0).toNat = b0 at h ⊢
  refine (SgI.det ?_).symm
  simp only [sgLp, Nat.reduceAdd]
  generalize (s.get! 1).toNat = b1 at l1 ⊢
  generalize (s.get! 2).toNat = b2 at l2 ⊢
  by_cases c1 : s.size ≤ 1
  · rw [if_pos c1, if_pos (by omega), if_neg (by omega)]
    by_cases c2 : badV 2048 ((b0 - 224) * 64 * 64) (64 * (64 * (b0 - 224) + 63) + 63)
    · rw [if_pos c2]; unfold badV at c2; exact .bad (by omega) (by unfold BadN; omega)
    · rw [if_neg c2]; unfold badV at c2; exact .part (by omega) (by omega) (by omega) (by omega) (by unfold BadN; omega)
  rw [if_neg c1]
  by_cases c2 : b1 < 128 ∨ 192 ≤ b1
  · rw [if_pos c2]; exact .bad (by omega) (by unfold BadN; omega)
  rw [if_neg c2]
  by_cases c3 : s.size ≤ 2
  · rw [if_pos c3, if_neg (by omega)]
    by_cases c4 : badV 2048 ((64 * (b0 - 224) + (b1 - 128)) * 64) (64 * (64 * (b0 - 224) + (b1 - 128)) + 63)
    · rw [if_pos c4]; unfold badV at c4; exact .bad (by omega) (by unfold BadN; omega)
    · rw [if_neg c4]; unfold badV at c4; exact .part (by omega) (by omega) (by omega) (by omega) (by unfold BadN; omega)
  rw [if_neg c3]
  by_cases c4 : b2 < 128 ∨ 192 ≤ b2
  · rw [if_pos c4]; exact .bad (by omega) (by unfold BadN; omega)
  rw [if_neg c4, if_pos (by omega)]
  by_cases c5 : badV 2048 (64 * (64 * (b0 - 224) + (b1 - 128)) + (b2 - 128)) (64 * (64 * (b0 - 224) + (b1 - 128)) + (b2 - 128))
  · rw [if_pos c5]; unfold badV at c5; exact .bad (by omega) (by unfold BadN; omega)
  rw [if_neg c5]; unfold badV at c5
  rw [show 64 * (64 * (b0 - 224) + (b1 - 128)) + (b2 - 128) = ((b0 - 224) * 64 + (b1 - 128)) * 64 + (b2 - 128) by omega]
  exact .three (by omega) (by omega) (by omega) (by omega) (by omega) (by omega)
theorem lp4 (s : ByteArray) (h1 : 1 ≤ s.size) (h : 240 ≤ (s.get! 0).toNat ∧ (s.get! 0).toNat < 248) : sgLp s 4 65536 3 1 ((s.get! 0).toNat - 240) ((s.get! 0).toNat - 240) = sg s.data.toList := by
  rw [sg_bytes]
  have l1 := (s.get! 1).toNat_lt
  have l2 := (s.get! 2).toNat_lt
  have l3 := (s.get! 3).toNat_lt
  generalize (s.get! 0).toNat = b0 at h ⊢
  refine (SgI.det ?_).symm
  simp only [sgLp, Nat.reduceAdd]
  generalize (s.get! 1).toNat = b1 at l1 ⊢
  generalize (s.get! 2).toNat = b2 at l2 ⊢
  generalize (s.get! 3).toNat = b3 at l3 ⊢
  by_cases c1 : s.size ≤ 1
  · rw [if_pos c1, if_pos (by omega), if_pos (by omega), if_neg (by omega)]
    by_cases c2 : badV 65536 ((b0 - 240) * 64 * 64 * 64) (64 * (64 * (64 * (b0 - 240) + 63) + 63) + 63)
    · rw [if_pos c2]; unfold badV at c2; exact .bad (by omega) (by unfold BadN; omega)
    · rw [if_neg c2]; unfold badV at c2; exact .part (by omega) (by omega) (by omega) (by omega) (by unfold BadN; omega)
  rw [if_neg c1]
  by_cases c2 : b1 < 128 ∨ 192 ≤ b1
  · rw [if_pos c2]; exact .bad (by omega) (by unfold BadN; omega)
  rw [if_neg c2]
  by_cases c3 : s.size ≤ 2
  · rw [if_pos c3, if_pos (by omega), if_neg (by omega)]
    by_cases c4 : badV 65536 ((64 * (b0 - 240) + (b1 - 128)) * 64 * 64) (64 * (64 * (64 * (b0 - 240) + (b1 - 128)) + 63) + 63)
    · rw [if_pos c4]; unfold badV at c4; exact .bad (by omega) (by unfold BadN; omega)
    · rw [if_neg c4]; unfold badV at c4; exact .part (by omega) (by omega) (by omega) (by omega) (by unfold BadN; omega)
  rw [if_neg c3]
  by_cases c4 : b2 < 128 ∨ 192 ≤ b2
  · rw [if_pos c4]; exact .bad (by omega) (by unfold BadN; omega)
  rw [if_neg c4]
  by_cases c5 : s.size ≤ 3
  · rw [if_pos c5, if_neg (by omega)]
    by_cases c6 : badV 65536 ((64 * (64 * (b0 - 240) + (b1 - 128)) + (b2 - 128)) * 64) (64 * (64 * (64 * (b0 - 240) + (b1 - 128)) + (b2 - 128)) + 63)
    · rw [if_pos c6]; unfold badV at c6; exact .bad (by omega) (by unfold BadN; omega)
    · rw [if_neg c6]; unfold badV at c6; exact .part (by omega) (by omega) (by omega) (by omega) (by unfold BadN; omega)
  rw [if_neg c5]
  by_cases c6 : b3 < 128 ∨ 192 ≤ b3
  · rw [if_pos c6]; exact .bad (by omega) (by unfold BadN; omega)
  rw [if_neg c6, if_pos (by omega)]
  by_cases c7 : badV 65536 (64 * (64 * (64 * (b0 - 240) + (b1 - 128)) + (b2 - 128)) + (b3 - 128)) (64 * (64 * (64 * (b0 - 240) + (b1 - 128)) + (b2 - 128)) + (b3 - 128))
  · rw [if_pos c7]; unfold badV at c7; exact .bad (by omega) (by unfold BadN; omega)
  rw [if_neg c7]; unfold badV at c7
  rw [show 64 * (64 * (64 * (b0 - 240) + (b1 - 128)) + (b2 - 128)) + (b3 - 128) = (((b0 - 240) * 64 + (b1 - 128)) * 64 + (b2 - 128)) * 64 + (b3 - 128) by omega]
  exact .four (by omega) (by omega) (by omega) (by omega) (by omega) (by omega) (by omega)
def sgV (r : Nat × Int) : Value := .tuple #[.int .i64 (r.1 : Nat), .int .i64 r.2]
/-- How great a sign's beginning may be. -/
def bdN : Nat → Nat
  | 0 => 0 | 1 => 31 | 2 => 2047 | 3 => 131071 | _ => 8388607
set_option maxHeartbeats 8000000 in
set_option maxRecDepth 100000 in
theorem ref_sign2 (s : ByteArray) (w : World) (hs : s.size ≤ 1000000) (h1 : 1 ≤ s.size) (h : 192 ≤ (s.get! 0).toNat ∧ (s.get! 0).toNat < 224) :
    Calls Tryd.prog 23 #[.string s] w fun e w' => e = .returned (sgV (sg s.data.toList)) ∧ w' = w := by
  obtain ⟨R, hR⟩ : ∃ R, R = sg s.data.toList := ⟨_, rfl⟩
  have hl := lp2 s h1 h
  rw [← hR] at hl ⊢
  obtain ⟨x, hx⟩ : ∃ x, s.get! 0 = x := ⟨_, rfl⟩
  rw [hx] at h hl
  have h0 : 0 < s.size := by omega
  have hix : s[0]'h0 = x := by rw [← hx]; exact (Utf8W.get!_of_lt s 0 h0).symm
  obtain ⟨c, hc⟩ : ∃ c, c = x.toNat := ⟨_, rfl⟩
  have hcx : (x.toNat : Int) = c := by rw [hc]
  rw [← hc] at h hl
  have hle : ¬ ((c : Int) < 128) := by omega
  have hled : decide ((c : Int) < 128) = false := decide_eq_false hle
  have k2 : (c : Int) < 224 := by omega
  have k3 : (192 : Int) ≤ c := by omega
  have k4 : ¬ ((224 : Int) ≤ c) := by omega
  have k4d : decide ((224 : Int) ≤ c) = false := decide_eq_false k4
  have k5 : ¬ ((240 : Int) ≤ c) := by omega
  have k5d : decide ((240 : Int) ≤ c) = false := decide_eq_false k5
  obtain ⟨v, hv⟩ : ∃ v, v = c - 192 := ⟨_, rfl⟩
  have hvc : (c : Int) - 192 = v := by omega
  have hv31 : v ≤ 31 := by omega
  rw [← hv] at hl
  have HST := Lib.hid hl
  obtain ⟨N, hN⟩ : ∃ N, N = s.size := ⟨_, rfl⟩
  have hsz : s.size = N := hN.symm
  have hie : s.toList.isEmpty = false := by
    cases hh : s.toList with
    | nil =>
      rw [ByteArray.toList_eq] at hh
      have h4 := congrArg List.length hh
      rw [Array.length_toList] at h4
      have h5 : s.data.size = 0 := h4
      have h3 : s.data.size = N := hsz
      omega
    | cons => rfl
  have HN := Lib.hid hN
  clear hR hl hx hc h hv h1 hN
  go_enter Tryd.func23, Tryd.ntmps23
  go_wp2_with (fail)
  go_loopg [8, 9, 10] 1 (fun gg vlo vhi vi wr => ∃ i lo hi : Nat, 1 ≤ i ∧ i ≤ 2 ∧ gg = 2 - i ∧ vlo = .int .i64 (lo : Nat) ∧ vhi = .int .i64 (hi : Nat) ∧ vi = .int .i64 (i : Nat) ∧ lo ≤ bdN i ∧ hi ≤ bdN i ∧ Hid (sgLp s 2 128 (2 - i) i lo hi = R) ∧ wr = w)
  case atStart => exact ⟨1, v, v, by omega, by omega, by omega, rfl, rfl, rfl, hv31, hv31, HST, rfl⟩
  case round =>
    obtain ⟨i, lo, hi, hi1, hin, rfl, rfl, rfl, rfl, hlo, hhi, HS, rfl⟩ := hrel
    clear HST
    by_cases hlt : i < 2
    · have hltI : (i : Int) < 2 := by omega
      have hc3 : i = 1 ∨ i = 2 ∨ i = 3 := by omega
      have hb1 : bdN i ≤ 131071 ∧ 64 * bdN i + 63 = bdN (i + 1) := by rcases hc3 with rfl | rfl | rfl <;> exact ⟨by decide, rfl⟩
      have hlo2 : lo ≤ 131071 := by omega
      have hhi2 : hi ≤ 131071 := by omega
      have hst := HS.out
      rw [show 2 - i = (2 - (i + 1)) + 1 by omega, sgLp] at hst
      by_cases hsi : s.size ≤ i
      · have hsiI : (N : Int) ≤ i := by omega
        rw [if_pos hsi] at hst
        have HS2 := Lib.hid hst
        have HBd := Lib.hid hb1
        have HLo := Lib.hid (And.intro hlo hhi)
        clear hst HS hsi hc3 hb1 hlo hhi
        go_wp2_with (fail)
        go_roundg (2 - (i + 1))
        case measure => omega
        case rel => exact ⟨i + 1, lo * 64, 64 * hi + 63, by omega, by omega, by omega, by go_num, by go_num, by go_num, by have := HBd.out; have := HLo.out; omega, by have := HBd.out; have := HLo.out; omega, HS2, rfl⟩
      · have hsiI : ¬ ((N : Int) ≤ i) := by omega
        have hsid : decide ((N : Int) ≤ i) = false := decide_eq_false hsiI
        have hsl : i < s.size := by omega
        have hslI : (i : Int) < N := by omega
        rw [if_neg hsi] at hst
        obtain ⟨y, hy⟩ : ∃ y, s.get! i = y := ⟨_, rfl⟩
        have hiy : s[i]'hsl = y := by rw [← hy]; exact (Utf8W.get!_of_lt s i hsl).symm
        rw [hy] at hst
        obtain ⟨d, hd⟩ : ∃ d, d = y.toNat := ⟨_, rfl⟩
        have hdy : (y.toNat : Int) = d := by rw [hd]
        have hd256 : d < 256 := by rw [hd]; exact y.toNat_lt
        rw [← hd] at hst
        by_cases hq : d < 128
        · have hqI : (d : Int) < 128 := by omega
          rw [if_pos (.inl hq)] at hst
          have HB := Lib.hid hst
          clear hst HS hy hd hq hc3 hb1
          go_wp2_with (fail)
          go_ret2
          exact ⟨by rw [← HB.out]; rfl, rfl⟩
        · have hqI : ¬ ((d : Int) < 128) := by omega
          have hqd : decide ((d : Int) < 128) = false := decide_eq_false hqI
          by_cases hp : 192 ≤ d
          · have hpI : (192 : Int) ≤ d := by omega
            rw [if_pos (.inr hp)] at hst
            have HB := Lib.hid hst
            clear hst HS hy hd hq hp hc3 hb1
            go_wp2_with (fail)
            go_ret2
            exact ⟨by rw [← HB.out]; rfl, rfl⟩
          · have hpI : ¬ ((192 : Int) ≤ d) := by omega
            have hpd : decide ((192 : Int) ≤ d) = false := decide_eq_false hpI
            rw [if_neg (by omega)] at hst
            have HS2 := Lib.hid hst
            have HBd := Lib.hid hb1
            have HLo := Lib.hid (And.intro hlo hhi)
            have HD := Lib.hid (show 128 ≤ d ∧ d < 192 by omega)
            clear hst HS hy hd hq hp hc3 hb1 hlo hhi
            go_wp2_with (fail)
            go_roundg (2 - (i + 1))
            case measure => omega
            case rel => exact ⟨i + 1, 64 * lo + (d - 128), 64 * hi + (d - 128), by omega, by omega, by omega, by have := HD.out; go_num, by have := HD.out; go_num, by go_num, by have := HD.out; have := HBd.out; have := HLo.out; omega, by have := HD.out; have := HBd.out; have := HLo.out; omega, HS2, rfl⟩
    · obtain rfl : i = 2 := by omega
      have hst := HS.out
      rw [Nat.sub_self, sgLp] at hst
      by_cases hsz2 : 2 ≤ s.size
      · have hzI : (2 : Int) ≤ N := by omega
        rw [if_pos hsz2] at hst
        have HQ := Lib.hid hst.symm
        clear hst HS hsz2
        by_cases q1 : lo < 128
        · have b1 : (lo : Int) < 128 := by omega
          have HB : Hid (R = (0, 0)) := Lib.hid (by rw [HQ.out]; exact if_pos (.inl q1))
          clear q1 HQ
          go_wp2_with (fail)
          go_ret2
          exact ⟨by rw [HB.out]; rfl, rfl⟩
        have b1 : ¬ ((lo : Int) < 128) := by omega
        have d1 : decide ((lo : Int) < 128) = false := decide_eq_false b1
        by_cases q2 : 1114111 < lo
        · have b2 : (1114111 : Int) < lo := by omega
          have HB : Hid (R = (0, 0)) := Lib.hid (by rw [HQ.out]; exact if_pos (.inr (.inl q2)))
          clear q1 q2 HQ
          go_wp2_with (fail)
          go_ret2
          exact ⟨by rw [HB.out]; rfl, rfl⟩
        have b2 : ¬ ((1114111 : Int) < lo) := by omega
        have d2 : decide ((1114111 : Int) < lo) = false := decide_eq_false b2
        by_cases q3 : 55296 ≤ lo
        · have b3 : (55296 : Int) ≤ lo := by omega
          by_cases q4 : lo ≤ 57343
          · have b4 : (lo : Int) ≤ 57343 := by omega
            have HB : Hid (R = (0, 0)) := Lib.hid (by rw [HQ.out]; exact if_pos (.inr (.inr ⟨q3, q4⟩)))
            clear q1 q2 q3 q4 HQ
            go_wp2_with (fail)
            go_ret2
            exact ⟨by rw [HB.out]; rfl, rfl⟩
          · have b4 : ¬ ((lo : Int) ≤ 57343) := by omega
            have d4 : decide ((lo : Int) ≤ 57343) = false := decide_eq_false b4
            have HB : Hid (R = (lo, 2)) := Lib.hid (by rw [HQ.out]; exact if_neg (by unfold badV; omega))
            clear q1 q2 q3 q4 HQ
            go_wp2_with (fail)
            go_ret2
            exact ⟨by rw [HB.out]; rfl, rfl⟩
        · have b3 : ¬ ((55296 : Int) ≤ lo) := by omega
          have d3 : decide ((55296 : Int) ≤ lo) = false := decide_eq_false b3
          have HB : Hid (R = (lo, 2)) := Lib.hid (by rw [HQ.out]; exact if_neg (by unfold badV; omega))
          clear q1 q2 q3 HQ
          go_wp2_with (fail)
          go_ret2
          exact ⟨by rw [HB.out]; rfl, rfl⟩
      · have hzI : ¬ ((2 : Int) ≤ N) := by omega
        have hzd : decide ((2 : Int) ≤ N) = false := decide_eq_false hzI
        rw [if_neg hsz2] at hst
        have HQ := Lib.hid hst.symm
        clear hst HS hsz2
        by_cases q1 : hi < 128
        · have b1 : (hi : Int) < 128 := by omega
          have HB : Hid (R = (0, 0)) := Lib.hid (by rw [HQ.out]; exact if_pos (.inl q1))
          clear q1 HQ
          go_wp2_with (fail)
          go_ret2
          exact ⟨by rw [HB.out]; rfl, rfl⟩
        have b1 : ¬ ((hi : Int) < 128) := by omega
        have d1 : decide ((hi : Int) < 128) = false := decide_eq_false b1
        by_cases q2 : 1114111 < lo
        · have b2 : (1114111 : Int) < lo := by omega
          have HB : Hid (R = (0, 0)) := Lib.hid (by rw [HQ.out]; exact if_pos (.inr (.inl q2)))
          clear q1 q2 HQ
          go_wp2_with (fail)
          go_ret2
          exact ⟨by rw [HB.out]; rfl, rfl⟩
        have b2 : ¬ ((1114111 : Int) < lo) := by omega
        have d2 : decide ((1114111 : Int) < lo) = false := decide_eq_false b2
        by_cases q3 : 55296 ≤ lo
        · have b3 : (55296 : Int) ≤ lo := by omega
          by_cases q4 : hi ≤ 57343
          · have b4 : (hi : Int) ≤ 57343 := by omega
            have HB : Hid (R = (0, 0)) := Lib.hid (by rw [HQ.out]; exact if_pos (.inr (.inr ⟨q3, q4⟩)))
            clear q1 q2 q3 q4 HQ
            go_wp2_with (fail)
            go_ret2
            exact ⟨by rw [HB.out]; rfl, rfl⟩
          · have b4 : ¬ ((hi : Int) ≤ 57343) := by omega
            have d4 : decide ((hi : Int) ≤ 57343) = false := decide_eq_false b4
            have HB : Hid (R = (0, -1)) := Lib.hid (by rw [HQ.out]; exact if_neg (by unfold badV; omega))
            clear q1 q2 q3 q4 HQ
            go_wp2_with (fail)
            go_ret2
            exact ⟨by rw [HB.out]; rfl, rfl⟩
        · have b3 : ¬ ((55296 : Int) ≤ lo) := by omega
          have d3 : decide ((55296 : Int) ≤ lo) = false := decide_eq_false b3
          have HB : Hid (R = (0, -1)) := Lib.hid (by rw [HQ.out]; exact if_neg (by unfold badV; omega))
          clear q1 q2 q3 HQ
          go_wp2_with (fail)
          go_ret2
          exact ⟨by rw [HB.out]; rfl, rfl⟩
set_option maxHeartbeats 8000000 in
set_option maxRecDepth 100000 in
theorem ref_sign3 (s : ByteArray) (w : World) (hs : s.size ≤ 1000000) (h1 : 1 ≤ s.size) (h : 224 ≤ (s.get! 0).toNat ∧ (s.get! 0).toNat < 240) :
    Calls Tryd.prog 23 #[.string s] w fun e w' => e = .returned (sgV (sg s.data.toList)) ∧ w' = w := by
  obtain ⟨R, hR⟩ : ∃ R, R = sg s.data.toList := ⟨_, rfl⟩
  have hl := lp3 s h1 h
  rw [← hR] at hl ⊢
  obtain ⟨x, hx⟩ : ∃ x, s.get! 0 = x := ⟨_, rfl⟩
  rw [hx] at h hl
  have h0 : 0 < s.size := by omega
  have hix : s[0]'h0 = x := by rw [← hx]; exact (Utf8W.get!_of_lt s 0 h0).symm
  obtain ⟨c, hc⟩ : ∃ c, c = x.toNat := ⟨_, rfl⟩
  have hcx : (x.toNat : Int) = c := by rw [hc]
  rw [← hc] at h hl
  have hle : ¬ ((c : Int) < 128) := by omega
  have hled : decide ((c : Int) < 128) = false := decide_eq_false hle
  have k0 : ¬ ((c : Int) < 224) := by omega
  have j0 : decide ((c : Int) < 224) = false := decide_eq_false k0
  have k2 : (c : Int) < 240 := by omega
  have k3 : (192 : Int) ≤ c := by omega
  have k4 : (224 : Int) ≤ c := by omega
  have k5 : ¬ ((240 : Int) ≤ c) := by omega
  have k5d : decide ((240 : Int) ≤ c) = false := decide_eq_false k5
  obtain ⟨v, hv⟩ : ∃ v, v = c - 224 := ⟨_, rfl⟩
  have hvc : (c : Int) - 224 = v := by omega
  have hv31 : v ≤ 31 := by omega
  rw [← hv] at hl
  have HST := Lib.hid hl
  obtain ⟨N, hN⟩ : ∃ N, N = s.size := ⟨_, rfl⟩
  have hsz : s.size = N := hN.symm
  have hie : s.toList.isEmpty = false := by
    cases hh : s.toList with
    | nil =>
      rw [ByteArray.toList_eq] at hh
      have h4 := congrArg List.length hh
      rw [Array.length_toList] at h4
      have h5 : s.data.size = 0 := h4
      have h3 : s.data.size = N := hsz
      omega
    | cons => rfl
  have HN := Lib.hid hN
  clear hR hl hx hc h hv h1 hN
  go_enter Tryd.func23, Tryd.ntmps23
  go_wp2_with (fail)
  go_loopg [8, 9, 10] 2 (fun gg vlo vhi vi wr => ∃ i lo hi : Nat, 1 ≤ i ∧ i ≤ 3 ∧ gg = 3 - i ∧ vlo = .int .i64 (lo : Nat) ∧ vhi = .int .i64 (hi : Nat) ∧ vi = .int .i64 (i : Nat) ∧ lo ≤ bdN i ∧ hi ≤ bdN i ∧ Hid (sgLp s 3 2048 (3 - i) i lo hi = R) ∧ wr = w)
  case atStart => exact ⟨1, v, v, by omega, by omega, by omega, rfl, rfl, rfl, hv31, hv31, HST, rfl⟩
  case round =>
    obtain ⟨i, lo, hi, hi1, hin, rfl, rfl, rfl, rfl, hlo, hhi, HS, rfl⟩ := hrel
    clear HST
    by_cases hlt : i < 3
    · have hltI : (i : Int) < 3 := by omega
      have hc3 : i = 1 ∨ i = 2 ∨ i = 3 := by omega
      have hb1 : bdN i ≤ 131071 ∧ 64 * bdN i + 63 = bdN (i + 1) := by rcases hc3 with rfl | rfl | rfl <;> exact ⟨by decide, rfl⟩
      have hlo2 : lo ≤ 131071 := by omega
      have hhi2 : hi ≤ 131071 := by omega
      have hst := HS.out
      rw [show 3 - i = (3 - (i + 1)) + 1 by omega, sgLp] at hst
      by_cases hsi : s.size ≤ i
      · have hsiI : (N : Int) ≤ i := by omega
        rw [if_pos hsi] at hst
        have HS2 := Lib.hid hst
        have HBd := Lib.hid hb1
        have HLo := Lib.hid (And.intro hlo hhi)
        clear hst HS hsi hc3 hb1 hlo hhi
        go_wp2_with (fail)
        go_roundg (3 - (i + 1))
        case measure => omega
        case rel => exact ⟨i + 1, lo * 64, 64 * hi + 63, by omega, by omega, by omega, by go_num, by go_num, by go_num, by have := HBd.out; have := HLo.out; omega, by have := HBd.out; have := HLo.out; omega, HS2, rfl⟩
      · have hsiI : ¬ ((N : Int) ≤ i) := by omega
        have hsid : decide ((N : Int) ≤ i) = false := decide_eq_false hsiI
        have hsl : i < s.size := by omega
        have hslI : (i : Int) < N := by omega
        rw [if_neg hsi] at hst
        obtain ⟨y, hy⟩ : ∃ y, s.get! i = y := ⟨_, rfl⟩
        have hiy : s[i]'hsl = y := by rw [← hy]; exact (Utf8W.get!_of_lt s i hsl).symm
        rw [hy] at hst
        obtain ⟨d, hd⟩ : ∃ d, d = y.toNat := ⟨_, rfl⟩
        have hdy : (y.toNat : Int) = d := by rw [hd]
        have hd256 : d < 256 := by rw [hd]; exact y.toNat_lt
        rw [← hd] at hst
        by_cases hq : d < 128
        · have hqI : (d : Int) < 128 := by omega
          rw [if_pos (.inl hq)] at hst
          have HB := Lib.hid hst
          clear hst HS hy hd hq hc3 hb1
          go_wp2_with (fail)
          go_ret2
          exact ⟨by rw [← HB.out]; rfl, rfl⟩
        · have hqI : ¬ ((d : Int) < 128) := by omega
          have hqd : decide ((d : Int) < 128) = false := decide_eq_false hqI
          by_cases hp : 192 ≤ d
          · have hpI : (192 : Int) ≤ d := by omega
            rw [if_pos (.inr hp)] at hst
            have HB := Lib.hid hst
            clear hst HS hy hd hq hp hc3 hb1
            go_wp2_with (fail)
            go_ret2
            exact ⟨by rw [← HB.out]; rfl, rfl⟩
          · have hpI : ¬ ((192 : Int) ≤ d) := by omega
            have hpd : decide ((192 : Int) ≤ d) = false := decide_eq_false hpI
            rw [if_neg (by omega)] at hst
            have HS2 := Lib.hid hst
            have HBd := Lib.hid hb1
            have HLo := Lib.hid (And.intro hlo hhi)
            have HD := Lib.hid (show 128 ≤ d ∧ d < 192 by omega)
            clear hst HS hy hd hq hp hc3 hb1 hlo hhi
            go_wp2_with (fail)
            go_roundg (3 - (i + 1))
            case measure => omega
            case rel => exact ⟨i + 1, 64 * lo + (d - 128), 64 * hi + (d - 128), by omega, by omega, by omega, by have := HD.out; go_num, by have := HD.out; go_num, by go_num, by have := HD.out; have := HBd.out; have := HLo.out; omega, by have := HD.out; have := HBd.out; have := HLo.out; omega, HS2, rfl⟩
    · obtain rfl : i = 3 := by omega
      have hst := HS.out
      rw [Nat.sub_self, sgLp] at hst
      by_cases hsz2 : 3 ≤ s.size
      · have hzI : (3 : Int) ≤ N := by omega
        rw [if_pos hsz2] at hst
        have HQ := Lib.hid hst.symm
        clear hst HS hsz2
        by_cases q1 : lo < 2048
        · have b1 : (lo : Int) < 2048 := by omega
          have HB : Hid (R = (0, 0)) := Lib.hid (by rw [HQ.out]; exact if_pos (.inl q1))
          clear q1 HQ
          go_wp2_with (fail)
          go_ret2
          exact ⟨by rw [HB.out]; rfl, rfl⟩
        have b1 : ¬ ((lo : Int) < 2048) := by omega
        have d1 : decide ((lo : Int) < 2048) = false := decide_eq_false b1
        by_cases q2 : 1114111 < lo
        · have b2 : (1114111 : Int) < lo := by omega
          have HB : Hid (R = (0, 0)) := Lib.hid (by rw [HQ.out]; exact if_pos (.inr (.inl q2)))
          clear q1 q2 HQ
          go_wp2_with (fail)
          go_ret2
          exact ⟨by rw [HB.out]; rfl, rfl⟩
        have b2 : ¬ ((1114111 : Int) < lo) := by omega
        have d2 : decide ((1114111 : Int) < lo) = false := decide_eq_false b2
        by_cases q3 : 55296 ≤ lo
        · have b3 : (55296 : Int) ≤ lo := by omega
          by_cases q4 : lo ≤ 57343
          · have b4 : (lo : Int) ≤ 57343 := by omega
            have HB : Hid (R = (0, 0)) := Lib.hid (by rw [HQ.out]; exact if_pos (.inr (.inr ⟨q3, q4⟩)))
            clear q1 q2 q3 q4 HQ
            go_wp2_with (fail)
            go_ret2
            exact ⟨by rw [HB.out]; rfl, rfl⟩
          · have b4 : ¬ ((lo : Int) ≤ 57343) := by omega
            have d4 : decide ((lo : Int) ≤ 57343) = false := decide_eq_false b4
            have HB : Hid (R = (lo, 3)) := Lib.hid (by rw [HQ.out]; exact if_neg (by unfold badV; omega))
            clear q1 q2 q3 q4 HQ
            go_wp2_with (fail)
            go_ret2
            exact ⟨by rw [HB.out]; rfl, rfl⟩
        · have b3 : ¬ ((55296 : Int) ≤ lo) := by omega
          have d3 : decide ((55296 : Int) ≤ lo) = false := decide_eq_false b3
          have HB : Hid (R = (lo, 3)) := Lib.hid (by rw [HQ.out]; exact if_neg (by unfold badV; omega))
          clear q1 q2 q3 HQ
          go_wp2_with (fail)
          go_ret2
          exact ⟨by rw [HB.out]; rfl, rfl⟩
      · have hzI : ¬ ((3 : Int) ≤ N) := by omega
        have hzd : decide ((3 : Int) ≤ N) = false := decide_eq_false hzI
        rw [if_neg hsz2] at hst
        have HQ := Lib.hid hst.symm
        clear hst HS hsz2
        by_cases q1 : hi < 2048
        · have b1 : (hi : Int) < 2048 := by omega
          have HB : Hid (R = (0, 0)) := Lib.hid (by rw [HQ.out]; exact if_pos (.inl q1))
          clear q1 HQ
          go_wp2_with (fail)
          go_ret2
          exact ⟨by rw [HB.out]; rfl, rfl⟩
        have b1 : ¬ ((hi : Int) < 2048) := by omega
        have d1 : decide ((hi : Int) < 2048) = false := decide_eq_false b1
        by_cases q2 : 1114111 < lo
        · have b2 : (1114111 : Int) < lo := by omega
          have HB : Hid (R = (0, 0)) := Lib.hid (by rw [HQ.out]; exact if_pos (.inr (.inl q2)))
          clear q1 q2 HQ
          go_wp2_with (fail)
          go_ret2
          exact ⟨by rw [HB.out]; rfl, rfl⟩
        have b2 : ¬ ((1114111 : Int) < lo) := by omega
        have d2 : decide ((1114111 : Int) < lo) = false := decide_eq_false b2
        by_cases q3 : 55296 ≤ lo
        · have b3 : (55296 : Int) ≤ lo := by omega
          by_cases q4 : hi ≤ 57343
          · have b4 : (hi : Int) ≤ 57343 := by omega
            have HB : Hid (R = (0, 0)) := Lib.hid (by rw [HQ.out]; exact if_pos (.inr (.inr ⟨q3, q4⟩)))
            clear q1 q2 q3 q4 HQ
            go_wp2_with (fail)
            go_ret2
            exact ⟨by rw [HB.out]; rfl, rfl⟩
          · have b4 : ¬ ((hi : Int) ≤ 57343) := by omega
            have d4 : decide ((hi : Int) ≤ 57343) = false := decide_eq_false b4
            have HB : Hid (R = (0, -1)) := Lib.hid (by rw [HQ.out]; exact if_neg (by unfold badV; omega))
            clear q1 q2 q3 q4 HQ
            go_wp2_with (fail)
            go_ret2
            exact ⟨by rw [HB.out]; rfl, rfl⟩
        · have b3 : ¬ ((55296 : Int) ≤ lo) := by omega
          have d3 : decide ((55296 : Int) ≤ lo) = false := decide_eq_false b3
          have HB : Hid (R = (0, -1)) := Lib.hid (by rw [HQ.out]; exact if_neg (by unfold badV; omega))
          clear q1 q2 q3 HQ
          go_wp2_with (fail)
          go_ret2
          exact ⟨by rw [HB.out]; rfl, rfl⟩
set_option maxHeartbeats 8000000 in
set_option maxRecDepth 100000 in
theorem ref_sign4 (s : ByteArray) (w : World) (hs : s.size ≤ 1000000) (h1 : 1 ≤ s.size) (h : 240 ≤ (s.get! 0).toNat ∧ (s.get! 0).toNat < 248) :
    Calls Tryd.prog 23 #[.string s] w fun e w' => e = .returned (sgV (sg s.data.toList)) ∧ w' = w := by
  obtain ⟨R, hR⟩ : ∃ R, R = sg s.data.toList := ⟨_, rfl⟩
  have hl := lp4 s h1 h
  rw [← hR] at hl ⊢
  obtain ⟨x, hx⟩ : ∃ x, s.get! 0 = x := ⟨_, rfl⟩
  rw [hx] at h hl
  have h0 : 0 < s.size := by omega
  have hix : s[0]'h0 = x := by rw [← hx]; exact (Utf8W.get!_of_lt s 0 h0).symm
  obtain ⟨c, hc⟩ : ∃ c, c = x.toNat := ⟨_, rfl⟩
  have hcx : (x.toNat : Int) = c := by rw [hc]
  rw [← hc] at h hl
  have hle : ¬ ((c : Int) < 128) := by omega
  have hled : decide ((c : Int) < 128) = false := decide_eq_false hle
  have k0 : ¬ ((c : Int) < 224) := by omega
  have j0 : decide ((c : Int) < 224) = false := decide_eq_false k0
  have k1 : ¬ ((c : Int) < 240) := by omega
  have j1 : decide ((c : Int) < 240) = false := decide_eq_false k1
  have k2 : (c : Int) < 248 := by omega
  have k3 : (192 : Int) ≤ c := by omega
  have k4 : (224 : Int) ≤ c := by omega
  have k5 : (240 : Int) ≤ c := by omega
  obtain ⟨v, hv⟩ : ∃ v, v = c - 240 := ⟨_, rfl⟩
  have hvc : (c : Int) - 240 = v := by omega
  have hv31 : v ≤ 31 := by omega
  rw [← hv] at hl
  have HST := Lib.hid hl
  obtain ⟨N, hN⟩ : ∃ N, N = s.size := ⟨_, rfl⟩
  have hsz : s.size = N := hN.symm
  have hie : s.toList.isEmpty = false := by
    cases hh : s.toList with
    | nil =>
      rw [ByteArray.toList_eq] at hh
      have h4 := congrArg List.length hh
      rw [Array.length_toList] at h4
      have h5 : s.data.size = 0 := h4
      have h3 : s.data.size = N := hsz
      omega
    | cons => rfl
  have HN := Lib.hid hN
  clear hR hl hx hc h hv h1 hN
  go_enter Tryd.func23, Tryd.ntmps23
  go_wp2_with (fail)
  go_loopg [8, 9, 10] 3 (fun gg vlo vhi vi wr => ∃ i lo hi : Nat, 1 ≤ i ∧ i ≤ 4 ∧ gg = 4 - i ∧ vlo = .int .i64 (lo : Nat) ∧ vhi = .int .i64 (hi : Nat) ∧ vi = .int .i64 (i : Nat) ∧ lo ≤ bdN i ∧ hi ≤ bdN i ∧ Hid (sgLp s 4 65536 (4 - i) i lo hi = R) ∧ wr = w)
  case atStart => exact ⟨1, v, v, by omega, by omega, by omega, rfl, rfl, rfl, hv31, hv31, HST, rfl⟩
  case round =>
    obtain ⟨i, lo, hi, hi1, hin, rfl, rfl, rfl, rfl, hlo, hhi, HS, rfl⟩ := hrel
    clear HST
    by_cases hlt : i < 4
    · have hltI : (i : Int) < 4 := by omega
      have hc3 : i = 1 ∨ i = 2 ∨ i = 3 := by omega
      have hb1 : bdN i ≤ 131071 ∧ 64 * bdN i + 63 = bdN (i + 1) := by rcases hc3 with rfl | rfl | rfl <;> exact ⟨by decide, rfl⟩
      have hlo2 : lo ≤ 131071 := by omega
      have hhi2 : hi ≤ 131071 := by omega
      have hst := HS.out
      rw [show 4 - i = (4 - (i + 1)) + 1 by omega, sgLp] at hst
      by_cases hsi : s.size ≤ i
      · have hsiI : (N : Int) ≤ i := by omega
        rw [if_pos hsi] at hst
        have HS2 := Lib.hid hst
        have HBd := Lib.hid hb1
        have HLo := Lib.hid (And.intro hlo hhi)
        clear hst HS hsi hc3 hb1 hlo hhi
        go_wp2_with (fail)
        go_roundg (4 - (i + 1))
        case measure => omega
        case rel => exact ⟨i + 1, lo * 64, 64 * hi + 63, by omega, by omega, by omega, by go_num, by go_num, by go_num, by have := HBd.out; have := HLo.out; omega, by have := HBd.out; have := HLo.out; omega, HS2, rfl⟩
      · have hsiI : ¬ ((N : Int) ≤ i) := by omega
        have hsid : decide ((N : Int) ≤ i) = false := decide_eq_false hsiI
        have hsl : i < s.size := by omega
        have hslI : (i : Int) < N := by omega
        rw [if_neg hsi] at hst
        obtain ⟨y, hy⟩ : ∃ y, s.get! i = y := ⟨_, rfl⟩
        have hiy : s[i]'hsl = y := by rw [← hy]; exact (Utf8W.get!_of_lt s i hsl).symm
        rw [hy] at hst
        obtain ⟨d, hd⟩ : ∃ d, d = y.toNat := ⟨_, rfl⟩
        have hdy : (y.toNat : Int) = d := by rw [hd]
        have hd256 : d < 256 := by rw [hd]; exact y.toNat_lt
        rw [← hd] at hst
        by_cases hq : d < 128
        · have hqI : (d : Int) < 128 := by omega
          rw [if_pos (.inl hq)] at hst
          have HB := Lib.hid hst
          clear hst HS hy hd hq hc3 hb1
          go_wp2_with (fail)
          go_ret2
          exact ⟨by rw [← HB.out]; rfl, rfl⟩
        · have hqI : ¬ ((d : Int) < 128) := by omega
          have hqd : decide ((d : Int) < 128) = false := decide_eq_false hqI
          by_cases hp : 192 ≤ d
          · have hpI : (192 : Int) ≤ d := by omega
            rw [if_pos (.inr hp)] at hst
            have HB := Lib.hid hst
            clear hst HS hy hd hq hp hc3 hb1
            go_wp2_with (fail)
            go_ret2
            exact ⟨by rw [← HB.out]; rfl, rfl⟩
          · have hpI : ¬ ((192 : Int) ≤ d) := by omega
            have hpd : decide ((192 : Int) ≤ d) = false := decide_eq_false hpI
            rw [if_neg (by omega)] at hst
            have HS2 := Lib.hid hst
            have HBd := Lib.hid hb1
            have HLo := Lib.hid (And.intro hlo hhi)
            have HD := Lib.hid (show 128 ≤ d ∧ d < 192 by omega)
            clear hst HS hy hd hq hp hc3 hb1 hlo hhi
            go_wp2_with (fail)
            go_roundg (4 - (i + 1))
            case measure => omega
            case rel => exact ⟨i + 1, 64 * lo + (d - 128), 64 * hi + (d - 128), by omega, by omega, by omega, by have := HD.out; go_num, by have := HD.out; go_num, by go_num, by have := HD.out; have := HBd.out; have := HLo.out; omega, by have := HD.out; have := HBd.out; have := HLo.out; omega, HS2, rfl⟩
    · obtain rfl : i = 4 := by omega
      have hst := HS.out
      rw [Nat.sub_self, sgLp] at hst
      by_cases hsz2 : 4 ≤ s.size
      · have hzI : (4 : Int) ≤ N := by omega
        rw [if_pos hsz2] at hst
        have HQ := Lib.hid hst.symm
        clear hst HS hsz2
        by_cases q1 : lo < 65536
        · have b1 : (lo : Int) < 65536 := by omega
          have HB : Hid (R = (0, 0)) := Lib.hid (by rw [HQ.out]; exact if_pos (.inl q1))
          clear q1 HQ
          go_wp2_with (fail)
          go_ret2
          exact ⟨by rw [HB.out]; rfl, rfl⟩
        have b1 : ¬ ((lo : Int) < 65536) := by omega
        have d1 : decide ((lo : Int) < 65536) = false := decide_eq_false b1
        by_cases q2 : 1114111 < lo
        · have b2 : (1114111 : Int) < lo := by omega
          have HB : Hid (R = (0, 0)) := Lib.hid (by rw [HQ.out]; exact if_pos (.inr (.inl q2)))
          clear q1 q2 HQ
          go_wp2_with (fail)
          go_ret2
          exact ⟨by rw [HB.out]; rfl, rfl⟩
        have b2 : ¬ ((1114111 : Int) < lo) := by omega
        have d2 : decide ((1114111 : Int) < lo) = false := decide_eq_false b2
        by_cases q3 : 55296 ≤ lo
        · have b3 : (55296 : Int) ≤ lo := by omega
          by_cases q4 : lo ≤ 57343
          · have b4 : (lo : Int) ≤ 57343 := by omega
            have HB : Hid (R = (0, 0)) := Lib.hid (by rw [HQ.out]; exact if_pos (.inr (.inr ⟨q3, q4⟩)))
            clear q1 q2 q3 q4 HQ
            go_wp2_with (fail)
            go_ret2
            exact ⟨by rw [HB.out]; rfl, rfl⟩
          · have b4 : ¬ ((lo : Int) ≤ 57343) := by omega
            have d4 : decide ((lo : Int) ≤ 57343) = false := decide_eq_false b4
            have HB : Hid (R = (lo, 4)) := Lib.hid (by rw [HQ.out]; exact if_neg (by unfold badV; omega))
            clear q1 q2 q3 q4 HQ
            go_wp2_with (fail)
            go_ret2
            exact ⟨by rw [HB.out]; rfl, rfl⟩
        · have b3 : ¬ ((55296 : Int) ≤ lo) := by omega
          have d3 : decide ((55296 : Int) ≤ lo) = false := decide_eq_false b3
          have HB : Hid (R = (lo, 4)) := Lib.hid (by rw [HQ.out]; exact if_neg (by unfold badV; omega))
          clear q1 q2 q3 HQ
          go_wp2_with (fail)
          go_ret2
          exact ⟨by rw [HB.out]; rfl, rfl⟩
      · have hzI : ¬ ((4 : Int) ≤ N) := by omega
        have hzd : decide ((4 : Int) ≤ N) = false := decide_eq_false hzI
        rw [if_neg hsz2] at hst
        have HQ := Lib.hid hst.symm
        clear hst HS hsz2
        by_cases q1 : hi < 65536
        · have b1 : (hi : Int) < 65536 := by omega
          have HB : Hid (R = (0, 0)) := Lib.hid (by rw [HQ.out]; exact if_pos (.inl q1))
          clear q1 HQ
          go_wp2_with (fail)
          go_ret2
          exact ⟨by rw [HB.out]; rfl, rfl⟩
        have b1 : ¬ ((hi : Int) < 65536) := by omega
        have d1 : decide ((hi : Int) < 65536) = false := decide_eq_false b1
        by_cases q2 : 1114111 < lo
        · have b2 : (1114111 : Int) < lo := by omega
          have HB : Hid (R = (0, 0)) := Lib.hid (by rw [HQ.out]; exact if_pos (.inr (.inl q2)))
          clear q1 q2 HQ
          go_wp2_with (fail)
          go_ret2
          exact ⟨by rw [HB.out]; rfl, rfl⟩
        have b2 : ¬ ((1114111 : Int) < lo) := by omega
        have d2 : decide ((1114111 : Int) < lo) = false := decide_eq_false b2
        by_cases q3 : 55296 ≤ lo
        · have b3 : (55296 : Int) ≤ lo := by omega
          by_cases q4 : hi ≤ 57343
          · have b4 : (hi : Int) ≤ 57343 := by omega
            have HB : Hid (R = (0, 0)) := Lib.hid (by rw [HQ.out]; exact if_pos (.inr (.inr ⟨q3, q4⟩)))
            clear q1 q2 q3 q4 HQ
            go_wp2_with (fail)
            go_ret2
            exact ⟨by rw [HB.out]; rfl, rfl⟩
          · have b4 : ¬ ((hi : Int) ≤ 57343) := by omega
            have d4 : decide ((hi : Int) ≤ 57343) = false := decide_eq_false b4
            have HB : Hid (R = (0, -1)) := Lib.hid (by rw [HQ.out]; exact if_neg (by unfold badV; omega))
            clear q1 q2 q3 q4 HQ
            go_wp2_with (fail)
            go_ret2
            exact ⟨by rw [HB.out]; rfl, rfl⟩
        · have b3 : ¬ ((55296 : Int) ≤ lo) := by omega
          have d3 : decide ((55296 : Int) ≤ lo) = false := decide_eq_false b3
          have HB : Hid (R = (0, -1)) := Lib.hid (by rw [HQ.out]; exact if_neg (by unfold badV; omega))
          clear q1 q2 q3 HQ
          go_wp2_with (fail)
          go_ret2
          exact ⟨by rw [HB.out]; rfl, rfl⟩
set_option maxHeartbeats 4000000 in
set_option maxRecDepth 100000 in
/-- Sign, of any bytes. -/
theorem ref_sign (s : ByteArray) (w : World) (hs : s.size ≤ 1000000) :
    Calls Tryd.prog 23 #[.string s] w fun e w' => e = .returned (sgV (sg s.data.toList)) ∧ w' = w := by
  by_cases h1 : 1 ≤ s.size
  · by_cases c2 : 192 ≤ (s.get! 0).toNat ∧ (s.get! 0).toNat < 224
    · exact ref_sign2 s w hs h1 c2
    by_cases c3 : 224 ≤ (s.get! 0).toNat ∧ (s.get! 0).toNat < 240
    · exact ref_sign3 s w hs h1 c3
    by_cases c4 : 240 ≤ (s.get! 0).toNat ∧ (s.get! 0).toNat < 248
    · exact ref_sign4 s w hs h1 c4
    have hsg := sg_bytes s
    obtain ⟨R, hR⟩ : ∃ R, R = sg s.data.toList := ⟨_, rfl⟩
    rw [← hR] at hsg ⊢
    obtain ⟨x, hx⟩ : ∃ x, s.get! 0 = x := ⟨_, rfl⟩
    rw [hx] at c2 c3 c4 hsg
    have h0 : 0 < s.size := by omega
    have hix : s[0]'h0 = x := by rw [← hx]; exact (Utf8W.get!_of_lt s 0 h0).symm
    have hx256 := x.toNat_lt
    obtain ⟨c, hc⟩ : ∃ c, c = x.toNat := ⟨_, rfl⟩
    have hcx : (x.toNat : Int) = c := by rw [hc]
    rw [← hc] at c2 c3 c4 hsg hx256
    obtain ⟨N, hN⟩ : ∃ N, N = s.size := ⟨_, rfl⟩
    have hsz : s.size = N := hN.symm
    have hie : s.toList.isEmpty = false := by
      cases hh : s.toList with
      | nil =>
        rw [ByteArray.toList_eq] at hh
        have h4 := congrArg List.length hh
        rw [Array.length_toList] at h4
        have h5 : s.data.size = 0 := h4
        have h3 : s.data.size = N := hsz
        omega
      | cons => rfl
    by_cases c1 : c < 128
    · have k1 : (c : Int) < 128 := by omega
      have hcw := Lib.hid (show wrap64 (c : Int) = (c : Int) by unfold wrap64; omega)
      have HB : Hid (R = (c, 1)) := Lib.hid (by rw [hsg]; exact SgI.det (.one (by omega) c1))
      clear hR hx hsg c2 c3 c4 c1 hc hx256 hN h1
      go_enter Tryd.func23, Tryd.ntmps23
      go_wp2_with (fail)
      go_ret2
      exact ⟨by rw [HB.out]; rfl, rfl⟩
    · have k1 : ¬ ((c : Int) < 128) := by omega
      have j1 : decide ((c : Int) < 128) = false := decide_eq_false k1
      have HB : Hid (R = (0, 0)) := Lib.hid (by rw [hsg]; exact SgI.det (.bad (by omega) (by unfold BadN; omega)))
      by_cases c5 : c < 192
      · have k2 : ¬ ((192 : Int) ≤ c) := by omega
        have j2 : decide ((192 : Int) ≤ c) = false := decide_eq_false k2
        have k3 : ¬ ((224 : Int) ≤ c) := by omega
        have j3 : decide ((224 : Int) ≤ c) = false := decide_eq_false k3
        have k4 : ¬ ((240 : Int) ≤ c) := by omega
        have j4 : decide ((240 : Int) ≤ c) = false := decide_eq_false k4
        clear hR hx hsg c2 c3 c4 c1 hc hx256 hN h1 c5
        go_enter Tryd.func23, Tryd.ntmps23
        go_wp2_with (fail)
        go_ret2
        exact ⟨by rw [HB.out]; rfl, rfl⟩
      · have hcB : (c : Int) < 256 := by omega
        have k2 : (192 : Int) ≤ c := by omega
        have k3 : (224 : Int) ≤ c := by omega
        have k4 : (240 : Int) ≤ c := by omega
        have k5 : ¬ ((c : Int) < 224) := by omega
        have j5 : decide ((c : Int) < 224) = false := decide_eq_false k5
        have k6 : ¬ ((c : Int) < 240) := by omega
        have j6 : decide ((c : Int) < 240) = false := decide_eq_false k6
        have k7 : ¬ ((c : Int) < 248) := by omega
        have j7 : decide ((c : Int) < 248) = false := decide_eq_false k7
        clear hR hx hsg c2 c3 c4 c1 hc hx256 hN h1 c5
        go_enter Tryd.func23, Tryd.ntmps23
        go_wp2_with (fail)
        go_ret2
        exact ⟨by rw [HB.out]; rfl, rfl⟩
  · have hse : s = ByteArray.empty := ByteArray.ext (Array.eq_empty_of_size_eq_zero (show s.data.size = 0 by have : s.data.size = s.size := rfl
                                                                                                             omega))
    subst hse
    go_enter Tryd.func23, Tryd.ntmps23
    go_wp2_with (fail)
    go_ret2
    exact ⟨by rfl, rfl⟩
theorem ref_may (c : Int) (w : World) :
    Calls Tryd.prog 24 #[.int .i64 c] w fun e w' => e = .returned (.bool (mayS c)) ∧ w' = w := by
  by_cases h9 : c = 9
  · subst h9
    go_enter Tryd.func24, Tryd.ntmps24
    go_wp2_with (fail)
    go_ret
    exact ⟨rfl, rfl⟩
  by_cases h10 : c = 10
  · subst h10
    go_enter Tryd.func24, Tryd.ntmps24
    go_wp2_with (fail)
    go_ret
    exact ⟨rfl, rfl⟩
  by_cases h13 : c = 13
  · subst h13
    go_enter Tryd.func24, Tryd.ntmps24
    go_wp2_with (fail)
    go_ret
    exact ⟨rfl, rfl⟩
  have b9 : (c == 9) = false := by simpa using h9
  have b10 : (c == 10) = false := by simpa using h10
  have b13 : (c == 13) = false := by simpa using h13
  by_cases h32 : c < 32
  · have hm : Hid (mayS c = false) := Lib.hid (by unfold mayS; exact decide_eq_false (by omega))
    have k1 : ¬ ((32 : Int) ≤ c) := by omega
    have j1 : decide ((32 : Int) ≤ c) = false := decide_eq_false k1
    clear h9 h10 h13 h32
    go_enter Tryd.func24, Tryd.ntmps24
    go_wp2_with (fail)
    go_ret
    rw [hm.out]
    exact ⟨rfl, rfl⟩
  have k1 : (32 : Int) ≤ c := by omega
  by_cases hE : c = 65534
  · subst hE
    go_enter Tryd.func24, Tryd.ntmps24
    go_wp2_with (fail)
    go_ret
    exact ⟨rfl, rfl⟩
  by_cases hF : c = 65535
  · subst hF
    go_enter Tryd.func24, Tryd.ntmps24
    go_wp2_with (fail)
    go_ret
    exact ⟨rfl, rfl⟩
  have bE : (c == 65534) = false := by simpa using hE
  have bF : (c == 65535) = false := by simpa using hF
  have hm : Hid (mayS c = true) := Lib.hid (by unfold mayS; exact decide_eq_true (by omega))
  have nE : (c != 65534) = true := by simpa using hE
  have nF : (c != 65535) = true := by simpa using hF
  clear h9 h10 h13 h32
  go_enter Tryd.func24, Tryd.ntmps24
  go_wp2_with (fail)
  go_ret
  rw [hm.out]
  exact ⟨rfl, rfl⟩
end Go.Proofs.YtbpbghmhenilcaaDoor
