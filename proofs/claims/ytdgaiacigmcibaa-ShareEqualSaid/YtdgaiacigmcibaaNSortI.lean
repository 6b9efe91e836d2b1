/- The library's sort at int: the breaking of patterns, by a generator of numbers in a block of its own. Condition: the row lies in a block of its own. -/
import Derived.Test.YtdgaiacigmcibaaNSortH
import Derived.Test.YtdgaiacigmcibaaShelf
import Derived.Sort.LotD5
import Derived.Sort.Row
import Derived.Laws.Bits64
import Derived.Laws.Bits64b
namespace Go.Proofs.Ytdgaiacigmcibaa.NS
open Go.RowKit Go.Sort

/-- So many rounds are left; t have been made. -/
def bpRest (a L M i0 : Nat) : Nat → Nat → UInt64 × Array Int → Array Int
  | 0, _, st => st.2
  | k + 1, t, st => bpRest a L M i0 k (t + 1) (breakStep a L M st (i0 + t))
theorem breakPatterns_eq (d : Array Int) (a L : Nat) (h8 : 8 ≤ L) : breakPatterns d a (a + L) = bpRest a L (1 <<< bitsLen L) (a + L / 4 * 2 - 1) 3 0 (UInt64.ofNat L, d) := by
  unfold breakPatterns
  simp only [Nat.add_sub_cancel_left]
  rw [if_pos h8]
  rfl
theorem bp_step (a L M i0 t : Nat) (r : UInt64) (d : Array Int) (o : Nat) (ht : t < 3) (ho : (if (xorNext r).toNat &&& (M - 1) ≥ L then ((xorNext r).toNat &&& (M - 1)) - L else (xorNext r).toNat &&& (M - 1)) = o) :
    bpRest a L M i0 (3 - t) t (r, d) = bpRest a L M i0 (3 - (t + 1)) (t + 1) (xorNext r, Sort.swp d (i0 + t) (a + o)) := by
  rw [show 3 - t = (3 - (t + 1)) + 1 by omega, bpRest]
  unfold breakStep
  simp only [ho]
theorem bits_len_eq (x : Nat) (h : x < 2 ^ 64) : Lib.bitLen x = bitsLen x := by
  induction x using Nat.strongRecOn with
  | _ x ih =>
    by_cases h0 : x = 0
    · subst h0; rfl
    · rw [Lib.bitLen_half x h0 h, ih (x / 2) (by omega) (by omega)]
      unfold bitsLen
      rw [if_neg h0, Nat.log2_def x]
      by_cases h2 : 2 ≤ x
      · rw [if_pos h2, if_neg (by omega)]; omega
      · obtain rfl : x = 1 := by omega
        simp
theorem wrap_pow2 (k : Nat) (hk : k ≤ 62) : IntKind.u64.wrap ((2 : Int) ^ k) = ((1 <<< k : Nat) : Int) := by
  have h : (2 : Nat) ^ k ≤ 2 ^ 62 := Nat.pow_le_pow_right (by decide) hk
  rw [IntKind.wrap_u64, Nat.one_shiftLeft, show ((2 : Int) ^ k) = ((2 ^ k : Nat) : Int) by push_cast; rfl]
  generalize (2 : Nat) ^ k = p at h
  omega
theorem u_pow2 (n : Nat) (hn : n < 4611686018427387904) (w : World) :
    Calls Try.prog 64 #[.int .i64 n] w fun e w' => e = .returned (.int .u64 ((1 <<< bitsLen n : Nat) : Int)) ∧ w' = w := by
  have hLen : ∀ w, Calls Try.prog 36 #[.int .u64 (n : Int)] w fun e w' => e = .returned (.int .i64 (bitsLen n : Nat)) ∧ w' = w := fun w => by
    have h := Try.bits_Len (n : Int) w (by omega) (by omega)
    rwa [Int.toNat_natCast, bits_len_eq _ (by omega)] at h
  have hk : bitsLen n ≤ 62 := (bitsLen_le_iff n 62).2 (by omega)
  have hp := wrap_pow2 (bitsLen n) hk
  go_enter Try.func64, Try.ntmps64
  go_wp2_with (first | (go_at_call 36; refine (hLen _).mono ?_; rintro e w' ⟨rfl, rfl⟩))
  go_ret
  exact ⟨rfl, rfl⟩
theorem setCell_twice (w : World) (blk off : Nat) (v v' : Value) : (w.setCell ⟨blk, off, none⟩ v).setCell ⟨blk, off, none⟩ v' = w.setCell ⟨blk, off, none⟩ v' := by
  rw [setCell_eq, setCell_eq, mapBlock_mapBlock, setCell_eq]
  congr 1
  funext c
  simp
/-- The generator's state in a block of its own. -/
abbrev Gen (w : World) (q : Nat) (X : Nat) : Prop := Row w q [.int .u64 X] 88
theorem u_next (q X : Nat) (hX : X < 18446744073709551616) (w : World) (hq : Gen w q X) :
    Calls Try.prog 65 #[.pointer (some ⟨q, 0, none⟩)] w fun e w' => e = .returned (.int .u64 (xorNextN X : Nat)) ∧ Gen w' q (xorNextN X) ∧ Fr (fun k => k = q) w w' := by
  have hc : w.cell? ⟨q, 0, none⟩ = some (.int .u64 X) := hq.cell 0 rfl
  have hf : w.frozen? ⟨q, 0, none⟩ = false := hq.free 0
  obtain ⟨A, hA⟩ : ∃ A : Nat, A = X ^^^ (X * 8192 % 18446744073709551616) := ⟨_, rfl⟩
  obtain ⟨B, hB⟩ : ∃ B : Nat, B = A ^^^ (A / 128) := ⟨_, rfl⟩
  obtain ⟨C, hC⟩ : ∃ C : Nat, C = B ^^^ (B * 131072 % 18446744073709551616) := ⟨_, rfl⟩
  have lA : A < 18446744073709551616 := by rw [hA]; exact Nat.xor_lt_two_pow (n := 64) (by omega) (by omega)
  have lB : B < 18446744073709551616 := by rw [hB]; exact Nat.xor_lt_two_pow (n := 64) (by omega) (by omega)
  have e1 : bits .xor .u64 (X : Int) (IntKind.u64.wrap ((X : Int) * 8192)) = (A : Int) := by
    rw [IntKind.wrap_u64, show ((X : Int) * 8192 % 18446744073709551616) = ((X * 8192 % 18446744073709551616 : Nat) : Int) by omega, bits_xor_u64_nat _ _ hX (by omega), hA]
  have e2 : bits .xor .u64 (A : Int) ((A : Int) / 128) = (B : Int) := by
    rw [show ((A : Int) / 128) = ((A / 128 : Nat) : Int) by omega, bits_xor_u64_nat _ _ lA (by omega), hB]
  have e3 : bits .xor .u64 (B : Int) (IntKind.u64.wrap ((B : Int) * 131072)) = (C : Int) := by
    rw [IntKind.wrap_u64, show ((B : Int) * 131072 % 18446744073709551616) = ((B * 131072 % 18446744073709551616 : Nat) : Int) by omega, bits_xor_u64_nat _ _ lB (by omega), hC]
  have hv : xorNextN X = C := by unfold xorNextN; simp only []; rw [← hA, ← hB, ← hC]
  rw [hv]
  have HQ := Lib.hid hq
  clear hA hB hC hv hq
  have hss : ∀ v v', (w.setCell ⟨q, 0, none⟩ v).setCell ⟨q, 0, none⟩ v' = w.setCell ⟨q, 0, none⟩ v' := setCell_twice w q 0
  go_enter Try.func65, Try.ntmps65
  go_wp2
  go_region
  all_goals go_wp2
  all_goals go_region
  all_goals go_wp2
  all_goals go_region
  all_goals go_wp2
  go_ret
  refine ⟨rfl, ?_, (Fr.setCell (S := fun k => k = q) (p := ⟨q, 0, none⟩) rfl _).trans' (Fr.drewN _ _ 3)⟩
  exact Row.drewN (HQ.out.set 0 (.int .u64 (C : Int))) 3
set_option maxHeartbeats 8000000 in
set_option maxRecDepth 100000 in
theorem u_break (g c : Nat) (rest : List Value) (d : Array Int) (a L : Nat) (w : World) (h : UA w g rest d) (hb : a + L ≤ d.size) (h8 : 12 < L) (hd : (d.size : Int) ≤ 1000) :
    Calls Try.prog 48 #[.slice (some ⟨g, 0, none⟩) d.size c, .int .i64 a, .int .i64 ((a : Int) + L)] w fun e w' => e = .returned (.tuple #[]) ∧ UA w' g rest (breakPatterns d a (a + L)) ∧ Fr (fun q => q = g) w w' := by
  obtain ⟨n, hn⟩ : ∃ n, n = d.size := ⟨_, rfl⟩
  obtain ⟨R, hR⟩ : ∃ R, R = breakPatterns d a (a + L) := ⟨_, rfl⟩
  rw [← hR]
  rw [breakPatterns_eq d a L (by omega)] at hR
  obtain ⟨M, hM⟩ : ∃ M : Nat, M = 1 <<< bitsLen L := ⟨_, rfl⟩
  have hM1 : 1 ≤ M := by rw [hM, Nat.one_shiftLeft]; exact Nat.two_pow_pos _
  have hM2 : M ≤ 2 * L := by rw [hM, Nat.one_shiftLeft]; exact two_pow_bitsLen_le (by omega)
  have hNP : ∀ w, Calls Try.prog 64 #[.int .i64 (L : Int)] w fun e w' => e = .returned (.int .u64 (M : Int)) ∧ w' = w := by rw [hM]; exact fun w => u_pow2 L (by omega) w
  rw [← hM] at hR
  clear hM
  obtain ⟨m, hm⟩ : ∃ m, m = L / 4 := ⟨_, rfl⟩
  rw [← hm] at hR
  have hm4 : 4 * m ≤ L ∧ L < 4 * m + 4 := by omega
  have e1 : (a : Int) + L - a = L := by omega
  have e2 : Int.tdiv (L : Int) 4 = m := by rw [hm]; exact (Int.ofNat_tdiv L 4).symm
  obtain ⟨j, hj⟩ : ∃ j, j = a + m * 2 := ⟨_, rfl⟩
  have ej : (a : Int) + (m : Int) * 2 = j := by omega
  rw [← hj] at hR
  have hj1 : 1 ≤ j ∧ j + 1 < a + L := by omega
  have hjI : (1 : Int) ≤ j := by omega
  have hj1000 : (j : Int) ≤ 1000 := by omega
  have hLI : (8 : Int) ≤ L := by omega
  have hL1000 : (L : Int) ≤ 1000 := by omega
  have hm1000 : (m : Int) ≤ 250 := by omega
  have ha1000 : (a : Int) ≤ 1000 := by omega
  have hMI1 : (1 : Int) ≤ M := by omega
  have hMI2 : (M : Int) ≤ 2000 := by omega
  have HR0 := Lib.hid hR.symm
  have HN0 := Lib.hid hn.symm
  have hg : g < w.heap.size := Row.lt h
  have HQ : Hid (Gen (w.alloc (.cells #[.int .u64 (L : Int)] 88)) w.heap.size (UInt64.ofNat L).toNat) := Lib.hid (by
    rw [show (UInt64.ofNat L).toNat = L from by simp; omega]; exact Row.allocNew w [.int .u64 (L : Int)] _)
  have HU : Hid (UA (w.alloc (.cells #[.int .u64 (L : Int)] 88)) g rest d) := Lib.hid (UA.fr (S := Nothing) h (Fr.alloc Nothing _ _) (fun h => h))
  have F0 : Fr (fun q => q = g) w (w.alloc (.cells #[.int .u64 (L : Int)] 88)) := Fr.alloc _ _ _
  obtain ⟨q, hq⟩ : ∃ q, q = w.heap.size := ⟨_, rfl⟩
  have hqg : q ≠ g := by omega
  have HQW : Hid (q = w.heap.size) := Lib.hid hq
  rw [← hn] at hd hb ⊢
  clear hR hn h hm hj
  go_enter Try.func48, Try.ntmps48
  go_wp2_with (first | (go_at_call 64; refine (hNP _).mono ?_; rintro e w' ⟨rfl, rfl⟩))
  rw [← hq] at HQ ⊢
  clear hq
  go_loopg [9] 3 (fun gg vi wr => ∃ (t k : Nat) (r : UInt64) (dk : Array Int), gg = 3 - t ∧ vi = .int .i64 k ∧ k + 1 = j + t ∧ t ≤ 3 ∧ Hid (dk.size = n) ∧ Hid (bpRest a L M (j - 1) (3 - t) t (r, dk) = R) ∧ Hid (UA wr g rest dk) ∧ Hid (Gen wr q r.toNat) ∧ Fr (fun q => q = g) w wr)
  case atStart => exact ⟨0, j - 1, UInt64.ofNat L, d, rfl, by rw [show ((j - 1 : Nat) : Int) = (j : Int) - 1 by omega], by omega, by omega, HN0, HR0, HU, HQ, F0⟩
  case round =>
    clear HN0 HR0 HU HQ F0
    obtain ⟨t, k, r, dk, rfl, rfl, hk, ht, HN, HR, HU, HQ, F⟩ := hrel
    by_cases ht3 : t < 3
    · have hkj : (k : Int) ≤ (j : Int) + 1 := by omega
      have hk1000 : (k : Int) ≤ 1000 := by omega
      have hkn : (k : Int) < n := by omega
      obtain ⟨R1, hR1⟩ : ∃ R1 : Nat, R1 = xorNextN r.toNat := ⟨_, rfl⟩
      have lr : r.toNat < 18446744073709551616 := r.toNat_lt
      have lR1 : R1 < 18446744073709551616 := by rw [hR1]; exact xorNextN_lt _ lr
      obtain ⟨O, hO⟩ : ∃ O : Nat, O = R1 &&& (M - 1) := ⟨_, rfl⟩
      have lO : O ≤ M - 1 := by rw [hO]; exact Nat.and_le_right
      have eAnd : bits .and .u64 (R1 : Int) ((M : Int) - 1) = (O : Int) := by
        rw [show ((M : Int) - 1) = ((M - 1 : Nat) : Int) by omega, bits_and_u64_nat _ _ lR1 (by omega), hO]
      have hRx : R1 = (xorNext r).toNat := by rw [hR1, xorNext_toNat]
      have HNX := Lib.hid (u_next q r.toNat lr wr HQ.out)
      rw [← hR1] at HNX
      have HO : Hid (O = (xorNext r).toNat &&& (M - 1)) := Lib.hid (by rw [hO, hRx])
      have HRX : Hid (R1 = (xorNext r).toNat) := Lib.hid hRx
      have lO2 : (O : Int) ≤ 2000 := by omega
      clear hR1 hO hRx lr lR1
      go_wp2_with (first | (go_at_call 65; refine HNX.out.mono ?_; rintro e W ⟨rfl, G1, F1⟩))
      · have hLO : L ≤ O := by omega
        obtain ⟨o, ho⟩ : ∃ o, o = O - L := ⟨_, rfl⟩
        have eo : (O : Int) - L = o := by omega
        have hoL : o < L := by omega
        have HO2 := Lib.hid ho
        clear ho
        obtain ⟨p, hp⟩ : ∃ p, p = a + o := ⟨_, rfl⟩
        have ep : (a : Int) + o = p := by omega
        have hpn : (p : Int) < n := by omega
        have HR5 : Hid (bpRest a L M (j - 1) (3 - (t + 1)) (t + 1) (xorNext r, Sort.swp dk k p) = R) := Lib.hid (by
          rw [← HR.out, bp_step a L M (j - 1) t r dk o ht3 (by rw [← HO.out]; rw [if_pos hLO]; exact HO2.out.symm), hp, show j - 1 + t = k by omega])
        have HU1 : Hid (UA W g rest dk) := Lib.hid (UA.fr HU.out F1 (fun e => hqg e.symm))
        have F2 : Fr (fun q => q = g) w W := F.trans F1 (fun k hk e => absurd hk (by rw [e, HQW.out]; omega))
        have HG1 := Lib.hid G1
        have bI : Hid (k < dk.size) := Lib.hid (by rw [HN.out]; omega)
        have bJ : Hid (p < dk.size) := Lib.hid (by rw [HN.out]; omega)
        have FW0 := Fr.refl (fun q => q = g) W
        clear hp HR HU G1 F F1 HO HNX HQ
        obtain ⟨x, hx⟩ : ∃ x, x = dk[k]! := ⟨_, rfl⟩
        obtain ⟨y, hy⟩ : ∃ y, y = dk[p]! := ⟨_, rfl⟩
        have p0 := HU1.out.cell bI.out
        have p1 := HU1.out.cell bJ.out
        rw [← hx] at p0
        rw [← hy] at p1
        have HX := Lib.hid hx.symm
        have HY := Lib.hid hy.symm
        have fz : ∀ k, World.frozen? W ⟨g, k, none⟩ = false := fun k => HU1.out.free k
        obtain ⟨v0, f0⟩ := HU1.out.after bI.out bJ.out y
        have HW := Lib.hid (HU1.out.swapped FW0 bI.out bJ.out HX.out HY.out)
        clear hx hy FW0
        go_region
        go_wp2_with (fail)
        go_roundg (3 - (t + 1))
        case measure => omega
        case rel => exact ⟨t + 1, k + 1, xorNext r, _, rfl, by go_num, by omega, by omega, Lib.hid (by rw [swp_size]; exact HN.out), HR5, Lib.hid HW.out.1, Lib.hid (by rw [← HRX.out]; exact Row.fr HG1.out HW.out.2 hqg), F2.trans' HW.out.2⟩
      · have hLO : ¬ L ≤ O := by omega
        obtain ⟨o, ho⟩ : ∃ o, o = O := ⟨_, rfl⟩
        subst ho
        obtain ⟨p, hp⟩ : ∃ p, p = a + o := ⟨_, rfl⟩
        have ep : (a : Int) + o = p := by omega
        have hpn : (p : Int) < n := by omega
        have HR5 : Hid (bpRest a L M (j - 1) (3 - (t + 1)) (t + 1) (xorNext r, Sort.swp dk k p) = R) := Lib.hid (by
          rw [← HR.out, bp_step a L M (j - 1) t r dk o ht3 (by rw [← HO.out]; rw [if_neg hLO]), hp, show j - 1 + t = k by omega])
        have HU1 : Hid (UA W g rest dk) := Lib.hid (UA.fr HU.out F1 (fun e => hqg e.symm))
        have F2 : Fr (fun q => q = g) w W := F.trans F1 (fun k hk e => absurd hk (by rw [e, HQW.out]; omega))
        have HG1 := Lib.hid G1
        have bI : Hid (k < dk.size) := Lib.hid (by rw [HN.out]; omega)
        have bJ : Hid (p < dk.size) := Lib.hid (by rw [HN.out]; omega)
        have FW0 := Fr.refl (fun q => q = g) W
        clear hp HR HU G1 F F1 HO HNX HQ
        obtain ⟨x, hx⟩ : ∃ x, x = dk[k]! := ⟨_, rfl⟩
        obtain ⟨y, hy⟩ : ∃ y, y = dk[p]! := ⟨_, rfl⟩
        have p0 := HU1.out.cell bI.out
        have p1 := HU1.out.cell bJ.out
        rw [← hx] at p0
        rw [← hy] at p1
        have HX := Lib.hid hx.symm
        have HY := Lib.hid hy.symm
        have fz : ∀ k, World.frozen? W ⟨g, k, none⟩ = false := fun k => HU1.out.free k
        obtain ⟨v0, f0⟩ := HU1.out.after bI.out bJ.out y
        have HW := Lib.hid (HU1.out.swapped FW0 bI.out bJ.out HX.out HY.out)
        clear hx hy FW0
        go_region
        go_wp2_with (fail)
        go_roundg (3 - (t + 1))
        case measure => omega
        case rel => exact ⟨t + 1, k + 1, xorNext r, _, rfl, by go_num, by omega, by omega, Lib.hid (by rw [swp_size]; exact HN.out), HR5, Lib.hid HW.out.1, Lib.hid (by rw [← HRX.out]; exact Row.fr HG1.out HW.out.2 hqg), F2.trans' HW.out.2⟩
    · obtain rfl : t = 3 := by omega
      have hkj : ¬ ((k : Int) ≤ (j : Int) + 1) := by omega
      go_wp2_with (fail)
      refine bodyPost_end (results_none rfl _ _ _) rfl ?_
      exact ⟨rfl, by rw [← HR.out]; exact HU.out, F⟩
end Go.Proofs.Ytdgaiacigmcibaa.NS
