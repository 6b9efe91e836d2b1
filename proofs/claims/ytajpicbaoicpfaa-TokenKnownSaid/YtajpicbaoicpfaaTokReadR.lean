/- The number of a text, as the document's answer reads it. No condition. -/
import Derived.Test.YtajpicbaoicpfaaTokRead
namespace Go.Proofs.Ytajpicbaoicpfaa
open Go.RowKit

/-- The digit as far as k signs have been looked at. -/
def seenD (x : UInt8) (k : Nat) : Int := match dg x with | some d => if d < k then (d : Int) else -1 | none => -1
theorem seenD_zero (x : UInt8) : seenD x 0 = -1 := by
  unfold seenD
  cases dg x <;> simp
theorem seenD_all (x : UInt8) : seenD x 32 = dgI x := by
  unfold seenD dgI
  cases h : dg x with
  | none => rfl
  | some d => have := dg_lt h; simp [this]
theorem seenD_yes {x : UInt8} {k : Nat} (hk : k < 32) (h : x = sg k) : seenD x (k + 1) = k := by
  subst h
  unfold seenD
  rw [dg_sg hk]; simp
theorem seenD_no {x : UInt8} {k : Nat} (hk : k < 32) (h : x ≠ sg k) : seenD x (k + 1) = seenD x k := by
  unfold seenD
  cases hd : dg x with
  | none => rfl
  | some d =>
    have : d ≠ k := by rintro rfl; exact h (sg_dg hd).symm
    simp only []
    by_cases h1 : d < k
    · rw [if_pos h1, if_pos (by omega)]
    · rw [if_neg h1, if_neg (by omega)]
set_option maxHeartbeats 4000000 in
set_option maxRecDepth 100000 in
theorem ref_read (s : ByteArray) (hs : s.size ≤ 40) (w : World) :
    Calls Try.prog 10 #[.string s] w fun e w' => e = .returned (rdV s) ∧ Fr Nothing w w' := by
  go_enter Try.func10, Try.ntmps10
  go_wp2_with (fail)
  have HL : Hid (s.data.toList.length = s.size) := Lib.hid rfl
  go_loopg [4, 5] s.size (fun g n i wr => ∃ (k N : Nat), k ≤ s.size ∧ g = s.size - k ∧ i = .int .i64 k ∧ n = .int .u64 N ∧ Hid (RdTo s k N) ∧ N < 18446744073709551616 ∧ Hid (∀ (h : 0 < s.data.toList.length) d, 0 < k → dg (s.data.toList[0]) = some d → d ≤ 15) ∧ Fr Nothing w wr)
  case atStart => exact ⟨0, 0, by omega, rfl, rfl, rfl, Lib.hid (RdTo.zero s), by omega, Lib.hid (fun _ _ h => by omega), Fr.refl _ _⟩
  case round =>
    obtain ⟨k, N, hk, rfl, rfl, rfl, HR, hN, H0, F⟩ := hrel
    by_cases hlt : k < s.size
    · obtain ⟨x, hx⟩ : ∃ x, x = s.data.toList[k]'(by rw [HL.out]; exact hlt) := ⟨_, rfl⟩
      have Hx := Lib.hid hx
      have hbx : s.data[k]'(by simpa using hlt) = x := by rw [hx]; simp
      have hbx2 : s[k]'hlt = x := hbx
      clear hx
      go_wp2_with (fail)
      go_loopg [6, 7] 32 (fun g d j wr1 => ∃ (q : Nat), q ≤ 32 ∧ g = 32 - q ∧ j = .int .i64 q ∧ d = .int .i64 (seenD x q) ∧ Fr Nothing w wr1)
      case atStart => exact ⟨0, by omega, rfl, rfl, by rw [seenD_zero], F⟩
      case round =>
        clear F
        obtain ⟨q, hq, rfl, rfl, rfl, F⟩ := hrel
        by_cases hq32 : q < 32
        · have hsg := signs_ix q hq32
          unfold signsB at hsg
          by_cases he : x = sg q
          · have hev : ((x.toNat : Int) == ((sg q).toNat : Int)) = true := by rw [he]; simp
            go_wp2_with (fail)
            go_quiet (fail)
            go_wp2_with (fail)
            go_roundg (32 - (q + 1))
            case measure => omega
            case rel => exact ⟨q + 1, by omega, rfl, by go_num, (by rw [seenD_yes hq32 he]), F.trans' (Fr.drewN _ _ _)⟩
          · have hev : ((x.toNat : Int) == ((sg q).toNat : Int)) = false := by
              rw [beq_eq_false_iff_ne]
              intro h
              exact he (UInt8.toNat_inj.1 (by omega))
            go_wp2_with (fail)
            go_quiet (fail)
            go_wp2_with (fail)
            go_roundg (32 - (q + 1))
            case measure => omega
            case rel => exact ⟨q + 1, by omega, rfl, by go_num, (by rw [seenD_no hq32 he]), F.trans' (Fr.drewN _ _ _)⟩
        · obtain rfl : q = 32 := by omega
          rw [seenD_all]
          cases hd : dg x with
          | none =>
            have hn := Lib.hid (rdV_none (rd_bad (s := s.data.toList) (i := k) (by rw [HL.out]; exact hlt) (by rw [← Hx.out]; exact hd)))
            have e1 := dgI_none hd
            rw [e1]
            clear hd e1
            go_wp2_with (fail)
            go_ret2
            exact ⟨congrArg Ending.returned hn.out.symm, F⟩
          | some d =>
            have e1 := dgI_some hd
            have d32 := dg_lt hd
            rw [e1]
            have Hd := Lib.hid hd
            clear hd e1
            by_cases hodd : k = 0 ∧ 15 < d
            · obtain ⟨rfl, h15⟩ := hodd
              have hn := Lib.hid (rdV_none (rd_first (s := s.data.toList) (by rw [HL.out]; exact hlt) (by rw [← Hx.out]; exact Hd.out) h15))
              go_wp2_with (fail)
              go_ret2
              exact ⟨congrArg Ending.returned hn.out.symm, F⟩
            · have H0' : Hid (∀ (h : 0 < s.data.toList.length) d, 0 < k + 1 → dg (s.data.toList[0]) = some d → d ≤ 15) := Lib.hid (fun h d' _ hd' => by
                by_cases k0 : k = 0
                · subst k0
                  have := Hx.out
                  rw [← this, Hd.out] at hd'
                  cases hd'
                  omega
                · exact H0.out h d' (by omega) hd')
              have hR := Lib.hid (HR.out.next (by rw [HL.out]; exact hlt) (by rw [← Hx.out]; exact Hd.out))
              by_cases k0 : k = 0
              · have q1 : ((k : Int) == 0) = true := by simp [k0]
                have q2 : ¬ (15 < (d : Int)) := by omega
                clear hodd
                go_wp2_with (fail)
                go_roundg (s.size - (k + 1))
                case measure => omega
                case rel => exact ⟨k + 1, (32 * N + d) % 18446744073709551616, by omega, rfl, by go_num, (by rw [wrapU, wrapU]; exact congrArg (Value.int .u64) (by omega)), hR, by omega, H0', F⟩
              · have q1 : ((k : Int) == 0) = false := by simp; omega
                clear hodd
                go_wp2_with (fail)
                go_roundg (s.size - (k + 1))
                case measure => omega
                case rel => exact ⟨k + 1, (32 * N + d) % 18446744073709551616, by omega, rfl, by go_num, (by rw [wrapU, wrapU]; exact congrArg (Value.int .u64) (by omega)), hR, by omega, H0', F⟩
    · obtain rfl : k = s.size := by omega
      by_cases hl : s.size = 13
      · have hn := Lib.hid (rdV_some (rd_way2 (s := s.data.toList) (by rw [HL.out]; exact hl) (by have := HR.out.digs; rwa [List.take_of_length_le (by rw [HL.out]; omega)] at this) (fun d hd => H0.out (by rw [HL.out, hl]; omega) d (by omega) hd)).1)
        have hNv : N = vl s.data.toList := by
          have h1 := HR.out.num
          have h2 := (rd_way2 (s := s.data.toList) (by rw [HL.out]; exact hl) (by have := HR.out.digs; rwa [List.take_of_length_le (by rw [HL.out]; omega)] at this) (fun d hd => H0.out (by rw [HL.out, hl]; omega) d (by omega) hd)).2
          rw [List.take_of_length_le (by rw [HL.out]; omega)] at h1
          omega
        have HN := Lib.hid hNv
        have h1 : ((s.size : Int) != 13) = false := by simp [hl]
        clear hNv hl
        go_wp2_with (fail)
        go_ret2
        exact ⟨by rw [hn.out, ← HN.out]; rfl, F⟩
      · have hn := Lib.hid (rdV_none (rd_len (s := s.data.toList) (by rw [HL.out]; exact hl)))
        have h1 : ((s.size : Int) != 13) = true := by simp; omega
        clear hl
        go_wp2_with (fail)
        go_ret2
        exact ⟨congrArg Ending.returned hn.out.symm, F⟩
end Go.Proofs.Ytajpicbaoicpfaa
