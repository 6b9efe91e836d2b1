/- utf8.FullRuneInString. No condition. -/
import Derived.Test.YtbpbghmhenilcaaDoorRight
import Derived.Test.YtbpbghmhenilcaaDoorShelf
import Derived.Deep.DeepBigQuietO
namespace Go.Proofs.YtbpbghmhenilcaaDoor
open Go.RowKit

def fullN (n b0 b1 b2 : Nat) : Bool :=
  if n = 0 then false else if Lib.firstT b0 % 8 ≤ n then true
  else if 1 < n ∧ (b1 < Lib.accLo (Lib.firstT b0 / 16) ∨ Lib.accHi (Lib.firstT b0 / 16) < b1) then true
  else if 2 < n ∧ (b2 < 128 ∨ 191 < b2) then true else false
def fullS (s : ByteArray) : Bool := fullN s.size (s.get! 0).toNat (s.get! 1).toNat (s.get! 2).toNat
set_option maxHeartbeats 8000000 in
set_option maxRecDepth 100000 in
theorem full_f (s : ByteArray) (w : World) (hs : s.size < 9223372036854775807) (hT : Tabs w) :
    Calls Tryd.prog 21 #[.string s] w fun e w' => e = .returned (.bool (fullS s)) ∧ Fr Nothing w w' := by
  obtain ⟨R, hR⟩ : ∃ R, R = fullS s := ⟨_, rfl⟩
  rw [← hR]
  obtain ⟨n, hn⟩ : ∃ n, n = s.size := ⟨_, rfl⟩
  obtain ⟨x0, hx0⟩ : ∃ x0, s.get! 0 = x0 := ⟨_, rfl⟩
  obtain ⟨x1, hx1⟩ : ∃ x1, s.get! 1 = x1 := ⟨_, rfl⟩
  obtain ⟨x2, hx2⟩ : ∃ x2, s.get! 2 = x2 := ⟨_, rfl⟩
  have l0 := x0.toNat_lt
  have l1 := x1.toNat_lt
  have l2 := x2.toNat_lt
  have hc0 := hT.1 x0.toNat l0
  have hXlt : Lib.firstT x0.toNat < 256 := by rcases Lib.firstT_cases x0.toNat with h | h | h | h | h | h | h | h | h <;> omega
  unfold fullS fullN at hR
  rw [hx0, hx1, hx2] at hR
  obtain ⟨X, hX⟩ : ∃ X, Lib.firstT x0.toNat = X := ⟨_, rfl⟩
  rw [hX] at hc0 hXlt hR
  have h7 := Go.Proofs.and7 ⟨X, hXlt⟩
  simp only at h7
  have ha0 : w.cell? ⟨1, X / 16 * 2, none⟩ = some (.int .u8 (Lib.accLo (X / 16))) := by rw [Nat.mul_comm]; exact (hT.2 (X / 16) (by omega)).1
  have ha1 : w.cell? ⟨1, X / 16 * 2 + 1, none⟩ = some (.int .u8 (Lib.accHi (X / 16))) := by rw [Nat.mul_comm]; exact (hT.2 (X / 16) (by omega)).2
  obtain ⟨LO, hLO⟩ : ∃ LO, Lib.accLo (X / 16) = LO := ⟨_, rfl⟩
  obtain ⟨HI, hHI⟩ : ∃ HI, Lib.accHi (X / 16) = HI := ⟨_, rfl⟩
  rw [hLO] at ha0 hR
  rw [hHI] at ha1 hR
  have hm8 : X % 8 < 8 := Nat.mod_lt _ (by omega)
  by_cases h0 : s.size = 0
  · have HR : Hid (R = false) := Lib.hid (by rw [hR, if_pos h0])
    have h0z : ((s.size : Int) == 0) = true := by rw [beq_iff_eq]; omega
    clear hR hT hX hLO hHI hc0 ha0 ha1 h7 hn
    go_enter Tryd.func21, Tryd.ntmps21
    go_wp2_with (fail)
    go_ret
    exact ⟨by rw [HR.out]; rfl, Fr.refl _ _⟩
  rw [if_neg h0] at hR
  have h0z : ((s.size : Int) == 0) = false := by rw [beq_eq_false_iff_ne]; omega
  have h0p : (0 : Int) < (s.size : Int) := by omega
  have h0n : 0 < s.size := by omega
  have hs0 : s[0]'(by omega) = x0 := by rw [← hx0]; exact (Utf8W.get!_of_lt s 0 (by omega)).symm
  by_cases h1 : X % 8 ≤ s.size
  · have HR : Hid (R = true) := Lib.hid (by rw [hR, if_pos h1])
    have h1z : decide ((X : Int) % 8 ≤ (s.size : Int)) = true := by simp; omega
    clear hR hT hX hLO hHI ha0 ha1 hn h1 h0
    go_enter Tryd.func21, Tryd.ntmps21
    go_wp2_with (fail)
    go_ret
    exact ⟨by rw [HR.out]; rfl, Fr.refl _ _⟩
  rw [if_neg h1] at hR
  have h1z : decide ((X : Int) % 8 ≤ (s.size : Int)) = false := by simp; omega
  by_cases h2 : 1 < s.size
  · have h2z : (1 : Int) < (s.size : Int) := by omega
    have hs1 : s[1]'(by omega) = x1 := by rw [← hx1]; exact (Utf8W.get!_of_lt s 1 (by omega)).symm
    by_cases q1 : x1.toNat < LO
    · have q1z : (x1.toNat : Int) < (LO : Int) := by omega
      have HR : Hid (R = true) := Lib.hid (by rw [hR, if_pos ⟨h2, .inl q1⟩])
      clear hR hT hX hLO hHI hn h1 h0
      go_enter Tryd.func21, Tryd.ntmps21
      go_wp2_with (fail)
      go_big_quiet (fail)
      go_wp2_with (fail)
      go_ret
      exact ⟨by rw [HR.out]; rfl, (Fr.alloc Nothing _ _).trans' (Fr.drewN _ _ _)⟩
    have q1z : decide ((x1.toNat : Int) < (LO : Int)) = false := by simp; omega
    by_cases q2 : HI < x1.toNat
    · have q2z : (HI : Int) < (x1.toNat : Int) := by omega
      have HR : Hid (R = true) := Lib.hid (by rw [hR, if_pos ⟨h2, .inr q2⟩])
      clear hR hT hX hLO hHI hn h1 h0
      go_enter Tryd.func21, Tryd.ntmps21
      go_wp2_with (fail)
      go_big_quiet (fail)
      go_wp2_with (fail)
      go_ret
      exact ⟨by rw [HR.out]; rfl, (Fr.alloc Nothing _ _).trans' (Fr.drewN _ _ _)⟩
    have q2z : decide ((HI : Int) < (x1.toNat : Int)) = false := by simp; omega
    rw [if_neg (by omega)] at hR
    by_cases h3 : 2 < s.size
    · have h3z : (2 : Int) < (s.size : Int) := by omega
      have hs2 : s[2]'(by omega) = x2 := by rw [← hx2]; exact (Utf8W.get!_of_lt s 2 (by omega)).symm
      by_cases q3 : x2.toNat < 128
      · have q3z : (x2.toNat : Int) < 128 := by omega
        have HR : Hid (R = true) := Lib.hid (by rw [hR, if_pos ⟨h3, .inl q3⟩])
        clear hR hT hX hLO hHI hn h1 h0
        go_enter Tryd.func21, Tryd.ntmps21
        go_wp2_with (fail)
        go_big_quiet (fail)
        go_wp2_with (fail)
        go_ret
        exact ⟨by rw [HR.out]; rfl, (Fr.alloc Nothing _ _).trans' (Fr.drewN _ _ _)⟩
      have q3z : decide ((x2.toNat : Int) < 128) = false := by simp; omega
      by_cases q4 : 191 < x2.toNat
      · have q4z : (191 : Int) < (x2.toNat : Int) := by omega
        have HR : Hid (R = true) := Lib.hid (by rw [hR, if_pos ⟨h3, .inr q4⟩])
        clear hR hT hX hLO hHI hn h1 h0
        go_enter Tryd.func21, Tryd.ntmps21
        go_wp2_with (fail)
        go_big_quiet (fail)
        go_wp2_with (fail)
        go_ret
        exact ⟨by rw [HR.out]; rfl, (Fr.alloc Nothing _ _).trans' (Fr.drewN _ _ _)⟩
      have q4z : decide ((191 : Int) < (x2.toNat : Int)) = false := by simp; omega
      have HR : Hid (R = false) := Lib.hid (by rw [hR, if_neg (by omega)])
      clear hR hT hX hLO hHI hn h1 h0
      go_enter Tryd.func21, Tryd.ntmps21
      go_wp2_with (fail)
      go_big_quiet (fail)
      go_wp2_with (fail)
      go_ret
      exact ⟨by rw [HR.out]; rfl, (Fr.alloc Nothing _ _).trans' (Fr.drewN _ _ _)⟩
    · have h3z : decide ((2 : Int) < (s.size : Int)) = false := by simp; omega
      have HR : Hid (R = false) := Lib.hid (by rw [hR, if_neg (by omega)])
      clear hR hT hX hLO hHI hn h1 h0
      go_enter Tryd.func21, Tryd.ntmps21
      go_wp2_with (fail)
      go_big_quiet (fail)
      go_wp2_with (fail)
      go_ret
      exact ⟨by rw [HR.out]; rfl, (Fr.alloc Nothing _ _).trans' (Fr.drewN _ _ _)⟩
  · have h2z : decide ((1 : Int) < (s.size : Int)) = false := by simp; omega
    have h3z : decide ((2 : Int) < (s.size : Int)) = false := by simp; omega
    have HR : Hid (R = false) := Lib.hid (by rw [hR, if_neg (by omega), if_neg (by omega)])
    clear hR hT hX hLO hHI hn h1 h0
    go_enter Tryd.func21, Tryd.ntmps21
    go_wp2_with (fail)
    go_big_quiet (fail)
    go_wp2_with (fail)
    go_ret
    exact ⟨by rw [HR.out]; rfl, (Fr.alloc Nothing _ _).trans' (Fr.drewN _ _ _)⟩
end Go.Proofs.YtbpbghmhenilcaaDoor
