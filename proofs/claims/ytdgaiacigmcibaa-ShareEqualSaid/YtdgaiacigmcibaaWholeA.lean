/- share.Whole, its first loop's numbers: what each part gives, and what is left of it. No condition; no program is named here. -/
import Derived.Test.YtdgaiacigmcibaaFltN
import Derived.Test.YtdgaiacigmcibaaPartsC
namespace Go.Proofs.Ytdgaiacigmcibaa
open Go.RowKit Go.Sort

/-- A whole number as a float. -/
def nfF (n : Nat) : Nat := FloatKind.f64.format.nearest false n 0
theorem nf_fin {n : Nat} (h : n < 2 ^ 53) : Fin (nfF n) ∧ ∀ C : Nat, C = 1074 → mgF (nfF n) * 2 ^ plF (nfF n) = n * 2 ^ C := by
  obtain ⟨W, h1, h2, h3⟩ := int_fin h
  unfold nfF
  rw [h2]
  exact ⟨h1, h3⟩
theorem nf_of_int (n : Nat) : floatOfInt .f64 (n : Int) = nfF n := by
  unfold floatOfInt FloatKind.nearest FloatKind.encode nfF
  have h1 : decide ((n : Int) < 0) = false := decide_eq_false (by omega)
  rw [h1, Int.natAbs_natCast]
  rfl
/-- A part of n: as a float, whole, and what is left. -/
def xF (l : List Nat) (n i : Nat) : Nat := mulF (nfF n) (pAt l i)
def outF (l : List Nat) (n i : Nat) : Nat := tzF (xF l n i)
def restF (l : List Nat) (n i : Nat) : Nat := subF (xF l n i) (nfF (outF l n i))
theorem part_step {l : List Nat} (hw : ∀ z ∈ l, z < 18446744073709551616) {n i : Nat} (hn : n ≤ 1000000) (hi : i < l.length) :
    FloatKind.f64.format.mul (nfF n) (pAt l i) = some (xF l n i) ∧ floatToIntVal .f64 (xF l n i) .i64 = some (outF l n i : Int) ∧ outF l n i ≤ n ∧
    FloatKind.f64.format.sub (xF l n i) (nfF (outF l n i)) = some (restF l n i) ∧ Fin (restF l n i) := by
  have hn53 : n < 2 ^ 53 := Nat.lt_of_le_of_lt hn (by decide)
  obtain ⟨nf, nv⟩ := nf_fin hn53
  have hp := pAt_le_one hw hi
  have hpf : Fin (pAt l i) := Nat.lt_of_le_of_lt hp (by decide)
  obtain ⟨m1, _⟩ := mul_nn nf hpf
  have m3 : xF l n i ≤ nfF n := mul_le nf hpf hp
  have xf : Fin (xF l n i) := Nat.lt_of_le_of_lt m3 nf
  have ole : outF l n i ≤ n := tz_le m3 nv
  have o53 : outF l n i < 2 ^ 53 := Nat.lt_of_le_of_lt ole hn53
  obtain ⟨of, ov⟩ := nf_fin o53
  have hti := to_int xf (Nat.lt_trans o53 (by decide))
  have hle : mgF (nfF (outF l n i)) * 2 ^ plF (nfF (outF l n i)) ≤ mgF (xF l n i) * 2 ^ plF (xF l n i) := by
    obtain ⟨C, hC⟩ : ∃ C : Nat, C = 1074 := ⟨_, rfl⟩
    rw [ov C hC]
    exact tz_ge (xF l n i) C hC
  obtain ⟨s1, _, s3⟩ := sub_fin xf of hle
  exact ⟨m1, hti, ole, s1, Nat.lt_of_le_of_lt s3 xf⟩
end Go.Proofs.Ytdgaiacigmcibaa
