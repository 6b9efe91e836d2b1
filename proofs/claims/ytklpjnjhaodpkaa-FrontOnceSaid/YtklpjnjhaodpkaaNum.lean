/- Numbers that come round. No program is named here. -/
import Derived.Test.YtklpjnjhaodpkaaBase
namespace Go.Proofs.Ytklpjnjhaodpkaa
open Go.RowKit

/-- A number's place among the 2^32. -/
def w32 (n : Int) : Int := n % 4294967296
theorem w32_lo (n : Int) : 0 ≤ w32 n := by unfold w32; omega
theorem w32_hi (n : Int) : w32 n < 4294967296 := by unfold w32; omega
theorem w32_hi' (n : Int) : w32 n ≤ 4294967295 := by unfold w32; omega
theorem w32_of {n : Int} (h0 : 0 ≤ n) (h1 : n < 4294967296) : w32 n = n := by unfold w32; omega
theorem w32_w32 (n : Int) : w32 (w32 n) = w32 n := by unfold w32; omega
theorem w32_add (a b : Int) : w32 (w32 a + b) = w32 (a + b) := by unfold w32; omega
theorem w32_add' (a b : Int) : w32 (a + w32 b) = w32 (a + b) := by unfold w32; omega
theorem w32_sub (a b : Int) : w32 (w32 a - b) = w32 (a - b) := by unfold w32; omega
theorem w32_sub' (a b : Int) : w32 (a - w32 b) = w32 (a - b) := by unfold w32; omega
theorem wrap_w32 (n : Int) : IntKind.u32.wrap n = w32 n := IntKind.wrap_u32 n
theorem emod_w32 (n : Int) : n % 4294967296 = w32 n := rfl
/-- A uint32. -/
def U32 (n : Int) : Prop := 0 ≤ n ∧ n < 4294967296
theorem U32.w (n : Int) : U32 (w32 n) := ⟨w32_lo n, w32_hi n⟩
theorem U32.eq {n : Int} (h : U32 n) : w32 n = n := w32_of h.1 h.2
theorem U32.of_wf {n : Int} (h : (Lit.int .u32 n).wf = true) : U32 n := by
  simp [Lit.wf, IntKind.min, IntKind.max, IntKind.signed, IntKind.bits] at h
  exact ⟨by omega, by omega⟩

/-- What the reference's Add reckons. -/
theorem add_reckoned {h n : Int} (hh : U32 h) :
    (wrap64 (wrap64 (wrap64 h + n.tmod 4294967296) + 4294967296)).tmod 4294967296 % 4294967296 = w32 (h + n) := by
  obtain ⟨h0, h1⟩ := hh
  have e := Int.tmod_add_mul_tdiv n 4294967296
  have l1 := Int.tmod_lt_of_pos n (b := 4294967296) (by omega)
  have l2 := Int.lt_tmod_of_pos n (b := 4294967296) (by omega)
  generalize n.tmod 4294967296 = t at *
  generalize n.tdiv 4294967296 = q at *
  rw [IntWalk.wrap64_in h (by omega), IntWalk.wrap64_in (h + t) (by omega), IntWalk.wrap64_in (h + t + 4294967296) (by omega), Int.tmod_eq_emod_of_nonneg (by omega)]
  unfold w32
  omega

end Go.Proofs.Ytklpjnjhaodpkaa
