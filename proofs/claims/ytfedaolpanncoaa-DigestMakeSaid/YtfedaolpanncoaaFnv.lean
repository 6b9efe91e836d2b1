/- The sum of bytes, step by step: each step can be turned back, so one byte more or less is seen in the end. Plain arithmetic, no program. No condition. -/
import Derived.WalkKit
namespace Go.Proofs.Ytfedaolpanncoaa

/-- One step of the sum. -/
def fnv (h c : Nat) : Nat := ((h ^^^ c) * 16777619) % 4294967296
def fnvs (h : Nat) (l : List Nat) : Nat := l.foldl fnv h

theorem fnv_lt (h c : Nat) : fnv h c < 4294967296 := Nat.mod_lt _ (by decide)
theorem fnvs_lt {h : Nat} (hh : h < 4294967296) (l : List Nat) : fnvs h l < 4294967296 := by
  induction l generalizing h with
  | nil => exact hh
  | cons c l ih => exact ih (fnv_lt h c)
theorem unmul {x y : Nat} (hx : x < 4294967296) (hy : y < 4294967296) (h : x * 16777619 % 4294967296 = y * 16777619 % 4294967296) : x = y := by
  have key : ∀ z, z < 4294967296 → (z * 16777619 % 4294967296) * 899433627 % 4294967296 = z := by
    intro z hz
    rw [Nat.mod_mul_mod, Nat.mul_assoc, show 16777619 * 899433627 = 4294967296 * 3513497 + 1 from by decide, Nat.mul_add, Nat.mul_one]
    rw [show z * (4294967296 * 3513497) = 4294967296 * (z * 3513497) from by rw [Nat.mul_left_comm]]
    rw [Nat.mul_add_mod]; exact Nat.mod_eq_of_lt hz
  rw [← key x hx, ← key y hy, h]
theorem xor_undo (h c : Nat) : (h ^^^ c) ^^^ c = h := by rw [Nat.xor_assoc, Nat.xor_self, Nat.xor_zero]
theorem fnv_inj {h h' c : Nat} (hh : h < 4294967296) (hh' : h' < 4294967296) (hc : c < 256) (e : fnv h c = fnv h' c) : h = h' := by
  have hc' : c < 2 ^ 32 := by omega
  have := unmul (Nat.xor_lt_two_pow (n := 32) hh hc') (Nat.xor_lt_two_pow (n := 32) hh' hc') e
  rw [← xor_undo h c, this, xor_undo]
theorem fnv_inj' {h c c' : Nat} (hh : h < 4294967296) (hc : c < 256) (hc' : c' < 256) (e : fnv h c = fnv h c') : c = c' := by
  have := unmul (Nat.xor_lt_two_pow (n := 32) hh (show c < 2 ^ 32 by omega)) (Nat.xor_lt_two_pow (n := 32) hh (show c' < 2 ^ 32 by omega)) e
  rw [← xor_undo c h, Nat.xor_comm c h, this, Nat.xor_comm h c', xor_undo]
theorem fnvs_inj {l : List Nat} (hl : ∀ c ∈ l, c < 256) : ∀ {h h' : Nat}, h < 4294967296 → h' < 4294967296 → fnvs h l = fnvs h' l → h = h' := by
  induction l with
  | nil => intro h h' _ _ e; exact e
  | cons c l ih =>
    intro h h' hh hh' e
    have h1 := ih (fun x hx => hl x (by simp [hx])) (fnv_lt h c) (fnv_lt h' c) e
    exact fnv_inj hh hh' (hl c (by simp)) h1
theorem fnvs_one (h c : Nat) : fnvs h [c] = fnv h c := by unfold fnvs; rw [List.foldl_cons, List.foldl_nil]
theorem fnvs_append (h : Nat) (l m : List Nat) : fnvs h (l ++ m) = fnvs (fnvs h l) m := List.foldl_append
/-- One byte that differs is seen. -/
theorem fnvs_seen {h : Nat} (hh : h < 4294967296) (l m : List Nat) {x y : Nat} (hm : ∀ c ∈ m, c < 256) (hx : x < 256) (hy : y < 256)
    (e : fnvs h (l ++ x :: m) = fnvs h (l ++ y :: m)) : x = y := by
  rw [fnvs_append, fnvs_append] at e
  have hl := fnvs_lt hh l
  have h1 := fnvs_inj hm (h := fnv (fnvs h l) x) (h' := fnv (fnvs h l) y) (fnv_lt _ _) (fnv_lt _ _) e
  exact fnv_inj' hl hx hy h1
theorem bits_xor_u32_nat (a b : Nat) (ha : a < 4294967296) (hb : b < 4294967296) : bits .xor .u32 (a : Int) (b : Int) = ((a ^^^ b : Nat) : Int) := by
  have hx : a ^^^ b < 2 ^ 32 := Nat.xor_lt_two_pow (by omega) (by omega)
  have h1 : (BitVec.ofInt 32 (a : Int)).toNat = a := by
    rw [BitVec.ofInt_natCast, BitVec.toNat_ofNat]; exact Nat.mod_eq_of_lt (by omega)
  have h2 : (BitVec.ofInt 32 (b : Int)).toNat = b := by
    rw [BitVec.ofInt_natCast, BitVec.toNat_ofNat]; exact Nat.mod_eq_of_lt (by omega)
  have hw : ∀ z : Int, IntKind.u32.wrap z = z % 4294967296 := fun z => by simp [IntKind.wrap, IntKind.bits, IntKind.signed]
  show IntKind.u32.wrap ((BitVec.ofInt 32 (a : Int) ^^^ BitVec.ofInt 32 (b : Int)).toNat : Int) = _
  rw [BitVec.toNat_xor, h1, h2, hw]
  omega
theorem fnv_step (s c : Nat) (hs : s < 4294967296) (hc : c < 256) : bits .xor .u32 (s : Int) (c : Int) * 16777619 % 4294967296 = (fnv s c : Int) := by
  rw [bits_xor_u32_nat s c hs (by omega)]
  unfold fnv
  generalize s ^^^ c = z
  rw [Int.natCast_emod, Int.natCast_mul]
  rfl
end Go.Proofs.Ytfedaolpanncoaa
