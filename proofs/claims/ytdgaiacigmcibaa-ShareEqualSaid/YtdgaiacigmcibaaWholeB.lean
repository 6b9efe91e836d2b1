/- What Whole sorts by: what is left of each part. No condition. -/
import Derived.Test.YtdgaiacigmcibaaWholeA
namespace Go.Proofs.Ytdgaiacigmcibaa
open Go.RowKit Go.Sort

/-- The places of finite words. -/
def GR (l : List Nat) (x : Int) : Prop := 0 ≤ x ∧ x.toNat < l.length ∧ Fin (l.getD x.toNat 0)
set_option maxHeartbeats 1000000 in
set_option maxRecDepth 100000 in
theorem cmp_rest (l : List Nat) (a : Option Addr) (c B g : Nat) (w0 : World) (hB : Row w0 B [.slice a l.length c] 22) (hl : Fs w0 a l) (hgB : B ≠ g) (hga : ∀ ad, a = some ad → ad.block ≠ g) :
    Cmp 30 #[.pointer (some ⟨B, 0, none⟩)] (cfT l) (GR l) g w0 := by
  refine ⟨enters_of Try.func30 (by kernel_rfl) rfl, fun W F x y hx hy => ?_⟩
  show Calls Try.prog 30 #[.int .i64 x, .int .i64 y, .pointer (some ⟨B, 0, none⟩)] W _
  obtain ⟨x, rfl⟩ : ∃ q : Nat, x = q := ⟨x.toNat, by have := hx.1; omega⟩
  obtain ⟨y, rfl⟩ : ∃ q : Nat, y = q := ⟨y.toNat, by have := hy.1; omega⟩
  have sx := ord_eq hx.2.2
  have sy := ord_eq hy.2.2
  have lx := hx.2.1
  have ly := hy.2.1
  have hcf : cfT l (x : Int) (y : Int) = cmpF (l.getD (y : Int).toNat 0) (l.getD (x : Int).toNat 0) := by
    rw [cmpF_fin hy.2.2 hx.2.2]; rfl
  rw [hcf]
  clear hcf
  rw [Int.toNat_natCast] at sx sy lx ly ⊢
  rw [Int.toNat_natCast]
  obtain ⟨u, hu⟩ : ∃ u, u = l.getD x 0 := ⟨_, rfl⟩
  obtain ⟨v, hv⟩ : ∃ v, v = l.getD y 0 := ⟨_, rfl⟩
  obtain ⟨b, o, rfl, cx⟩ := Fs.at_ (Sl.fr hl F (fun ad h e => hga ad h e)) lx
  obtain ⟨b2, o2, hb2, cy⟩ := Fs.at_ (Sl.fr hl F (fun ad h e => hga ad h e)) ly
  cases hb2
  rw [← getD_at lx, ← hu] at cx
  rw [← getD_at ly, ← hv] at cy
  rw [← hu] at sx ⊢
  rw [← hv] at sy ⊢
  have c0 : W.cell? ⟨B, 0, none⟩ = some (.slice (some ⟨b, o, none⟩) l.length c) := (Row.fr (S := fun q => q = g) hB F hgB).cell 0 rfl
  obtain ⟨n, hn⟩ : ∃ n, n = l.length := ⟨_, rfl⟩
  rw [← hn] at c0 lx ly
  have lxI : (x : Int) < n := by omega
  have lyI : (y : Int) < n := by omega
  have HC := Lib.hid (compare_f v u sy sx)
  clear hu hv hn hx hy hl hB sx sy
  go_enter Try.func30, Try.ntmps30
  go_wp2_with (fail)
  go_quiet ((go_at_call 28; exact Calls.quiet_of_same (HC.out _)))
  go_wp2_with (fail)
  go_ret
  exact ⟨rfl, nq, rfl⟩
end Go.Proofs.Ytdgaiacigmcibaa
