/- The library's sort at int: slices.Sort. Condition: at most 1000 numbers, in a block of their own. -/
import Derived.Test.YtdgaiacigmcibaaNSortJ
namespace Go.Proofs.Ytdgaiacigmcibaa.NS
open Go.RowKit Go.Sort

set_option maxHeartbeats 1000000 in
set_option maxRecDepth 100000 in
theorem u_sort (g c : Nat) (rest : List Value) (d : Array Int) (w : World) (h : UA w g rest d) (hd : (d.size : Int) ≤ 1000) :
    Calls Try.prog 29 #[.slice (some ⟨g, 0, none⟩) d.size c] w fun e w' => e = .returned (.tuple #[]) ∧ UA w' g rest (Sort.sort ltInt d) ∧ Fr (fun q => q = g) w w' := by
  obtain ⟨n, hn⟩ : ∃ n, n = d.size := ⟨_, rfl⟩
  have hlen : Lib.bitLen (n : Int).toNat = bitsLen n := by rw [Int.toNat_natCast, bits_len_eq _ (by omega)]
  have hk : bitsLen n ≤ 10 := (bitsLen_le_iff n 10).2 (by omega)
  have HC := Lib.hid (u_pdq (n + 1) g c n 0 n (bitsLen n) rest d w (by omega) h (by omega) (Nat.le_refl _) hn.symm (by omega) (by omega) (.inl rfl))
  have HB := Lib.hid (Try.bits_Len (n : Int) w (by omega) (by omega))
  rw [hlen] at HB
  have hS : pdq ltInt d 0 n (bitsLen n) true true = Sort.sort ltInt d := by rw [hn]; rfl
  rw [hS] at HC
  rw [← hn]
  have hn1 : (n : Int) ≤ 1000 := by omega
  clear hS hlen hn hd h
  go_enter Try.func29, Try.ntmps29
  go_wp2_with (first
    | (go_at_call 36; refine HB.out.mono ?_; rintro e w1 ⟨rfl, rfl⟩)
    | (go_at_call 35; refine HC.out.mono ?_; rintro e w2 ⟨rfl, hS⟩))
  go_end0
  exact ⟨rfl, hS.1, hS.2⟩
end Go.Proofs.Ytdgaiacigmcibaa.NS
