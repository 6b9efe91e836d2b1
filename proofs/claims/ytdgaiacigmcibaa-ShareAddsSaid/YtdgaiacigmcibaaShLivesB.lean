/- What each statement of share begins with answers true. No condition. -/
import Derived.Test.YtdgaiacigmcibaaShLives
namespace Go.Proofs.Ytdgaiacigmcibaa
open Go.RowKit Go.Sort

def l111 : List Nat := [4607182418800017408, 4607182418800017408, 4607182418800017408]
def l13 : List Nat := [4607182418800017408, 4613937818241073152]
theorem whole_111 : wholeL l111 10 = [4, 3, 3] := by decide +kernel
theorem part_13 : pAt l13 1 = 4604930618986332160 := by decide +kernel
theorem cov_13 (z : Int) (h : CovIs l13 4602678819172646912 z) : z = 1 := by
  have h0 : geF 0 4602678819172646912 = false := by decide +kernel
  have h1 : geF (cs l13 1) 4602678819172646912 = true := by decide +kernel
  have h2 : 0 < (topL l13).length := by decide +kernel
  rcases h with ⟨_, h⟩ | ⟨_, k, _, hz, _, hk⟩ | ⟨_, _, hk⟩
  · rw [h0] at h; exact absurd h Bool.false_ne_true
  · by_cases hk0 : k = 0
    · rw [hz, hk0]; rfl
    · have := hk 0 (by omega)
      rw [h1] at this; exact absurd this.symm Bool.false_ne_true
  · have := hk 0 h2
    rw [h1] at this; exact absurd this.symm Bool.false_ne_true
theorem live_whole (W : World) (g : Nat) (h : Row W g [.float .f64 4607182418800017408, .float .f64 4607182418800017408, .float .f64 4607182418800017408] 23) :
    Calls Try.prog 19 #[.int .i64 10, .slice (some ⟨g, 0, none⟩) 3 3] W (WholeTold [4, 3, 3] W) := by
  have := whole_f (some ⟨g, 0, none⟩) l111 3 10 W (Sl.ofRow h) (by decide) (by decide) (by decide)
  rw [whole_111] at this
  exact this
theorem live_parts (W : World) (g : Nat) (h : Row W g [.float .f64 4607182418800017408, .float .f64 4613937818241073152] 23) :
    Calls Try.prog 12 #[.slice (some ⟨g, 0, none⟩) 2 2] W fun e w' => ∃ g, e = .returned (.slice (some ⟨g, 0, none⟩) 2 2) ∧ w'.cell? ⟨g, 1, none⟩ = some (.float .f64 4604930618986332160) ∧ W.heap.size ≤ g ∧ g < w'.heap.size ∧ Fr Nothing W w' := by
  refine (parts_f (some ⟨g, 0, none⟩) l13 2 W (Sl.ofRow h) (by decide) (by decide)).mono ?_
  rintro e w' ⟨g2, rfl, h1, h2, h3⟩
  refine ⟨g2, rfl, h2.cell 1 ?_, h1, h2.lt, h3⟩
  show (pRow l13 2)[1]? = _
  unfold pRow
  rw [List.getElem?_map, List.getElem?_range (by decide)]
  show some (Value.float .f64 (pAt l13 1)) = _
  rw [part_13]
theorem live_cover (W : World) (g : Nat) (h : Row W g [.float .f64 4607182418800017408, .float .f64 4613937818241073152] 23) :
    Calls Try.prog 17 #[.slice (some ⟨g, 0, none⟩) 2 2, .float .f64 4602678819172646912] W fun e w' => e = .returned (.int .i64 1) ∧ Fr Nothing W w' := by
  refine (cover_f (some ⟨g, 0, none⟩) l13 2 4602678819172646912 W (Sl.ofRow h) (by decide) (by decide) (by decide) (fun x hx => topL_good hx)).mono ?_
  rintro e w' ⟨z, rfl, h1, h2⟩
  rw [cov_13 z h1]
  exact ⟨rfl, h2⟩
theorem live_bars (W : World) (g : Nat) (h : Row W g [.float .f64 4607182418800017408] 23) :
    Calls Try.prog 20 #[.slice (some ⟨g, 0, none⟩) 1 1, .int .i64 3] W fun e w' => (∃ a' c', e = .returned (.slice a' 1 c')) ∧ Fr Nothing W w' :=
  bars_f (some ⟨g, 0, none⟩) [4607182418800017408] 1 3 W (Sl.ofRow h) (by decide) (by decide) (by decide)
theorem live_same (W : World) (g h : Nat) (h1 : Row W g (numsW [4, 3, 3]) 3) (h2 : Row W h [.int .i64 4, .int .i64 3, .int .i64 3] 3) :
    Calls Try.prog 14 #[.slice (some ⟨g, 0, none⟩) 3 3, .slice (some ⟨h, 0, none⟩) 3 3] W fun e w' => e = .returned (.bool true) ∧ Fr Nothing W w' := by
  refine (same_ints (some ⟨g, 0, none⟩) (some ⟨h, 0, none⟩) [4, 3, 3] 3 3 W (Sl.ofRow h1) (Sl.ofRow h2) (by decide)).mono ?_
  rintro e w' ⟨rfl, m, rfl⟩
  exact ⟨rfl, Fr.drewN _ _ _⟩
set_option maxHeartbeats 4000000 in
set_option maxRecDepth 100000 in
theorem share_lives (w : World) : Calls Try.prog 9 #[] w fun e w' => e = .returned (.bool true) ∧ Fr Nothing w w' := by
  have hc1 : (ordF 4604930618986332160 4604930618986332160 == some Ordering.eq) = true := by decide +kernel
  go_enter Try.func9, Try.ntmps9
  go_wp2_with (first
    | (go_at_call 19; refine (live_whole _ _ (Row.allocNew _ _ _)).mono ?_; rintro _ w1 ⟨g1, rfl, hg1, hR1, F1⟩)
    | (go_at_call 12; refine (live_parts _ _ (Row.allocNew _ _ _)).mono ?_; rintro _ w2 ⟨g2, rfl, hc2, hg2, hl2, F2⟩)
    | (go_at_call 14; refine (live_same _ _ _ ((hR1.fr ((Fr.alloc Nothing _ _).trans' F2) (fun h => h)).fr (Fr.alloc Nothing _ _) (fun h => h)) (Row.allocNew _ _ _)).mono ?_; rintro _ w3 ⟨rfl, F3⟩; have c3 := cell_fr hc2 ((Fr.alloc Nothing _ _).trans' F3) (fun h => h))
    | (go_at_call 17; refine (live_cover _ _ (Row.allocNew _ _ _)).mono ?_; rintro _ w4 ⟨rfl, F4⟩)
    | (go_at_call 20; refine (live_bars _ _ (Row.allocNew _ _ _)).mono ?_; rintro _ w5 ⟨⟨a5, c5, rfl⟩, F5⟩))
  go_ret
  exact ⟨rfl, ((Fr.alloc Nothing w _).trans' F1).trans' (((Fr.alloc Nothing w1 _).trans' F2).trans' (((Fr.alloc Nothing w2 _).trans' F3).trans' (((Fr.alloc Nothing w3 _).trans' F4).trans' ((Fr.alloc Nothing w4 _).trans' F5))))⟩
end Go.Proofs.Ytdgaiacigmcibaa
