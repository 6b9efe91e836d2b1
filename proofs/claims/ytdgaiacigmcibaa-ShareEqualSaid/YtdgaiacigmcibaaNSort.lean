/- The library's sort at int: the row of numbers; the comparison; the insertion sort. Condition: the row lies in a block of its own. -/
import Derived.Test.YtdgaiacigmcibaaColl
import Derived.Sort.AssemblyPlain
namespace Go.Proofs.Ytdgaiacigmcibaa.NS
open Go.RowKit Go.Sort

/-- Block g holds the numbers d, and behind them rest. -/
def UA (w : World) (g : Nat) (rest : List Value) (d : Array Int) : Prop := Row w g (d.toList.map (Value.int .i64) ++ rest) 3
theorem UA.cell {w : World} {g : Nat} {rest : List Value} {d : Array Int} (h : UA w g rest d) {i : Nat} (hi : i < d.size) : w.cell? ⟨g, i, none⟩ = some (.int .i64 d[i]!) := by
  refine Row.cell h i ?_
  rw [List.getElem?_append_left (by simpa using hi), List.getElem?_map, getElem!_pos d i hi]
  simp [hi]
theorem UA.free {w : World} {g : Nat} {rest : List Value} {d : Array Int} (h : UA w g rest d) (i : Nat) : w.frozen? ⟨g, i, none⟩ = false := Row.free h i
theorem UA.put {w : World} {g : Nat} {rest : List Value} {d : Array Int} (h : UA w g rest d) {i : Nat} (hi : i < d.size) (x : Int) : UA (w.setCell ⟨g, i, none⟩ (.int .i64 x)) g rest (d.setIfInBounds i x) := by
  have := Row.set h i (.int .i64 x)
  unfold UA
  rw [List.set_append_left _ _ (by simpa using hi), ← List.map_set] at this
  simpa using this
theorem UA.swp {w : World} {g : Nat} {rest : List Value} {d : Array Int} (h : UA w g rest d) {i j : Nat} (hi : i < d.size) (hj : j < d.size) :
    UA ((w.setCell ⟨g, i, none⟩ (.int .i64 d[j]!)).setCell ⟨g, j, none⟩ (.int .i64 d[i]!)) g rest (Sort.swp d i j) := (h.put hi _).put (by simpa using hj) _
theorem UA.fr {w w' : World} {g : Nat} {rest : List Value} {d : Array Int} (h : UA w g rest d) {S : Nat → Prop} (F : Fr S w w') (hg : ¬ S g) : UA w' g rest d := Row.fr (S := S) h F hg
theorem swp_size (d : Array Int) (i j : Nat) : (Sort.swp d i j).size = d.size := by unfold Sort.swp; simp
theorem is_nan_u (x : Int) (w : World) : Calls Try.prog 68 #[.int .i64 x] w fun e w' => e = .returned (.bool false) ∧ w' = w := by
  go_enter Try.func68, Try.ntmps68
  go_wp2_with (fail)
  go_ret
  exact ⟨by simp, rfl⟩
theorem less_u (x y : Int) (w : World) : Calls Try.prog 52 #[.int .i64 x, .int .i64 y] w fun e w' => e = .returned (.bool (ltInt x y)) ∧ w' = w := by
  go_enter Try.func52, Try.ntmps52
  go_wp2_with (go_at_call 68; refine (is_nan_u _ _).mono ?_; rintro e w1 ⟨rfl, rfl⟩)
  go_ret
  exact ⟨rfl, rfl⟩
theorem insIn_stop {d : Array Int} {a j : Nat} (h : ¬ j > a) : insInner ltInt a j d = d := by
  cases j with
  | zero => rfl
  | succ j => rw [insInner, if_neg (by simp; omega)]
theorem insIn_no {d : Array Int} {a j : Nat} (h : ltInt d[j + 1]! d[j]! = false) : insInner ltInt a (j + 1) d = d := by rw [insInner, if_neg (by simp [h])]
theorem insIn_go {d : Array Int} {a j : Nat} (h : ltInt d[j + 1]! d[j]! = true) (hj : j + 1 > a) : insInner ltInt a (j + 1) d = insInner ltInt a j (Sort.swp d (j + 1) j) := by rw [insInner, if_pos (by simp [h]; omega)]
/-- What a region that swaps two places of the row leaves. -/
theorem UA.swapped {w0 w : World} {g : Nat} {rest : List Value} {d : Array Int} (h : UA w g rest d) (F : Fr (fun q => q = g) w0 w) {i j : Nat} (hi : i < d.size) (hj : j < d.size) {x y : Int} (hx : d[i]! = x) (hy : d[j]! = y) :
    UA ((w.setCell ⟨g, i, none⟩ (.int .i64 y)).setCell ⟨g, j, none⟩ (.int .i64 x)).drew g rest (Sort.swp d i j) ∧ Fr (fun q => q = g) w0 ((w.setCell ⟨g, i, none⟩ (.int .i64 y)).setCell ⟨g, j, none⟩ (.int .i64 x)).drew := by
  subst hx hy
  exact ⟨UA.fr (S := Nothing) (h.swp hi hj) (Fr.drew _ _) (fun h => h), F.trans' (((Fr.setCell (S := fun q => q = g) (p := ⟨g, i, none⟩) rfl _).trans' (Fr.setCell (S := fun q => q = g) (p := ⟨g, j, none⟩) rfl _)).trans' (Fr.drew _ _))⟩
theorem UA.after {w : World} {g : Nat} {rest : List Value} {d : Array Int} (h : UA w g rest d) {i j : Nat} (hi : i < d.size) (hj : j < d.size) (y : Int) : ∃ v, (w.setCell ⟨g, i, none⟩ (.int .i64 y)).cell? ⟨g, j, none⟩ = some v := ⟨_, (h.put hi y).cell (by simpa using hj)⟩
set_option maxHeartbeats 4000000 in
set_option maxRecDepth 100000 in
theorem u_insertion (g c : Nat) (rest : List Value) (d : Array Int) (a b : Nat) (w : World) (h : UA w g rest d) (hb : b ≤ d.size) (hd : (d.size : Int) ≤ 1000) (ha : a ≤ 1000) :
    Calls Try.prog 46 #[.slice (some ⟨g, 0, none⟩) d.size c, .int .i64 a, .int .i64 b] w fun e w' => e = .returned (.tuple #[]) ∧ UA w' g rest (Sort.insertionSort ltInt d a b) ∧ Fr (fun q => q = g) w w' := by
  obtain ⟨n, hn⟩ : ∃ n, n = d.size := ⟨_, rfl⟩
  obtain ⟨R, hR⟩ : ∃ R, R = Sort.insertionSort ltInt d a b := ⟨_, rfl⟩
  have HR0 : Hid (insOuter ltInt a b (a + 1) d = R) := Lib.hid (by rw [hR]; rfl)
  have H0 := Lib.hid h
  have HN0 := Lib.hid hn.symm
  rw [← hn] at hd hb ⊢
  rw [← hR]
  clear hR h hn
  go_enter Try.func46, Try.ntmps46
  go_wp2_with (fail)
  go_loopg [6, 7] (b - (a + 1)) (fun gg vi _ wr => ∃ (i : Nat) (dk : Array Int), gg = b - i ∧ vi = .int .i64 i ∧ a + 1 ≤ i ∧ (i ≤ b ∨ i = a + 1) ∧ Hid (dk.size = n) ∧ Hid (insOuter ltInt a b i dk = R) ∧ Hid (UA wr g rest dk) ∧ Fr (fun q => q = g) w wr)
  case atStart => exact ⟨a + 1, d, rfl, by go_num, Nat.le_refl _, .inr rfl, HN0, HR0, H0, Fr.refl _ _⟩
  case round =>
    clear HR0 H0 HN0
    obtain ⟨i, dk, rfl, rfl, hai, hib, HN, HR, H, F⟩ := hrel
    by_cases hlt : i < b
    · have HR2 : Hid (insOuter ltInt a b (i + 1) (insInner ltInt a i dk) = R) := Lib.hid (by have := HR.out; rw [insOuter, if_pos hlt] at this; exact this)
      obtain ⟨R2, hR2⟩ : ∃ R2, R2 = insInner ltInt a i dk := ⟨_, rfl⟩
      rw [← hR2] at HR2
      have HI0 := Lib.hid hR2.symm
      have hlI : (i : Int) < b := by omega
      clear hR2 HR
      go_wp2_with (fail)
      go_loopg [7] i (fun gg vj wr2 => ∃ (j : Nat) (dj : Array Int), j = gg ∧ vj = .int .i64 j ∧ j ≤ i ∧ Hid (dj.size = n) ∧ Hid (insInner ltInt a j dj = R2) ∧ Hid (UA wr2 g rest dj) ∧ Fr (fun q => q = g) w wr2)
      case atStart => exact ⟨i, dk, rfl, rfl, Nat.le_refl _, HN, HI0, H, F⟩
      case round =>
        clear HN HI0 H F
        obtain ⟨j, dj, rfl, rfl, hji, HN, HI, H, F⟩ := hrel
        by_cases hja : a < j
        · obtain ⟨j, rfl⟩ : ∃ k, j = k + 1 := ⟨j - 1, by omega⟩
          have j1 : j + 1 < dj.size := by rw [HN.out]; omega
          have j0 : j < dj.size := by omega
          obtain ⟨x, hx⟩ : ∃ x, x = dj[j + 1]! := ⟨_, rfl⟩
          obtain ⟨y, hy⟩ : ∃ y, y = dj[j]! := ⟨_, rfl⟩
          have c1 := H.out.cell j1
          have c0 := H.out.cell j0
          rw [← hx] at c1
          rw [← hy] at c0
          have hjI : (a : Int) < j + 1 := by omega
          have hjn : (j : Int) + 1 < n := by omega
          have hjn0 : (j : Int) < n := by omega
          have HL := Lib.hid (less_u x y)
          cases hl : ltInt x y with
          | true =>
            rw [hl] at HL
            have HS : Hid (insInner ltInt a j (Sort.swp dj (j + 1) j) = R2) := Lib.hid (by rw [← insIn_go (by rw [← hx, ← hy]; exact hl) hja]; exact HI.out)
            have HX := Lib.hid hx.symm
            have HY := Lib.hid hy.symm
            have HJ1 := Lib.hid j1
            have HJ0 := Lib.hid j0
            clear hx hy hl HI j1 j0
            go_wp2_with (fail)
            go_quiet ((go_at_call 52; exact Calls.quiet_of_same (HL.out _)))
            go_wp2_with (fail)
            obtain ⟨V, hV⟩ : ∃ V, V = wr.drewN nq := ⟨_, rfl⟩
            have FV : Fr Nothing wr V := by rw [hV]; exact Fr.drewN _ _ _
            have F2 : Fr (fun q => q = g) w V := by rw [hV]; exact F.trans' (Fr.drewN _ _ _)
            rw [← hV]
            have HV := Lib.hid (UA.fr (S := Nothing) H.out FV (fun h => h))
            clear c1 c0 H F FV hV
            have c1 := HV.out.cell HJ1.out
            have c0 := HV.out.cell HJ0.out
            rw [HX.out] at c1
            rw [HY.out] at c0
            have fz : ∀ k, V.frozen? ⟨g, k, none⟩ = false := fun k => HV.out.free k
            obtain ⟨v0, f0⟩ := HV.out.after HJ1.out HJ0.out y
            have HW := Lib.hid (HV.out.swapped F2 HJ1.out HJ0.out HX.out HY.out)
            go_region
            go_wp2_with (fail)
            go_roundg j
            case measure => omega
            case rel => exact ⟨j, _, rfl, by go_num, by omega, Lib.hid (by rw [swp_size]; exact HN.out), HS, Lib.hid HW.out.1, HW.out.2⟩
          | false =>
            rw [hl] at HL
            have HS : Hid (dj = R2) := Lib.hid (by rw [← HI.out, insIn_no (by rw [← hx, ← hy]; exact hl)])
            clear hx hy hl HI j1 j0
            go_wp2_with (fail)
            go_quiet ((go_at_call 52; exact Calls.quiet_of_same (HL.out _)))
            go_wp2_with (fail)
            go_roundg (b - (i + 1))
            case measure => omega
            case rel => exact ⟨i + 1, dj, rfl, by go_num, by omega, by omega, HN, by rw [HS.out]; exact HR2, Lib.hid (UA.fr (S := Nothing) H.out (Fr.drewN _ _ _) (fun h => h)), F.trans' (Fr.drewN _ _ _)⟩
        · have HS : Hid (dj = R2) := Lib.hid (by rw [← HI.out, insIn_stop (by omega)])
          have hjI : ¬ ((a : Int) < j) := by omega
          go_wp2_with (fail)
          go_quiet (fail)
          go_wp2_with (fail)
          go_roundg (b - (i + 1))
          case measure => omega
          case rel => exact ⟨i + 1, dj, rfl, by go_num, by omega, by omega, HN, by rw [HS.out]; exact HR2, Lib.hid (UA.fr (S := Nothing) H.out (Fr.drewN _ _ _) (fun h => h)), F.trans' (Fr.drewN _ _ _)⟩
    · have hlI : ¬ ((i : Int) < b) := by omega
      have HS : Hid (dk = R) := Lib.hid (by have := HR.out; rw [insOuter, if_neg hlt] at this; exact this)
      go_wp2_with (fail)
      refine bodyPost_end (results_none rfl _ _ _) rfl ?_
      exact ⟨rfl, by rw [← HS.out]; exact H.out, F⟩
end Go.Proofs.Ytdgaiacigmcibaa.NS
