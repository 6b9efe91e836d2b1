/- The library's sorts by a comparison, at int: the row; what is asked of the comparison; the insertion sort. Condition: the row lies in a block of its own; the comparison reads. -/
import Derived.Test.YtdgaiacigmcibaaColl
import Derived.Sort.Defs
import Derived.Shelf.Abstract
namespace Go.Proofs.Ytdgaiacigmcibaa
open Go.RowKit Go.Sort

/-- Block g holds the numbers d, each good, and behind them rest. -/
def IA (G : Int → Prop) (w : World) (g : Nat) (rest : List Value) (d : Array Int) : Prop := Row w g (d.toList.map (Value.int .i64) ++ rest) 3 ∧ ∀ k, k < d.size → G d[k]!
section
variable {G : Int → Prop} {w w' : World} {g : Nat} {rest : List Value} {d : Array Int}
theorem IA.cell (h : IA G w g rest d) {i : Nat} (hi : i < d.size) : w.cell? ⟨g, i, none⟩ = some (.int .i64 d[i]!) := by
  refine Row.cell h.1 i ?_
  rw [List.getElem?_append_left (by simpa using hi), List.getElem?_map, getElem!_pos d i hi]
  simp [hi]
theorem IA.good (h : IA G w g rest d) {i : Nat} (hi : i < d.size) : G d[i]! := h.2 i hi
theorem IA.free (h : IA G w g rest d) (i : Nat) : w.frozen? ⟨g, i, none⟩ = false := Row.free h.1 i
theorem IA.fr (h : IA G w g rest d) {S : Nat → Prop} (F : Fr S w w') (hg : ¬ S g) : IA G w' g rest d := ⟨Row.fr (S := S) h.1 F hg, h.2⟩
theorem irow_put {w : World} {g : Nat} {rest : List Value} {d : Array Int} (h : Row w g (d.toList.map (Value.int .i64) ++ rest) 3) {i : Nat} (hi : i < d.size) (x : Int) : Row (w.setCell ⟨g, i, none⟩ (.int .i64 x)) g ((d.setIfInBounds i x).toList.map (Value.int .i64) ++ rest) 3 := by
  have := Row.set h i (.int .i64 x)
  rw [List.set_append_left _ _ (by simpa using hi), ← List.map_set] at this
  simpa using this
theorem swp_at (d : Array Int) {i j k : Nat} (hi : i < d.size) (hj : j < d.size) : (Sort.swp d i j)[k]! = if k = j then d[i]! else if k = i then d[j]! else d[k]! := by
  unfold Sort.swp
  by_cases hk : k < d.size
  · rw [getElem!_pos _ k (by simpa using hk), Array.getElem_setIfInBounds (by simpa using hk)]
    by_cases h1 : k = j
    · subst h1; simp
    · rw [if_neg h1, if_neg (fun e => h1 e.symm), Array.getElem_setIfInBounds (by simpa using hk)]
      by_cases h2 : k = i
      · subst h2; simp
      · rw [if_neg h2, if_neg (fun e => h2 e.symm), getElem!_pos d k hk]
  · rw [if_neg (by omega), if_neg (by omega), getElem!_neg _ k (by simpa using hk), getElem!_neg d k hk]
theorem IA.swp (h : IA G w g rest d) {i j : Nat} (hi : i < d.size) (hj : j < d.size) :
    IA G ((w.setCell ⟨g, i, none⟩ (.int .i64 d[j]!)).setCell ⟨g, j, none⟩ (.int .i64 d[i]!)) g rest (Sort.swp d i j) := by
  refine ⟨irow_put (irow_put h.1 hi _) (by simpa using hj) _, fun k hk => ?_⟩
  rw [swp_at d hi hj]
  have hk' : k < d.size := by unfold Sort.swp at hk; simpa using hk
  split
  · exact h.2 i hi
  · split
    · exact h.2 j hj
    · exact h.2 k hk'
end
theorem swp_size (d : Array Int) (i j : Nat) : (Sort.swp d i j).size = d.size := by unfold Sort.swp; simp
/-- What is asked of a comparison (function f, bound to cb): of two good numbers it answers cf; it reads, and may draw. -/
def Cmp (f : Nat) (cb : Array Value) (cf : Int → Int → Int) (G : Int → Prop) (gb : Nat) (w0 : World) : Prop :=
  (∀ args w, (callFunc f args).run Try.prog w = .ok (.enter f args) w) ∧ ∀ W, Fr (fun q => q = gb) w0 W → ∀ x y, G x → G y → Calls Try.prog f (#[.int .i64 x, .int .i64 y] ++ cb) W fun e w' => e = .returned (.int .i64 (cf x y)) ∧ ∃ m, w' = W.drewN m
def ltC (cf : Int → Int → Int) (x y : Int) : Bool := decide (cf x y < 0)
theorem Cmp.quiet {f : Nat} {cb : Array Value} {cf : Int → Int → Int} {G : Int → Prop} {gb : Nat} {w0 : World} (h : Cmp f cb cf G gb w0) {W : World} (F : Fr (fun q => q = gb) w0 W) {x y : Int} (hx : G x) (hy : G y) (n : Nat) :
    Calls Try.prog f (#[.int .i64 x, .int .i64 y] ++ cb) (W.drewN n) fun e w' => e = .returned (.int .i64 (cf x y)) ∧ ∃ m, w' = (W.drewN n).drewN m := h.2 _ (F.trans' (Fr.drewN _ _ _)) x y hx hy
section
variable {lt : Int → Int → Bool}
theorem insIn_stop {d : Array Int} {a j : Nat} (h : ¬ j > a) : insInner lt a j d = d := by
  cases j with
  | zero => rfl
  | succ j => rw [insInner, if_neg (by simp; omega)]
theorem insIn_no {d : Array Int} {a j : Nat} (h : lt d[j + 1]! d[j]! = false) : insInner lt a (j + 1) d = d := by rw [insInner, if_neg (by simp [h])]
theorem insIn_go {d : Array Int} {a j : Nat} (h : lt d[j + 1]! d[j]! = true) (hj : j + 1 > a) : insInner lt a (j + 1) d = insInner lt a j (Sort.swp d (j + 1) j) := by rw [insInner, if_pos (by simp [h]; omega)]
end
/-- What a region that swaps two places of the row leaves. -/
theorem IA.swapped {G : Int → Prop} {w0 w : World} {g : Nat} {rest : List Value} {d : Array Int} (h : IA G w g rest d) (F : Fr (fun q => q = g) w0 w) {i j : Nat} (hi : i < d.size) (hj : j < d.size) {x y : Int} (hx : d[i]! = x) (hy : d[j]! = y) :
    IA G ((w.setCell ⟨g, i, none⟩ (.int .i64 y)).setCell ⟨g, j, none⟩ (.int .i64 x)).drew g rest (Sort.swp d i j) ∧ Fr (fun q => q = g) w0 ((w.setCell ⟨g, i, none⟩ (.int .i64 y)).setCell ⟨g, j, none⟩ (.int .i64 x)).drew := by
  subst hx hy
  exact ⟨IA.fr (S := Nothing) (h.swp hi hj) (Fr.drew _ _) (fun h => h), F.trans' (((Fr.setCell (S := fun q => q = g) (p := ⟨g, i, none⟩) rfl _).trans' (Fr.setCell (S := fun q => q = g) (p := ⟨g, j, none⟩) rfl _)).trans' (Fr.drew _ _))⟩
theorem IA.after {G : Int → Prop} {w : World} {g : Nat} {rest : List Value} {d : Array Int} (h : IA G w g rest d) {i j : Nat} (hi : i < d.size) (hj : j < d.size) (y : Int) : ∃ v, (w.setCell ⟨g, i, none⟩ (.int .i64 y)).cell? ⟨g, j, none⟩ = some v := ⟨_, Row.cell (irow_put h.1 hi y) j (by rw [List.getElem?_append_left (by simpa using hj), List.getElem?_map, List.getElem?_eq_getElem (by simpa using hj)]; rfl)⟩
theorem Cmp.at_ {f : Nat} {cb : Array Value} {cf : Int → Int → Int} {G : Int → Prop} {gb : Nat} {w0 w : World} (h : Cmp f cb cf G gb w0) (F : Fr (fun q => q = gb) w0 w) : Cmp f cb cf G gb w := ⟨h.1, fun W F2 => h.2 W (F.trans' F2)⟩
set_option maxHeartbeats 4000000 in
set_option maxRecDepth 100000 in
theorem i_insertion {f : Nat} {cb : Array Value} {cf : Int → Int → Int} {G : Int → Prop} (g c : Nat) (rest : List Value) (d : Array Int) (a b : Nat) (w : World) (hcm : Cmp f cb cf G g w) (h : IA G w g rest d) (hb : b ≤ d.size) (hd : (d.size : Int) ≤ 1000) (ha : a ≤ 1000) :
    Calls Try.prog 44 #[.slice (some ⟨g, 0, none⟩) d.size c, .int .i64 a, .int .i64 b, .func (.func f) #[] cb] w fun e w' => e = .returned (.tuple #[]) ∧ IA G w' g rest (Sort.insertionSort (ltC cf) d a b) ∧ Fr (fun q => q = g) w w' := by
  obtain ⟨n, hn⟩ : ∃ n, n = d.size := ⟨_, rfl⟩
  obtain ⟨R, hR⟩ : ∃ R, R = Sort.insertionSort (ltC cf) d a b := ⟨_, rfl⟩
  have HR0 : Hid (insOuter (ltC cf) a b (a + 1) d = R) := Lib.hid (by rw [hR]; rfl)
  have H0 := Lib.hid h
  have eg := hcm.1
  have HCM := Lib.hid hcm
  have HN0 := Lib.hid hn.symm
  rw [← hn] at hd hb ⊢
  rw [← hR]
  clear hR h hn hcm
  go_enter Try.func44, Try.ntmps44
  go_wp2_with (fail)
  go_loopg [8, 9] (b - (a + 1)) (fun gg vi _ wr => ∃ (i : Nat) (dk : Array Int), gg = b - i ∧ vi = .int .i64 i ∧ a + 1 ≤ i ∧ (i ≤ b ∨ i = a + 1) ∧ Hid (dk.size = n) ∧ Hid (insOuter (ltC cf) a b i dk = R) ∧ Hid (IA G wr g rest dk) ∧ Fr (fun q => q = g) w wr)
  case atStart => exact ⟨a + 1, d, rfl, by go_num, Nat.le_refl _, .inr rfl, HN0, HR0, H0, Fr.refl _ _⟩
  case round =>
    clear HR0 H0 HN0
    obtain ⟨i, dk, rfl, rfl, hai, hib, HN, HR, H, F⟩ := hrel
    by_cases hlt : i < b
    · have HR2 : Hid (insOuter (ltC cf) a b (i + 1) (insInner (ltC cf) a i dk) = R) := Lib.hid (by have := HR.out; rw [insOuter, if_pos hlt] at this; exact this)
      obtain ⟨R2, hR2⟩ : ∃ R2, R2 = insInner (ltC cf) a i dk := ⟨_, rfl⟩
      rw [← hR2] at HR2
      have HI0 := Lib.hid hR2.symm
      have hlI : (i : Int) < b := by omega
      clear hR2 HR
      go_wp2_with (fail)
      go_loopg [9] i (fun gg vj wr2 => ∃ (j : Nat) (dj : Array Int), j = gg ∧ vj = .int .i64 j ∧ j ≤ i ∧ Hid (dj.size = n) ∧ Hid (insInner (ltC cf) a j dj = R2) ∧ Hid (IA G wr2 g rest dj) ∧ Fr (fun q => q = g) w wr2)
      case atStart => exact ⟨i, dk, rfl, rfl, Nat.le_refl _, HN, HI0, H, F⟩
      case round =>
        clear HN HI0 H F
        obtain ⟨j, dj, rfl, rfl, hji, HN, HI, H, F⟩ := hrel
        by_cases hja : a < j
        · obtain ⟨j, rfl⟩ : ∃ k, j = k + 1 := ⟨j - 1, by omega⟩
          have j1 : j + 1 < dj.size := by rw [HN.out]; omega
          have j0 : j < dj.size := by omega
          obtain ⟨x, hx⟩ : ∃ x, x = dj[j + 1]! := ⟨_, rfl⟩
          obtain ⟨y, hy⟩ : ∃ y, y = dj[j]! := ⟨_, rfl⟩
          have c1 := H.out.cell j1
          have c0 := H.out.cell j0
          rw [← hx] at c1
          rw [← hy] at c0
          have hjI : (a : Int) < j + 1 := by omega
          have hjn : (j : Int) + 1 < n := by omega
          have hjn0 : (j : Int) < n := by omega
          have hgx : G x := by rw [hx]; exact H.out.good j1
          have hgy : G y := by rw [hy]; exact H.out.good j0
          obtain ⟨z, hz⟩ : ∃ z, z = cf x y := ⟨_, rfl⟩
          have HL := Lib.hid (HCM.out.quiet F hgx hgy)
          rw [← hz] at HL
          have hzl : ltC cf x y = decide (z < 0) := by rw [hz]; rfl
          clear hgx hgy hz
          cases hl : (ltC cf) x y with
          | true =>
            have hz0 : z < 0 := by rw [hl] at hzl; exact of_decide_eq_true hzl.symm
            clear hzl
            have HS : Hid (insInner (ltC cf) a j (Sort.swp dj (j + 1) j) = R2) := Lib.hid (by rw [← insIn_go (by rw [← hx, ← hy]; exact hl) hja]; exact HI.out)
            have HX := Lib.hid hx.symm
            have HY := Lib.hid hy.symm
            have HJ1 := Lib.hid j1
            have HJ0 := Lib.hid j0
            clear hx hy hl HI j1 j0
            go_wp2_with (fail)
            go_quiet ((go_at_fn f; exact Calls.quiet_of (HL.out _)))
            go_wp2_with (fail)
            obtain ⟨V, hV⟩ : ∃ V, V = wr.drewN nq := ⟨_, rfl⟩
            have FV : Fr Nothing wr V := by rw [hV]; exact Fr.drewN _ _ _
            have F2 : Fr (fun q => q = g) w V := by rw [hV]; exact F.trans' (Fr.drewN _ _ _)
            rw [← hV]
            have HV := Lib.hid (IA.fr (S := Nothing) H.out FV (fun h => h))
            clear c1 c0 H F FV hV
            have c1 := HV.out.cell HJ1.out
            have c0 := HV.out.cell HJ0.out
            rw [HX.out] at c1
            rw [HY.out] at c0
            have fz : ∀ k, V.frozen? ⟨g, k, none⟩ = false := fun k => HV.out.free k
            obtain ⟨v0, f0⟩ := HV.out.after HJ1.out HJ0.out y
            have HW := Lib.hid (HV.out.swapped F2 HJ1.out HJ0.out HX.out HY.out)
            go_region
            go_wp2_with (fail)
            go_roundg j
            case measure => omega
            case rel => exact ⟨j, _, rfl, by go_num, by omega, Lib.hid (by rw [swp_size]; exact HN.out), HS, Lib.hid HW.out.1, HW.out.2⟩
          | false =>
            have hz0 : ¬ z < 0 := by rw [hl] at hzl; exact of_decide_eq_false hzl.symm
            clear hzl
            have HS : Hid (dj = R2) := Lib.hid (by rw [← HI.out, insIn_no (by rw [← hx, ← hy]; exact hl)])
            clear hx hy hl HI j1 j0
            go_wp2_with (fail)
            go_quiet ((go_at_fn f; exact Calls.quiet_of (HL.out _)))
            go_wp2_with (fail)
            go_roundg (b - (i + 1))
            case measure => omega
            case rel => exact ⟨i + 1, dj, rfl, by go_num, by omega, by omega, HN, by rw [HS.out]; exact HR2, Lib.hid (IA.fr (S := Nothing) H.out (Fr.drewN _ _ _) (fun h => h)), F.trans' (Fr.drewN _ _ _)⟩
        · have HS : Hid (dj = R2) := Lib.hid (by rw [← HI.out, insIn_stop (by omega)])
          have hjI : ¬ ((a : Int) < j) := by omega
          go_wp2_with (fail)
          go_quiet (fail)
          go_wp2_with (fail)
          go_roundg (b - (i + 1))
          case measure => omega
          case rel => exact ⟨i + 1, dj, rfl, by go_num, by omega, by omega, HN, by rw [HS.out]; exact HR2, Lib.hid (IA.fr (S := Nothing) H.out (Fr.drewN _ _ _) (fun h => h)), F.trans' (Fr.drewN _ _ _)⟩
    · have hlI : ¬ ((i : Int) < b) := by omega
      have HS : Hid (dk = R) := Lib.hid (by have := HR.out; rw [insOuter, if_neg hlt] at this; exact this)
      go_wp2_with (fail)
      refine bodyPost_end (results_none rfl _ _ _) rfl ?_
      exact ⟨rfl, by rw [← HS.out]; exact H.out, F⟩
end Go.Proofs.Ytdgaiacigmcibaa
