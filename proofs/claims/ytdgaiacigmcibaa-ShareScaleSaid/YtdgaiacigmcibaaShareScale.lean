/- ShareScale's walk. No condition. -/
import Derived.Test.YtdgaiacigmcibaaScaleA
import Derived.Test.YtdgaiacigmcibaaRefP
import Derived.Test.YtdgaiacigmcibaaShLives
import Derived.Test.YtdgaiacigmcibaaShArgs
namespace Go.Proofs.Ytdgaiacigmcibaa
open Go.RowKit Go.Sort

def pWords (l : List Nat) : List Nat := (List.range l.length).map fun i => pAt l i
theorem pWords_len (l : List Nat) : (pWords l).length = l.length := by unfold pWords; simp
theorem pWords_row {l : List Nat} {w : World} {g : Nat} (h : Row w g (pRow l l.length) 23) : Fs w (some ⟨g, 0, none⟩) (pWords l) := by
  have e : pRow l l.length = (pWords l).map fun x => Value.float .f64 x := by unfold pRow pWords; rw [List.map_map]; rfl
  rw [e] at h
  exact Sl.ofRow h
/-- What a number gives as a weight. -/
def mo (x : Int) : Nat := (wrap64 ((IntKind.u64.wrap x).tmod 1001)).toNat
theorem mo_spec (x : Int) : wrap64 ((IntKind.u64.wrap x).tmod 1001) = (mo x : Int) ∧ mo x ≤ 1000 := by
  obtain ⟨q, hq, e⟩ := umod x 1001 (by decide) (by decide)
  have e' : wrap64 ((IntKind.u64.wrap x).tmod 1001) = (q : Int) := e
  unfold mo
  rw [e', Int.toNat_natCast]
  exact ⟨rfl, by omega⟩
/-- Two slices in blocks of their own. -/
def Dis (va vb : Value) : Prop := ∀ k, InBlock va k → ¬ InBlock vb k
theorem Dis.symm {va vb : Value} (h : Dis va vb) : Dis vb va := fun k h1 h2 => h k h2 h1
theorem coll_beside {w w0 w7 wr : World} {t : TypeId} {s m : Nat} {va vb : Value} {ys : List Value} (h : CollE w t s vb m ys wr) (F : Fr Nothing wr w0) (f : Fr (InBlock va) w0 w7) (hn : ∀ k, InBlock va k → w.heap.size ≤ k) (hd : Dis va vb) : CollE w t s vb m ys w7 :=
  ⟨(h.own.fr F (fun _ _ h => h)).fr f (fun k hk e => hd k e hk), h.new, (h.fr.trans' F).trans f (fun k hk hb => by have := hn k hb; omega)⟩
theorem dis_step {w0 wr : World} {va vb va' : Value} {t : TypeId} {s m : Nat} {ys : List Value} (hn : NewOr w0 va va') (hd : Dis va vb) (hb : Owns wr t s vb m ys) (F : wr.heap.size ≤ w0.heap.size) : Dis va' vb := by
  intro k h1 h2
  rcases hn k h1 with h | h
  · exact hd k h h2
  · have := hb.lt h2; omega
/-- Numbers times a power of two, as values. -/
def wlist (E : Nat) (ms : List Nat) : List Value := (ms.map (wd E)).map fun x => Value.float .f64 x
theorem wlist_one (E : Nat) (ms : List Nat) (m : Nat) : wlist E (ms ++ [m]) = wlist E ms ++ [.float .f64 (wd E m)] := by
  unfold wlist; simp
theorem wlist_nil (E : Nat) : wlist E [] = [] := rfl
set_option maxHeartbeats 8000000 in
set_option maxRecDepth 100000 in
theorem sharescale_any (a : Option Addr) (l0 : List Int) (c : Nat) (n by_ : Int) (w : World) (hc : l0.length ≤ c) (hm : c ≤ maxLen) (hl : Sl w a (nums l0)) (_z : ∀ n ∈ l0, (Lit.int .i64 n).wf = true) (_w1 : (Lit.int .i64 n).wf = true) (_w2 : (Lit.int .i64 by_).wf = true) :
    Calls Try.prog 7 #[.slice a l0.length c, .int .i64 n, .int .i64 by_] w fun e w' => e = .returned (.bool true) ∧ Below w.heap.size w w' := by
  obtain ⟨i0, hi, hz0, hz1, hz2⟩ := infoFl
  have Hi := Lib.hid hi
  have Hz0 := Lib.hid hz0
  have Hz1 := Lib.hid hz1
  have Hz2 := Lib.hid hz2
  obtain ⟨q, hq, eq'⟩ := umod by_ 200 (by decide) (by decide)
  have eq : wrap64 ((IntKind.u64.wrap by_).tmod 200) = (q : Int) := eq'
  obtain ⟨C, hC⟩ : ∃ C : Nat, C = 1074 := ⟨_, rfl⟩
  obtain ⟨D, hD⟩ : ∃ D : Nat, D = q - 100 := ⟨_, rfl⟩
  obtain ⟨H, hH⟩ : ∃ H : Nat, H = 100 - q := ⟨_, rfl⟩
  obtain ⟨E, hE⟩ : ∃ E : Nat, E = C + D - H := ⟨_, rfl⟩
  obtain ⟨N, hN⟩ : ∃ N, N = l0.length := ⟨_, rfl⟩
  obtain ⟨J, hJ⟩ : ∃ J, J = min N 40 := ⟨_, rfl⟩
  obtain ⟨ms, hms⟩ : ∃ ms, ms = (l0.take 40).map mo := ⟨_, rfl⟩
  have hmsJ : ms.length = J := by rw [hms, List.length_map, List.length_take, hJ, hN, Nat.min_comm]
  have hms9 : ∀ m ∈ ms, m ≤ 1000 := fun m h => by
    rw [hms] at h
    obtain ⟨x, _, rfl⟩ := List.mem_map.1 h
    exact (mo_spec x).2
  have hc9 : (c : Int) ≤ 9223372036854775807 := by unfold maxLen at hm; omega
  have hNc : (N : Int) ≤ c := by omega
  have hJ40 : J ≤ 40 := by omega
  have HC := Lib.hid hC
  have HD := Lib.hid hD
  have HH := Lib.hid hH
  have HE := Lib.hid hE
  have HJ := Lib.hid hJ
  have HN := Lib.hid hN
  have HMS := Lib.hid hms
  have HMJ := Lib.hid hmsJ
  have HM9 := Lib.hid hms9
  have HL := Lib.hid hl
  have hq9 : (q : Int) ≤ 199 := by omega
  have hby1 : (q : Int) - 100 ≤ 99 := by omega
  have HDI : Hid (∀ t : Nat, (t : Int) < (q : Int) - 100 ↔ t < D) := Lib.hid (fun t => by omega)
  have HHI : Hid (∀ t : Nat, (t : Int) < -((q : Int) - 100) ↔ t < H) := Lib.hid (fun t => by omega)
  have HDH : Hid (H = 0 ∨ D = 0) := Lib.hid (by omega)
  have hDn : D ≤ 99 := by omega
  have hHn : H ≤ 100 := by omega
  have HDB : Hid (D ≤ 99 ∧ H ≤ 100) := Lib.hid ⟨hDn, hHn⟩
  rw [← hN]
  clear hi hz0 hz1 hz2 eq' hC hD hH hE hN hJ hms hmsJ hms9 hl hc hm hDn hHn
  go_enter Try.func7, Try.ntmps7
  go_wp2_with (go_at_call 9; refine (share_lives _).mono ?_; rintro _ w1 ⟨rfl, F1⟩)
  have HF1 := Lib.hid F1
  rw [eq]
  clear F1
  go_loopg [7, 8, 9] J (fun gg va vb vi wr => ∃ k, k ≤ J ∧ gg = J - k ∧ vi = .int .i64 (k : Nat) ∧ Hid (CollE w1 23 1 va k (wlist C (ms.take k)) wr) ∧ Hid (CollE w1 23 1 vb k (wlist E (ms.take k)) wr) ∧ Hid (Dis va vb))
  case atStart => exact ⟨0, Nat.zero_le _, rfl, rfl, Lib.hid (CollE.start _ _ _), Lib.hid (CollE.start _ _ _), Lib.hid (fun k h => by simp [InBlock, Value.ownBlock] at h)⟩
  case round =>
    obtain ⟨wx, rfl⟩ : ∃ wx, wx = wr := ⟨_, rfl⟩
    obtain ⟨k, hk, rfl, rfl, HA, HB, HDS⟩ := hrel
    by_cases hlt : k < J
    · have hkN : k < N := by have := HJ.out; omega
      have hkNI : (k : Int) < N := by omega
      have hk40 : (k : Int) < 40 := by omega
      have hkl : k < l0.length := by have := HN.out; omega
      obtain ⟨b, o, rfl, c00⟩ := Sl.at_ HL.out (i := k) (by simpa using hkl)
      have c0 := c00 k (by simpa using hkl)
      obtain ⟨x, hx⟩ : ∃ x, x = l0[k] := ⟨_, rfl⟩
      have c0' : w.cell? ⟨b, o + k, none⟩ = some (.int .i64 x) := by
        rw [hx]; simpa [hkl] using c0
      have c1 := cell_fr c0' (HF1.out.trans' HA.out.fr) (fun h => h)
      obtain ⟨m, hm⟩ : ∃ m, m = mo x := ⟨_, rfl⟩
      obtain ⟨e1, e2⟩ := mo_spec x
      rw [← hm] at e1 e2
      have hmk : ms.getD k 0 = m := by
        rw [HMS.out, hm, hx]
        simp [hkl, show k < 40 by omega]
      have hkm : k < ms.length := by rw [HMJ.out]; exact hlt
      have hmk2 : ms[k] = m := by rw [← hmk]; simp [hkm]
      have htk : ms.take (k + 1) = ms.take k ++ [m] := by rw [List.take_succ_eq_append_getElem hkm, hmk2]
      have hm53 : m < 9007199254740992 := by omega
      obtain ⟨y, hy⟩ : ∃ y, y = wd C m := ⟨_, rfl⟩
      have hfo : floatOfInt .f64 (m : Int) = y := by rw [hy, ← nf_wd HC.out hm53]; exact nf_of_int m
      obtain ⟨z, hz⟩ : ∃ z, z = wd E m := ⟨_, rfl⟩
      have hTA : Hid (wlist C (ms.take (k + 1)) = wlist C (ms.take k) ++ [.float .f64 y]) := Lib.hid (by rw [htk, hy, wlist_one])
      have hTB : Hid (wlist E (ms.take (k + 1)) = wlist E (ms.take k) ++ [.float .f64 z]) := Lib.hid (by rw [htk, hz, wlist_one])
      have HY := Lib.hid hy
      have HZ := Lib.hid hz
      have HM := Lib.hid hm53
      clear c00 c0 c0' hx hm e2 hmk hkm hmk2 htk hm53 hy hz
      go_wp2_with (at_builtin; go_must (refine wpList_append_fp rfl (.tmp 38) (.tmp 40) 22 rfl 23 i0 (.float .f64 0) 1 8 Try.underlying22 Hi.out Hz0.out Hz1.out Hz2.out rfl (by decide) _ _ _ rfl (HA.out.quiet (Fr.alloc Nothing wx (.cells #[Value.float .f64 y] 23))).own _ 1 1 [Value.float .f64 y] rfl rfl (by simp) (Sl.ofRow (Row.allocNew wx [Value.float .f64 y] 23)) (by simp [Value.oneCell']) (by unfold maxLen; omega) (by omega) ?_))
      intro v7 w7 o7 f7 n7 s7 _
      have HA7 : Hid (CollE w1 23 1 v7 (k + 1) (wlist C (ms.take (k + 1))) w7) := Lib.hid (by rw [hTA.out]; exact CollE.more HA.out (Fr.alloc Nothing _ _) o7 f7 n7)
      have HB7 := Lib.hid (coll_beside HB.out (Fr.alloc Nothing wx (.cells #[Value.float .f64 y] 23)) f7 HA.out.new HDS.out)
      have HD7 := Lib.hid (dis_step n7 HDS.out HB.out.own (Fr.alloc Nothing wx (.cells #[Value.float .f64 y] 23)).size)
      clear HA HB HDS o7 f7 n7 s7 hTA c1
      go_wp2_with (fail)
      go_loopg [10, 11] D (fun gg vx vt wr => ∃ (t u : Nat), t ≤ D ∧ gg = D - t ∧ vt = .int .i64 (t : Nat) ∧ vx = .float .f64 u ∧ Hid (u = wd (C + t) m) ∧ wr = w7)
      case atStart => exact ⟨0, y, Nat.zero_le _, rfl, rfl, rfl, HY, rfl⟩
      case round =>
        obtain ⟨t, u, ht, rfl, rfl, rfl, HU, rfl⟩ := hrel
        have hc1 := HC.out
        have hd1 := HDB.out
        by_cases htD : t < D
        · have htI : (t : Int) < (q : Int) - 100 := (HDI.out t).2 htD
          obtain ⟨u2, hu2⟩ : ∃ u2, u2 = wd (C + t + 1) m := ⟨_, rfl⟩
          have hmul : FloatKind.f64.format.mul u 4611686018427387904 = some u2 := by
            have h1 := (mul_nn (wd_fin (E := C + t) HM.out (by omega)) (show Fin twoF by decide)).1
            rw [double_wd HM.out (by omega) (by omega), ← HU.out, ← hu2] at h1
            exact h1
          have hqm : ∀ w, (binOp .mul 23 (.float .f64 u) (.float .f64 4611686018427387904)).run Try.prog w = .ok (.float .f64 u2) w := fun w => run_float_arith w .mul 23 .f64 u 4611686018427387904 u2 hmul
          have HU2 := Lib.hid hu2
          clear hu2 hmul hc1 hd1
          go_wp2_with (fail)
          go_roundg (D - (t + 1))
          case measure => omega
          case rel => exact ⟨t + 1, u2, by omega, rfl, by go_num, rfl, HU2, rfl⟩
        · have htI : ¬ ((t : Int) < (q : Int) - 100) := fun h => htD ((HDI.out t).1 h)
          obtain rfl : D = t := by omega
          clear hc1 hd1 HY
          go_wp2_with (fail)
          go_loopg [10, 12] H (fun gg vx vt wr2 => ∃ (t u : Nat), t ≤ H ∧ gg = H - t ∧ vt = .int .i64 (t : Nat) ∧ vx = .float .f64 u ∧ Hid (u = wd (C + D - t) m) ∧ wr2 = wr)
          case atStart => exact ⟨0, u, Nat.zero_le _, rfl, rfl, rfl, HU, rfl⟩
          case round =>
            clear HU
            obtain ⟨t, u, ht, rfl, rfl, rfl, HU, rfl⟩ := hrel
            have hc1 := HC.out
            have hd1 := HDB.out
            by_cases htH : t < H
            · have htI2 : (t : Int) < -((q : Int) - 100) := (HHI.out t).2 htH
              obtain ⟨u2, hu2⟩ : ∃ u2, u2 = wd (C + D - (t + 1)) m := ⟨_, rfl⟩
              have hdiv : FloatKind.f64.format.div u 4611686018427387904 = some u2 := by
                have e3 : C + D - t = C + D - (t + 1) + 1 := by omega
                have h1 := (div_nn (wd_fin (E := C + D - (t + 1) + 1) HM.out (by omega)) (show NN twoF by decide) (by decide)).1
                rw [halve_wd HM.out (by omega) (by omega), ← e3, ← HU.out, ← hu2] at h1
                exact h1
              have hqd : ∀ w, (binOp .quo 23 (.float .f64 u) (.float .f64 4611686018427387904)).run Try.prog w = .ok (.float .f64 u2) w := fun w => run_float_arith w .quo 23 .f64 u 4611686018427387904 u2 hdiv
              have HU2 := Lib.hid hu2
              clear hu2 hdiv hc1 hd1
              go_wp2_with (fail)
              go_roundg (H - (t + 1))
              case measure => omega
              case rel => exact ⟨t + 1, u2, by omega, rfl, by go_num, rfl, HU2, rfl⟩
            · have htI2 : ¬ ((t : Int) < -((q : Int) - 100)) := fun h => htH ((HHI.out t).1 h)
              obtain rfl : H = t := by omega
              obtain rfl : u = z := by rw [HU.out, HZ.out, HE.out]
              obtain ⟨wy, rfl⟩ : ∃ wy, wy = wr := ⟨_, rfl⟩
              clear hc1 hd1
              go_wp2_with (at_builtin; go_must (refine wpList_append_fp rfl (.tmp 57) (.tmp 59) 22 rfl 23 i0 (.float .f64 0) 1 8 Try.underlying22 Hi.out Hz0.out Hz1.out Hz2.out rfl (by decide) _ _ _ rfl (HB7.out.quiet (Fr.alloc Nothing wy (.cells #[Value.float .f64 u] 23))).own _ 1 1 [Value.float .f64 u] rfl rfl (by simp) (Sl.ofRow (Row.allocNew wy [Value.float .f64 u] 23)) (by simp [Value.oneCell']) (by unfold maxLen; omega) (by omega) ?_))
              intro v8 w8 o8 f8 n8 s8 _
              have HB8 : Hid (CollE w1 23 1 v8 (k + 1) (wlist E (ms.take (k + 1))) w8) := Lib.hid (by rw [hTB.out]; exact CollE.more HB7.out (Fr.alloc Nothing _ _) o8 f8 n8)
              have HA8 := Lib.hid (coll_beside HA7.out (Fr.alloc Nothing wy (.cells #[Value.float .f64 u] 23)) f8 HB7.out.new HD7.out.symm)
              have HD8 := Lib.hid (dis_step n8 HD7.out.symm HA7.out.own (Fr.alloc Nothing wy (.cells #[Value.float .f64 u] 23)).size).symm
              go_wp2_with (fail)
              go_roundg (J - (k + 1))
              case measure => omega
              case rel => exact ⟨k + 1, by omega, rfl, by go_num, HA8, HB8, Lib.hid HD8.out⟩
    · obtain rfl : J = k := by omega
      have hJN : ¬ ((J : Int) < N) ∨ ¬ ((J : Int) < 40) := by have := HJ.out; omega
      obtain ⟨A, hAe⟩ : ∃ A, A = ms.map (wd C) := ⟨_, rfl⟩
      obtain ⟨B, hBe⟩ : ∃ B, B = ms.map (wd E) := ⟨_, rfl⟩
      have hAl : A.length = J := by rw [hAe, List.length_map]; exact HMJ.out
      have hBl : B.length = J := by rw [hBe, List.length_map]; exact HMJ.out
      have hmsl : ms.length ≤ 60 := by have := HMJ.out; omega
      have hcC := HC.out
      have hdD := HDB.out
      have heE := HE.out
      obtain ⟨a7, c7, rfl, hJc7, hc7⟩ := HA.out.own.shape
      obtain ⟨a8, c8, rfl, hJc8, hc8⟩ := HB.out.own.shape
      have htk : ms.take J = ms := List.take_of_length_le (by have := HMJ.out; omega)
      have hfa : Fs wx a7 A := by
        have := HA.out.own.sl.2
        rw [htk] at this
        rw [hAe]; exact this
      have hfb : Fs wx a8 B := by
        have := HB.out.own.sl.2
        rw [htk] at this
        rw [hBe]; exact this
      have hwA : ∀ z ∈ A, z < 18446744073709551616 := by rw [hAe]; exact wd_words HM9.out (by omega)
      have hwB : ∀ z ∈ B, z < 18446744073709551616 := by rw [hBe]; exact wd_words HM9.out (by omega)
      obtain ⟨X, hX⟩ : ∃ X, X = pWords A := ⟨_, rfl⟩
      have hX2 : X = pWords B := by
        rw [hX]
        unfold pWords
        rw [hAl, hBl]
        apply List.map_congr_left
        intro i hi
        rw [hAe, hBe]
        exact pAt_same HM9.out hmsl (by omega) (by omega) (by omega) (by omega) (by have := List.mem_range.1 hi; have := HMJ.out; omega)
      have hXl : X.length = J := by rw [hX, pWords_len, hAl]
      obtain ⟨Y, hY⟩ : ∃ Y, Y = wholeL A n := ⟨_, rfl⟩
      have hY2 : Y = wholeL B n := by rw [hY, hAe, hBe]; exact whole_wd HM9.out hmsl (by omega) (by omega) (by omega) (by omega) n
      have hYl : Y.length = J := by rw [hY, wholeL_len, hAl]
      obtain ⟨T, hT⟩ : ∃ T, T = (topL A).take (min (max n 0) (topL A).length).toNat := ⟨_, rfl⟩
      have hT2 : T = (topL B).take (min (max n 0) (topL B).length).toNat := by rw [hT, hAe, hBe, top_wd HM9.out (E := C) (F := E) (by omega) (by omega) (by omega) (by omega)]
      have hTl : T.length ≤ 60 := by
        rw [hT, List.length_take]
        have := topL_len A; omega
      have HP1 : Hid (∀ W, Fr Nothing wx W → Calls Try.prog 12 #[.slice a7 J c7] W fun e w' => ∃ g, e = .returned (.slice (some ⟨g, 0, none⟩) J J) ∧ Fs w' (some ⟨g, 0, none⟩) X ∧ Fr Nothing W w') := Lib.hid fun W F => by
        have := parts_f a7 A c7 W (Sl.fr hfa F (fun _ _ h => h)) hwA (by omega)
        rw [hAl] at this
        refine this.mono ?_
        rintro e w' ⟨g, rfl, _, hR, hF⟩
        exact ⟨g, rfl, by rw [hX]; exact pWords_row (by rw [hAl]; exact hR), hF⟩
      have HP2 : Hid (∀ W, Fr Nothing wx W → Calls Try.prog 12 #[.slice a8 J c8] W fun e w' => ∃ g, e = .returned (.slice (some ⟨g, 0, none⟩) J J) ∧ Fs w' (some ⟨g, 0, none⟩) X ∧ Fr Nothing W w') := Lib.hid fun W F => by
        have := parts_f a8 B c8 W (Sl.fr hfb F (fun _ _ h => h)) hwB (by omega)
        rw [hBl] at this
        refine this.mono ?_
        rintro e w' ⟨g, rfl, _, hR, hF⟩
        exact ⟨g, rfl, by rw [hX2]; exact pWords_row (by rw [hBl]; exact hR), hF⟩
      have HW1 : Hid (∀ W, Fr Nothing wx W → Calls Try.prog 19 #[.int .i64 n, .slice a7 J c7] W (WholeTold Y W)) := Lib.hid fun W F => by
        have := whole_f a7 A c7 n W (Sl.fr hfa F (fun _ _ h => h)) hwA (by omega) (by omega)
        rw [hAl, ← hY] at this
        exact this
      have HW2 : Hid (∀ W, Fr Nothing wx W → Calls Try.prog 19 #[.int .i64 n, .slice a8 J c8] W (WholeTold Y W)) := Lib.hid fun W F => by
        have := whole_f a8 B c8 n W (Sl.fr hfb F (fun _ _ h => h)) hwB (by omega) (by omega)
        rw [hBl, ← hY2] at this
        exact this
      have HT1 : Hid (∀ W, Fr Nothing wx W → Calls Try.prog 15 #[.slice a7 J c7, .int .i64 n] W (TopTold T W)) := Lib.hid fun W F => by
        have := top_f a7 A c7 n W (Sl.fr hfa F (fun _ _ h => h)) hwA (by omega) (by omega)
        rw [hAl, ← hT] at this
        exact this
      have HT2 : Hid (∀ W, Fr Nothing wx W → Calls Try.prog 15 #[.slice a8 J c8, .int .i64 n] W (TopTold T W)) := Lib.hid fun W F => by
        have := top_f a8 B c8 n W (Sl.fr hfb F (fun _ _ h => h)) hwB (by omega) (by omega)
        rw [hBl, ← hT2] at this
        exact this
      have HSF : Hid (∀ (a b : Option Addr) (W : World), Fs W a X → Fs W b X → Calls Try.prog 11 #[.slice a J J, .slice b J J] W fun e w' => e = .returned (.bool true) ∧ Fr Nothing W w') := Lib.hid fun a b W h1 h2 => by
        have := rsame_f a b X J J W h1 h2 (by rw [hXl]; omega)
        rw [hXl] at this
        refine this.mono ?_
        rintro e w' ⟨rfl, m, rfl⟩
        exact ⟨rfl, Fr.drewN _ _ _⟩
      have HSE : Hid (∀ (g h : Nat) (W W0 : World), Fs W0 (some ⟨g, 0, none⟩) X → Fr Nothing W0 W → Fs W (some ⟨h, 0, none⟩) X → Calls Try.prog 11 #[.slice (some ⟨g, 0, none⟩) J J, .slice (some ⟨h, 0, none⟩) J J] W fun e w' => e = .returned (.bool true) ∧ Fr Nothing W w') := Lib.hid fun g h W W0 h1 F h2 =>
        HSF.out (some ⟨g, 0, none⟩) (some ⟨h, 0, none⟩) W (Sl.fr h1 F (fun _ _ h => h)) h2
      clear HSF
      have HSI : Hid (∀ (L : List Int), L.length ≤ 60 → ∀ (a b : Option Addr) (ca cb : Nat) (W : World), Sl W a (L.map (Value.int .i64)) → Sl W b (L.map (Value.int .i64)) → Calls Try.prog 14 #[.slice a L.length ca, .slice b L.length cb] W fun e w' => e = .returned (.bool true) ∧ Fr Nothing W w') := Lib.hid fun L hL a b ca cb W h1 h2 => by
        refine (same_ints a b L ca cb W h1 h2 (by unfold maxLen; omega)).mono ?_
        rintro e w' ⟨rfl, m, rfl⟩
        exact ⟨rfl, Fr.drewN _ _ _⟩
      have HSY : Hid (∀ (g h : Nat) (W : World), Row W g (numsW Y) 3 → Row W h (numsW Y) 3 → Calls Try.prog 14 #[.slice (some ⟨g, 0, none⟩) Y.length Y.length, .slice (some ⟨h, 0, none⟩) Y.length Y.length] W fun e w' => e = .returned (.bool true) ∧ Fr Nothing W w') := Lib.hid fun g h W h1 h2 =>
        HSI.out Y (by omega) (some ⟨g, 0, none⟩) (some ⟨h, 0, none⟩) Y.length Y.length W (Sl.ofRow h1) (Sl.ofRow h2)
      have HST : Hid (∀ (a b : Option Addr) (ca cb : Nat) (W : World), Sl W a (T.map (Value.int .i64)) → Sl W b (T.map (Value.int .i64)) → Calls Try.prog 14 #[.slice a T.length ca, .slice b T.length cb] W fun e w' => e = .returned (.bool true) ∧ Fr Nothing W w') := Lib.hid (HSI.out T hTl)
      clear HSI
      have HFX : Hid (Fr Nothing w wx) := Lib.hid (HF1.out.trans' HA.out.fr)
      have FX0 := Fr.refl Nothing wx
      clear hAe hBe hAl hBl hmsl hcC hdD heE hJc7 hJc8 hc7 hc8 htk hfa hfb hwA hwB hX hX2 hXl hY hY2 hYl hT hT2 hTl HA HB HDS
      by_cases hjn : (J : Int) < N
      · have hj4 : ¬ ((J : Int) < 40) := by rcases hJN with h | h; exact absurd hjn h; exact h
        have hj5 : decide ((J : Int) < 40) = false := decide_eq_false hj4
        clear hJN
        go_wp2_with (first
          | (go_at_call 12; (with_reducible refine (HP1.out _ FX0).mono ?_); rintro _ w3 ⟨g3, rfl, h3, F3⟩; have G3 := FX0.trans' F3)
          | (go_at_call 12; (with_reducible refine (HP2.out _ G3).mono ?_); rintro _ w4 ⟨g4, rfl, h4, F4⟩; have G4 := G3.trans' F4)
          | (go_at_call 11; (with_reducible refine (HSE.out g3 g4 _ _ h3 F4 h4).mono ?_); rintro _ w5 ⟨rfl, F5⟩; have G5 := G4.trans' F5)
          | (go_at_call 19; (with_reducible refine (HW1.out _ G5).mono ?_); rintro _ w6 ⟨g6, rfl, _, h6, F6⟩; have G6 := G5.trans' F6)
          | (go_at_call 19; (with_reducible refine (HW2.out _ G6).mono ?_); rintro _ w7 ⟨g7, rfl, _, h7, F7⟩; have G7 := G6.trans' F7)
          | (go_at_call 14; (with_reducible refine (HSY.out g6 g7 _ (h6.fr F7 (fun h => h)) h7).mono ?_); rintro _ w8 ⟨rfl, F8⟩; have G8 := G7.trans' F8)
          | (go_at_call 15; (with_reducible refine (HT1.out _ G8).mono ?_); rintro _ w9 h9; obtain ⟨a9, c9, rfl, _, _, h9s, F9⟩ := told_sl h9; have G9 := G8.trans' F9)
          | (go_at_call 15; (with_reducible refine (HT2.out _ G9).mono ?_); rintro _ w10 h10; obtain ⟨a10, c10, rfl, _, _, h10s, F10⟩ := told_sl h10; have G10 := G9.trans' F10)
          | (go_at_call 14; (with_reducible refine (HST.out a9 a10 c9 c10 _ (Sl.fr h9s F10 (fun _ _ h => h)) h10s).mono ?_); rintro _ w11 ⟨rfl, F11⟩; have G11 := G10.trans' F11))
        go_ret
        exact ⟨rfl, (HFX.out.trans' G11).fromN.belowB⟩
      · have hj5 : decide ((J : Int) < N) = false := decide_eq_false hjn
        clear hJN
        go_wp2_with (first
          | (go_at_call 12; (with_reducible refine (HP1.out _ FX0).mono ?_); rintro _ w3 ⟨g3, rfl, h3, F3⟩; have G3 := FX0.trans' F3)
          | (go_at_call 12; (with_reducible refine (HP2.out _ G3).mono ?_); rintro _ w4 ⟨g4, rfl, h4, F4⟩; have G4 := G3.trans' F4)
          | (go_at_call 11; (with_reducible refine (HSE.out g3 g4 _ _ h3 F4 h4).mono ?_); rintro _ w5 ⟨rfl, F5⟩; have G5 := G4.trans' F5)
          | (go_at_call 19; (with_reducible refine (HW1.out _ G5).mono ?_); rintro _ w6 ⟨g6, rfl, _, h6, F6⟩; have G6 := G5.trans' F6)
          | (go_at_call 19; (with_reducible refine (HW2.out _ G6).mono ?_); rintro _ w7 ⟨g7, rfl, _, h7, F7⟩; have G7 := G6.trans' F7)
          | (go_at_call 14; (with_reducible refine (HSY.out g6 g7 _ (h6.fr F7 (fun h => h)) h7).mono ?_); rintro _ w8 ⟨rfl, F8⟩; have G8 := G7.trans' F8)
          | (go_at_call 15; (with_reducible refine (HT1.out _ G8).mono ?_); rintro _ w9 h9; obtain ⟨a9, c9, rfl, _, _, h9s, F9⟩ := told_sl h9; have G9 := G8.trans' F9)
          | (go_at_call 15; (with_reducible refine (HT2.out _ G9).mono ?_); rintro _ w10 h10; obtain ⟨a10, c10, rfl, _, _, h10s, F10⟩ := told_sl h10; have G10 := G9.trans' F10)
          | (go_at_call 14; (with_reducible refine (HST.out a9 a10 c9 c10 _ (Sl.fr h9s F10 (fun _ _ h => h)) h10s).mono ?_); rintro _ w11 ⟨rfl, F11⟩; have G11 := G10.trans' F11))
        go_ret
        exact ⟨rfl, (HFX.out.trans' G11).fromN.belowB⟩
end Go.Proofs.Ytdgaiacigmcibaa
