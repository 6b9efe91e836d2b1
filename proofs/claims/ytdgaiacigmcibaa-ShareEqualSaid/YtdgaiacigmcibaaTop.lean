/- share.Top: the places of the weights that count, sorted by the stable sort. Condition: at most 1000 weights. -/
import Derived.Test.YtdgaiacigmcibaaFltP
import Derived.Test.YtdgaiacigmcibaaISortE
namespace Go.Proofs.Ytdgaiacigmcibaa
open Go.RowKit Go.Sort

/-- A slice of floats reads as the words l. -/
def Fs (w : World) (a : Option Addr) (l : List Nat) : Prop := Sl w a (l.map fun x => Value.float .f64 x)
theorem Fs.at_ {w : World} {a : Option Addr} {D : List Nat} (h : Fs w a D) {i : Nat} (hi : i < D.length) : ∃ b o, a = some ⟨b, o, none⟩ ∧ w.cell? ⟨b, o + i, none⟩ = some (.float .f64 D[i]) :=
  Sl.oneCell h (by simp [hi])
theorem getD_at {l : List Nat} {i : Nat} (h : i < l.length) : l.getD i 0 = l[i] := by simp [h]
/-- The places that count. -/
def GT (l : List Nat) (x : Int) : Prop := 0 ≤ x ∧ x.toNat < l.length ∧ ctF (l.getD x.toNat 0) = true
def keyF (l : List Nat) (x : Int) : Nat := l.getD x.toNat 0
def cfT (l : List Nat) (x y : Int) : Int := if keyF l y < keyF l x then -1 else if keyF l x < keyF l y then 1 else 0
theorem GT.fin {l : List Nat} {x : Int} (h : GT l x) (hw : ∀ z ∈ l, z < 18446744073709551616) : Fin (l.getD x.toNat 0) := by
  refine ((ct_iff ?_).1 h.2.2).2
  have := h.2.1
  rw [getD_at this]
  exact hw _ (List.getElem_mem _)
theorem GT.self {l : List Nat} {x : Int} (h : GT l x) (hw : ∀ z ∈ l, z < 18446744073709551616) : ordF (l.getD x.toNat 0) (l.getD x.toNat 0) = some .eq := by
  refine ord_eq ((ct_iff ?_).1 h.2.2).2
  have := h.2.1
  rw [getD_at this]
  exact hw _ (List.getElem_mem _)
set_option maxHeartbeats 1000000 in
set_option maxRecDepth 100000 in
theorem cmp_top (l : List Nat) (hw : ∀ z ∈ l, z < 18446744073709551616) (a : Option Addr) (c B g : Nat) (w0 : World) (hB : Row w0 B [.slice a l.length c] 22) (hl : Fs w0 a l) (hgB : B ≠ g) (hga : ∀ ad, a = some ad → ad.block ≠ g) :
    Cmp 27 #[.pointer (some ⟨B, 0, none⟩)] (cfT l) (GT l) g w0 := by
  refine ⟨enters_of Try.func27 (by kernel_rfl) rfl, fun W F x y hx hy => ?_⟩
  show Calls Try.prog 27 #[.int .i64 x, .int .i64 y, .pointer (some ⟨B, 0, none⟩)] W _
  obtain ⟨x, rfl⟩ : ∃ q : Nat, x = q := ⟨x.toNat, by have := hx.1; omega⟩
  obtain ⟨y, rfl⟩ : ∃ q : Nat, y = q := ⟨y.toNat, by have := hy.1; omega⟩
  have sx := hx.self hw
  have sy := hy.self hw
  have lx := hx.2.1
  have ly := hy.2.1
  have hcf : cfT l (x : Int) (y : Int) = cmpF (l.getD (y : Int).toNat 0) (l.getD (x : Int).toNat 0) := by
    rw [cmpF_fin (hy.fin hw) (hx.fin hw)]; rfl
  rw [hcf]
  clear hcf
  rw [Int.toNat_natCast] at sx sy lx ly ⊢
  rw [Int.toNat_natCast]
  obtain ⟨u, hu⟩ : ∃ u, u = l.getD x 0 := ⟨_, rfl⟩
  obtain ⟨v, hv⟩ : ∃ v, v = l.getD y 0 := ⟨_, rfl⟩
  obtain ⟨b, o, rfl, cx⟩ := Fs.at_ (Sl.fr hl F (fun ad h e => hga ad h e)) lx
  obtain ⟨b2, o2, hb2, cy⟩ := Fs.at_ (Sl.fr hl F (fun ad h e => hga ad h e)) ly
  cases hb2
  rw [← getD_at lx, ← hu] at cx
  rw [← getD_at ly, ← hv] at cy
  rw [← hu] at sx ⊢
  rw [← hv] at sy ⊢
  have c0 : W.cell? ⟨B, 0, none⟩ = some (.slice (some ⟨b, o, none⟩) l.length c) := (Row.fr (S := fun q => q = g) hB F hgB).cell 0 rfl
  obtain ⟨n, hn⟩ : ∃ n, n = l.length := ⟨_, rfl⟩
  rw [← hn] at c0 lx ly
  have lxI : (x : Int) < n := by omega
  have lyI : (y : Int) < n := by omega
  have HC := Lib.hid (compare_f v u sy sx)
  clear hu hv hn hx hy hl hB hw sx sy
  go_enter Try.func27, Try.ntmps27
  go_wp2_with (fail)
  go_quiet ((go_at_call 28; exact Calls.quiet_of_same (HC.out _)))
  go_wp2_with (fail)
  go_ret
  exact ⟨rfl, nq, rfl⟩
/-- The places among the first k that count. -/
def ats (l : List Nat) (k : Nat) : List Int := ((List.range k).filter fun i => ctF (l.getD i 0)).map fun i : Nat => (i : Int)
theorem ats_succ (l : List Nat) (k : Nat) : ats l (k + 1) = if ctF (l.getD k 0) = true then ats l k ++ [(k : Int)] else ats l k := by
  unfold ats
  rw [List.range_succ, List.filter_append, List.map_append]
  by_cases h : ctF (l.getD k 0) = true
  · rw [if_pos h, List.filter_cons_of_pos (p := fun i => ctF (l.getD i 0)) (a := k) (l := []) h]; rfl
  · rw [if_neg h, List.filter_cons_of_neg (p := fun i => ctF (l.getD i 0)) (a := k) (l := []) h]; simp
theorem ats_len (l : List Nat) (k : Nat) : (ats l k).length ≤ k := by
  unfold ats
  rw [List.length_map]
  exact Nat.le_trans (List.length_filter_le _ _) (by simp)
theorem ats_good {l : List Nat} {x : Int} (h : x ∈ ats l l.length) : GT l x := by
  unfold ats at h
  obtain ⟨i, hi, rfl⟩ := List.mem_map.1 h
  obtain ⟨h1, h2⟩ := List.mem_filter.1 hi
  exact ⟨by omega, by rw [Int.toNat_natCast]; exact List.mem_range.1 h1, by rw [Int.toNat_natCast]; exact h2⟩
/-- The places that count, the greatest first. -/
def topL (l : List Nat) : List Int := (stableF (ltC (cfT l)) (ats l l.length).length (ats l l.length).toArray).toList
theorem insStable_nil (fv : Value) (w : World) :
    Calls Try.prog 44 #[.slice none 0 0, .int .i64 0, .int .i64 0, fv] w fun e w' => e = .returned (.tuple #[]) ∧ w' = w := by
  go_enter Try.func44, Try.ntmps44
  go_wp2_with (fail)
  go_loopg [8] 0 (fun g i wr => g = 0 ∧ i = .int .i64 1 ∧ wr = w)
  case atStart => exact ⟨rfl, rfl, rfl⟩
  case round =>
    obtain ⟨rfl, rfl, rfl⟩ := hrel
    go_wp2_with (fail)
    go_end0
    exact ⟨rfl, rfl⟩
theorem stable_nil (fv : Value) (w : World) :
    Calls Try.prog 26 #[.slice none 0 0, fv] w fun e w' => e = .returned (.tuple #[]) ∧ w' = w := by
  have hs : ∀ w, Calls Try.prog 33 #[.slice none 0 0, .int .i64 0, fv] w fun e w' => e = .returned (.tuple #[]) ∧ w' = w := by
    intro w
    go_enter Try.func33, Try.ntmps33
    go_wp2_with (fail)
    go_loopg [7, 8] 0 (fun g i j wr => g = 0 ∧ i = .int .i64 0 ∧ j = .int .i64 20 ∧ wr = w)
    case atStart => exact ⟨rfl, rfl, rfl, rfl⟩
    case round =>
      obtain ⟨rfl, rfl, rfl, rfl⟩ := hrel
      go_wp2_with (go_at_call 44; refine (insStable_nil _ _).mono ?_; rintro e w1 ⟨rfl, rfl⟩)
      go_loopg [6] 0 (fun g i wr => g = 0 ∧ i = .int .i64 20 ∧ wr = w1)
      case atStart => exact ⟨rfl, rfl, rfl⟩
      case round =>
        obtain ⟨rfl, rfl, rfl⟩ := hrel
        go_wp2_with (fail)
        go_end0
        exact ⟨rfl, rfl⟩
  go_enter Try.func26, Try.ntmps26
  go_wp2_with (go_at_call 33; refine (hs _).mono ?_; rintro e w1 ⟨rfl, rfl⟩)
  go_end0
  exact ⟨rfl, rfl⟩
theorem owns_ia {G : Int → Prop} {W : World} {n : Nat} {v : Value} {zs : List Int} (h : Owns W 3 1 v n (zs.map (Value.int .i64))) (hG : ∀ x ∈ zs, G x) :
    (v = .slice none 0 0 ∧ n = 0 ∧ zs = []) ∨ ∃ g cap rest, v = .slice (some ⟨g, 0, none⟩) n cap ∧ n ≤ cap ∧ cap ≤ maxLen ∧ IA G W g rest zs.toArray := by
  obtain ⟨hl, ⟨h0, h1⟩ | ⟨g, cap, cur, rfl, hg, hh, hc, hm, hs, ht⟩⟩ := h
  · refine .inl ⟨h0, h1, ?_⟩
    rw [h1] at hl
    exact List.eq_nil_of_length_eq_zero (by simpa using hl)
  · refine .inr ⟨g, cap, cur.toList.drop (n * 1), rfl, hc, hm, ?_, fun k hk => ?_⟩
    · show W.heap[g]? = _
      rw [hh]
      congr 2
      apply Array.toList_inj.1
      show cur.toList = zs.map (Value.int .i64) ++ cur.toList.drop (n * 1)
      rw [← ht, List.take_append_drop]
    · have hk' : k < zs.length := by simpa using hk
      rw [getElem!_pos zs.toArray k hk]
      simpa using hG _ (List.getElem_mem hk')
/-- A list of places in new memory. -/
def TopTold (L : List Int) (w : World) (e : Ending) (w' : World) : Prop :=
  ∃ (a : Option Addr) (c : Nat), e = .returned (.slice a L.length c) ∧ L.length ≤ c ∧ c ≤ maxLen ∧ ((a = none ∧ L = [] ∧ c = 0) ∨ ∃ g rest, a = some ⟨g, 0, none⟩ ∧ w.heap.size ≤ g ∧ IA (fun _ => True) w' g rest L.toArray) ∧ Fr Nothing w w'
theorem Try.infoInt : (Try.prog.info? 3).map (fun i => (i.zero, i.size, i.bytes)) = some (some (.int .i64 0), 1, 8) := by kernel_rfl
theorem topL_length (l : List Nat) : (topL l).length = (ats l l.length).length := by
  unfold topL stableF
  have h : ∀ (k s : Nat) (d : Array Int), (merges (ltC (cfT l)) (ats l l.length).length k s d).size = d.size := by
    intro k
    induction k with
    | zero => intro s d; rfl
    | succ k ih =>
      intro s d
      rw [merges]
      split
      · rw [ih, pairs_size]
      · rfl
  rw [Array.length_toList, h, blocks_size]
  simp
theorem topL_len (l : List Nat) : (topL l).length ≤ l.length := by rw [topL_length]; exact ats_len l l.length
theorem IA.take {G : Int → Prop} {w : World} {g : Nat} {rest : List Value} {d : Array Int} (h : IA G w g rest d) (k : Nat) : IA (fun _ => True) w g ((d.toList.drop k).map (Value.int .i64) ++ rest) (d.toList.take k).toArray := by
  refine ⟨?_, fun _ _ => trivial⟩
  have := h.1
  rw [← List.take_append_drop k d.toList, List.map_append, List.append_assoc] at this
  exact this
set_option maxHeartbeats 4000000 in
set_option maxRecDepth 100000 in
theorem top_f0 (a : Option Addr) (l : List Nat) (c : Nat) (n : Int) (w : World) (hl : Fs w a l) (hw : ∀ z ∈ l, z < 18446744073709551616) (h1000 : l.length ≤ 1000) (hc : l.length ≤ c) (hwf : ∀ ad, a = some ad → ad.block < w.heap.size) :
    Calls Try.prog 15 #[.slice a l.length c, .int .i64 n] w (TopTold ((topL l).take (min (max n 0) (topL l).length).toNat) w) := by
  obtain ⟨i0, hi, hz0, hz1, hz2⟩ : ∃ i0, Try.prog.info? 3 = some i0 ∧ i0.zero = some (.int .i64 0) ∧ i0.size = 1 ∧ i0.bytes = 8 := by
    have hi := Try.infoInt
    cases h0 : Try.prog.info? 3 with
    | none => rw [h0] at hi; simp at hi
    | some i0 =>
      rw [h0] at hi
      simp only [Option.map_some, Option.some.injEq, Prod.mk.injEq] at hi
      exact ⟨i0, rfl, hi.1, hi.2.1, hi.2.2⟩
  have Hz2 := Lib.hid hz2
  have Hz1 := Lib.hid hz1
  have Hz0 := Lib.hid hz0
  have Hi := Lib.hid hi
  obtain ⟨N, hN⟩ : ∃ N, N = l.length := ⟨_, rfl⟩
  obtain ⟨B, hB⟩ : ∃ B, B = w.heap.size := ⟨_, rfl⟩
  have HLN := Lib.hid hN.symm
  have hrow : Row (w.alloc (.cells #[.slice a N c] 22)) B [.slice a N c] 22 := by rw [hB]; exact Row.allocNew w [.slice a N c] _
  have F0 : Fr Nothing w (w.alloc (.cells #[.slice a N c] 22)) := Fr.alloc Nothing w _
  have hsz : (w.alloc (.cells #[.slice a N c] 22)).heap.size = B + 1 := by rw [hB]; simp
  have hl1 : Fs (w.alloc (.cells #[.slice a N c] 22)) a l := Sl.fr hl F0 (fun _ _ h => h)
  rw [← hN] at h1000 hc ⊢
  have HW := Lib.hid hw
  have HWF := Lib.hid hwf
  have HBW := Lib.hid hB
  clear hi hz0 hz1 hz2 hN hw hl hwf
  obtain ⟨w1, hw1⟩ : ∃ w1, w1 = w.alloc (.cells #[.slice a N c] 22) := ⟨_, rfl⟩
  have hN9 : (N : Int) ≤ 1000 := by omega
  obtain ⟨A, hA⟩ : ∃ A, A = ats l l.length := ⟨_, rfl⟩
  obtain ⟨T, hT⟩ : ∃ T, T = topL l := ⟨_, rfl⟩
  have hTm : T.length = A.length := by rw [hT, hA]; exact topL_length l
  have hTA : T.toArray = stableF (ltC (cfT l)) A.length A.toArray := by rw [hT, hA]; unfold topL; rfl
  obtain ⟨m, hm⟩ : ∃ m, m = A.length := ⟨_, rfl⟩
  have hm1000 : (m : Int) ≤ 1000 := by rw [hm, hA]; have := ats_len l l.length; rw [HLN.out] at this ⊢; omega
  obtain ⟨K, hK⟩ : ∃ K, K = (min (max n 0) (m : Int)).toNat := ⟨_, rfl⟩
  have hKI : min (max n 0) (m : Int) = K := by omega
  have hKm : K ≤ m := by omega
  rw [← hT, hTm, ← hm, ← hK]
  rw [← hm] at hTA hTm
  have HTA := Lib.hid hTA
  have HTM := Lib.hid hTm
  have HAM := Lib.hid hm
  have HA := Lib.hid hA
  clear hA hT hTm hTA hm hK
  go_enter Try.func15, Try.ntmps15
  go_wp2_with (fail)
  rw [← hw1] at hrow F0 hsz hl1 ⊢
  rw [← hB]
  have HL := Lib.hid hl1
  have HROW := Lib.hid hrow
  have HSZ := Lib.hid hsz
  clear hw1 hB hrow hsz hl1
  go_loopg [5, 10] N (fun gg va vi wr => ∃ k, k ≤ N ∧ gg = N - k ∧ vi = .int .i64 (k : Nat) ∧ CollE w1 3 1 va (ats l k).length ((ats l k).map (Value.int .i64)) wr)
  case atStart => exact ⟨0, Nat.zero_le _, rfl, rfl, CollE.start _ _ _⟩
  case round =>
    obtain ⟨k, hk, rfl, rfl, co⟩ := hrel
    by_cases hlt : k < N
    · have hltI : (k : Int) < N := by omega
      obtain ⟨b, o, rfl, c0⟩ := HL.out.at_ (i := k) (by rw [HLN.out]; exact hlt)
      have c1 := cell_fr c0 co.fr (fun h => h)
      obtain ⟨x, hx⟩ : ∃ x, x = l.getD k 0 := ⟨_, rfl⟩
      rw [← getD_at (by rw [HLN.out]; exact hlt), ← hx] at c1
      have hst := ats_succ l k
      rw [← hx] at hst
      have HC := Lib.hid (counts_f x)
      have hlen : (ats l k).length ≤ 1000 := Nat.le_trans (ats_len l k) (by omega)
      clear hx c0
      cases hct : ctF x with
      | true =>
        rw [hct] at HC
        rw [if_pos hct] at hst
        have HST := Lib.hid hst
        clear hst hct
        have hsl1 : Sl (wr.alloc (.cells #[Value.int .i64 (k : Nat)] 3)) (some ⟨wr.heap.size, 0, none⟩) [Value.int .i64 (k : Nat)] := Sl.ofRow (Row.allocNew wr [Value.int .i64 (k : Nat)] 3)
        have own1 := (co.quiet (Fr.alloc Nothing wr (.cells #[Value.int .i64 (k : Nat)] 3))).own
        go_wp2_with (first
          | (go_at_call 25; refine (HC.out _).mono ?_; rintro e w2 ⟨rfl, rfl⟩)
          | (at_builtin; go_must (refine wpList_append_fp rfl (.tmp 17) (.tmp 19) 28 rfl 3 i0 (.int .i64 0) 1 8 Try.underlying28 Hi.out Hz0.out Hz1.out Hz2.out rfl (by decide) _ _ _ rfl own1 _ 1 1 [Value.int .i64 (k : Nat)] rfl rfl (by simp) hsl1 (by simp [Value.oneCell']) (by unfold maxLen; omega) (by omega) ?_)))
        intro v7 w7 o7 f7 n7 s7 _
        have co7 := CollE.more co (Fr.alloc Nothing _ _) o7 f7 n7
        clear co own1 hsl1 o7 f7 n7 s7
        go_wp2_with (fail)
        go_roundg (N - (k + 1))
        case measure => omega
        case rel =>
          refine ⟨k + 1, by omega, rfl, by go_num, ?_⟩
          rw [HST.out, List.length_append, List.map_append]
          exact co7
      | false =>
        rw [hct] at HC
        rw [if_neg (by rw [hct]; exact Bool.false_ne_true)] at hst
        have HST := Lib.hid hst
        clear hst hct
        go_wp2_with (go_at_call 25; refine (HC.out _).mono ?_; rintro e w2 ⟨rfl, rfl⟩)
        go_roundg (N - (k + 1))
        case measure => omega
        case rel =>
          refine ⟨k + 1, by omega, rfl, by go_num, ?_⟩
          rw [HST.out]
          exact co
    · obtain rfl : k = N := by omega
      have hA : A = ats l k := by rw [HA.out, HLN.out]
      rw [← hA, ← HAM.out] at co
      have hgood : ∀ x ∈ A, GT l x := fun x hx => by rw [HA.out] at hx; exact ats_good hx
      clear hA
      rcases owns_ia co.own hgood with ⟨hv, hn0, hA0⟩ | ⟨g, cap, rest, hv, hc1, hc2, hIA⟩
      · subst hv
        have hT0 : T = [] := List.eq_nil_of_length_eq_zero (by rw [HTM.out, hn0])
        have FW := F0.trans' co.fr
        have HT0 := Lib.hid hT0
        subst hn0
        clear hgood hT0 co hA0
        go_wp2_with (go_at_call 26; refine (stable_nil _ _).mono ?_; rintro e w2 ⟨rfl, rfl⟩)
        all_goals
          go_ret
          have hK0 : K = 0 := by omega
          have hTk : (T.take K).length = 0 := by rw [HT0.out, List.take_nil]; rfl
          refine ⟨none, 0, ?_, ?_, ?_, .inl ⟨rfl, by rw [HT0.out, List.take_nil], rfl⟩, FW⟩
          · rw [hTk]; exact congrArg (fun z => Ending.returned (Value.slice none z 0)) (by omega)
          · rw [hTk]; exact Nat.le_refl _
          · unfold maxLen; omega
      · subst hv
        have hgn := co.new g rfl
        have HC := Lib.hid (i_sortStable g cap m rest A.toArray wr
          (cmp_top l HW.out a c B g wr (by rw [HLN.out]; exact HROW.out.fr co.fr (fun h => h)) (HL.out.fr co.fr (fun _ _ h => h)) (by have := HSZ.out; omega)
            (fun ad h e => by have := HWF.out ad h; have h2 := HSZ.out; have h3 := HBW.out; omega)) hIA (by rw [HAM.out]; simp) hm1000)
        have hgw : w.heap.size ≤ g := by have h2 := HSZ.out; have h3 := HBW.out; omega
        have HGW := Lib.hid hgw
        have HGN := Lib.hid hgn
        have FW := F0.trans' co.fr
        have hKc : (K : Int) ≤ cap := by omega
        have hKc2 : K ≤ cap := by omega
        have hcap9 : (cap : Int) ≤ 9223372036854775807 := by unfold maxLen at hc2; omega
        clear hgood co hIA hgw hgn
        go_wp2_with (go_at_call 26; refine HC.out.mono ?_; rintro e w2 ⟨rfl, hU2, hF2⟩)
        all_goals
          go_ret
          have hTk : (T.take K).length = K := by rw [List.length_take, HTM.out]; omega
          have hI2 := IA.take hU2 K
          rw [← HTA.out] at hI2
          simp only [] at hI2
          refine ⟨some ⟨g, 0, none⟩, cap, ?_, by rw [hTk]; exact hKc2, hc2, .inr ⟨g, _, rfl, HGW.out, hI2⟩, FW.trans hF2 (fun k hk e => by have := HGW.out; omega)⟩
          rw [hTk]
          exact congrArg (fun z => Ending.returned (Value.slice (some ⟨g, 0, none⟩) z cap)) (by omega)
theorem cell_lt {w : World} {a : Addr} {v : Value} (h : w.cell? a = some v) : a.block < w.heap.size := by
  by_cases hl : a.block < w.heap.size
  · exact hl
  · have : w.heap[a.block]? = none := by simp; omega
    simp [World.cell?, this] at h
theorem top_zero (a : Option Addr) (c : Nat) (n : Int) (w : World) :
    Calls Try.prog 15 #[.slice a 0 c, .int .i64 n] w (TopTold [] w) := by
  have F0 : Fr Nothing w (w.alloc (.cells #[.slice a 0 c] 22)) := Fr.alloc Nothing w _
  go_enter Try.func15, Try.ntmps15
  go_wp2_with (fail)
  go_loopg [5, 10] 0 (fun gg va vi wr => gg = 0 ∧ va = .slice none 0 0 ∧ vi = .int .i64 0 ∧ wr = w.alloc (.cells #[.slice a 0 c] 22))
  case atStart => exact ⟨rfl, rfl, rfl, rfl⟩
  case round =>
    obtain ⟨rfl, rfl, rfl, rfl⟩ := hrel
    go_wp2_with (go_at_call 26; refine (stable_nil _ _).mono ?_; rintro e w2 ⟨rfl, rfl⟩)
    all_goals
      go_ret
      refine ⟨none, 0, ?_, Nat.le_refl _, by unfold maxLen; omega, .inl ⟨rfl, rfl, rfl⟩, F0⟩
      exact congrArg (fun z => Ending.returned (Value.slice none z 0)) (by show _ = 0; omega)
theorem top_f (a : Option Addr) (l : List Nat) (c : Nat) (n : Int) (w : World) (hl : Fs w a l) (hw : ∀ z ∈ l, z < 18446744073709551616) (h1000 : l.length ≤ 1000) (hc : l.length ≤ c) :
    Calls Try.prog 15 #[.slice a l.length c, .int .i64 n] w (TopTold ((topL l).take (min (max n 0) (topL l).length).toNat) w) := by
  by_cases h0 : l.length = 0
  · have e : topL l = [] := List.eq_nil_of_length_eq_zero (by have := topL_len l; omega)
    rw [h0, e, List.take_nil]
    exact top_zero a c n w
  · refine top_f0 a l c n w hl hw h1000 hc (fun ad h => ?_)
    obtain ⟨b, o, rfl, hcell⟩ := Fs.at_ hl (i := 0) (by omega)
    cases h
    exact cell_lt hcell
end Go.Proofs.Ytdgaiacigmcibaa
