/- share.Parts: the weights that count, divided, and their sum; the parts. Condition: at most 1000 weights. -/
import Derived.Test.YtdgaiacigmcibaaFltA
import Derived.Test.YtdgaiacigmcibaaTop
import Derived.Laws.FloatArith
namespace Go.Proofs.Ytdgaiacigmcibaa
open Go.RowKit Go.Sort

def wAt (l : List Nat) (d i : Nat) : Nat := if ctF (l.getD i 0) = true then divF (l.getD i 0) d else 0
def wSum (l : List Nat) (d : Nat) : Nat → Nat
  | 0 => 0
  | k + 1 => if ctF (l.getD k 0) = true then addF (wSum l d k) (wAt l d k) else wSum l d k
def wRow (l : List Nat) (d N k : Nat) : List Value := (List.range N).map fun i => Value.float .f64 (if i < k then wAt l d i else 0)
theorem wRow_zero (l : List Nat) (d N : Nat) : wRow l d N 0 = List.replicate N (.float .f64 0) := by
  unfold wRow
  simp only [Nat.not_lt_zero, if_false]
  rw [List.map_const', List.length_range]
theorem wRow_len (l : List Nat) (d N k : Nat) : (wRow l d N k).length = N := by unfold wRow; simp
theorem wRow_get (l : List Nat) (d N k i : Nat) (h : i < N) : (wRow l d N k)[i]? = some (.float .f64 (if i < k then wAt l d i else 0)) := by
  unfold wRow
  rw [List.getElem?_map, List.getElem?_range h]; rfl
theorem wRow_set (l : List Nat) (d N k : Nat) (h : k < N) : (wRow l d N k).set k (.float .f64 (wAt l d k)) = wRow l d N (k + 1) := by
  apply List.ext_getElem?
  intro i
  by_cases hi : i < N
  · by_cases hk : k = i
    · subst hk
      rw [List.getElem?_set_self (by rw [wRow_len]; exact h), wRow_get _ _ _ _ _ h, if_pos (by omega)]
    · rw [List.getElem?_set_ne hk, wRow_get _ _ _ _ _ hi, wRow_get _ _ _ _ _ hi]
      by_cases h1 : i < k
      · rw [if_pos h1, if_pos (by omega)]
      · rw [if_neg h1, if_neg (by omega)]
  · rw [List.getElem?_eq_none (by rw [List.length_set, wRow_len]; omega), List.getElem?_eq_none (by rw [wRow_len]; omega)]
theorem wRow_skip (l : List Nat) (d N k : Nat) (h : ¬ ctF (l.getD k 0) = true) : wRow l d N k = wRow l d N (k + 1) := by
  unfold wRow
  apply List.map_congr_left
  intro i _
  by_cases hk : i = k
  · subst hk
    rw [if_neg (Nat.lt_irrefl _), if_pos (by omega)]
    unfold wAt
    rw [if_neg h]
  · by_cases h1 : i < k
    · rw [if_pos h1, if_pos (by omega)]
    · rw [if_neg h1, if_neg (by omega)]
theorem wAt_nn {l : List Nat} (hw : ∀ z ∈ l, z < 18446744073709551616) {d i : Nat} (hd : NN d) (h0 : 0 < d) : NN (wAt l d i) := by
  unfold wAt
  split
  · rename_i h
    by_cases hi : i < l.length
    · have hx : l.getD i 0 < 18446744073709551616 := by rw [getD_at hi]; exact hw _ (List.getElem_mem hi)
      exact (div_nn ((ct_iff hx).1 h).2 hd h0).2
    · rw [show l.getD i 0 = 0 by simp [hi]] at h
      exact absurd h (by decide +kernel)
  · unfold NN; omega
theorem wSum_nn {l : List Nat} (hw : ∀ z ∈ l, z < 18446744073709551616) {d : Nat} (hd : NN d) (h0 : 0 < d) (k : Nat) : NN (wSum l d k) := by
  induction k with
  | zero => unfold wSum NN; omega
  | succ k ih =>
    rw [wSum]
    split
    · exact (add_nn ih (wAt_nn hw hd h0)).2
    · exact ih
theorem store_f (a : Addr) (v : Nat) (m : Mode) (w : World) : (store a (.float .f64 v) m).run Try.prog w = stored Try.prog w a (.float .f64 v) m := run_store Try.prog w a _ m rfl
theorem Try.infoF : (Try.prog.info? 23).map (fun i => (i.zero, i.size, i.bytes)) = some (some (.float .f64 0), 1, 8) := by kernel_rfl
set_option maxHeartbeats 4000000 in
set_option maxRecDepth 100000 in
theorem weights_f (a : Option Addr) (l : List Nat) (c d : Nat) (w : World) (hl : Fs w a l) (hw : ∀ z ∈ l, z < 18446744073709551616) (h1000 : l.length ≤ 1000) (hd : Fin d) (h0 : 0 < d) :
    Calls Try.prog 22 #[.slice a l.length c, .float .f64 d] w fun e w' => ∃ g, e = .returned (.tuple #[.slice (some ⟨g, 0, none⟩) l.length l.length, .float .f64 (wSum l d l.length)]) ∧ w.heap.size ≤ g ∧ Row w' g (wRow l d l.length l.length) 23 ∧ Fr Nothing w w' := by
  obtain ⟨i0, hi, hz0, hz1, hz2⟩ : ∃ i0, Try.prog.info? 23 = some i0 ∧ i0.zero = some (.float .f64 0) ∧ i0.size = 1 ∧ i0.bytes = 8 := by
    have hi := Try.infoF
    cases h0 : Try.prog.info? 23 with
    | none => rw [h0] at hi; simp at hi
    | some i0 =>
      rw [h0] at hi
      simp only [Option.map_some, Option.some.injEq, Prod.mk.injEq] at hi
      exact ⟨i0, rfl, hi.1, hi.2.1, hi.2.2⟩
  have Hz2 := Lib.hid hz2
  have Hz1 := Lib.hid hz1
  have Hz0 := Lib.hid hz0
  have Hi := Lib.hid hi
  have hnd : NN d := by unfold NN; unfold Fin at hd; omega
  obtain ⟨N, hN⟩ : ∃ N, N = l.length := ⟨_, rfl⟩
  have HLN := Lib.hid hN.symm
  have HL := Lib.hid hl
  have HW := Lib.hid hw
  have HD := Lib.hid hd
  have HND := Lib.hid hnd
  have H0 := Lib.hid h0
  rw [← hN] at h1000 ⊢
  have hN9 : (N : Int) ≤ 1000 := by omega
  have hby : i0.bytes * N ≤ 281474976710656 := by rw [hz2]; omega
  have hml : N ≤ maxLen := by unfold maxLen; omega
  clear hi hz0 hz1 hz2 hN hl hw hd hnd h0
  have hst := store_f
  go_enter Try.func22, Try.ntmps22
  go_wp2_with (at_make; go_must (refine wpList_make_row _ rfl _ _ 22 rfl 23 i0 (.float .f64 0) Try.underlying22 Hi.out Hz0.out Hz1.out rfl .i64 .i64 _ _ N rfl rfl rfl rfl hby hml ?_))
  intro w1 hr1 hf1 hlt1
  obtain ⟨g, hg⟩ : ∃ g, g = w.heap.size := ⟨_, rfl⟩
  rw [← hg] at hr1 hlt1 ⊢
  rw [← wRow_zero l d N] at hr1
  have HG := Lib.hid hg
  have HR1 := Lib.hid hr1
  clear hr1 hg hlt1
  go_wp2_with (fail)
  go_loopg [7, 15] N (fun gg vs vi wr => ∃ k, k ≤ N ∧ gg = N - k ∧ vi = .int .i64 (k : Nat) ∧ vs = .float .f64 (wSum l d k) ∧ Hid (Row wr g (wRow l d N k) 23) ∧ Fr Nothing w wr)
  case atStart => exact ⟨0, Nat.zero_le _, rfl, rfl, rfl, HR1, hf1⟩
  case round =>
    clear HR1 hf1
    obtain ⟨k, hk, rfl, rfl, rfl, HR, F⟩ := hrel
    by_cases hlt : k < N
    · have hltI : (k : Int) < N := by omega
      obtain ⟨b, o, rfl, c0⟩ := HL.out.at_ (i := k) (by rw [HLN.out]; exact hlt)
      have c1 := cell_fr c0 F (fun h => h)
      obtain ⟨x, hx⟩ : ∃ x, x = l.getD k 0 := ⟨_, rfl⟩
      have hx64 : x < 18446744073709551616 := by rw [hx, getD_at (by rw [HLN.out]; exact hlt)]; exact HW.out _ (List.getElem_mem _)
      rw [← getD_at (by rw [HLN.out]; exact hlt), ← hx] at c1
      have HC := Lib.hid (counts_f x)
      obtain ⟨s, hs⟩ : ∃ s, s = wSum l d k := ⟨_, rfl⟩
      have hsn : NN s := by rw [hs]; exact wSum_nn HW.out HND.out H0.out k
      rw [← hs]
      have hss : wSum l d (k + 1) = if ctF x = true then addF s (wAt l d k) else s := by rw [wSum, hx, hs]
      clear c0
      cases hct : ctF x with
      | true =>
        rw [hct] at HC
        have hwa : wAt l d k = divF x d := by unfold wAt; rw [← hx, if_pos hct]
        have hfin := (ct_iff hx64).1 hct
        obtain ⟨r, hr⟩ : ∃ r, r = divF x d := ⟨_, rfl⟩
        have hdiv : FloatKind.f64.format.div x d = some r := by rw [hr]; exact (div_nn hfin.2 HND.out H0.out).1
        have hrn : NN r := by rw [hr]; exact (div_nn hfin.2 HND.out H0.out).2
        obtain ⟨s2, hs2⟩ : ∃ s2, s2 = addF s r := ⟨_, rfl⟩
        have hadd : FloatKind.f64.format.add s r = some s2 := by rw [hs2]; exact (add_nn hsn hrn).1
        have hqr : ∀ w, (binOp .quo 23 (.float .f64 x) (.float .f64 d)).run Try.prog w = .ok (.float .f64 r) w := fun w => run_float_arith w .quo 23 .f64 x d r hdiv
        have hqa : ∀ w, (binOp .add 23 (.float .f64 s) (.float .f64 r)).run Try.prog w = .ok (.float .f64 s2) w := fun w => run_float_arith w .add 23 .f64 s r s2 hadd
        have HS2 : Hid (wSum l d (k + 1) = s2) := Lib.hid (by rw [hss, if_pos hct, hwa, ← hr, hs2])
        have p0 := HR.out.cell k (wRow_get l d N k k hlt)
        have pf := HR.out.free k
        rw [if_neg (Nat.lt_irrefl _)] at p0
        have HR2 : Hid (Row (wr.setCell ⟨g, k, none⟩ (.float .f64 r)) g (wRow l d N (k + 1)) 23) := Lib.hid (by
          have := HR.out.set k (.float .f64 r)
          rw [hr, ← hwa, wRow_set _ _ _ _ hlt, hwa, ← hr] at this; exact this)
        have p1 : (wr.setCell ⟨g, k, none⟩ (.float .f64 r)).cell? ⟨g, k, none⟩ = some (.float .f64 r) := by
          have := HR2.out.cell k (wRow_get l d N (k + 1) k hlt)
          rw [if_pos (by omega), hwa, ← hr] at this; exact this
        have F2 : Fr Nothing w (wr.setCell ⟨g, k, none⟩ (.float .f64 r)) := F.trans (Fr.setCell (S := fun q => q = g) (p := ⟨g, k, none⟩) rfl _) (fun q hq e => by have := HG.out; omega)
        have HF2 := Lib.hid F2
        clear hx hs hss hct hwa hfin hr hs2 hsn hrn hx64 HR F2 hdiv hadd
        go_wp2_with (go_at_call 25; refine (HC.out _).mono ?_; rintro e w2 ⟨rfl, rfl⟩)
        go_roundg (N - (k + 1))
        case measure => omega
        case rel => exact ⟨k + 1, by omega, rfl, by go_num, by rw [HS2.out], HR2, HF2.out⟩
      | false =>
        rw [hct] at HC
        have hct2 : ¬ ctF x = true := by rw [hct]; exact Bool.false_ne_true
        have HS2 : Hid (wSum l d (k + 1) = s) := Lib.hid (by rw [hss, if_neg hct2])
        have HR2 : Hid (Row wr g (wRow l d N (k + 1)) 23) := Lib.hid (by rw [← wRow_skip _ _ _ _ (by rw [← hx]; exact hct2)]; exact HR.out)
        clear hx hs hss hct hct2 hsn hx64 HR
        go_wp2_with (go_at_call 25; refine (HC.out _).mono ?_; rintro e w2 ⟨rfl, rfl⟩)
        go_roundg (N - (k + 1))
        case measure => omega
        case rel => exact ⟨k + 1, by omega, rfl, by go_num, by rw [HS2.out], HR2, F⟩
    · obtain rfl : k = N := by omega
      go_wp2_with (fail)
      go_ret2
      exact ⟨g, rfl, by have := HG.out; omega, HR.out, F⟩
end Go.Proofs.Ytdgaiacigmcibaa
