/- tidewaterref01.pairs, Escape. No condition. -/
import Derived.Test.YtbpbghmhenilcaaDoorRRight
import Derived.Test.YtbpbghmhenilcaaDoorUne
import Derived.Test.YtbpbghmhenilcaaDoorEsc
import Derived.WalkMore
import Derived.BigQuiet
import Derived.Deep.QuietTactic
namespace Go.Proofs.YtbpbghmhenilcaaDoor
open Go.RowKit

def pairA : List Value := [.string ⟨#[38]⟩, .string ⟨#[38, 97, 109, 112, 59]⟩, .string ⟨#[60]⟩, .string ⟨#[38, 108, 116, 59]⟩, .string ⟨#[62]⟩, .string ⟨#[38, 103, 116, 59]⟩, .string ⟨#[34]⟩, .string ⟨#[38, 113, 117, 111, 116, 59]⟩, .string ⟨#[39]⟩, .string ⟨#[38, 97, 112, 111, 115, 59]⟩]
theorem results_cell {fn : Func} {a : Tmp} {t : TypeId} (h : fn.results = #[.cell a t]) (tmps : Array Value) (P : Program) (w : World) :
    (results fn tmps).run P w = ((asAddr (tmps.getD a undef)).run P w).andThen fun x w' => (loadVar t x).run P w' := by
  simp only [results, h]
  simp [Sem.run_bind, Result.andThen]
set_option maxHeartbeats 4000000 in
set_option maxRecDepth 100000 in
theorem ref_pairs (w : World) :
    Calls Tryd.prog 29 #[] w fun e w' => e = .returned (.agg pairA.toArray) ∧ Fr Nothing w w' := by
  go_enter Tryd.func29, Tryd.ntmps29
  go_wp2_with (fail)
  have hld := run_loadVar_new (P := Tryd.prog) w 41 pairA.toArray 5 40 (by kernel_rfl) (by kernel_rfl)
  refine bodyPost_ret (v := .agg pairA.toArray) ?_ rfl ?_
  · rw [results_cell rfl]
    simp [asAddr, Result.andThen]
    exact hld
  exact ⟨rfl, Fr.alloc Nothing _ _⟩
/-- The ten texts lie in block b. -/
def PC (b : Nat) (w : World) : Prop := ∀ j, j < 5 → w.cell? ⟨b, j * 2, none⟩ = some (.string ⟨#[keyB j]⟩) ∧ w.cell? ⟨b, j * 2 + 1, none⟩ = some (.string (txtB j))
theorem PC.fr {b : Nat} {w w' : World} (h : PC b w) (F : Fr Nothing w w') : PC b w' :=
  fun j hj => ⟨cell_fr (h j hj).1 F (fun h => h), cell_fr (h j hj).2 F (fun h => h)⟩
theorem PC.new (w : World) (t : TypeId) : PC w.heap.size (w.alloc (.cells pairA.toArray t)) := by
  intro j hj
  have R := Row.allocNew w pairA t
  match j, hj with
  | 0, _ => exact ⟨R.cell 0 rfl, R.cell 1 rfl⟩
  | 1, _ => exact ⟨R.cell 2 rfl, R.cell 3 rfl⟩
  | 2, _ => exact ⟨R.cell 4 rfl, R.cell 5 rfl⟩
  | 3, _ => exact ⟨R.cell 6 rfl, R.cell 7 rfl⟩
  | 4, _ => exact ⟨R.cell 8 rfl, R.cell 9 rfl⟩
theorem mk_l (s : ByteArray) : (⟨s.data.toList.toArray⟩ : ByteArray) = s := by simp
theorem app_l (a b : ByteArray) : (a ++ b).data.toList = a.data.toList ++ b.data.toList := by simp
theorem one_byte {s : ByteArray} {i : Nat} (h : i < s.data.toList.length) : s.extract i (i + 1) = ⟨#[s.data.toList[i]]⟩ := by
  have : (s.extract i (i + 1)).data.toList = [s.data.toList[i]] := by
    rw [Lib.extract_data, show i + 1 - i = 1 by omega, List.drop_eq_getElem_cons h]; rfl
  rw [← mk_l (s.extract i (i + 1)), this]
/-- What stands for a byte, the first k signs looked at. -/
def tAt (c : UInt8) (k : Nat) : ByteArray := match subIx c with | some j => if j < k then txtB j else ⟨#[c]⟩ | none => ⟨#[c]⟩
theorem tAt_zero (c : UInt8) : tAt c 0 = ⟨#[c]⟩ := by
  unfold tAt
  cases subIx c <;> rfl
theorem tAt_hit {c : UInt8} {k : Nat} (hk : k < 5) (h : keyB k = c) : tAt c (k + 1) = txtB k := by
  unfold tAt
  rw [← h, subIx_key hk]
  exact if_pos (Nat.lt_succ_self k)
theorem tAt_miss {c : UInt8} {k : Nat} (h : keyB k ≠ c) : tAt c (k + 1) = tAt c k := by
  unfold tAt
  cases hs : subIx c with
  | none => rfl
  | some j =>
    have := (subIx_some hs).2
    have hj : j ≠ k := fun e => h (by rw [← e]; exact this)
    simp only
    by_cases hlt : j < k
    · rw [if_pos hlt, if_pos (by omega)]
    · rw [if_neg hlt, if_neg (by omega)]
theorem tAt_all (c : UInt8) : (tAt c 5).data.toList = piece c := by
  unfold tAt
  cases hs : subIx c with
  | none => rw [piece_none hs]
  | some j =>
    rw [piece_some hs]
    simp only
    rw [if_pos (subIx_some hs).1]
set_option maxHeartbeats 8000000 in
set_option maxRecDepth 100000 in
theorem ref_escape (s : ByteArray) (w : World) (hs : s.size ≤ 1000000) :
    Calls Tryd.prog 18 #[.string s] w fun e w' => e = .returned (escV s) ∧ Fr Nothing w w' := by
  have HRt := Lib.hid (fun w' => ref_right s w' hs)
  have HPr : Hid (∀ w, Calls Tryd.prog 29 #[] w fun e w' => e = .returned (.agg #[.string ⟨#[38]⟩, .string ⟨#[38, 97, 109, 112, 59]⟩, .string ⟨#[60]⟩, .string ⟨#[38, 108, 116, 59]⟩, .string ⟨#[62]⟩, .string ⟨#[38, 103, 116, 59]⟩, .string ⟨#[34]⟩, .string ⟨#[38, 113, 117, 111, 116, 59]⟩, .string ⟨#[39]⟩, .string ⟨#[38, 97, 112, 111, 115, 59]⟩]) ∧ Fr Nothing w w') := Lib.hid ref_pairs
  cases hr : rightL s.data.toList with
  | false =>
    have he : escV s = .tuple #[.string ByteArray.empty, .int .i64 2] := by unfold escV; rw [rightS_eq, hr]; rfl
    rw [he]
    rw [hr] at HRt
    simp only [Bool.false_eq_true, if_false] at HRt
    clear he hr
    go_enter Tryd.func18, Tryd.ntmps18
    go_wp2_with (go_at_call 14; refine (HRt.out _).mono ?_; rintro e w1 ⟨rfl, rfl⟩)
    go_ret2
    exact ⟨rfl, Fr.refl _ _⟩
  | true =>
    obtain ⟨R, hR⟩ : ∃ R, R = escS s := ⟨_, rfl⟩
    have he : escV s = .tuple #[.string R, .int .i64 0] := by unfold escV; rw [rightS_eq, hr, hR]; rfl
    rw [he]
    rw [hr] at HRt
    simp only [if_true] at HRt
    obtain ⟨N, hN⟩ : ∃ N, N = s.size := ⟨_, rfl⟩
    have hsz : s.size = N := hN.symm
    have hl : s.data.toList.length = N := by rw [hN]; simp
    have HRR : Hid (R.data.toList = escL s.data.toList) := Lib.hid (by rw [hR]; rfl)
    have HL := Lib.hid hl
    clear he hr hR hN hl
    go_enter Tryd.func18, Tryd.ntmps18
    go_wp2_with (first
      | (go_at_call 14; refine (HRt.out _).mono ?_; rintro e w1 ⟨rfl, rfl⟩)
      | (go_at_call 29; refine (HPr.out _).mono ?_; rintro e w2 ⟨rfl, F2⟩))
    obtain ⟨b, hb⟩ : ∃ b, b = w2.heap.size := ⟨_, rfl⟩
    have HP0 : Hid (PC b (w2.alloc (.cells pairA.toArray 41))) := Lib.hid (by rw [hb]; exact PC.new _ _)
    have HF0 : Hid (Fr Nothing w1 (w2.alloc (.cells pairA.toArray 41))) := Lib.hid (F2.trans' (Fr.alloc Nothing _ _))
    obtain ⟨w3, hw3⟩ : ∃ w3, w3 = w2.alloc (.cells pairA.toArray 41) := ⟨_, rfl⟩
    rw [← hw3] at HP0 HF0
    change _ = w2.alloc (.cells #[.string ⟨#[38]⟩, .string ⟨#[38, 97, 109, 112, 59]⟩, .string ⟨#[60]⟩, .string ⟨#[38, 108, 116, 59]⟩, .string ⟨#[62]⟩, .string ⟨#[38, 103, 116, 59]⟩, .string ⟨#[34]⟩, .string ⟨#[38, 113, 117, 111, 116, 59]⟩, .string ⟨#[39]⟩, .string ⟨#[38, 97, 112, 111, 115, 59]⟩] 41) at hw3
    rw [← hb, ← hw3]
    clear F2 hb hw3 HRt HPr
    have HO0 : Hid ((⟨#[]⟩ : ByteArray).data.toList = escL (s.data.toList.take 0)) := Lib.hid rfl
    go_loopg [6, 4] N (fun gg vi vo wr => ∃ (i : Nat) (O : ByteArray), i ≤ N ∧ gg = N - i ∧ vi = .int .i64 (i : Nat) ∧ vo = .string O ∧ Hid (O.data.toList = escL (s.data.toList.take i)) ∧ Hid (PC b wr) ∧ Hid (Fr Nothing w1 wr))
    case atStart => exact ⟨0, ⟨#[]⟩, by omega, by omega, rfl, rfl, HO0, HP0, HF0⟩
    case round =>
      clear HO0 HP0 HF0
      obtain ⟨i, O, hi, rfl, rfl, rfl, HO, HP, HF⟩ := hrel
      by_cases hlt : i < N
      · have hltI : (i : Int) < N := by omega
        have hlt1 : (i : Int) + 1 ≤ N := by omega
        have hiI : (i : Int) ≤ N := by omega
        have hiL : i < s.data.toList.length := by rw [HL.out]; exact hlt
        obtain ⟨c, hc⟩ : ∃ c, c = s.data.toList[i] := ⟨_, rfl⟩
        obtain ⟨C, hC⟩ : ∃ C : ByteArray, C = ⟨#[c]⟩ := ⟨_, rfl⟩
        have hex : s.extract i (i + 1) = C := by rw [one_byte hiL, hC, hc]
        have HN : Hid (∀ T : ByteArray, T.data.toList = piece c → (O ++ T).data.toList = escL (s.data.toList.take (i + 1))) := Lib.hid (fun T hT => by
          rw [app_l, HO.out, hT, escL_step hiL, hc])
        have HC := Lib.hid hC
        have HT0 : Hid (C = tAt c 0) := Lib.hid (by rw [tAt_zero, hC])
        clear hc hC hiL HO
        go_wp2_with (fail)
        go_loopg [8, 7] 5 (fun gg vk vt wr => ∃ (k : Nat) (T : ByteArray), k ≤ 5 ∧ gg = 5 - k ∧ vk = .int .i64 (k : Nat) ∧ vt = .string T ∧ Hid (T = tAt c k) ∧ Hid (PC b wr) ∧ Hid (Fr Nothing w1 wr))
        case atStart => exact ⟨0, C, by omega, by omega, rfl, rfl, HT0, HP, HF⟩
        case round =>
          clear HT0 HP HF
          obtain ⟨k, T, hk, rfl, rfl, rfl, HT, HP, HF⟩ := hrel
          by_cases hk5 : k < 5
          · have hk5I : (k : Int) < 5 := by omega
            obtain ⟨K, hK⟩ : ∃ K : ByteArray, K = ⟨#[keyB k]⟩ := ⟨_, rfl⟩
            obtain ⟨X, hX⟩ : ∃ X : ByteArray, X = txtB k := ⟨_, rfl⟩
            obtain ⟨c0, c1⟩ := HP.out k hk5
            rw [← hK] at c0
            rw [← hX] at c1
            by_cases he : keyB k = c
            · have hq : (C.toList == K.toList) = true := by rw [same_text, HC.out, hK, he]; exact decide_eq_true rfl
              have HT2 : Hid (X = tAt c (k + 1)) := Lib.hid (by rw [tAt_hit hk5 he, hX])
              clear he hK hX
              go_wp2_with (fail)
              go_quiet (fail)
              have c1' : (wr.drewN nq).cell? ⟨b, k * 2 + 1, none⟩ = some (.string X) := c1
              have HP2 : Hid (PC b (wr.drewN nq)) := Lib.hid (HP.out.fr (Fr.drewN _ _ _))
              have HF2 : Hid (Fr Nothing w1 (wr.drewN nq)) := Lib.hid (HF.out.trans' (Fr.drewN _ _ _))
              go_wp2_with (fail)
              go_roundg (5 - (k + 1))
              case measure => omega
              case rel => exact ⟨k + 1, X, by omega, rfl, by go_num, rfl, HT2, HP2, HF2⟩
            · have hq : (C.toList == K.toList) = false := by
                rw [same_text, HC.out, hK]
                refine decide_eq_false fun e => he ?_
                injection e with e
                have := congrArg (fun a : Array UInt8 => a.toList) e
                simp at this; exact this.symm
              have HT2 : Hid (T = tAt c (k + 1)) := Lib.hid (by rw [tAt_miss he]; exact HT.out)
              clear he hK hX
              go_wp2_with (fail)
              go_quiet (fail)
              have HP2 : Hid (PC b (wr.drewN nq)) := Lib.hid (HP.out.fr (Fr.drewN _ _ _))
              have HF2 : Hid (Fr Nothing w1 (wr.drewN nq)) := Lib.hid (HF.out.trans' (Fr.drewN _ _ _))
              go_wp2_with (fail)
              go_roundg (5 - (k + 1))
              case measure => omega
              case rel => exact ⟨k + 1, T, by omega, rfl, by go_num, rfl, HT2, HP2, HF2⟩
          · obtain rfl : k = 5 := by omega
            have HO2 : Hid ((O ++ T).data.toList = escL (s.data.toList.take (i + 1))) := Lib.hid (HN.out T (by rw [HT.out]; exact tAt_all c))
            have hOz : O.size ≤ 6000000 := by
              have h1 := congrArg List.length HO2.out
              rw [app_l, List.length_append, ← Lib.size_eq] at h1
              have h2 := escL_len (s.data.toList.take (i + 1))
              have h3 : (s.data.toList.take (i + 1)).length ≤ N := by rw [List.length_take, HL.out]; omega
              omega
            have hTz : T.size ≤ 6 := by
              have h1 := congrArg List.length (tAt_all c)
              rw [← HT.out, ← Lib.size_eq] at h1
              have h2 := piece_len c
              omega
            go_wp2_with (fail)
            go_roundg (N - (i + 1))
            case measure => omega
            case rel => exact ⟨i + 1, O ++ T, by omega, rfl, by go_num, rfl, HO2, HP, HF⟩
      · obtain rfl : i = N := by omega
        have HRO : Hid (R = O) := Lib.hid (by
          have := HO.out
          rw [List.take_of_length_le (by rw [HL.out]; exact Nat.le_refl _), ← HRR.out] at this
          rw [← mk_l R, ← mk_l O, this])
        go_wp2_with (fail)
        go_ret2
        exact ⟨by rw [HRO.out]; rfl, HF.out⟩
end Go.Proofs.YtbpbghmhenilcaaDoor
