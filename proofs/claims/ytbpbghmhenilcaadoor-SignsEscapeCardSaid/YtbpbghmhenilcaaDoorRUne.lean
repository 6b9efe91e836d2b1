/- tidewaterref01.Unescape. No condition. -/
import Derived.Test.YtbpbghmhenilcaaDoorRPairs
import Derived.Test.YtbpbghmhenilcaaDoorSgB
namespace Go.Proofs.YtbpbghmhenilcaaDoor
open Go.RowKit

theorem ent_some {l : List UInt8} {j : Nat} (h : entAt l = some j) : j < 5 ∧ (nameB j ++ [59]).isPrefixOf l = true := by
  unfold entAt at h
  repeat' split at h
  all_goals first | (cases h; done) | (cases h; exact ⟨by omega, by assumption⟩)
theorem ent_iff {l : List UInt8} {k : Nat} (hk : k < 5) : (nameB k ++ [59]).isPrefixOf l = true ↔ entAt l = some k := by
  constructor
  · intro h
    obtain ⟨m, rfl⟩ := List.isPrefixOf_iff_prefix.1 h
    rw [List.append_assoc, List.cons_append, List.nil_append]
    exact ent_txt hk m
  · intro h; exact (ent_some h).2
/-- What is read here, the first k names looked at. -/
def uAt (r : List UInt8) (k : Nat) : ByteArray × Nat := match entAt r with | some j => if j < k then (⟨#[keyB j]⟩, (txtB j).size) else (⟨#[38]⟩, 0) | none => (⟨#[38]⟩, 0)
theorem uAt_zero (r : List UInt8) : uAt r 0 = (⟨#[38]⟩, 0) := by
  unfold uAt
  cases entAt r <;> rfl
theorem uAt_hit {r : List UInt8} {k : Nat} (h : entAt r = some k) : uAt r (k + 1) = (⟨#[keyB k]⟩, (txtB k).size) := by
  unfold uAt
  rw [h]
  exact if_pos (Nat.lt_succ_self k)
theorem uAt_miss {r : List UInt8} {k : Nat} (h : entAt r ≠ some k) : uAt r (k + 1) = uAt r k := by
  unfold uAt
  cases hs : entAt r with
  | none => rfl
  | some j =>
    have hj : j ≠ k := fun e => h (by rw [hs, e])
    simp only
    by_cases hlt : j < k
    · rw [if_pos hlt, if_pos (by omega)]
    · rw [if_neg hlt, if_neg (by omega)]
theorem uAt_some {r : List UInt8} {j : Nat} (h : entAt r = some j) : uAt r 5 = (⟨#[keyB j]⟩, (txtB j).size) := by
  unfold uAt
  rw [h]
  exact if_pos (ent_some h).1
theorem uAt_none {r : List UInt8} (h : entAt r = none) : uAt r 5 = (⟨#[38]⟩, 0) := by
  unfold uAt
  rw [h]
theorem txt_len {j : Nat} (h : j < 5) : (txtB j).size = (nameB j).length + 2 := by
  have := congrArg List.length (txt_name h)
  rw [← Lib.size_eq] at this
  simp at this; omega
/-- The text itself stands at i, or not. -/
theorem at_text {s : ByteArray} {i k : Nat} {r : List UInt8} (hk : k < 5) (h : s.data.toList.drop i = 38 :: r) (_hm : (txtB k).size ≤ s.size - i) : (s.extract i (i + (txtB k).size)) = txtB k ↔ entAt r = some k := by
  rw [← ent_iff hk, List.isPrefixOf_iff_prefix]
  have e : (s.extract i (i + (txtB k).size)).data.toList = (38 :: r).take (txtB k).size := by
    rw [Lib.extract_data, h, show i + (txtB k).size - i = (txtB k).size by omega]
  constructor
  · intro h1
    rw [h1, txt_name hk, txt_len hk] at e
    rw [show (nameB k).length + 2 = ((nameB k).length + 1) + 1 from rfl, List.take_succ_cons] at e
    have e2 := (List.cons.inj e).2
    rw [e2]
    exact List.take_prefix _ _
  · rintro ⟨t, rfl⟩
    have e3 : (s.extract i (i + (txtB k).size)).data.toList = (txtB k).data.toList := by
      rw [e, txt_name hk, txt_len hk, show (nameB k).length + 2 = ((nameB k).length + 1) + 1 from rfl, List.take_succ_cons, List.take_left' (by simp)]
    rw [← mk_l (s.extract _ _), e3, mk_l]
theorem at_none {s : ByteArray} {i k : Nat} {r : List UInt8} (hk : k < 5) (h : s.data.toList.drop i = 38 :: r) (hm : s.size - i < (txtB k).size) : entAt r ≠ some k := by
  intro he
  have hp := (ent_some he).2
  obtain ⟨t, ht⟩ := List.isPrefixOf_iff_prefix.1 hp
  have h1 := congrArg List.length ht
  have h2 := congrArg List.length h
  rw [List.length_drop, ← Lib.size_eq] at h2
  rw [txt_len hk] at hm
  simp at h1 h2
  omega
set_option maxHeartbeats 8000000 in
set_option maxRecDepth 100000 in
theorem ref_unescape (s : ByteArray) (w : World) (hs : s.size ≤ 1000000) :
    Calls Tryd.prog 20 #[.string s] w fun e w' => e = .returned (unescV s) ∧ Fr Nothing w w' := by
  have HRt := Lib.hid (fun w' => ref_right s w' hs)
  have HPr : Hid (∀ w, Calls Tryd.prog 29 #[] w fun e w' => e = .returned (.agg #[.string ⟨#[38]⟩, .string ⟨#[38, 97, 109, 112, 59]⟩, .string ⟨#[60]⟩, .string ⟨#[38, 108, 116, 59]⟩, .string ⟨#[62]⟩, .string ⟨#[38, 103, 116, 59]⟩, .string ⟨#[34]⟩, .string ⟨#[38, 113, 117, 111, 116, 59]⟩, .string ⟨#[39]⟩, .string ⟨#[38, 97, 112, 111, 115, 59]⟩]) ∧ Fr Nothing w w') := Lib.hid ref_pairs
  cases hr : rightL s.data.toList with
  | false =>
    have he : unescV s = .tuple #[.string ByteArray.empty, .int .i64 2] := by rw [unescV_eq, hr]; rfl
    rw [he]
    rw [hr] at HRt
    simp only [Bool.false_eq_true, if_false] at HRt
    clear he hr
    go_enter Tryd.func20, Tryd.ntmps20
    go_wp2_with (go_at_call 14; refine (HRt.out _).mono ?_; rintro e w1 ⟨rfl, rfl⟩)
    go_ret2
    exact ⟨rfl, Fr.refl _ _⟩
  | true =>
    obtain ⟨X, hX⟩ : ∃ X, X = unL s.data.toList := ⟨_, rfl⟩
    obtain ⟨R, hR⟩ : ∃ R, R = unescV s := ⟨_, rfl⟩
    have he : Hid (R = uneV X) := Lib.hid (by rw [hR, unescV_eq, hr, hX]; rfl)
    rw [← hR]
    rw [hr] at HRt
    simp only [if_true] at HRt
    obtain ⟨N, hN⟩ : ∃ N, N = s.size := ⟨_, rfl⟩
    have hsz : s.size = N := hN.symm
    have hl : s.data.toList.length = N := by rw [hN]; simp
    have HX0 : Hid ((unL (s.data.toList.drop 0)).map ((⟨#[]⟩ : ByteArray).data.toList ++ ·) = X) := Lib.hid (by rw [List.drop_zero, hX]; simp)
    have HL := Lib.hid hl
    clear hr hR hX hN hl
    go_enter Tryd.func20, Tryd.ntmps20
    go_wp2_with (first
      | (go_at_call 14; refine (HRt.out _).mono ?_; rintro e w1 ⟨rfl, rfl⟩)
      | (go_at_call 29; refine (HPr.out _).mono ?_; rintro e w2 ⟨rfl, F2⟩))
    obtain ⟨b, hb⟩ : ∃ b, b = w2.heap.size := ⟨_, rfl⟩
    have HP : Hid (PC b (w2.alloc (.cells pairA.toArray 41))) := Lib.hid (by rw [hb]; exact PC.new _ _)
    have HF : Hid (Fr Nothing w1 (w2.alloc (.cells pairA.toArray 41))) := Lib.hid (F2.trans' (Fr.alloc Nothing _ _))
    obtain ⟨w3, hw3⟩ : ∃ w3, w3 = w2.alloc (.cells pairA.toArray 41) := ⟨_, rfl⟩
    rw [← hw3] at HP HF
    change _ = w2.alloc (.cells #[.string ⟨#[38]⟩, .string ⟨#[38, 97, 109, 112, 59]⟩, .string ⟨#[60]⟩, .string ⟨#[38, 108, 116, 59]⟩, .string ⟨#[62]⟩, .string ⟨#[38, 103, 116, 59]⟩, .string ⟨#[34]⟩, .string ⟨#[38, 113, 117, 111, 116, 59]⟩, .string ⟨#[39]⟩, .string ⟨#[38, 97, 112, 111, 115, 59]⟩] 41) at hw3
    rw [← hb, ← hw3]
    clear F2 hb hw3 HRt HPr
    have hNb : N ≤ 1000000 := by omega
    go_loopg [6, 4] N (fun gg vi vo wr => ∃ (i : Nat) (O : ByteArray), i ≤ N ∧ gg = N - i ∧ vi = .int .i64 (i : Nat) ∧ vo = .string O ∧ Hid ((unL (s.data.toList.drop i)).map (O.data.toList ++ ·) = X) ∧ O.size ≤ i ∧ w3 = wr)
    case atStart => exact ⟨0, ⟨#[]⟩, by omega, by omega, rfl, rfl, HX0, by decide, rfl⟩
    case round =>
      clear HX0
      obtain ⟨i, O, hi, rfl, rfl, rfl, HO, hOz, rfl⟩ := hrel
      by_cases hlt : i < N
      · have hltI : (i : Int) < N := by omega
        have hlt1 : (i : Int) + 1 ≤ N := by omega
        have hiI : (i : Int) ≤ N := by omega
        have hiL : i < s.data.toList.length := by rw [HL.out]; exact hlt
        have his : i < s.size := by omega
        obtain ⟨c, hc⟩ : ∃ c, c = s.data.toList[i] := ⟨_, rfl⟩
        obtain ⟨r, hr⟩ : ∃ r, r = s.data.toList.drop (i + 1) := ⟨_, rfl⟩
        have hdr : s.data.toList.drop i = c :: r := by rw [List.drop_eq_getElem_cons hiL, hc, hr]
        have hix : s[i]'his = c := by rw [hc]; rfl
        obtain ⟨C, hC⟩ : ∃ C : ByteArray, C = ⟨#[c]⟩ := ⟨_, rfl⟩
        have hex : s.extract i (i + 1) = C := by rw [one_byte hiL, hC, hc]
        have hCz : C.size = 1 := by rw [hC]; rfl
        have hst := HO.out
        rw [hdr] at hst
        have HDR := Lib.hid hdr
        have HRd := Lib.hid hr
        have HC := Lib.hid hC
        clear hdr hr hC hc hiL HO
        obtain ⟨d, hd⟩ : ∃ d, d = c.toNat := ⟨_, rfl⟩
        have hcd : (c.toNat : Int) = d := by rw [hd]
        by_cases h60 : c = 60
        · have hd60 : d = 60 := by rw [hd, h60]; rfl
          rw [unL_cons, if_pos h60] at hst
          have HB : Hid (X = none) := Lib.hid hst.symm
          subst hd60
          clear hst h60 hd
          go_wp2_with (fail)
          go_ret2
          exact ⟨by rw [he.out, HB.out]; rfl, HF.out⟩
        have hdn60 : ((d : Int) == 60) = false := by
          rw [beq_eq_false_iff_ne]; intro e
          exact h60 (UInt8.toNat_inj.1 (by rw [← hd]; exact Int.ofNat.inj e))
        by_cases h38 : c = 38
        · have hd38 : d = 38 := by rw [hd, h38]; rfl
          subst hd38
          rw [h38] at hst
          have HST := Lib.hid hst
          have HDR2 : Hid (s.data.toList.drop i = 38 :: r) := Lib.hid (by rw [HDR.out, h38])
          have HT0 : Hid (uAt r 0 = (C, 0)) := Lib.hid (by rw [uAt_zero, HC.out, h38])
          clear hst h60 hd h38 hdn60
          go_wp2_with (fail)
          go_loopg [9, 7, 8] 5 (fun gg vk vt vn wr => ∃ (k : Nat) (T : ByteArray) (n : Nat), k ≤ 5 ∧ gg = 5 - k ∧ vk = .int .i64 (k : Nat) ∧ vt = .string T ∧ vn = .int .i64 (n : Nat) ∧ Hid (uAt r k = (T, n)) ∧ w3 = wr)
          case atStart => exact ⟨0, C, 0, by omega, by omega, rfl, rfl, rfl, HT0, rfl⟩
          case round =>
            clear HT0
            obtain ⟨k, T, n, hk, rfl, rfl, rfl, rfl, HT, rfl⟩ := hrel
            by_cases hk5 : k < 5
            · have hk5I : (k : Int) < 5 := by omega
              obtain ⟨c0, c1⟩ := HP.out k hk5
              obtain ⟨K, hK⟩ : ∃ K : ByteArray, K = ⟨#[keyB k]⟩ := ⟨_, rfl⟩
              obtain ⟨Y, hY⟩ : ∃ Y : ByteArray, Y = txtB k := ⟨_, rfl⟩
              obtain ⟨m, hm⟩ : ∃ m, m = (txtB k).size := ⟨_, rfl⟩
              have hYm : Y.size = m := by rw [hY, hm]
              have hm6 : m ≤ 6 := by rw [hm]; exact (txt_size hk5).2
              rw [← hK] at c0
              rw [← hY] at c1
              by_cases hfit : m ≤ N - i
              · have hfI : (m : Int) ≤ (N : Int) - i := by omega
                have hfI2 : (i : Int) + m ≤ N := by omega
                have hat := at_text (s := s) (i := i) (k := k) (r := r) hk5 HDR2.out (by omega)
                rw [← hm, ← hY] at hat
                obtain ⟨Z, hZ⟩ : ∃ Z, s.extract i (i + m) = Z := ⟨_, rfl⟩
                rw [hZ] at hat
                by_cases he2 : entAt r = some k
                · have hq : (Z.toList == Y.toList) = true := by rw [same_text]; exact decide_eq_true (hat.2 he2)
                  have HT2 : Hid (uAt r (k + 1) = (K, m)) := Lib.hid (by rw [uAt_hit he2, hK, hm])
                  clear he2 hat hK hY hm hfit
                  go_wp2_with (fail)
                  go_roundg (5 - (k + 1))
                  case measure => omega
                  case rel => exact ⟨k + 1, K, m, by omega, rfl, by go_num, rfl, rfl, HT2, rfl⟩
                · have hq : (Z.toList == Y.toList) = false := by rw [same_text]; exact decide_eq_false (fun e => he2 (hat.1 e))
                  have HT2 : Hid (uAt r (k + 1) = (T, n)) := Lib.hid (by rw [uAt_miss he2]; exact HT.out)
                  clear he2 hat hK hY hm hfit
                  go_wp2_with (fail)
                  go_roundg (5 - (k + 1))
                  case measure => omega
                  case rel => exact ⟨k + 1, T, n, by omega, rfl, by go_num, rfl, rfl, HT2, rfl⟩
              · have hfI : ¬ ((m : Int) ≤ (N : Int) - i) := by omega
                have hfd : decide ((m : Int) ≤ (N : Int) - i) = false := decide_eq_false hfI
                have he2 := at_none (s := s) (i := i) (k := k) (r := r) hk5 HDR2.out (by omega)
                have HT2 : Hid (uAt r (k + 1) = (T, n)) := Lib.hid (by rw [uAt_miss he2]; exact HT.out)
                clear he2 hK hY hm hfit
                go_wp2_with (fail)
                go_roundg (5 - (k + 1))
                case measure => omega
                case rel => exact ⟨k + 1, T, n, by omega, rfl, by go_num, rfl, rfl, HT2, rfl⟩
            · obtain rfl : k = 5 := by omega
              have hT := HT.out
              have hst := HST.out
              cases he2 : entAt r with
              | none =>
                rw [uAt_none he2] at hT
                rw [unL_none he2] at hst
                have HB : Hid (X = none) := Lib.hid hst.symm
                obtain ⟨-, rfl⟩ := Prod.mk.inj hT
                clear hT hst he2 HT
                go_wp2_with (fail)
                go_ret2
                exact ⟨by rw [he.out, HB.out]; rfl, HF.out⟩
              | some j =>
                rw [uAt_some he2] at hT
                rw [unL_some he2, Option.map_map] at hst
                obtain ⟨hj5, hpf⟩ := ent_some he2
                obtain ⟨hT1, hT2⟩ := Prod.mk.inj hT
                have hn2 : n = (nameB j).length + 2 := by rw [← hT2, txt_len hj5]
                have hpl : (nameB j).length + 1 ≤ r.length := by
                  obtain ⟨t, ht⟩ := List.isPrefixOf_iff_prefix.1 hpf
                  have := congrArg List.length ht
                  simp at this; omega
                have hrl : r.length + 1 = N - i := by
                  have := congrArg List.length HDR2.out
                  rw [List.length_drop, HL.out] at this
                  simp at this; omega
                have hTz : T.size = 1 := by rw [← hT1]; rfl
                have HX2 : Hid ((unL (s.data.toList.drop (i + n))).map ((O ++ T).data.toList ++ ·) = X) := Lib.hid (by
                  have e : s.data.toList.drop (i + n) = r.drop ((nameB j).length + 1) := by
                    rw [← List.drop_drop, HDR2.out, hn2]; rfl
                  rw [e, ← hst]
                  congr 1
                  funext x
                  rw [app_l, ← hT1]; simp)
                have hin : (i : Int) + n ≤ N := by omega
                have hn0 : ((n : Int) == 0) = false := by rw [beq_eq_false_iff_ne]; omega
                have hnz : ¬ n = 0 := by omega
                have hOT : (O ++ T).size ≤ i + n := by rw [ByteArray.size_append, hTz]; omega
                have HOT := Lib.hid (And.intro hOT hin)
                have hn9 : n ≤ 9 := by have := txt_size hj5; omega
                clear hT hst he2 HT hj5 hpf hT1 hT2 hn2 hpl hrl hOT hk hk5
                go_wp2_with (fail)
                go_roundg (N - (i + n))
                case measure => have := HOT.out; omega
                case rel => exact ⟨i + n, O ++ T, by have := HOT.out; omega, rfl, by go_num, rfl, HX2, HOT.out.1, rfl⟩
        · have hdn38 : ((d : Int) == 38) = false := by
            rw [beq_eq_false_iff_ne]; intro e
            exact h38 (UInt8.toNat_inj.1 (by rw [← hd]; exact Int.ofNat.inj e))
          rw [unL_plain r h60 h38, Option.map_map] at hst
          have HX2 : Hid ((unL (s.data.toList.drop (i + 1))).map ((O ++ C).data.toList ++ ·) = X) := Lib.hid (by
            rw [← HRd.out, ← hst]
            congr 1
            funext x
            rw [app_l, HC.out]; simp)
          have hOC : (O ++ C).size ≤ i + 1 := by rw [ByteArray.size_append, hCz]; omega
          have HOC := Lib.hid hOC
          clear hst h60 h38 hd hOC
          go_wp2_with (fail)
          go_roundg (N - (i + 1))
          case measure => omega
          case rel => exact ⟨i + 1, O ++ C, by omega, rfl, by go_num, rfl, HX2, HOC.out, rfl⟩
      · obtain rfl : i = N := by omega
        have HXO : Hid (X = some O.data.toList) := Lib.hid (by
          rw [← HO.out, List.drop_of_length_le (by rw [HL.out]; exact Nat.le_refl _), unL_nil]; simp)
        go_wp2_with (fail)
        go_ret2
        exact ⟨by rw [he.out, HXO.out]; show _ = Ending.returned (.tuple #[.string ⟨O.data.toList.toArray⟩, .int .i64 0]); rw [mk_l]; rfl, HF.out⟩
end Go.Proofs.YtbpbghmhenilcaaDoor
