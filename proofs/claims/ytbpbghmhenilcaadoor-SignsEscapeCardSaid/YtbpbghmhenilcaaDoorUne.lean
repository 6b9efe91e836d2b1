/- signs.Unescape. No condition. -/
import Derived.Test.YtbpbghmhenilcaaDoorUneP
import Derived.Test.YtbpbghmhenilcaaDoorBld
import Derived.Test.YtbpbghmhenilcaaDoorWhl
import Derived.Lib.IndexAny
namespace Go.Proofs.YtbpbghmhenilcaaDoor
open Go.RowKit

theorem bytes_add {k m : List UInt8} {n : Nat} (h2 : k.length + m.length ≤ n) : (Lib.byteCells k).length + (⟨m.toArray⟩ : ByteArray).size ≤ n := by
  simp [Lib.byteCells, ByteArray.size]; omega
def uneV : Option (List UInt8) → Value
  | some x => .tuple #[.string ⟨x.toArray⟩, .int .i64 0]
  | none => .tuple #[.string ByteArray.empty, .int .i64 3]
/-- What Unescape answers. -/
def unescV (s : ByteArray) : Value :=
  if rightS s = true then
    (if s.data.toList.contains 60 = true then .tuple #[.string ByteArray.empty, .int .i64 3]
     else uneV (unescL s.data.toList))
  else .tuple #[.string ByteArray.empty, .int .i64 2]
theorem cut_f (c : UInt8) (l : List UInt8) (w : World) (hl : l.length ≤ 1000000) (hM : ∃ m, w.cell? ⟨2, 0, none⟩ = some (.int .i64 m)) :
    Calls Tryd.prog 31 #[.string ⟨l.toArray⟩, .string ⟨#[c]⟩] w fun e w' => e = .returned (.tuple #[.string ⟨(cutB c l).1.toArray⟩, .string ⟨(cutB c l).2.1.toArray⟩, .bool (cutB c l).2.2]) ∧ ∃ n, w' = w.drewN n := by
  obtain ⟨m, hm⟩ := hM
  have h := Tryd.strings_Cut ⟨l.toArray⟩ ⟨#[c]⟩ m w (by simp [ByteArray.size]; omega) hm
  have e : Lib.cut (⟨l.toArray⟩ : ByteArray).data.toList (⟨#[c]⟩ : ByteArray).data.toList = cutB c l := cut_one c l
  rw [e] at h
  exact h
set_option maxHeartbeats 8000000 in
set_option maxRecDepth 100000 in
theorem unescape_f (s : ByteArray) (w : World) (hs : s.size ≤ 1000000) (hT : Tabs w) (hM : ∃ m, w.cell? ⟨2, 0, none⟩ = some (.int .i64 m)) :
    Calls Tryd.prog 19 #[.string s] w fun e w' => e = .returned (unescV s) ∧ Fr Nothing w w' := by
  have HRt := Lib.hid (right_f s w (by omega) hT)
  have HCO := Lib.hid (fun w' => Tryd.strings_Contains_one s 60 w')
  obtain ⟨C, hC⟩ : ∃ C, C = decide (0 ≤ Lib.indexByte s.data.toList 60) := ⟨_, rfl⟩
  rw [← hC] at HCO
  have hC2 : s.data.toList.contains 60 = C := by rw [Lib.contains_iff_indexByte, hC]
  cases hr : rightS s with
  | false =>
    have hv : rightV s = .int .i64 2 := by unfold rightV; rw [hr]; rfl
    have he : unescV s = .tuple #[.string ByteArray.empty, .int .i64 2] := by unfold unescV; rw [hr]; rfl
    rw [hv] at HRt
    rw [he]
    clear hv he hr hC hC2 hM
    go_enter Tryd.func19, Tryd.ntmps19
    go_wp2_with (go_at_call 13; refine HRt.out.mono ?_; rintro e w1 ⟨rfl, F1⟩)
    go_ret2
    exact ⟨rfl, F1⟩
  | true =>
    have hv : rightV s = .int .i64 0 := by unfold rightV; rw [hr]; rfl
    rw [hv] at HRt
    cases C with
    | true =>
      have he : unescV s = .tuple #[.string ByteArray.empty, .int .i64 3] := by unfold unescV; rw [hr, hC2]; rfl
      rw [he]
      clear hv he hr hC hC2 hM
      go_enter Tryd.func19, Tryd.ntmps19
      go_wp2_with (go_at_call 13; refine HRt.out.mono ?_)
      rintro e w1 ⟨rfl, F1⟩
      have HF := Lib.hid F1
      clear F1
      go_wp2_with (go_at_call 30; refine (HCO.out _).mono ?_; rintro e w2 ⟨rfl, rfl⟩)
      go_ret2
      exact ⟨rfl, HF.out⟩
    | false =>
      obtain ⟨X, hX⟩ : ∃ X, X = unescL s.data.toList := ⟨_, rfl⟩
      obtain ⟨R, hR⟩ : ∃ R, R = unescV s := ⟨_, rfl⟩
      have HR : Hid (R = uneV X) := Lib.hid (by rw [hR, hX]; unfold unescV; rw [hr, hC2]; rfl)
      rw [← hR]
      obtain ⟨N, hN⟩ : ∃ N, N = s.size := ⟨_, rfl⟩
      have hNL : s.data.toList.length = N := by rw [hN]; simp
      have HST : Hid (unescGo (N + 1) s.data.toList [] = X ∧ s.data.toList.length = N) := Lib.hid ⟨by rw [hX, ← hNL]; rfl, hNL⟩
      have HN6 : Hid (N ≤ 1000000) := Lib.hid (by omega)
      have HM := Lib.hid hM
      have HCut := Lib.hid cut_f
      have HNm := Lib.hid named_f
      have HW := Lib.hid writes_f
      have HSt := Lib.hid Tryd.Builder_String_any
      clear hv hr hC hC2 hM hX hR hT hN hNL
      go_enter Tryd.func19, Tryd.ntmps19
      go_wp2_with (go_at_call 13; refine HRt.out.mono ?_)
      rintro e w1 ⟨rfl, F1⟩
      have HF := Lib.hid F1
      clear F1
      go_wp2_with (go_at_call 30; refine (HCO.out _).mono ?_; rintro e w2 ⟨rfl, rfl⟩)
      obtain ⟨b, hb⟩ : ∃ b, b = w2.heap.size := ⟨_, rfl⟩
      have hbw : w.heap.size ≤ b := by rw [hb]; exact HF.out.size
      have HF0 : Hid (Fr Nothing w (w2.alloc (.cells #[.pointer none, .slice none 0 0] 45))) := Lib.hid (HF.out.trans' (Fr.alloc Nothing _ _))
      have HB0 : Hid (Lib.IsBuilder 45 5 b b [] (w2.alloc (.cells #[.pointer none, .slice none 0 0] 45))) := Lib.hid (by rw [hb]; exact Lib.fresh_isBuilder _ _ w2)
      have hbs : b ≤ (w2.alloc (.cells #[.pointer none, .slice none 0 0] 45)).heap.size := by rw [hb]; exact (Fr.alloc Nothing w2 _).size
      obtain ⟨w3, hw3⟩ : ∃ w3, w3 = w2.alloc (.cells #[.pointer none, .slice none 0 0] 45) := ⟨_, rfl⟩
      rw [← hw3] at HF0 HB0 hbs ⊢
      have Hb := Lib.hid hbw
      rw [← hb]
      clear HRt HCO HF hb hw3 hbw
      go_loopg [0] (N + 1) (fun gg vs wr => ∃ (l acc : List UInt8) (f : Nat), f = gg ∧ vs = .string ⟨l.toArray⟩ ∧ Hid (l.length < f ∧ unescGo f l acc = X ∧ acc.length + l.length ≤ N) ∧ Hid (Lib.IsBuilder 45 5 b b (Lib.byteCells acc) wr ∧ b ≤ wr.heap.size) ∧ Hid (Fr Nothing w wr))
      case atStart => exact ⟨s.data.toList, [], _, rfl, rfl, Lib.hid ⟨by have := HST.out.2; omega, HST.out.1, by have := HST.out.2; simp only [List.length_nil]; omega⟩, Lib.hid ⟨HB0.out, hbs⟩, HF0⟩
      case round =>
        clear HST HF0 HB0 hbs
        obtain ⟨l, acc, f, rfl, rfl, HS, HB, HF⟩ := hrel
        obtain ⟨g, rfl⟩ : ∃ g, f = g + 1 := ⟨f - 1, by have := HS.out.1; omega⟩
        have HC1 := Lib.hid (HCut.out 38 l wr (by have := HS.out; have := HN6.out; omega) (by obtain ⟨m, hm⟩ := HM.out; exact ⟨m, cell_fr hm HF.out (fun h => h)⟩))
        obtain ⟨p, hp⟩ : ∃ p, p = cutB 38 l := ⟨_, rfl⟩
        obtain ⟨hd, rs, mr⟩ := p
        have hpl : hd.length + rs.length ≤ l.length ∧ (mr = true → hd.length + rs.length + 1 ≤ l.length) := by
          cases mr with
          | false => have := cutB_none (c := 38) (l := l) (by rw [← hp]); rw [← hp] at this; simp only at this; rw [this.1, this.2.1]; simp
          | true => have := congrArg List.length (cutB_some (c := 38) (l := l) (by rw [← hp])).1; rw [← hp] at this; simp at this; omega
        have HX : Hid (unescGo (g + 1) l acc = X) := Lib.hid HS.out.2.1
        have hX := HX.out
        rw [unescGo] at hX
        rw [← hp] at HC1 hX
        simp only at HC1 hX
        have HL : Hid (hd.length + rs.length ≤ l.length ∧ (mr = true → hd.length + rs.length + 1 ≤ l.length) ∧ acc.length + l.length ≤ N ∧ l.length < g + 1) := Lib.hid ⟨hpl.1, hpl.2, HS.out.2.2, HS.out.1⟩
        have HX := Lib.hid hX
        obtain ⟨H, hH⟩ : ∃ H : ByteArray, H = ⟨hd.toArray⟩ := ⟨_, rfl⟩
        obtain ⟨Q, hQ⟩ : ∃ Q : ByteArray, Q = ⟨rs.toArray⟩ := ⟨_, rfl⟩
        rw [← hH, ← hQ] at HC1
        have HH := Lib.hid hH
        have HQ := Lib.hid hQ
        clear hp hpl hX HS hH hQ
        go_wp2_with (go_at_call 31; refine HC1.out.mono ?_)
        rintro e w4 ⟨rfl, hw4⟩
        have HB4 : Hid (Lib.IsBuilder 45 5 b b (Lib.byteCells acc) w4 ∧ b ≤ w4.heap.size) := Lib.hid (by obtain ⟨n, rfl⟩ := hw4; exact ⟨by exact HB.out.1, by exact HB.out.2⟩)
        have HF4 : Hid (Fr Nothing w w4) := Lib.hid (by obtain ⟨n, rfl⟩ := hw4; exact HF.out.trans' (Fr.drewN _ _ _))
        clear hw4 HC1 HB HF
        have HC2 := Lib.hid (HW.out b b _ H w4 HB4.out.1 (by rw [HH.out]; exact bytes_add (by have := HL.out; have := HN6.out; omega)) HB4.out.2)
        rw [HH.out, show Lib.byteCells acc ++ Lib.strCells ⟨hd.toArray⟩ = Lib.byteCells (acc ++ hd) by show Lib.byteCells acc ++ Lib.byteCells hd = _; unfold Lib.byteCells; rw [List.map_append], ← HH.out] at HC2
        clear HB4
        go_wp2_with (go_at_call 32; refine HC2.out.mono ?_)
        rintro e w5 ⟨rfl, hB5, hBe⟩
        have HF5 : Hid (Fr Nothing w w5) := Lib.hid (HF4.out.trans (Fr.of_below hBe) (fun k hk e => by have := Hb.out; omega))
        have hsz5 : b ≤ w5.heap.size := by have := hB5.1; have := hB5.lt; omega
        have HB5 : Hid (Lib.IsBuilder 45 5 b b (Lib.byteCells (acc ++ hd)) w5 ∧ b ≤ w5.heap.size) := Lib.hid ⟨.inr hB5, hsz5⟩
        clear hB5 hBe hsz5 HC2 HF4
        cases mr with
        | false =>
          have HXX : Hid (X = some (acc ++ hd)) := Lib.hid (by rw [← HX.out, if_pos rfl])
          have HC3 := Lib.hid (HSt.out b b (acc ++ hd) w5 HB5.out.1 HB5.out.2)
          obtain ⟨O, hO⟩ : ∃ O : ByteArray, O = ⟨(acc ++ hd).toArray⟩ := ⟨_, rfl⟩
          rw [← hO] at HC3
          have HRR : Hid (R = .tuple #[.string O, .int .i64 0]) := Lib.hid (by rw [HR.out, HXX.out, hO]; rfl)
          clear hO HX HXX HR
          go_wp2_with (go_at_call 33; refine HC3.out.mono ?_)
          rintro e w6 ⟨rfl, hBe⟩
          have HF6 : Hid (Fr Nothing w w6) := Lib.hid (HF5.out.trans (Fr.of_below hBe) (fun k hk e => by have := Hb.out; omega))
          clear hBe
          go_wp2_with (fail)
          go_ret2
          exact ⟨by rw [HRR.out]; rfl, HF6.out⟩
        | true =>
          have hX := HX.out
          rw [if_neg (by decide)] at hX
          have HC3 := Lib.hid (HCut.out 59 rs w5 (by have := HL.out; have := HN6.out; omega) (by obtain ⟨m, hm⟩ := HM.out; exact ⟨m, cell_fr hm HF5.out (fun h => h)⟩))
          obtain ⟨p, hp⟩ : ∃ p, p = cutB 59 rs := ⟨_, rfl⟩
          obtain ⟨nm, bh, en⟩ := p
          have hpl : bh.length ≤ rs.length ∧ (en = true → nm.length + bh.length + 1 ≤ rs.length) := by
            cases en with
            | false => have := cutB_none (c := 59) (l := rs) (by rw [← hp]); rw [← hp] at this; simp only at this; rw [this.2.1]; simp
            | true => have := congrArg List.length (cutB_some (c := 59) (l := rs) (by rw [← hp])).1; rw [← hp] at this; simp at this; omega
          rw [← hp] at HC3 hX
          simp only at HC3 hX
          have HL2 := Lib.hid hpl
          obtain ⟨NM, hNM⟩ : ∃ NM : ByteArray, NM = ⟨nm.toArray⟩ := ⟨_, rfl⟩
          obtain ⟨BH, hBH⟩ : ∃ BH : ByteArray, BH = ⟨bh.toArray⟩ := ⟨_, rfl⟩
          have HC4 := Lib.hid (fun w' => HNm.out NM w')
          rw [← hNM, ← hBH] at HC3
          rw [← hNM] at hX
          have HBH := Lib.hid hBH
          rw [← HQ.out] at HC3
          cases hz : namedS NM with
          | none =>
            have hX2 : X = none := by
              rw [← hX, hz]
              by_cases he : en = false
              · rw [if_pos he]
              · rw [if_neg he]
            have hv : namedV NM = .tuple #[.string ByteArray.empty, .bool false] := by unfold namedV; rw [hz]
            rw [hv] at HC4
            have HRR : Hid (R = .tuple #[.string ByteArray.empty, .int .i64 3]) := Lib.hid (by rw [HR.out, hX2]; rfl)
            clear hX hX2 hv hz hp hpl hNM hBH HX HR
            cases en with
            | false =>
              go_wp2_with (go_at_call 31; refine HC3.out.mono ?_)
              rintro e w6 ⟨rfl, hw6⟩
              have HF6 : Hid (Fr Nothing w w6) := Lib.hid (by obtain ⟨n, rfl⟩ := hw6; exact HF5.out.trans' (Fr.drewN _ _ _))
              clear hw6
              go_wp2_with (go_at_call 34; refine (HC4.out _).mono ?_; rintro e w7 ⟨rfl, rfl⟩)
              go_ret2
              exact ⟨by rw [HRR.out]; rfl, HF6.out⟩
            | true =>
              go_wp2_with (go_at_call 31; refine HC3.out.mono ?_)
              rintro e w6 ⟨rfl, hw6⟩
              have HF6 : Hid (Fr Nothing w w6) := Lib.hid (by obtain ⟨n, rfl⟩ := hw6; exact HF5.out.trans' (Fr.drewN _ _ _))
              clear hw6
              go_wp2_with (go_at_call 34; refine (HC4.out _).mono ?_; rintro e w7 ⟨rfl, rfl⟩)
              go_ret2
              exact ⟨by rw [HRR.out]; rfl, HF6.out⟩
          | some T =>
            have hv : namedV NM = .tuple #[.string T, .bool true] := by unfold namedV; rw [hz]
            have HT1 := Lib.hid (named_size hz)
            rw [hv] at HC4
            cases en with
            | false =>
              have hX2 : X = none := by rw [← hX, if_pos rfl]
              have HRR : Hid (R = .tuple #[.string ByteArray.empty, .int .i64 3]) := Lib.hid (by rw [HR.out, hX2]; rfl)
              clear hX hX2 hv hz hp hpl hNM hBH HX HR
              go_wp2_with (go_at_call 31; refine HC3.out.mono ?_)
              rintro e w6 ⟨rfl, hw6⟩
              have HF6 : Hid (Fr Nothing w w6) := Lib.hid (by obtain ⟨n, rfl⟩ := hw6; exact HF5.out.trans' (Fr.drewN _ _ _))
              clear hw6
              go_wp2_with (go_at_call 34; refine (HC4.out _).mono ?_; rintro e w7 ⟨rfl, rfl⟩)
              go_ret2
              exact ⟨by rw [HRR.out]; rfl, HF6.out⟩
            | true =>
              rw [hz, if_neg (by decide)] at hX
              simp only at hX
              have HXX := Lib.hid hX
              clear hX hv hz hp hpl hNM hBH HX
              go_wp2_with (go_at_call 31; refine HC3.out.mono ?_)
              rintro e w6 ⟨rfl, hw6⟩
              have HB6 : Hid (Lib.IsBuilder 45 5 b b (Lib.byteCells (acc ++ hd)) w6 ∧ b ≤ w6.heap.size) := Lib.hid (by obtain ⟨n, rfl⟩ := hw6; exact ⟨by exact HB5.out.1, by exact HB5.out.2⟩)
              have HF6 : Hid (Fr Nothing w w6) := Lib.hid (by obtain ⟨n, rfl⟩ := hw6; exact HF5.out.trans' (Fr.drewN _ _ _))
              clear hw6 HB5 HF5
              have HC5 := Lib.hid (HW.out b b _ T w6 HB6.out.1 (by have := HL.out; have := HN6.out; have := HT1.out; simp [Lib.byteCells]; omega) HB6.out.2)
              rw [show Lib.byteCells (acc ++ hd) ++ Lib.strCells T = Lib.byteCells (acc ++ hd ++ T.data.toList) by rw [Lib.strCells_eq]; unfold Lib.byteCells; rw [List.map_append (l₂ := T.data.toList)]] at HC5
              go_wp2_with (go_at_call 34; refine (HC4.out _).mono ?_; rintro e w7 ⟨rfl, rfl⟩)
              go_wp2_with (go_at_call 32; refine HC5.out.mono ?_)
              rintro e w8 ⟨rfl, hB8, hBe⟩
              have HF8 : Hid (Fr Nothing w w8) := Lib.hid (HF6.out.trans (Fr.of_below hBe) (fun k hk e => by have := Hb.out; omega))
              have hsz8 : b ≤ w8.heap.size := by have := hB8.1; have := hB8.lt; omega
              have HB8 : Hid (Lib.IsBuilder 45 5 b b (Lib.byteCells (acc ++ hd ++ T.data.toList)) w8 ∧ b ≤ w8.heap.size) := Lib.hid ⟨.inr hB8, hsz8⟩
              clear hB8 hBe hsz8 HC5 HB6
              go_wp2_with (fail)
              go_roundg g
              case measure => omega
              case rel =>
                have hTl : T.data.toList.length = 1 := by rw [← HT1.out]; simp
                exact ⟨bh, acc ++ hd ++ T.data.toList, g, rfl, by rw [← HBH.out], Lib.hid ⟨by have h1 := HL.out.2.1 trivial; have h2 := HL2.out.2 trivial; have := HL.out; omega, HXX.out, by have h1 := HL.out.2.1 trivial; have h2 := HL2.out.2 trivial; have := HL.out; simp only [List.length_append]; omega⟩, HB8, HF8⟩
end Go.Proofs.YtbpbghmhenilcaaDoor
