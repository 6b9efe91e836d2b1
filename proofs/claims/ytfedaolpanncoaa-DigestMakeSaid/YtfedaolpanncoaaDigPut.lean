/- One step put into a row of steps, as the document's answer does it. Condition: the texts' lengths. -/
import Derived.Test.YtfedaolpanncoaaDigIns
import Derived.Test.YtfedaolpanncoaaDigRefS
import Derived.Test.YtfedaolpanncoaaAhead
namespace Go.Proofs.Ytfedaolpanncoaa
open Go.RowKit

theorem ahead_lt (x y : ByteArray) : aheadB x y = ltB x y := by rw [ltB_eq]; rfl
abbrev CollR (w : World) (v : Value) (O : List DStep) (wr : World) : Prop := CollE w 59 6 v O.length (O.flatMap DStep.cells) wr
theorem CollR.one {w wr w0 w7 : World} {v v7 : Value} {O : List DStep} {s : DStep} (h : CollR w v O wr) (F : Fr Nothing wr w0) (o : Owns w7 59 6 v7 (O.length + 1) (O.flatMap DStep.cells ++ s.cells)) (f : Fr (InBlock v) w0 w7) (nn : NewOr w0 v v7) : CollR w v7 (O ++ [s]) w7 := by
  have := CollE.more h F o f nn
  simpa [CollR] using this
set_option maxRecDepth 100000 in
set_option maxHeartbeats 8000000 in
theorem ref_put (a : Option Addr) (c : Nat) (l : List DStep) (s : DStep) (w : World) (h : Steps w a l) (hl : l.length ≤ 1000) (hf : ∀ x ∈ l, x.user.size ≤ maxLen) (hs : s.user.size ≤ maxLen) :
    Calls Try.prog 35 #[.slice a l.length c, .agg s.cells.toArray] w fun e w' => ∃ v, e = .returned v ∧ CollR w v (insR DStep.user s.user s l false) w' := by
  obtain ⟨i0, hi, hz0, hz1, hz2⟩ := info_parts Try.infoRStep
  have Hz2 := Lib.hid hz2
  have Hz1 := Lib.hid hz1
  have Hz0 := Lib.hid hz0
  have Hi := Lib.hid hi
  have HF := Lib.hid hf
  have HS := Lib.hid hs
  have r1 : Row (w.alloc (.cells s.cells.toArray 59)) w.heap.size s.cells 59 := Row.allocNew w s.cells _
  have h1 : Steps (w.alloc (.cells s.cells.toArray 59)) a l := h.fr (Fr.alloc Nothing _ _) (fun _ _ h => h)
  have F1 : Fr Nothing w (w.alloc (.cells s.cells.toArray 59)) := Fr.alloc Nothing _ _
  obtain ⟨w1, hw1⟩ : ∃ w1, w1 = w.alloc (.cells s.cells.toArray 59) := ⟨_, rfl⟩
  rw [← hw1] at r1 h1 F1
  have HR := Lib.hid r1
  have HL := Lib.hid h1
  have HF1 := Lib.hid F1
  have HW := Lib.hid hw1
  obtain ⟨R, hR⟩ : ∃ R, R = insR DStep.user s.user s l false := ⟨_, rfl⟩
  rw [← hR]
  have HRR : Hid (([] : List DStep) ++ insR DStep.user s.user s (l.drop 0) false = R) := Lib.hid (by rw [hR]; rfl)
  clear hi hz0 hz1 hz2 h hf hs r1 h1 F1 hw1 hR
  unfold DStep.cells
  go_enter Try.func35, Try.ntmps35
  go_wp2_with (fail)
  rw [show w.alloc (.cells #[.string s.user, .string s.item.user, .string s.item.name, .int .i64 s.item.sub, .bool s.item.asked, .bool s.gone] 59) = w1 from HW.out.symm]
  go_loopg [5, 6, 7] l.length (fun g v dd i wr => ∃ (k : Nat) (O : List DStep) (d : Bool), k ≤ l.length ∧ g = l.length - k ∧ i = .int .i64 k ∧ dd = .bool d ∧ O.length ≤ k + d.toNat ∧ Hid (O ++ insR DStep.user s.user s (l.drop k) d = R) ∧ CollR w1 v O wr)
  case atStart => exact ⟨0, [], false, Nat.zero_le _, rfl, rfl, rfl, by simp, HRR, CollE.start _ _ _⟩
  case round =>
    clear HRR
    obtain ⟨k, O, d, hk, rfl, rfl, rfl, hOl, HO, co⟩ := hrel
    have hrow := HR.out.fr co.fr (fun h => h)
    unfold DStep.cells at hrow
    have s0 := hrow.cell 0 rfl
    have s1 := hrow.cell 1 rfl
    have s2 := hrow.cell 2 rfl
    have s3 := hrow.cell 3 rfl
    have s4 := hrow.cell 4 rfl
    have s5 := hrow.cell 5 rfl
    clear hrow
    by_cases hlt : k < l.length
    · obtain ⟨b1, o1, rfl, hc⟩ := (HL.out.fr co.fr (fun _ _ h => h)).at_ hlt
      have hxs := HF.out l[k] (List.getElem_mem hlt)
      have hO := HO.out
      rw [List.drop_eq_getElem_cons hlt, insR] at hO
      obtain ⟨x, hx⟩ : ∃ x, x = l[k] := ⟨_, rfl⟩
      rw [← hx] at hc hxs hO
      have HXS := Lib.hid hxs
      have c0 : wr.cell? ⟨b1, o1 + k * 6, none⟩ = some (.string x.user) := hc 0 _ rfl
      have c1 : wr.cell? ⟨b1, o1 + k * 6 + 1, none⟩ = some (.string x.item.user) := hc 1 _ rfl
      have c2 : wr.cell? ⟨b1, o1 + k * 6 + 2, none⟩ = some (.string x.item.name) := hc 2 _ rfl
      have c3 : wr.cell? ⟨b1, o1 + k * 6 + 3, none⟩ = some (.int .i64 x.item.sub) := hc 3 _ rfl
      have c4 : wr.cell? ⟨b1, o1 + k * 6 + 4, none⟩ = some (.bool x.item.asked) := hc 4 _ rfl
      have c5 : wr.cell? ⟨b1, o1 + k * 6 + 5, none⟩ = some (.bool x.gone) := hc 5 _ rfl
      have hkI : (k : Int) < l.length := by omega
      have hq : Hid (∀ n, Calls Try.prog 30 #[.string x.user, .string s.user] (wr.drewN n) fun e w'' => e = .returned (.bool (ltB x.user s.user)) ∧ ∃ m, w'' = wr.drewN m) := Lib.hid (fun n => by
        have := quiet_draw (ref_ahead x.user s.user (wr.drewN n) HXS.out HS.out)
        rw [ahead_lt] at this; exact this)
      have HC : Hid (∀ W : World, Steps W (some ⟨b1, o1, none⟩) l → ∀ j v, x.cells[j]? = some v → W.cell? ⟨b1, o1 + k * 6 + j, none⟩ = some v) := Lib.hid (fun W hW j v hj => by
        obtain ⟨b', o', hab, hc'⟩ := hW.at_ hlt
        cases hab
        exact hc' j v (by rw [← hx]; exact hj))
      clear hc hxs hx
      cases d with
      | true =>
        have hOl : O.length ≤ k + 1 := hOl
        by_cases he : x.user = s.user
        · have hne : (x.user.toList == s.user.toList) = true := by rw [same_text, decide_eq_true he]
          have HN : Hid (O ++ insR DStep.user s.user s (l.drop (k + 1)) true = R) := Lib.hid (by rw [← hO]; simp [he])
          clear hO HO he hq
          go_wp2_with (fail)
          go_quiet (fail)
          go_wp2_with (fail)
          go_quiet (fail)
          go_wp2_with (fail)
          go_roundg (l.length - (k + 1))
          case measure => omega
          case rel => exact ⟨k + 1, O, true, by omega, rfl, by go_num, rfl, by simp; omega, HN, by exact co.quiet (by exact Fr.drewN _ _ _)⟩
        · have hne : (x.user.toList == s.user.toList) = false := by rw [same_text, decide_eq_false he]
          have HN : Hid ((O ++ [x]) ++ insR DStep.user s.user s (l.drop (k + 1)) true = R) := Lib.hid (by rw [← hO]; simp [he])
          clear hO HO he hq
          go_wp2_with (fail)
          go_quiet (fail)
          go_wp2_with (fail)
          go_quiet (fail)
          go_wp2_with (at_builtin; go_must (refine wpList_append_fp rfl (.tmp 39) (.tmp 44) 38 rfl 59 i0 (.agg #[.string ByteArray.empty, .string ByteArray.empty, .string ByteArray.empty, .int .i64 0, .bool false, .bool false]) 6 72 Try.underlying38 Hi.out Hz0.out Hz1.out Hz2.out rfl (by decide) _ _ _ rfl ((co.drewN _).quiet (Fr.alloc Nothing _ _)).own _ 1 1 x.cells rfl rfl (by simp) (Sl.ofRow (Row.allocNew _ _ _)) (step_one _) (by (try simp only [List.length_append, List.length_cons, List.length_nil]); unfold maxLen; omega) (by (try simp only [List.length_append, List.length_cons, List.length_nil]); omega) ?_))
          intro v7 w7 o7 f7 n7 s7 _
          have co7 := CollR.one co ((Fr.drewN Nothing _ _).trans' (Fr.alloc Nothing _ _)) o7 f7 n7
          clear co o7 f7 n7
          go_wp2_with (fail)
          go_roundg (l.length - (k + 1))
          case measure => omega
          case rel => exact ⟨k + 1, O ++ [x], true, by omega, rfl, by go_num, rfl, by simp; omega, HN, co7⟩
      | false =>
        have hOl : O.length ≤ k := hOl
        cases hlt2 : ltB x.user s.user with
        | true =>
          have he : ¬ x.user = s.user := fun e => by rw [e, ltB_irrefl] at hlt2; cases hlt2
          have hne : (x.user.toList == s.user.toList) = false := by rw [same_text, decide_eq_false he]
          have HN : Hid ((O ++ [x]) ++ insR DStep.user s.user s (l.drop (k + 1)) false = R) := Lib.hid (by rw [← hO]; simp [he, hlt2])
          rw [hlt2] at hq
          clear hO HO he hlt2
          go_wp2_with (fail)
          go_quiet ((go_at_call 30; exact hq.out _))
          go_wp2_with (fail)
          go_quiet (fail)
          go_wp2_with (at_builtin; go_must (refine wpList_append_fp rfl (.tmp 39) (.tmp 44) 38 rfl 59 i0 (.agg #[.string ByteArray.empty, .string ByteArray.empty, .string ByteArray.empty, .int .i64 0, .bool false, .bool false]) 6 72 Try.underlying38 Hi.out Hz0.out Hz1.out Hz2.out rfl (by decide) _ _ _ rfl ((co.drewN _).quiet (Fr.alloc Nothing _ _)).own _ 1 1 x.cells rfl rfl (by simp) (Sl.ofRow (Row.allocNew _ _ _)) (step_one _) (by (try simp only [List.length_append, List.length_cons, List.length_nil]); unfold maxLen; omega) (by (try simp only [List.length_append, List.length_cons, List.length_nil]); omega) ?_))
          intro v7 w7 o7 f7 n7 s7 _
          have co7 := CollR.one co ((Fr.drewN Nothing _ _).trans' (Fr.alloc Nothing _ _)) o7 f7 n7
          clear co o7 f7 n7
          go_wp2_with (fail)
          go_roundg (l.length - (k + 1))
          case measure => omega
          case rel => exact ⟨k + 1, O ++ [x], false, by omega, rfl, by go_num, rfl, by simp; omega, HN, co7⟩
        | false =>
          rw [hlt2] at hq
          by_cases he : x.user = s.user
          · have hne : (x.user.toList == s.user.toList) = true := by rw [same_text, decide_eq_true he]
            have HN : Hid ((O ++ [s]) ++ insR DStep.user s.user s (l.drop (k + 1)) true = R) := Lib.hid (by rw [← hO]; simp [he]; rw [he] at hlt2; rw [hlt2]; rfl)
            clear hO HO he hlt2
            go_wp2_with (fail)
            go_quiet ((go_at_call 30; exact hq.out _))
            go_wp2_with (at_builtin; go_must (refine wpList_append_fp rfl (.tmp 27) (.tmp 29) 38 rfl 59 i0 (.agg #[.string ByteArray.empty, .string ByteArray.empty, .string ByteArray.empty, .int .i64 0, .bool false, .bool false]) 6 72 Try.underlying38 Hi.out Hz0.out Hz1.out Hz2.out rfl (by decide) _ _ _ rfl ((co.drewN _).quiet (Fr.alloc Nothing _ _)).own _ 1 1 s.cells rfl rfl (by simp) (Sl.ofRow (Row.allocNew _ _ _)) (step_one _) (by (try simp only [List.length_append, List.length_cons, List.length_nil]); unfold maxLen; omega) (by (try simp only [List.length_append, List.length_cons, List.length_nil]); omega) ?_))
            intro v7 w7 o7 f7 n7 s7 _
            have co7 := CollR.one co ((Fr.drewN Nothing _ _).trans' (Fr.alloc Nothing _ _)) o7 f7 n7
            clear co o7 f7 n7 s7 s0 s1 s2 s3 s4 s5 c0 c1 c2 c3 c4 c5
            have hrow := HR.out.fr co7.fr (fun h => h)
            unfold DStep.cells at hrow
            have s0 := hrow.cell 0 rfl
            have s1 := hrow.cell 1 rfl
            have s2 := hrow.cell 2 rfl
            have s3 := hrow.cell 3 rfl
            have s4 := hrow.cell 4 rfl
            have s5 := hrow.cell 5 rfl
            clear hrow
            have hc := HC.out w7 (HL.out.fr co7.fr (fun _ _ h => h))
            have c0 : w7.cell? ⟨b1, o1 + k * 6, none⟩ = some (.string x.user) := hc 0 _ rfl
            have c1 : w7.cell? ⟨b1, o1 + k * 6 + 1, none⟩ = some (.string x.item.user) := hc 1 _ rfl
            have c2 : w7.cell? ⟨b1, o1 + k * 6 + 2, none⟩ = some (.string x.item.name) := hc 2 _ rfl
            have c3 : w7.cell? ⟨b1, o1 + k * 6 + 3, none⟩ = some (.int .i64 x.item.sub) := hc 3 _ rfl
            have c4 : w7.cell? ⟨b1, o1 + k * 6 + 4, none⟩ = some (.bool x.item.asked) := hc 4 _ rfl
            have c5 : w7.cell? ⟨b1, o1 + k * 6 + 5, none⟩ = some (.bool x.gone) := hc 5 _ rfl
            clear hc
            go_wp2_with (fail)
            go_quiet (fail)
            go_wp2_with (fail)
            go_roundg (l.length - (k + 1))
            case measure => omega
            case rel => exact ⟨k + 1, O ++ [s], true, by omega, rfl, by go_num, rfl, by simp; omega, HN, co7.quiet (Fr.drewN _ _ _)⟩
          · have hne : (x.user.toList == s.user.toList) = false := by rw [same_text, decide_eq_false he]
            have HN : Hid ((O ++ [s] ++ [x]) ++ insR DStep.user s.user s (l.drop (k + 1)) true = R) := Lib.hid (by rw [← hO]; simp [he, hlt2])
            clear hO HO he hlt2
            go_wp2_with (fail)
            go_quiet ((go_at_call 30; exact hq.out _))
            go_wp2_with (at_builtin; go_must (refine wpList_append_fp rfl (.tmp 27) (.tmp 29) 38 rfl 59 i0 (.agg #[.string ByteArray.empty, .string ByteArray.empty, .string ByteArray.empty, .int .i64 0, .bool false, .bool false]) 6 72 Try.underlying38 Hi.out Hz0.out Hz1.out Hz2.out rfl (by decide) _ _ _ rfl ((co.drewN _).quiet (Fr.alloc Nothing _ _)).own _ 1 1 s.cells rfl rfl (by simp) (Sl.ofRow (Row.allocNew _ _ _)) (step_one _) (by (try simp only [List.length_append, List.length_cons, List.length_nil]); unfold maxLen; omega) (by (try simp only [List.length_append, List.length_cons, List.length_nil]); omega) ?_))
            intro v7 w7 o7 f7 n7 s7 _
            have co7 := CollR.one co ((Fr.drewN Nothing _ _).trans' (Fr.alloc Nothing _ _)) o7 f7 n7
            clear co o7 f7 n7 s7 s0 s1 s2 s3 s4 s5 c0 c1 c2 c3 c4 c5
            have hrow := HR.out.fr co7.fr (fun h => h)
            unfold DStep.cells at hrow
            have s0 := hrow.cell 0 rfl
            have s1 := hrow.cell 1 rfl
            have s2 := hrow.cell 2 rfl
            have s3 := hrow.cell 3 rfl
            have s4 := hrow.cell 4 rfl
            have s5 := hrow.cell 5 rfl
            clear hrow
            have hc := HC.out w7 (HL.out.fr co7.fr (fun _ _ h => h))
            have c0 : w7.cell? ⟨b1, o1 + k * 6, none⟩ = some (.string x.user) := hc 0 _ rfl
            have c1 : w7.cell? ⟨b1, o1 + k * 6 + 1, none⟩ = some (.string x.item.user) := hc 1 _ rfl
            have c2 : w7.cell? ⟨b1, o1 + k * 6 + 2, none⟩ = some (.string x.item.name) := hc 2 _ rfl
            have c3 : w7.cell? ⟨b1, o1 + k * 6 + 3, none⟩ = some (.int .i64 x.item.sub) := hc 3 _ rfl
            have c4 : w7.cell? ⟨b1, o1 + k * 6 + 4, none⟩ = some (.bool x.item.asked) := hc 4 _ rfl
            have c5 : w7.cell? ⟨b1, o1 + k * 6 + 5, none⟩ = some (.bool x.gone) := hc 5 _ rfl
            clear hc
            go_wp2_with (fail)
            go_quiet (fail)
            go_wp2_with (at_builtin; go_must (refine wpList_append_fp rfl (.tmp 39) (.tmp 44) 38 rfl 59 i0 (.agg #[.string ByteArray.empty, .string ByteArray.empty, .string ByteArray.empty, .int .i64 0, .bool false, .bool false]) 6 72 Try.underlying38 Hi.out Hz0.out Hz1.out Hz2.out rfl (by decide) _ _ _ rfl ((co7.drewN _).quiet (Fr.alloc Nothing _ _)).own _ 1 1 x.cells rfl rfl (by simp) (Sl.ofRow (Row.allocNew _ _ _)) (step_one _) (by (try simp only [List.length_append, List.length_cons, List.length_nil]); unfold maxLen; omega) (by (try simp only [List.length_append, List.length_cons, List.length_nil]); omega) ?_))
            intro v8 w8 o8 f8 n8 s8 _
            have co8 := CollR.one (s := x) co7 ((Fr.drewN Nothing _ _).trans' (Fr.alloc Nothing _ _)) (by simpa using o8) f8 n8
            clear co7 o8 f8 n8
            go_wp2_with (fail)
            go_roundg (l.length - (k + 1))
            case measure => omega
            case rel => exact ⟨k + 1, O ++ [s] ++ [x], true, by omega, rfl, by go_num, rfl, by simp; omega, HN, co8⟩
    · obtain rfl : k = l.length := by omega
      have hO := HO.out
      rw [List.drop_length, insR] at hO
      cases d with
      | true =>
        have hOl : O.length ≤ l.length + 1 := hOl
        simp only [if_true, List.append_nil] at hO
        subst hO
        go_wp2_with (fail)
        go_ret
        exact ⟨_, rfl, co.over HF1.out⟩
      | false =>
        have hOl : O.length ≤ l.length := hOl
        simp only [Bool.false_eq_true, if_false] at hO
        subst hO
        go_wp2_with (at_builtin; go_must (refine wpList_append_fp rfl (.tmp 48) (.tmp 50) 38 rfl 59 i0 (.agg #[.string ByteArray.empty, .string ByteArray.empty, .string ByteArray.empty, .int .i64 0, .bool false, .bool false]) 6 72 Try.underlying38 Hi.out Hz0.out Hz1.out Hz2.out rfl (by decide) _ _ _ rfl (co.quiet (Fr.alloc Nothing _ _)).own _ 1 1 s.cells rfl rfl (by simp) (Sl.ofRow (Row.allocNew _ _ _)) (step_one _) (by (try simp only [List.length_append, List.length_cons, List.length_nil]); unfold maxLen; omega) (by (try simp only [List.length_append, List.length_cons, List.length_nil]); omega) ?_))
        intro v7 w7 o7 f7 n7 s7 _
        have co7 := CollR.one co (Fr.alloc Nothing _ _) o7 f7 n7
        go_wp2_with (fail)
        go_ret
        exact ⟨_, rfl, co7.over HF1.out⟩
end Go.Proofs.Ytfedaolpanncoaa
