/- The reference's Awake. -/
import Derived.Test.YtipkkhigcnhjdaaWakeRefH
namespace Go.Proofs.Ytipkkhigcnhjdaa
open Go.RowKit
def awakeL (L : List RDev) (k : ByteArray) : List RDev := L.filter (fun d => decide (d.name ≠ k))
def awakeR (R : List ByteArray) (k : ByteArray) : List ByteArray := R.filter (fun y => decide (y ≠ k))
theorem awakeL_split {L : List RDev} {j : Nat} (hn : (L.map RDev.name).Nodup) (hj : j < L.length) : L.take j ++ L.drop (j + 1) = awakeL L L[j].name := by
  have e : L = L.take j ++ (L[j] :: L.drop (j + 1)) := by
    rw [← List.drop_eq_getElem_cons hj]; exact (List.take_append_drop j L).symm
  have hn2 := hn
  rw [e, List.map_append, List.map_cons, List.nodup_append] at hn2
  obtain ⟨_, g2, g3⟩ := hn2
  rw [List.nodup_cons] at g2
  have h1 : awakeL (L.take j) L[j].name = L.take j := List.filter_eq_self.2 fun x hx => by
    simp only [decide_eq_true_eq]
    exact fun e => g3 _ (List.mem_map_of_mem hx) _ (List.mem_cons_self ..) e
  have h2 : awakeL (L.drop (j + 1)) L[j].name = L.drop (j + 1) := List.filter_eq_self.2 fun x hx => by
    simp only [decide_eq_true_eq]
    exact fun e => g2.1 (e ▸ List.mem_map_of_mem hx)
  have h3 : awakeL L L[j].name = awakeL (L.take j) L[j].name ++ awakeL (L[j] :: L.drop (j + 1)) L[j].name := by
    unfold awakeL
    rw [← List.filter_append, ← e]
  rw [h3, h1, show awakeL (L[j] :: L.drop (j + 1)) L[j].name = awakeL (L.drop (j + 1)) L[j].name from List.filter_cons_of_neg (by simp), h2]
section
variable {S : Nat → Prop} {w : World} {q : Nat} {qt : Int} {L : List RDev} {R : List ByteArray}
theorem ref_awake_no (k : ByteArray) (hat : atOf L k = -1) (h : IsRef S w q qt L R) :
    Calls Try.prog 24 #[.pointer (some ⟨q, 0, none⟩), .string k] w fun e w' => e = .returned (.tuple #[]) ∧ w = w' := by
  have hatc := ref_at k h
  rw [hat] at hatc
  have HA := Lib.hid hatc
  clear hatc hat h
  go_enter Try.func24, Try.ntmps24
  go_wp2_with (go_at_call 25; refine HA.out.mono ?_; rintro e w1 ⟨rfl, rfl⟩)
  exact bodyPost_ret (v := .tuple #[]) (by simp [results, go_sem]) rfl ⟨rfl, rfl⟩
set_option maxHeartbeats 2000000 in
theorem ref_awake_yes (k : ByteArray) (j : Nat) (hj : j < L.length) (hjk : L[j].name = k) (hat : atOf L k = j) (hn : (L.map RDev.name).Nodup) (hl : L.length ≤ 64) (h : IsRef S w q qt L R) :
    Calls Try.prog 24 #[.pointer (some ⟨q, 0, none⟩), .string k] w fun e w' => e = .returned (.tuple #[]) ∧ RefGone S w q qt (awakeL L k) (awakeR R k) w' := by
  obtain ⟨i0, hi, hz0, hz1, hz2⟩ := info_parts infoRDev
  have Hz2 := Lib.hid hz2
  have Hz1 := Lib.hid hz1
  have Hz0 := Lib.hid hz0
  have Hi := Lib.hid hi
  obtain ⟨t0, ti, tz0, tz1, tz2⟩ := info_parts Try.infoText
  have Tz2 := Lib.hid tz2
  have Tz1 := Lib.hid tz1
  have Tz0 := Lib.hid tz0
  have Ti := Lib.hid ti
  have hatc := ref_at k h
  rw [hat] at hatc
  have HA := Lib.hid hatc
  have hsp := awakeL_split hn hj
  rw [hjk] at hsp
  have Hsp := Lib.hid hsp
  have H0 := Lib.hid h
  obtain ⟨vl, vr, hr, hS⟩ := h
  obtain ⟨a, c, rfl, hle, hcm⟩ := hr.own.shape
  obtain ⟨g, rfl⟩ : ∃ g, a = some ⟨g, 0, none⟩ := by
    rcases hr.own.2 with ⟨h1, _⟩ | ⟨g', cap, cur, h1, _⟩
    · simp only [Value.slice.injEq] at h1; omega
    · simp only [Value.slice.injEq] at h1; exact ⟨g', h1.1⟩
  have hc9 : (c : Int) ≤ 9223372036854775807 := by unfold maxLen at hcm; omega
  have Hr := Lib.hid hr
  have HS := Lib.hid hS
  have k0 : w.cell? ⟨q, 0, none⟩ = some (.slice (some ⟨g, 0, none⟩) L.length c) := hr.head.cell 0 rfl
  have KX : Hid (Sl w.drew (some ⟨g, 0, none⟩) ((L.take j).flatMap RDev.cells)) := Lib.hid ((show Recs RDev.cells 4 w (some ⟨g, 0, none⟩) L from ⟨RDev.len, by decide, hr.own.sl.2⟩).take j).2.2
  have KY : Hid (Sl w.drew _ ((L.drop (j + 1)).flatMap RDev.cells)) := Lib.hid (sl_rest hr.own.sl.2 (n := j + 1) hj hle)
  have hXl : Hid ((L.take j).length = j) := Lib.hid (by rw [List.length_take]; omega)
  have hYl : Hid ((L.drop (j + 1)).length = L.length - (j + 1)) := Lib.hid (by rw [List.length_drop])
  have HnY : Hid ((if c = j + 1 then some (⟨g, 0, none⟩ : Addr) else some ⟨g, 0 + (j + 1) * 4, none⟩) = none → L.length - (j + 1) = 0 ∧ c - (j + 1) = 0) := Lib.hid (fun h => by by_cases hcj : c = j + 1 <;> simp [hcj] at h)
  rw [Nat.zero_add] at KY HnY
  have e1 : IntKind.i64.wrap ((j : Int) + 1) = ((j + 1 : Nat) : Int) := by rw [IntWalk.i64_in _ (by omega)]; omega
  have e2 : ((j + 1 : Nat) : Int) ≤ c := by omega
  have e3 : ((j + 1 : Nat) : Int) ≤ L.length := by omega
  have e4 : (0 : Int) ≤ (j : Int) + 1 := by omega
  have e5 : (j : Int) ≤ c := by omega
  have e6 : (L.length : Int) ≤ c := by omega
  have e7 : (j : Int) + 1 ≤ L.length := by omega
  have HnN := Lib.hid hn
  clear hsp hjk hr hS hat hatc hn hz2 hz1 hz0 hi tz2 tz1 tz0 ti
  go_enter Try.func24, Try.ntmps24
  go_upto_region 2 with (go_at_call 25; refine HA.out.mono ?_; rintro e w1 ⟨rfl, rfl⟩)
  go_cut [] (fun wx => RefGone S w q qt (awakeL L k) R wx)
  case first =>
    go_region_law
      ((first
        | (refine step_append_fp (by rfl) (.const (.slice none 0 0)) (.tmp 18) 48 (by rfl) 52 i0 (.agg #[.string ByteArray.empty, .int .i64 0, .bool false, .int .i64 0]) 4 40 Try.underlying48 Hi.out Hz0.out Hz1.out Hz2.out rfl (by decide) (.slice none 0 0) 0 [] (by rfl) (Owns.nil _ _ _) (some ⟨g, 0, none⟩) j c ((L.take j).flatMap RDev.cells) (by rfl) (by rw [rflat4, hXl.out]) (by simp) KX.out (rdev_one _) (by unfold maxLen; omega) (by omega) ?_
           intro v7 w7 o7 f7 n7 s7 _
           have G7 := Lib.hid (grow_step (Fr.drew Nothing w) (fun k hk => by simp [InBlock, Value.ownBlock] at hk) f7 n7)
           have kY7 := Lib.hid (KY.out.fr f7.ofNil (fun _ _ h => h))
           have hc7 := (Hr.out.head.fr G7.out.1 (fun h => h)).cell 0 rfl)
        | (refine step_append_fp (by rfl) (.tmp 19) (.tmp 26) 48 (by rfl) 52 i0 (.agg #[.string ByteArray.empty, .int .i64 0, .bool false, .int .i64 0]) 4 40 Try.underlying48 Hi.out Hz0.out Hz1.out Hz2.out rfl (by decide) v7 _ _ (by rfl) o7 _ (L.length - (j + 1)) _ ((L.drop (j + 1)).flatMap RDev.cells) (by rfl) (by rw [rflat4, hYl.out]) HnY.out kY7.out (rdev_one _) (by unfold maxLen; omega) (by omega) ?_
           intro v8 w8 o8 f8 n8 s8 _
           have G8 := Lib.hid (grow_step G7.out.1 G7.out.2 f8 n8)
           have hd8 := Hr.out.head.fr G8.out.1 (fun h => h)
           have hp8 := hd8.free 0
           have hc8 := hd8.cell 0 rfl
           clear hd8
           have o8' : Owns w8 52 4 v8 (awakeL L k).length ((awakeL L k).flatMap RDev.cells) := by
             have e1 : (awakeL L k).length = 0 + j + (L.length - (j + 1)) := by rw [← Hsp.out, List.length_append, hXl.out, hYl.out]; omega
             rw [e1, ← Hsp.out, List.flatMap_append]
             exact o8
           clear o8
           obtain ⟨a8, c8, rfl, _, _⟩ := o8'.shape)))
    all_goals go_wp2_with (fail)
    all_goals
      go_meet
      case rel => exact Hr.out.relisted HS.out G8.out.1 G8.out.2 o8' (Nat.le_trans (List.length_filter_le _ _) (by omega))
  case rest =>
    obtain ⟨S1, hI1, hg1, hf1⟩ := hcut
    have HI1 := Lib.hid hI1
    have Hg1 := Lib.hid hg1
    have Hf1 := Lib.hid hf1
    obtain ⟨vl1, vr1, hb1, hS1⟩ := hI1
    obtain ⟨ar, cr, rfl, hrl, hrm⟩ := hb1.row.shape
    have HB := Lib.hid hb1
    have HS1 := Lib.hid hS1
    have hlr := hb1.lr
    have hcr9 : (cr : Int) ≤ 9223372036854775807 := by unfold maxLen at hrm; omega
    clear hb1 hS1 hg1 hf1 k0 KX KY HnY e1 e2 e3 e4 e5 e6 e7
    go_wp2_with (fail)
    go_loopg [5, 6] R.length (fun g' ov i wr => ∃ m : Nat, m ≤ R.length ∧ g' = R.length - m ∧ i = .int .i64 m ∧ Hid (CollE wc 9 1 ov (awakeR (R.take m) k).length ((awakeR (R.take m) k).map Value.string) wr))
    case atStart => exact ⟨0, Nat.zero_le _, rfl, rfl, Lib.hid (CollE.start _ _ _)⟩
    case round =>
      obtain ⟨m, hm, rfl, rfl, HX⟩ := hrel
      have HBr := Lib.hid (HB.out.fr HX.out.fr (fun h => h) (fun _ _ h => h) (fun _ _ h => h))
      have k1 := HBr.out.head.cell 1 rfl
      by_cases hlt : m < R.length
      · have hmI : (m : Int) < R.length := by omega
        have hRc : (R.length : Int) ≤ cr := by omega
        obtain ⟨b1, o1, rfl, c0⟩ := Sl.oneCell (j := m) (v := .string R[m]) HBr.out.row.sl.2 (by simp [hlt])
        obtain ⟨x, hx⟩ : ∃ x, x = R[m] := ⟨_, rfl⟩
        rw [← hx] at c0
        have hstep : awakeR (R.take (m + 1)) k = if x = k then awakeR (R.take m) k else awakeR (R.take m) k ++ [x] := by
          unfold awakeR
          rw [List.take_succ_eq_append_getElem hlt, List.filter_append, ← hx]
          by_cases e : x = k
          · simp [e]
          · simp [e]
        have HStep := Lib.hid hstep
        have hal : (awakeR (R.take m) k).length ≤ 100000 := by
          have h1 := List.length_filter_le (fun y => decide (y ≠ k)) (R.take m)
          have h2 : (R.take m).length ≤ m := by rw [List.length_take]; omega
          unfold awakeR; omega
        clear hx hstep
        by_cases he : x = k
        · have hd : (x.toList == k.toList) = true := by rw [same_text, decide_eq_true he]
          go_wp2_with (fail)
          go_roundg (R.length - (m + 1))
          case measure => omega
          case rel => exact ⟨m + 1, by omega, rfl, by go_num, by rw [HStep.out, if_pos he]; exact HX⟩
        · have hd : (x.toList == k.toList) = false := by rw [same_text, decide_eq_false he]
          go_wp2_with (at_builtin; go_must (refine wpList_append_fp rfl (.tmp 48) (.tmp 56) 22 rfl 9 t0 (.string ByteArray.empty) 1 16 Try.underlying22 Ti.out Tz0.out Tz1.out Tz2.out rfl (by decide) u5 _ _ rfl (HX.out.own.fr (Fr.alloc Nothing _ _) (fun _ _ h => h)) _ 1 1 [Value.string x] rfl rfl (by simp) (Sl.ofRow (Row.allocNew _ _ _)) (by intro u hu; simp at hu; rw [hu]; rfl) (by unfold maxLen; omega) (by omega) ?_); intro v7 w7 o7 f7 n7 s7 _; have P7 := HX.out.more (Fr.alloc Nothing _ _) o7 f7 n7)
          go_roundg (R.length - (m + 1))
          case measure => omega
          case rel => exact ⟨m + 1, by omega, rfl, by go_num, by rw [HStep.out, if_neg he]; exact Lib.hid (by simpa using P7)⟩
      · obtain rfl : m = R.length := by omega
        have k2 := HBr.out.head.free 1
        have hX := HX.out
        rw [List.take_length] at hX
        have G := HB.out.rowed (S := S1) HS1.out (HX.out.fr.mono (fun _ _ h => h.elim)) (R2 := awakeR R k) hX.own (fun k hk => .inr (hX.new k hk)) (Nat.le_trans (List.length_filter_le _ _) hlr)
        have GG := Lib.hid G.2
        obtain ⟨a5, c5, rfl, _, _⟩ := hX.own.shape
        clear hX G
        go_wp2_with (fail)
        go_end0
        exact ⟨rfl, RefGone.after Hg1.out Hf1.out GG.out⟩
end
end Go.Proofs.Ytipkkhigcnhjdaa
