/- The reference's Hint of a device that is new. -/
import Derived.Test.YtipkkhigcnhjdaaWakeRefH
namespace Go.Proofs.Ytipkkhigcnhjdaa
open Go.RowKit
section
variable {S : Nat → Prop} {w : World} {q : Nat} {qt : Int} {L : List RDev} {R : List ByteArray}
set_option maxHeartbeats 4000000 in
set_option maxRecDepth 100000 in
theorem ref_hint_new (k : ByteArray) (hk : k.size ≤ maxLen) (hk0 : k ≠ ByteArray.empty) (hnk : ∀ x ∈ L, x.name ≠ k) (hat : atOf L k = -1) (now : Int) (h0 : 0 ≤ now) (h9 : now ≤ 9223372036854775807) (hT : TimesOk L) (hsrt : Sorted L) (hsz : ∀ x ∈ L, x.name.size ≤ maxLen) (h : IsRef S w q qt L R) (hl : L.length < 64) (hR : R.length ≤ 90000) :
    Calls Try.prog 19 #[.pointer (some ⟨q, 0, none⟩), .string k, .int .i64 now] w fun e w' => e = .returned (.int .i64 0) ∧ RefGone S w q qt (insW L k) (calledR ⟨k, 1, false, 0⟩ R now qt) w' := by
  obtain ⟨i0, hi, hz0, hz1, hz2⟩ := info_parts infoRDev
  have Hz2 := Lib.hid hz2
  have Hz1 := Lib.hid hz1
  have Hz0 := Lib.hid hz0
  have Hi := Lib.hid hi
  have HT0 := Lib.hid hT
  have HI0 := Lib.hid h
  have HNk := Lib.hid hnk
  have HSo := Lib.hid hsrt
  have HSz := Lib.hid hsz
  have hkt : k.toList.isEmpty = false := text_cons hk0
  have hd0 : decide (now < 0) = false := by rw [decide_eq_false_iff_not]; omega
  have hl64 : decide ((64 : Int) ≤ L.length) = false := by rw [decide_eq_false_iff_not]; omega
  have hatc := ref_at k h
  rw [hat] at hatc
  have HA := Lib.hid hatc
  obtain ⟨vl, vr, hr1, hS⟩ := h
  obtain ⟨a, c, rfl, hle, hcm⟩ := hr1.own.shape
  have hc9 : (c : Int) ≤ 9223372036854775807 := by unfold maxLen at hcm; omega
  have c1 := hr1.head.cell 0 rfl
  have Hr0 := Lib.hid hr1
  have HS := Lib.hid hS
  clear hT hat hatc hnk hsrt hsz hz2 hz1 hz0 hi hr1 hS
  go_enter Try.func19, Try.ntmps19
  go_wp2_with (go_at_call 25; refine HA.out.mono ?_; rintro e w1 ⟨rfl, rfl⟩)
  go_loopw [7] (fun i wr => ∃ j : Nat, j ≤ L.length ∧ i = .int .i64 j ∧ (∃ m, wr = w.drewN m) ∧ Hid (∀ x ∈ L.drop j, nlt k x.name)) (fun i _ => (intOf i).toNat)
  case atStart => exact ⟨L.length, Nat.le_refl _, rfl, ⟨0, rfl⟩, Lib.hid (by simp)⟩
  case round =>
    obtain ⟨j, hj, rfl, ⟨m, rfl⟩, HA2⟩ := hrel
    obtain ⟨B, hB⟩ : ∃ B : Bool, B = decide (∃ h : j - 1 < L.length, 0 < j ∧ nlt k L[j - 1].name) := ⟨_, rfl⟩
    have HB := Lib.hid hB
    clear hB
    go_upto_region 8 with (fail)
    go_cut [44] (fun s wx => s = .bool B ∧ ∃ m2, wx = w.drewN m2)
    case first =>
      cases j with
      | zero =>
        obtain rfl : B = false := by rw [HB.out]; simp
        go_wp2_with (fail)
        go_meet
        case rel => exact ⟨rfl, m, rfl⟩
      | succ j =>
        have hjl : j < L.length := by omega
        have slv : Recs RDev.cells 4 w a L := ⟨RDev.len, by decide, Hr0.out.own.sl.2⟩
        obtain ⟨b, o, rfl, hcell⟩ := slv.at_ hjl
        obtain ⟨x, hx⟩ : ∃ x, x = L[j].name := ⟨_, rfl⟩
        have x0 : w.cell? ⟨b, o + j * 4, none⟩ = some (.string x) := by rw [hx]; exact hcell 0 _ rfl
        have hxs := HSz.out _ (List.getElem_mem hjl)
        rw [← hx] at hxs
        have hBx : B = aheadB k x := by
          rw [HB.out, aheadB_nlt, hx, decide_eq_decide]
          constructor
          · rintro ⟨h1, h2, h3⟩; exact h3
          · intro h3; exact ⟨by omega, by omega, h3⟩
        have hjI : (j : Int) < L.length := by omega
        have hLc : (L.length : Int) ≤ c := by omega
        have e0 : ((j + 1 : Nat) : Int) - 1 = (j : Int) := by omega
        clear hcell hx slv HB
        subst hBx
        go_wp2_with (go_at_call 29; refine (ref_ahead k x _ hk hxs).mono ?_; rintro e w3 ⟨rfl, m3, rfl⟩)
        go_meet
        case rel => exact ⟨rfl, m + m3, by simp⟩
    case rest =>
      obtain ⟨rfl, m2, rfl⟩ := hcut
      cases B with
      | true =>
        obtain ⟨h1, h2, h3⟩ := of_decide_eq_true HB.out.symm
        obtain ⟨j, rfl⟩ : ∃ j', j = j' + 1 := ⟨j - 1, by omega⟩
        have hjl : j < L.length := by omega
        have e0 : ((j + 1 : Nat) : Int) - 1 = (j : Int) := by omega
        have HA3 : Hid (∀ x ∈ L.drop j, nlt k x.name) := Lib.hid (fun x hx => by
          rw [List.drop_eq_getElem_cons hjl] at hx
          rcases List.mem_cons.1 hx with rfl | hx
          · exact h3
          · exact HA2.out x hx)
        clear h1 h2 h3
        go_wp2_with (fail)
        go_roundw
        case rel => exact ⟨j, by omega, by go_num, ⟨m2, rfl⟩, HA3⟩
        case measure => simp [intOf]
      | false =>
        have hB2 := of_decide_eq_false HB.out.symm
        have HIns : Hid (L.take j ++ [(⟨k, 1, false, 0⟩ : RDev)] ++ L.drop j = insW L k) := Lib.hid (insW_at HSo.out HNk.out hj HA2.out (by
          by_cases h0 : j = 0
          · exact .inl h0
          · exact .inr ⟨by omega, fun h => hB2 ⟨by omega, by omega, h⟩⟩))
        clear hB2 HB
        have Fq := Lib.hid (Fr.drewN Nothing w m2)
        obtain ⟨wq, hwq⟩ : ∃ wq, wq = w.drewN m2 := ⟨_, rfl⟩
        rw [← hwq] at Fq ⊢
        clear hwq c1
        have Hr := Lib.hid (Hr0.out.fr Fq.out (fun h => h) (fun _ _ h => h) (fun _ _ h => h))
        have c1 := Hr.out.head.cell 0 rfl
        have hjL : (j : Int) ≤ L.length := by omega
        have hjc0 : (j : Int) ≤ c := by omega
        have hLc0 : (L.length : Int) ≤ c := by omega
        have hXl : Hid ((L.take j).length = j) := Lib.hid (by rw [List.length_take]; omega)
        have hYl : Hid ((L.drop j).length = L.length - j) := Lib.hid (by rw [List.length_drop])
        obtain ⟨J, hJ⟩ : ∃ J, J = L.take j ++ [newR k] ++ L.drop j := ⟨_, rfl⟩
        have HJ := Lib.hid hJ
        have hJl : J.length = L.length + 1 := by rw [hJ, List.length_append, List.length_append, hXl.out, hYl.out]; simp; omega
        have hjJ : j < J.length := by omega
        have hJj : J[j] = newR k := by
          have h1 : J[j]? = some (newR k) := by
            rw [hJ, List.append_assoc, List.getElem?_append_right (by rw [hXl.out]; omega), hXl.out, Nat.sub_self]; rfl
          rw [List.getElem?_eq_getElem hjJ] at h1
          exact Option.some.inj h1
        have HJj := Lib.hid hJj
        have HJl := Lib.hid hJl
        clear hJ hJj hJl
        go_upto_region 10 with (fail)
        go_cut [] (fun wx => RefGone S wq q qt J R wx)
        case first =>
          rcases Hr.out.own.2 with ⟨hv, _⟩ | ⟨g, cap, cur, hv, _⟩
          · simp only [Value.slice.injEq] at hv
            obtain ⟨rfl, h00, rfl⟩ := hv
            obtain rfl : L = [] := List.eq_nil_of_length_eq_zero h00
            obtain rfl : j = 0 := by simpa using hj
            have c2 : wq.cell? ⟨q, 0, none⟩ = some (.slice none 0 0) := c1
            have ca := (Hr.out.head.fr (Fr.alloc Nothing wq (.cells #[.string k, .int .i64 0, .bool false, .int .i64 0] 52)) (fun h => h)).cell 0 rfl
            have KX : Hid (Sl wq.drew none []) := Lib.hid (Sl.nil _ _)
            have HJ2 : Hid (J = [newR k]) := Lib.hid (by rw [HJ.out]; rfl)
            clear hXl hYl c1
            go_wp2_with (fail)
            go_region_law
                  ((first
                    | (refine step_append_fp (w := wq.drew) (by rfl) (.const (.slice none 0 0)) (.tmp 53) 48 (by rfl) 52 i0 (.agg #[.string ByteArray.empty, .int .i64 0, .bool false, .int .i64 0]) 4 40 Try.underlying48 Hi.out Hz0.out Hz1.out Hz2.out rfl (by decide) (.slice none 0 0) 0 [] (by rfl) (Owns.nil _ _ _) none 0 0 [] (by rfl) rfl (fun _ => ⟨rfl, rfl⟩) KX.out (by simp) (by unfold maxLen; omega) (by omega) ?_
                       intro v7 w7 o7 f7 n7 s7 _
                       have G7 := Lib.hid (grow_step (Fr.drew Nothing wq) (fun k hk => by simp [InBlock, Value.ownBlock] at hk) f7 n7)
                       have FA := Lib.hid (G7.out.1.trans' (Fr.alloc Nothing w7 (.cells #[.string k, .int .i64 0, .bool false, .int .i64 0] 52)))
                       have O7 := Lib.hid (o7.fr (Fr.alloc Nothing w7 (.cells #[.string k, .int .i64 0, .bool false, .int .i64 0] 52)) (fun _ _ h => h))
                       have HS7 := Lib.hid (Sl.ofRow (Row.allocNew w7 [Value.string k, Value.int .i64 0, Value.bool false, Value.int .i64 0] 52))
                       have hc7 := (Hr.out.head.fr G7.out.1 (fun h => h)).cell 0 rfl
                       have hc7a := (Hr.out.head.fr FA.out (fun h => h)).cell 0 rfl
                       clear o7)
                    | (refine step_append_fp (w := wq.drew.alloc (.cells #[.string k, .int .i64 0, .bool false, .int .i64 0] 52)) (by rfl) (.const (.slice none 0 0)) (.tmp 53) 48 (by rfl) 52 i0 (.agg #[.string ByteArray.empty, .int .i64 0, .bool false, .int .i64 0]) 4 40 Try.underlying48 Hi.out Hz0.out Hz1.out Hz2.out rfl (by decide) (.slice none 0 0) 0 [] (by rfl) (Owns.nil _ _ _) none 0 0 [] (by rfl) rfl (fun _ => ⟨rfl, rfl⟩) (KX.out.fr (Fr.alloc Nothing _ _) (fun _ _ h => h)) (by simp) (by unfold maxLen; omega) (by omega) ?_
                       intro v7 w7 o7 f7 n7 s7 _
                       have G7 := Lib.hid (grow_step ((Fr.drew Nothing wq).trans' (Fr.alloc Nothing _ (.cells #[.string k, .int .i64 0, .bool false, .int .i64 0] 52))) (fun k hk => by simp [InBlock, Value.ownBlock] at hk) f7 n7)
                       have FA := Lib.hid G7.out.1
                       have O7 := Lib.hid o7
                       have HS7 := Lib.hid ((Sl.ofRow (Row.allocNew wq.drew [Value.string k, Value.int .i64 0, Value.bool false, Value.int .i64 0] 52)).fr f7.ofNil (fun _ _ h => h))
                       have hc7 := (Hr.out.head.fr G7.out.1 (fun h => h)).cell 0 rfl
                       clear o7)
                    | (refine step_append_fp (by rfl) (.tmp 54) (.tmp 57) 48 (by rfl) 52 i0 (.agg #[.string ByteArray.empty, .int .i64 0, .bool false, .int .i64 0]) 4 40 Try.underlying48 Hi.out Hz0.out Hz1.out Hz2.out rfl (by decide) v7 _ _ (by rfl) O7.out _ 1 1 [Value.string k, Value.int .i64 0, Value.bool false, Value.int .i64 0] (by rfl) rfl (by simp) HS7.out (by intro u hu; simp at hu; rcases hu with rfl | rfl | rfl | rfl <;> rfl) (by unfold maxLen; omega) (by omega) ?_
                       intro v8 w8 o8 f8 n8 s8 _
                       have G8 := Lib.hid (grow_step FA.out G7.out.2 f8 n8)
                       have O8 := Lib.hid o8
                       have hc8 := (Hr.out.head.fr G8.out.1 (fun h => h)).cell 0 rfl
                       clear o8)
                    | (refine step_append_fp (by rfl) (.tmp 58) (.tmp 64) 48 (by rfl) 52 i0 (.agg #[.string ByteArray.empty, .int .i64 0, .bool false, .int .i64 0]) 4 40 Try.underlying48 Hi.out Hz0.out Hz1.out Hz2.out rfl (by decide) v8 _ _ (by rfl) O8.out none 0 0 [] (by rfl) rfl (fun _ => ⟨rfl, rfl⟩) (Sl.nil _ _) (by simp) (by unfold maxLen; omega) (by omega) ?_
                       intro v9 w9 o9 f9 n9 s9 _
                       have G9 := Lib.hid (grow_step G8.out.1 G8.out.2 f9 n9)
                       have hd9 := Hr.out.head.fr G9.out.1 (fun h => h)
                       have hp9 := hd9.free 0
                       have hc9' := hd9.cell 0 rfl
                       clear hd9
                       have o9' : Owns w9 52 4 v9 ([newR k] : List RDev).length (([newR k] : List RDev).flatMap RDev.cells) := by
                         exact o9
                       clear o9
                       obtain ⟨a9, c9, rfl, _, _⟩ := o9'.shape)))
            all_goals go_wp2_with (fail)
            all_goals
              go_meet
              case rel => rw [HJ2.out]; exact Hr.out.relisted HS.out G9.out.1 G9.out.2 o9' (by simp)
          · simp only [Value.slice.injEq] at hv
            obtain ⟨rfl, -, rfl⟩ := hv
            have ca := (Hr.out.head.fr (Fr.alloc Nothing wq (.cells #[.string k, .int .i64 0, .bool false, .int .i64 0] 52)) (fun h => h)).cell 0 rfl
            have KX : Hid (Sl wq.drew (some ⟨g, 0, none⟩) ((L.take j).flatMap RDev.cells)) := Lib.hid ((show Recs RDev.cells 4 wq (some ⟨g, 0, none⟩) L from ⟨RDev.len, by decide, Hr.out.own.sl.2⟩).take j).2.2
            have KY : Hid (Sl wq _ ((L.drop j).flatMap RDev.cells)) := Lib.hid (sl_rest Hr.out.own.sl.2 (n := j) hj hle)
            have HnY : Hid ((if c = j then some (⟨g, 0, none⟩ : Addr) else some ⟨g, 0 + j * 4, none⟩) = none → L.length - j = 0 ∧ c - j = 0) := Lib.hid (fun h => by by_cases hcj : c = j <;> simp [hcj] at h)
            rw [Nat.zero_add] at KY HnY
            go_wp2_with (fail)
            go_region_law
                  ((first
                    | (refine step_append_fp (w := wq.drew) (by rfl) (.const (.slice none 0 0)) (.tmp 53) 48 (by rfl) 52 i0 (.agg #[.string ByteArray.empty, .int .i64 0, .bool false, .int .i64 0]) 4 40 Try.underlying48 Hi.out Hz0.out Hz1.out Hz2.out rfl (by decide) (.slice none 0 0) 0 [] (by rfl) (Owns.nil _ _ _) (some ⟨g, 0, none⟩) j c ((L.take j).flatMap RDev.cells) (by rfl) (by rw [rflat4, hXl.out]) (by simp) KX.out (rdev_one _) (by unfold maxLen; omega) (by omega) ?_
                       intro v7 w7 o7 f7 n7 s7 _
                       have G7 := Lib.hid (grow_step (Fr.drew Nothing wq) (fun k hk => by simp [InBlock, Value.ownBlock] at hk) f7 n7)
                       have FA := Lib.hid (G7.out.1.trans' (Fr.alloc Nothing w7 (.cells #[.string k, .int .i64 0, .bool false, .int .i64 0] 52)))
                       have O7 := Lib.hid (o7.fr (Fr.alloc Nothing w7 (.cells #[.string k, .int .i64 0, .bool false, .int .i64 0] 52)) (fun _ _ h => h))
                       have HS7 := Lib.hid (Sl.ofRow (Row.allocNew w7 [Value.string k, Value.int .i64 0, Value.bool false, Value.int .i64 0] 52))
                       have hc7 := (Hr.out.head.fr G7.out.1 (fun h => h)).cell 0 rfl
                       have hc7a := (Hr.out.head.fr FA.out (fun h => h)).cell 0 rfl
                       clear o7)
                    | (refine step_append_fp (w := wq.drew.alloc (.cells #[.string k, .int .i64 0, .bool false, .int .i64 0] 52)) (by rfl) (.const (.slice none 0 0)) (.tmp 53) 48 (by rfl) 52 i0 (.agg #[.string ByteArray.empty, .int .i64 0, .bool false, .int .i64 0]) 4 40 Try.underlying48 Hi.out Hz0.out Hz1.out Hz2.out rfl (by decide) (.slice none 0 0) 0 [] (by rfl) (Owns.nil _ _ _) (some ⟨g, 0, none⟩) j c ((L.take j).flatMap RDev.cells) (by rfl) (by rw [rflat4, hXl.out]) (by simp) (KX.out.fr (Fr.alloc Nothing _ _) (fun _ _ h => h)) (rdev_one _) (by unfold maxLen; omega) (by omega) ?_
                       intro v7 w7 o7 f7 n7 s7 _
                       have G7 := Lib.hid (grow_step ((Fr.drew Nothing wq).trans' (Fr.alloc Nothing _ (.cells #[.string k, .int .i64 0, .bool false, .int .i64 0] 52))) (fun k hk => by simp [InBlock, Value.ownBlock] at hk) f7 n7)
                       have FA := Lib.hid G7.out.1
                       have O7 := Lib.hid o7
                       have HS7 := Lib.hid ((Sl.ofRow (Row.allocNew wq.drew [Value.string k, Value.int .i64 0, Value.bool false, Value.int .i64 0] 52)).fr f7.ofNil (fun _ _ h => h))
                       have hc7 := (Hr.out.head.fr G7.out.1 (fun h => h)).cell 0 rfl
                       clear o7)
                    | (refine step_append_fp (by rfl) (.tmp 54) (.tmp 57) 48 (by rfl) 52 i0 (.agg #[.string ByteArray.empty, .int .i64 0, .bool false, .int .i64 0]) 4 40 Try.underlying48 Hi.out Hz0.out Hz1.out Hz2.out rfl (by decide) v7 _ _ (by rfl) O7.out _ 1 1 [Value.string k, Value.int .i64 0, Value.bool false, Value.int .i64 0] (by rfl) rfl (by simp) HS7.out (by intro u hu; simp at hu; rcases hu with rfl | rfl | rfl | rfl <;> rfl) (by unfold maxLen; omega) (by omega) ?_
                       intro v8 w8 o8 f8 n8 s8 _
                       have G8 := Lib.hid (grow_step FA.out G7.out.2 f8 n8)
                       have O8 := Lib.hid o8
                       have hc8 := (Hr.out.head.fr G8.out.1 (fun h => h)).cell 0 rfl
                       have KY8 := Lib.hid (KY.out.fr G8.out.1 (fun _ _ h => h))
                       clear o8)
                    | (refine step_append_fp (by rfl) (.tmp 58) (.tmp 64) 48 (by rfl) 52 i0 (.agg #[.string ByteArray.empty, .int .i64 0, .bool false, .int .i64 0]) 4 40 Try.underlying48 Hi.out Hz0.out Hz1.out Hz2.out rfl (by decide) v8 _ _ (by rfl) O8.out _ (L.length - j) _ ((L.drop j).flatMap RDev.cells) (by rfl) (by rw [rflat4, hYl.out]) HnY.out KY8.out (rdev_one _) (by unfold maxLen; omega) (by omega) ?_
                       intro v9 w9 o9 f9 n9 s9 _
                       have G9 := Lib.hid (grow_step G8.out.1 G8.out.2 f9 n9)
                       have hd9 := Hr.out.head.fr G9.out.1 (fun h => h)
                       have hp9 := hd9.free 0
                       have hc9' := hd9.cell 0 rfl
                       clear hd9
                       have o9' : Owns w9 52 4 v9 J.length (J.flatMap RDev.cells) := by
                         rw [HJ.out]
                         have e1 : (L.take j ++ [newR k] ++ L.drop j).length = 0 + j + 1 + (L.length - j) := by rw [List.length_append, List.length_append, hXl.out, hYl.out]; simp
                         rw [e1, List.flatMap_append, List.flatMap_append]
                         exact o9
                       clear o9
                       obtain ⟨a9, c9, rfl, _, _⟩ := o9'.shape)))
            all_goals go_wp2_with (fail)
            all_goals
              go_meet
              case rel => exact Hr.out.relisted HS.out G9.out.1 G9.out.2 o9' (by have := HJl.out; omega)
        case rest =>
          obtain ⟨S1, hI1, hg1, hf1⟩ := hcut
          have HI1 := Lib.hid hI1
          have Hg1 := Lib.hid hg1
          have Hf1 := Lib.hid hf1
          have HWt : Hid (0 ≤ J[j].waits ∧ J[j].waits ≤ 1000000) := Lib.hid (by rw [HJj.out]; simp [newR])
          have HT : Hid (TimesOk J) := Lib.hid (fun d hd => by
            rw [HJ.out] at hd
            rcases List.mem_append.1 hd with h1 | h1
            · rcases List.mem_append.1 h1 with h2 | h2
              · exact HT0.out d (List.mem_of_mem_take h2)
              · obtain rfl := List.mem_singleton.1 h2
                simp [newR]
            · exact HT0.out d (List.mem_of_mem_drop h1))
          have HJset : Hid (J.set j (moreD J[j]) = insW L k) := Lib.hid (by
            rw [← HIns.out, HJj.out, HJ.out, List.set_append_left _ _ (by simp [hXl.out]), List.set_append_right _ _ (by rw [hXl.out]; omega), hXl.out, Nat.sub_self]; rfl)
          clear hI1 hg1 hf1 c1
          have HM : Hid (moreD J[j] = ⟨k, 1, false, 0⟩ ∧ True) := Lib.hid ⟨by rw [HJj.out]; rfl, trivial⟩
          obtain ⟨vl1, vr1, hb1, hS1⟩ := HI1.out
          obtain ⟨al1, cl1, rfl, hl1, hm1⟩ := hb1.own.shape
          obtain ⟨gg, rfl⟩ : ∃ gg, al1 = some ⟨gg, 0, none⟩ := by
            rcases hb1.own.2 with ⟨h1, _⟩ | ⟨g', cap, cur, h1, _⟩
            · simp only [Value.slice.injEq] at h1; omega
            · simp only [Value.slice.injEq] at h1; exact ⟨g', h1.1⟩
          have x0 := hb1.head.cell 0 rfl
          have slv : Recs RDev.cells 4 wc (some ⟨gg, 0, none⟩) J := ⟨RDev.len, by decide, hb1.own.sl.2⟩
          obtain ⟨bz, oz, hz, hcz⟩ := slv.at_ hjJ
          obtain ⟨rfl, rfl⟩ : gg = bz ∧ 0 = oz := by simpa using hz
          have x1 : wc.cell? ⟨gg, j * 4 + 1, none⟩ = some (.int .i64 J[j].waits) := by have := hcz 1 _ rfl; simpa using this
          have hsum : IntKind.i64.wrap (J[j].waits + 1) = J[j].waits + 1 := IntWalk.i64_in _ (by have := HWt.out; omega)
          have hsum2 : wrap64 (J[j].waits + 1) = J[j].waits + 1 := IntWalk.wrap64_in _ (by have := HWt.out; omega)
          have DV := hb1.dev rfl hjJ (i := 1) (by omega) (v := .int .i64 (J[j].waits + 1)) (d := moreD J[j]) rfl
          have x2 := DV.2.1
          have hgS : S1 gg := (hS1 _).2 (.inr (.inl rfl))
          have I2 : IsRef S1 _ q qt (J.set j (moreD J[j])) R := ⟨_, vr1, DV.1, hS1⟩
          have F2 := DV.2.2.mono (fun k _ e => (show S1 k from e ▸ hgS))
          have HI2 := Lib.hid I2
          have HF2 := Lib.hid F2
          have hjc : (j : Int) < J.length := by omega
          have hJc : (J.length : Int) ≤ cl1 := by omega
          have hcl9 : (cl1 : Int) ≤ 9223372036854775807 := by unfold maxLen at hm1; omega
          have hj2 : j < (J.set j (moreD J[j])).length := by rw [List.length_set]; exact hjJ
          have hnm : (J.set j (moreD J[j]))[j] = moreD J[j] := by simp
          have hcall := ref_call j hj2 now h0 h9 (HT.out.set hjJ) HI2.out hR
          rw [hnm] at hcall
          have HCall := Lib.hid hcall
          clear hb1 slv hcz hz DV hgS I2 F2 hnm hcall hS1
          go_wp2_with (go_at_call 30; refine HCall.out.mono ?_; rintro e w5 ⟨rfl, G5⟩)
          go_ret
          rw [HJset.out, HM.out.1] at G5
          exact ⟨rfl, RefGone.over (Fq.out.mono (fun _ _ h => h.elim)) (RefGone.after Hg1.out Hf1.out (RefGone.over HF2.out G5))⟩
end
end Go.Proofs.Ytipkkhigcnhjdaa
