/- A list with steps, as the document's answer makes it. Condition: the texts' lengths. -/
import Derived.Test.YtfedaolpanncoaaDigRight
namespace Go.Proofs.Ytfedaolpanncoaa
open Go.RowKit

theorem item_one (s : Item) : ∀ u ∈ s.cells, u.oneCell' = true := by
  intro u hu
  simp only [Item.cells, List.mem_cons, List.not_mem_nil, or_false] at hu
  rcases hu with rfl | rfl | rfl | rfl <;> rfl
theorem all_items_one (l : List Item) : ∀ u ∈ l.flatMap Item.cells, u.oneCell' = true := by
  intro u hu
  obtain ⟨x, _, hx⟩ := List.mem_flatMap.1 hu
  exact item_one x u hx
theorem items_size (l : List Item) : (l.flatMap Item.cells).length = l.length * 4 := by
  induction l with
  | nil => rfl
  | cons x l ih => rw [List.flatMap_cons, List.length_append, ih, Item.len, List.length_cons]; omega
abbrev CollI (w : World) (v : Value) (O : List Item) (wr : World) : Prop := CollE w 27 4 v O.length (O.flatMap Item.cells) wr
theorem CollI.one {w wr w0 w7 : World} {v v7 : Value} {O : List Item} {s : Item} (h : CollI w v O wr) (F : Fr Nothing wr w0) (o : Owns w7 27 4 v7 (O.length + 1) (O.flatMap Item.cells ++ s.cells)) (f : Fr (InBlock v) w0 w7) (nn : NewOr w0 v v7) : CollI w v7 (O ++ [s]) w7 := by
  have := CollE.more h F o f nn
  simpa [CollI] using this
theorem made_step {l : List Item} {t : List DStep} {s : DStep} {O : List Item} (h : ListedI (makeF l t) O) (ho : oddB s = false) : ListedI (makeF l (t ++ [s])) (insR Item.user s.user s.item O s.gone) := by
  have := listed_step h ho
  unfold makeF at this ⊢
  rw [List.foldl_append]
  exact this
theorem texts_ne {x : ByteArray} (h : x ≠ ByteArray.empty) : ¬ x.toList = [] := fun e => h (text_eq.1 (e.trans (by simp)))
theorem texts_ne2 {x : ByteArray} (h : x ≠ ByteArray.empty) : (x.toList == []) = false := by rw [beq_eq_false_iff_ne]; exact texts_ne h
theorem odd_no {s : DStep} (h : oddB s = false) : if s.gone = true then sameB s.item noItem = true else s.item.user = s.user := by
  unfold oddB at h
  cases hg : s.gone <;> simp [hg] at h ⊢ <;> exact h
theorem odd_yes {s : DStep} (h : oddB s = true) : if s.gone = true then sameB s.item noItem = false else ¬ s.item.user = s.user := by
  unfold oddB at h
  cases hg : s.gone <;> simp [hg] at h ⊢ <;> exact h
set_option maxRecDepth 100000 in
set_option maxHeartbeats 8000000 in
theorem ref_make (a b : Option Addr) (ca cb : Nat) (l : List Item) (s : List DStep) (w : World) (hA : Items w a l) (hB : Steps w b s) (la : l.length ≤ 400) (lb : s.length ≤ 400) (na : a = none → l.length = 0 ∧ ca = 0) (fa : ∀ x ∈ l, x.user.size ≤ maxLen) (fb : ∀ x ∈ s, x.user.size ≤ maxLen) :
    Calls Try.prog 17 #[.slice a l.length ca, .slice b s.length cb] w fun e w' => ∃ v xs, e = .returned v ∧ (riseB l = true → s.any oddB = false → ListedI (makeF l s) xs) ∧ ((riseB l = false ∨ s.any oddB = true) → xs = []) ∧ CollI w v xs w' := by
  obtain ⟨i0, hi, hz0, hz1, hz2⟩ := info_parts Try.infoItemV
  have hp27 : Try.prog.stoodInHeld 27 = false := by kernel_rfl
  have hg27 : Try.prog.eqGuardType Try.prog.depth 27 = false := by kernel_rfl
  have Hz2 := Lib.hid hz2
  have Hz1 := Lib.hid hz1
  have Hz0 := Lib.hid hz0
  have Hi := Lib.hid hi
  have HA := Lib.hid hA
  have HB := Lib.hid hB
  have FA := Lib.hid fa
  have FB := Lib.hid fb
  have NA := Lib.hid na
  clear hi hz0 hz1 hz2 hA hB fa fb na
  go_enter Try.func17, Try.ntmps17
  go_wp2_with (fail)
  refine (ref_right a ca l w HA.out (by omega) FA.out).mono ?_
  rintro e w1 ⟨rfl, n1, rfl⟩
  have F1 : Fr Nothing w (w.drewN n1) := Fr.drewN _ _ _
  obtain ⟨w1, hw1⟩ : ∃ w1, w1 = w.drewN n1 := ⟨_, rfl⟩
  rw [← hw1] at F1 ⊢
  clear hw1
  have HA1 := Lib.hid (HA.out.fr F1 (fun _ _ h => h))
  cases hr : riseB l with
  | false =>
    have HR := Lib.hid hr
    clear hr
    go_wp2_with (fail)
    go_ret
    exact ⟨_, [], rfl, (fun h => by rw [HR.out] at h; cases h), fun _ => rfl, CollE.quiet (CollE.start _ _ _) F1⟩
  | true =>
    have HR := Lib.hid hr
    have co0 : CollI w1 (.slice none 0 0) [] w1 := CollE.start _ _ _
    clear hr
    go_wp2_with (at_builtin; go_must (refine wpList_append_fp rfl (.const (.slice none 0 0)) (.tmp 13) 22 rfl 27 i0 (.agg #[.string ByteArray.empty, .string ByteArray.empty, .int .i64 0, .bool false]) 4 48 Try.underlying22 Hi.out Hz0.out Hz1.out Hz2.out rfl (by decide) _ _ _ rfl (co0).own _ l.length ca (l.flatMap Item.cells) rfl (items_size l) (by exact NA.out) HA1.out.2.2 (all_items_one l) (by rw [List.length_nil]; unfold maxLen; omega) (by rw [List.length_nil]; omega) ?_))
    intro v7 w7 o7 f7 n7 s7 _
    have co7 : CollI w v7 l w7 := by
      have h := CollE.more (m := l.length) (ys := l.flatMap Item.cells) co0 (Fr.refl _ _) (by simpa using o7) f7 n7
      exact CollE.over (by simpa using h) F1
    have L0 : Hid (ListedI (makeF l (s.take 0)) l) := Lib.hid (by rw [List.take_zero]; unfold makeF; rw [List.foldl_nil, look_find (riseB_pw.1 HR.out)]; exact listed_find (riseB_pw.1 HR.out))
    clear co0 o7 f7 n7 s7
    go_wp2_with (fail)
    go_loopg [5, 6] s.length (fun g v i wr => ∃ (k : Nat) (O : List Item), k ≤ s.length ∧ g = s.length - k ∧ i = .int .i64 k ∧ O.length ≤ l.length + k ∧ Hid ((s.take k).any oddB = false) ∧ Hid (ListedI (makeF l (s.take k)) O) ∧ CollI w v O wr)
    case atStart => exact ⟨0, l, Nat.zero_le _, rfl, rfl, Nat.le_refl _, Lib.hid rfl, L0, co7⟩
    case round =>
      clear co7 L0
      obtain ⟨k, O, hk, rfl, rfl, hOl, HN, HL, co⟩ := hrel
      obtain ⟨a7, c7, rfl, h7', _, _⟩ := coll_items co
      by_cases hlt : k < s.length
      · obtain ⟨b1, o1, rfl, hc⟩ := (HB.out.fr co.fr (fun _ _ h => h)).at_ hlt
        have HNx : oddB s[k] = false → (s.take (k + 1)).any oddB = false := fun h => by rw [List.take_succ_eq_append_getElem hlt, List.any_append, HN.out]; simp [h]
        have HLx : oddB s[k] = false → ListedI (makeF l (s.take (k + 1))) (insR Item.user s[k].user s[k].item O s[k].gone) := fun h => by rw [List.take_succ_eq_append_getElem hlt]; exact made_step HL.out h
        have hys := FB.out s[k] (List.getElem_mem hlt)
        have hyo : oddB s[k] = true → s.any oddB = true := fun h => List.any_eq_true.2 ⟨_, List.getElem_mem hlt, h⟩
        obtain ⟨y, hy⟩ : ∃ y, y = s[k] := ⟨_, rfl⟩
        rw [← hy] at hc HNx HLx hys hyo
        have HC : Hid (∀ W : World, Steps W (some ⟨b1, o1, none⟩) s → ∀ j v, y.cells[j]? = some v → W.cell? ⟨b1, o1 + k * 6 + j, none⟩ = some v) := Lib.hid (fun W hW j v hj => by
          obtain ⟨b', o', hab, hc'⟩ := hW.at_ hlt
          cases hab
          exact hc' j v (by rw [← hy]; exact hj))
        have HYS := Lib.hid hys
        have HNX := Lib.hid HNx
        have HLX := Lib.hid HLx
        have HYO := Lib.hid hyo
        have H7 := Lib.hid h7'
        have HFO : Hid (∀ x ∈ O, x.user.size ≤ maxLen) := Lib.hid (fun x hx => by
          rcases List.mem_append.1 (makeF_user ((HL.out.mem x).1 hx)) with h1 | h1
          · obtain ⟨z, hz, e⟩ := List.mem_map.1 h1
            rw [← e]; exact FA.out z hz
          · obtain ⟨z, hz, e⟩ := List.mem_map.1 h1
            rw [← e]; exact FB.out z (List.mem_of_mem_take hz))
        have c0 : wr.cell? ⟨b1, o1 + k * 6, none⟩ = some (.string y.user) := hc 0 _ rfl
        have c1 : wr.cell? ⟨b1, o1 + k * 6 + 1, none⟩ = some (.string y.item.user) := hc 1 _ rfl
        have c2 : wr.cell? ⟨b1, o1 + k * 6 + 2, none⟩ = some (.string y.item.name) := hc 2 _ rfl
        have c3 : wr.cell? ⟨b1, o1 + k * 6 + 3, none⟩ = some (.int .i64 y.item.sub) := hc 3 _ rfl
        have c4 : wr.cell? ⟨b1, o1 + k * 6 + 4, none⟩ = some (.bool y.item.asked) := hc 4 _ rfl
        have c5 : wr.cell? ⟨b1, o1 + k * 6 + 5, none⟩ = some (.bool y.gone) := hc 5 _ rfl
        have hkI : (k : Int) < s.length := by omega
        clear hc hy hys HNx HLx hyo h7'
        obtain ⟨R, hR⟩ : ∃ R, R = insR Item.user y.user y.item O y.gone := ⟨_, rfl⟩
        have HRR : Hid (([] : List Item) ++ insR Item.user y.user y.item (O.drop 0) y.gone = R) := Lib.hid (by rw [hR]; rfl)
        rw [← hR] at HLX
        clear hR
        cases ho : oddB y with
        | true =>
          have HO := Lib.hid ho
          have HW := Lib.hid (odd_yes ho)
          clear ho
          have co9 : CollI w (.slice none 0 0) [] wr := CollE.quiet (CollE.start _ _ _) co.fr
          cases hg : y.gone with
          | true =>
            rw [hg] at HW c5
            have hs := HW.out
            rw [if_pos rfl] at hs
            have hq4 : y.item.user ≠ ByteArray.empty ∨ y.item.user = ByteArray.empty ∧ (y.item.name ≠ ByteArray.empty ∨ y.item.name = ByteArray.empty ∧ (y.item.sub ≠ 0 ∨ y.item.sub = 0 ∧ y.item.asked = true)) := by
              by_cases h1 : y.item.user = ByteArray.empty
              · refine .inr ⟨h1, ?_⟩
                by_cases h2 : y.item.name = ByteArray.empty
                · refine .inr ⟨h2, ?_⟩
                  by_cases h3 : y.item.sub = 0
                  · refine .inr ⟨h3, ?_⟩
                    cases h4 : y.item.asked with
                    | true => rfl
                    | false =>
                      have : y.item = noItem := by
                        rcases hyi : y.item with ⟨p, q, r, z⟩
                        rw [hyi] at h1 h2 h3 h4
                        simp only at h1 h2 h3 h4
                        subst h1 h2 h3 h4
                        rfl
                      rw [this, (sameB_iff _ _).2 rfl] at hs
                      cases hs
                  · exact .inl h3
                · exact .inl h2
              · exact .inl h1
            clear hs hg
            rcases hq4 with h1 | ⟨h1, h0 | ⟨h2, h0 | ⟨h3, h4⟩⟩⟩
            · have g1 := texts_ne h1
              have g2 := texts_ne2 h1
              clear h1
              go_wp2_with (fail)
              go_quiet (fail)
              go_wp2_with (fail)
              go_ret
              exact ⟨_, [], rfl, (fun _ h => by rw [HYO.out HO.out] at h; cases h), fun _ => rfl, co9.drewN _⟩
            · rw [h1] at c1
              have g1 := texts_ne h0
              have g2 := texts_ne2 h0
              clear h1 h0
              go_wp2_with (fail)
              go_quiet (fail)
              go_wp2_with (fail)
              go_ret
              exact ⟨_, [], rfl, (fun _ h => by rw [HYO.out HO.out] at h; cases h), fun _ => rfl, co9.drewN _⟩
            · rw [h1] at c1
              rw [h2] at c2
              have g1 : ¬ y.item.sub = 0 := h0
              clear h1 h2 h0
              go_wp2_with (fail)
              go_quiet (fail)
              go_wp2_with (fail)
              go_ret
              exact ⟨_, [], rfl, (fun _ h => by rw [HYO.out HO.out] at h; cases h), fun _ => rfl, co9.drewN _⟩
            · rw [h1] at c1
              rw [h2] at c2
              rw [h3] at c3
              rw [h4] at c4
              clear h1 h2 h3 h4
              go_wp2_with (fail)
              go_quiet (fail)
              go_wp2_with (fail)
              go_ret
              exact ⟨_, [], rfl, (fun _ h => by rw [HYO.out HO.out] at h; cases h), fun _ => rfl, co9.drewN _⟩
          | false =>
            rw [hg] at HW c5
            have he := HW.out
            rw [if_neg (by simp)] at he
            have hne : (y.item.user.toList == y.user.toList) = false := by rw [same_text, decide_eq_false he]
            clear he hg
            go_wp2_with (fail)
            go_quiet (fail)
            go_wp2_with (fail)
            go_ret
            exact ⟨_, [], rfl, (fun _ h => by rw [HYO.out HO.out] at h; cases h), fun _ => rfl, co9.drewN _⟩
        | false =>
          have HO := Lib.hid ho
          have HW := Lib.hid (odd_no ho)
          clear ho
          cases hg : y.gone with
          | true =>
            rw [hg] at HW HRR c5
            have hs := HW.out
            rw [if_pos rfl] at hs
            have hsi := (sameB_iff _ _).1 hs
            rw [hsi] at c1 c2 c3 c4
            simp only [noItem] at c1 c2 c3 c4
            have HG := Lib.hid hg
            have HSI := Lib.hid hsi
            clear hs hg hsi
            go_wp2_with (fail)
            go_quiet (fail)
            obtain ⟨V, hV⟩ : ∃ V, V = wr.drewN nq := ⟨_, rfl⟩
            have FV : Fr Nothing wr V := by rw [hV]; exact Fr.drewN _ _ _
            rw [← hV]
            have FWV : Fr Nothing w V := co.fr.trans' FV
            have H7V := Lib.hid (H7.out.fr FV (fun _ _ h => h))
            clear co H7 c0 c1 c2 c3 c4 c5 hV FV
            have hy1 := HC.out V (HB.out.fr FWV (fun _ _ h => h))
            have p0 : V.cell? ⟨b1, o1 + k * 6, none⟩ = some (.string y.user) := hy1 0 _ rfl
            have p1 : V.cell? ⟨b1, o1 + k * 6 + 1, none⟩ = some (.string y.item.user) := hy1 1 _ rfl
            have p2 : V.cell? ⟨b1, o1 + k * 6 + 2, none⟩ = some (.string y.item.name) := hy1 2 _ rfl
            have p3 : V.cell? ⟨b1, o1 + k * 6 + 3, none⟩ = some (.int .i64 y.item.sub) := hy1 3 _ rfl
            have p4 : V.cell? ⟨b1, o1 + k * 6 + 4, none⟩ = some (.bool y.item.asked) := hy1 4 _ rfl
            have p5 : V.cell? ⟨b1, o1 + k * 6 + 5, none⟩ = some (.bool y.gone) := hy1 5 _ rfl

            clear hy1
            rw [HG.out] at p5
            go_wp2_with (fail)
            go_loopg [7, 8, 9] O.length (fun g v dd i wr2 => ∃ (j : Nat) (N : List Item) (d : Bool), j ≤ O.length ∧ g = O.length - j ∧ i = .int .i64 j ∧ dd = .bool d ∧ N.length ≤ j + d.toNat ∧ Hid (N ++ insR Item.user y.user y.item (O.drop j) d = R) ∧ CollI V v N wr2)
            case atStart => exact ⟨0, [], true, Nat.zero_le _, rfl, rfl, rfl, by simp, HRR, CollE.start _ _ _⟩
            case round =>
              clear HRR p0 p1 p2 p3 p4 p5
              obtain ⟨j, N, d, hj, rfl, rfl, rfl, hNl, HI, co2⟩ := hrel
              have hy1 := HC.out wr (HB.out.fr (FWV.trans' co2.fr) (fun _ _ h => h))
              have p0 : wr.cell? ⟨b1, o1 + k * 6, none⟩ = some (.string y.user) := hy1 0 _ rfl
              have p1 : wr.cell? ⟨b1, o1 + k * 6 + 1, none⟩ = some (.string y.item.user) := hy1 1 _ rfl
              have p2 : wr.cell? ⟨b1, o1 + k * 6 + 2, none⟩ = some (.string y.item.name) := hy1 2 _ rfl
              have p3 : wr.cell? ⟨b1, o1 + k * 6 + 3, none⟩ = some (.int .i64 y.item.sub) := hy1 3 _ rfl
              have p4 : wr.cell? ⟨b1, o1 + k * 6 + 4, none⟩ = some (.bool y.item.asked) := hy1 4 _ rfl
              have p5 : wr.cell? ⟨b1, o1 + k * 6 + 5, none⟩ = some (.bool y.gone) := hy1 5 _ rfl
              clear hy1
              by_cases hlt2 : j < O.length
              · obtain ⟨b2, o2, rfl, hx⟩ := (H7V.out.fr co2.fr (fun _ _ h => h)).at_ hlt2
                have hxs := HFO.out O[j] (List.getElem_mem hlt2)
                have hI := HI.out
                rw [List.drop_eq_getElem_cons hlt2, insR] at hI
                obtain ⟨x, hxe⟩ : ∃ x, x = O[j] := ⟨_, rfl⟩
                rw [← hxe] at hx hxs hI
                have HXE := Lib.hid hxe
                have x0 : wr.cell? ⟨b2, o2 + j * 4, none⟩ = some (.string x.user) := hx 0 _ rfl
                have x1 : wr.cell? ⟨b2, o2 + j * 4 + 1, none⟩ = some (.string x.name) := hx 1 _ rfl
                have x2 : wr.cell? ⟨b2, o2 + j * 4 + 2, none⟩ = some (.int .i64 x.sub) := hx 2 _ rfl
                have x3 : wr.cell? ⟨b2, o2 + j * 4 + 3, none⟩ = some (.bool x.asked) := hx 3 _ rfl
                have hjI : (j : Int) < O.length := by omega
                have hq : Hid (∀ n, Calls Try.prog 30 #[.string x.user, .string y.user] (wr.drewN n) fun e w'' => e = .returned (.bool (ltB x.user y.user)) ∧ ∃ m, w'' = wr.drewN m) := Lib.hid (fun n => by
                  have := quiet_draw (ref_ahead x.user y.user (wr.drewN n) hxs HYS.out)
                  rw [ahead_lt] at this; exact this)
                clear hx hxs hxe
                cases d with
                | true =>
                  have hNl : N.length ≤ j + 1 := hNl
                  by_cases he : x.user = y.user
                  · have hne : (x.user.toList == y.user.toList) = true := by rw [same_text, decide_eq_true he]
                    have HN2 : Hid (N ++ insR Item.user y.user y.item (O.drop (j + 1)) true = R) := Lib.hid (by rw [← hI]; simp [he])
                    clear hI HI he hq
                    go_wp2_with (fail)
                    go_quiet (fail)
                    go_wp2_with (fail)
                    go_quiet (fail)
                    go_wp2_with (fail)
                    go_roundg (O.length - (j + 1))
                    case measure => omega
                    case rel => exact ⟨j + 1, N, true, by omega, rfl, by go_num, rfl, by simp; omega, HN2, by exact co2.quiet (by exact Fr.drewN _ _ _)⟩
                  · have hne : (x.user.toList == y.user.toList) = false := by rw [same_text, decide_eq_false he]
                    have HN2 : Hid ((N ++ [x]) ++ insR Item.user y.user y.item (O.drop (j + 1)) true = R) := Lib.hid (by rw [← hI]; simp [he])
                    clear hI HI he hq
                    go_wp2_with (fail)
                    go_quiet (fail)
                    go_wp2_with (fail)
                    go_quiet (fail)
                    go_wp2_with (at_builtin; go_must (refine wpList_append_fp rfl (.tmp 103) (.tmp 108) 22 rfl 27 i0 (.agg #[.string ByteArray.empty, .string ByteArray.empty, .int .i64 0, .bool false]) 4 48 Try.underlying22 Hi.out Hz0.out Hz1.out Hz2.out rfl (by decide) _ _ _ rfl ((co2.drewN _).quiet (Fr.alloc Nothing _ _)).own _ 1 1 x.cells rfl rfl (by simp) (Sl.ofRow (Row.allocNew _ _ _)) (item_one _) (by skip; unfold maxLen; omega) (by skip; omega) ?_))
                    intro v8 w8 o8 f8 n8 s8 _
                    have co8 := CollI.one (s := x) co2 ((Fr.drewN Nothing _ _).trans' (Fr.alloc Nothing _ _)) o8 f8 n8
                    clear co2 o8 f8 n8
                    go_wp2_with (fail)
                    go_roundg (O.length - (j + 1))
                    case measure => omega
                    case rel => exact ⟨j + 1, N ++ [x], true, by omega, rfl, by go_num, rfl, by simp; omega, HN2, co8⟩
                | false =>
                  have hNl : N.length ≤ j := hNl
                  cases hlt3 : ltB x.user y.user with
                  | true =>
                    have he : ¬ x.user = y.user := fun e => by rw [e, ltB_irrefl] at hlt3; cases hlt3
                    have hne : (x.user.toList == y.user.toList) = false := by rw [same_text, decide_eq_false he]
                    have HN2 : Hid ((N ++ [x]) ++ insR Item.user y.user y.item (O.drop (j + 1)) false = R) := Lib.hid (by rw [← hI]; simp [he, hlt3])
                    rw [hlt3] at hq
                    clear hI HI he hlt3
                    go_wp2_with (fail)
                    go_quiet ((go_at_call 30; exact hq.out _))
                    go_wp2_with (fail)
                    go_quiet (fail)
                    go_wp2_with (at_builtin; go_must (refine wpList_append_fp rfl (.tmp 103) (.tmp 108) 22 rfl 27 i0 (.agg #[.string ByteArray.empty, .string ByteArray.empty, .int .i64 0, .bool false]) 4 48 Try.underlying22 Hi.out Hz0.out Hz1.out Hz2.out rfl (by decide) _ _ _ rfl ((co2.drewN _).quiet (Fr.alloc Nothing _ _)).own _ 1 1 x.cells rfl rfl (by simp) (Sl.ofRow (Row.allocNew _ _ _)) (item_one _) (by skip; unfold maxLen; omega) (by skip; omega) ?_))
                    intro v8 w8 o8 f8 n8 s8 _
                    have co8 := CollI.one (s := x) co2 ((Fr.drewN Nothing _ _).trans' (Fr.alloc Nothing _ _)) o8 f8 n8
                    clear co2 o8 f8 n8
                    go_wp2_with (fail)
                    go_roundg (O.length - (j + 1))
                    case measure => omega
                    case rel => exact ⟨j + 1, N ++ [x], false, by omega, rfl, by go_num, rfl, by simp; omega, HN2, co8⟩
                  | false =>
                    rw [hlt3] at hq
                    by_cases he : x.user = y.user
                    · have hne : (x.user.toList == y.user.toList) = true := by rw [same_text, decide_eq_true he]
                      have HN2 : Hid ((N ++ [y.item]) ++ insR Item.user y.user y.item (O.drop (j + 1)) true = R) := Lib.hid (by rw [← hI]; simp [he]; rw [he] at hlt3; rw [hlt3]; rfl)
                      clear hI HI he hlt3
                      go_wp2_with (fail)
                      go_quiet ((go_at_call 30; exact hq.out _))
                      go_wp2_with (at_builtin; go_must (refine wpList_append_fp rfl (.tmp 84) (.tmp 90) 22 rfl 27 i0 (.agg #[.string ByteArray.empty, .string ByteArray.empty, .int .i64 0, .bool false]) 4 48 Try.underlying22 Hi.out Hz0.out Hz1.out Hz2.out rfl (by decide) _ _ _ rfl ((co2.drewN _).quiet (Fr.alloc Nothing _ _)).own _ 1 1 y.item.cells rfl rfl (by simp) (Sl.ofRow (Row.allocNew _ _ _)) (item_one _) (by skip; unfold maxLen; omega) (by skip; omega) ?_))
                      intro v8 w8 o8 f8 n8 s8 _
                      have co8 := CollI.one (s := y.item) co2 ((Fr.drewN Nothing _ _).trans' (Fr.alloc Nothing _ _)) o8 f8 n8
                      clear co2 o8 f8 n8
                      clear p0 p1 p2 p3 p4 p5 x0 x1 x2 x3 s8
                      have hy2 := HC.out w8 (HB.out.fr (FWV.trans' co8.fr) (fun _ _ h => h))
                      have p0 : w8.cell? ⟨b1, o1 + k * 6, none⟩ = some (.string y.user) := hy2 0 _ rfl
                      have p1 : w8.cell? ⟨b1, o1 + k * 6 + 1, none⟩ = some (.string y.item.user) := hy2 1 _ rfl
                      have p2 : w8.cell? ⟨b1, o1 + k * 6 + 2, none⟩ = some (.string y.item.name) := hy2 2 _ rfl
                      have p3 : w8.cell? ⟨b1, o1 + k * 6 + 3, none⟩ = some (.int .i64 y.item.sub) := hy2 3 _ rfl
                      have p4 : w8.cell? ⟨b1, o1 + k * 6 + 4, none⟩ = some (.bool y.item.asked) := hy2 4 _ rfl
                      have p5 : w8.cell? ⟨b1, o1 + k * 6 + 5, none⟩ = some (.bool y.gone) := hy2 5 _ rfl
                      obtain ⟨b3, o3, he3, hx⟩ := (H7V.out.fr co8.fr (fun _ _ h => h)).at_ hlt2
                      cases he3
                      rw [← HXE.out] at hx
                      have x0 : w8.cell? ⟨b2, o2 + j * 4, none⟩ = some (.string x.user) := hx 0 _ rfl
                      have x1 : w8.cell? ⟨b2, o2 + j * 4 + 1, none⟩ = some (.string x.name) := hx 1 _ rfl
                      have x2 : w8.cell? ⟨b2, o2 + j * 4 + 2, none⟩ = some (.int .i64 x.sub) := hx 2 _ rfl
                      have x3 : w8.cell? ⟨b2, o2 + j * 4 + 3, none⟩ = some (.bool x.asked) := hx 3 _ rfl
                      clear hx hy2
                      go_wp2_with (fail)
                      go_quiet (fail)
                      go_wp2_with (fail)
                      go_roundg (O.length - (j + 1))
                      case measure => omega
                      case rel => exact ⟨j + 1, N ++ [y.item], true, by omega, rfl, by go_num, rfl, by simp; omega, HN2, co8.quiet (Fr.drewN _ _ _)⟩
                    · have hne : (x.user.toList == y.user.toList) = false := by rw [same_text, decide_eq_false he]
                      have HN2 : Hid ((N ++ [y.item] ++ [x]) ++ insR Item.user y.user y.item (O.drop (j + 1)) true = R) := Lib.hid (by rw [← hI]; simp [he, hlt3])
                      clear hI HI he hlt3
                      go_wp2_with (fail)
                      go_quiet ((go_at_call 30; exact hq.out _))
                      go_wp2_with (at_builtin; go_must (refine wpList_append_fp rfl (.tmp 84) (.tmp 90) 22 rfl 27 i0 (.agg #[.string ByteArray.empty, .string ByteArray.empty, .int .i64 0, .bool false]) 4 48 Try.underlying22 Hi.out Hz0.out Hz1.out Hz2.out rfl (by decide) _ _ _ rfl ((co2.drewN _).quiet (Fr.alloc Nothing _ _)).own _ 1 1 y.item.cells rfl rfl (by simp) (Sl.ofRow (Row.allocNew _ _ _)) (item_one _) (by skip; unfold maxLen; omega) (by skip; omega) ?_))
                      intro v8 w8 o8 f8 n8 s8 _
                      have co8 := CollI.one (s := y.item) co2 ((Fr.drewN Nothing _ _).trans' (Fr.alloc Nothing _ _)) o8 f8 n8
                      clear co2 o8 f8 n8
                      clear p0 p1 p2 p3 p4 p5 x0 x1 x2 x3 s8
                      have hy2 := HC.out w8 (HB.out.fr (FWV.trans' co8.fr) (fun _ _ h => h))
                      have p0 : w8.cell? ⟨b1, o1 + k * 6, none⟩ = some (.string y.user) := hy2 0 _ rfl
                      have p1 : w8.cell? ⟨b1, o1 + k * 6 + 1, none⟩ = some (.string y.item.user) := hy2 1 _ rfl
                      have p2 : w8.cell? ⟨b1, o1 + k * 6 + 2, none⟩ = some (.string y.item.name) := hy2 2 _ rfl
                      have p3 : w8.cell? ⟨b1, o1 + k * 6 + 3, none⟩ = some (.int .i64 y.item.sub) := hy2 3 _ rfl
                      have p4 : w8.cell? ⟨b1, o1 + k * 6 + 4, none⟩ = some (.bool y.item.asked) := hy2 4 _ rfl
                      have p5 : w8.cell? ⟨b1, o1 + k * 6 + 5, none⟩ = some (.bool y.gone) := hy2 5 _ rfl
                      obtain ⟨b3, o3, he3, hx⟩ := (H7V.out.fr co8.fr (fun _ _ h => h)).at_ hlt2
                      cases he3
                      rw [← HXE.out] at hx
                      have x0 : w8.cell? ⟨b2, o2 + j * 4, none⟩ = some (.string x.user) := hx 0 _ rfl
                      have x1 : w8.cell? ⟨b2, o2 + j * 4 + 1, none⟩ = some (.string x.name) := hx 1 _ rfl
                      have x2 : w8.cell? ⟨b2, o2 + j * 4 + 2, none⟩ = some (.int .i64 x.sub) := hx 2 _ rfl
                      have x3 : w8.cell? ⟨b2, o2 + j * 4 + 3, none⟩ = some (.bool x.asked) := hx 3 _ rfl
                      clear hx hy2
                      go_wp2_with (fail)
                      go_quiet (fail)
                      go_wp2_with (at_builtin; go_must (refine wpList_append_fp rfl (.tmp 103) (.tmp 108) 22 rfl 27 i0 (.agg #[.string ByteArray.empty, .string ByteArray.empty, .int .i64 0, .bool false]) 4 48 Try.underlying22 Hi.out Hz0.out Hz1.out Hz2.out rfl (by decide) _ _ _ rfl ((co8.drewN _).quiet (Fr.alloc Nothing _ _)).own _ 1 1 x.cells rfl rfl (by simp) (Sl.ofRow (Row.allocNew _ _ _)) (item_one _) (by simp only [List.length_append, List.length_cons, List.length_nil]; unfold maxLen; omega) (by simp only [List.length_append, List.length_cons, List.length_nil]; omega) ?_))
                      intro v9 w9 o9 f9 n9 s9 _
                      have co9 := CollI.one (s := x) co8 ((Fr.drewN Nothing _ _).trans' (Fr.alloc Nothing _ _)) (by simpa using o9) f9 n9
                      clear co8 o9 f9 n9
                      go_wp2_with (fail)
                      go_roundg (O.length - (j + 1))
                      case measure => omega
                      case rel => exact ⟨j + 1, N ++ [y.item] ++ [x], true, by omega, rfl, by go_num, rfl, by simp; omega, HN2, co9⟩
              · obtain rfl : j = O.length := by omega
                have hI := HI.out
                rw [List.drop_length, insR] at hI
                cases d with
                | true =>
                  have hNl : N.length ≤ O.length + 1 := hNl
                  simp only [if_true, List.append_nil] at hI
                  subst hI
                  go_wp2_with (fail)
                  go_roundg (s.length - (k + 1))
                  case measure => omega
                  case rel => exact ⟨k + 1, N, by omega, rfl, by go_num, by omega, Lib.hid (HNX.out HO.out), Lib.hid (HLX.out HO.out), co2.over FWV⟩
                | false =>
                  have hNl : N.length ≤ O.length := hNl
                  simp only [Bool.false_eq_true, if_false] at hI
                  subst hI
                  go_wp2_with (at_builtin; go_must (refine wpList_append_fp rfl (.tmp 112) (.tmp 118) 22 rfl 27 i0 (.agg #[.string ByteArray.empty, .string ByteArray.empty, .int .i64 0, .bool false]) 4 48 Try.underlying22 Hi.out Hz0.out Hz1.out Hz2.out rfl (by decide) _ _ _ rfl (co2.quiet (Fr.alloc Nothing _ _)).own _ 1 1 y.item.cells rfl rfl (by simp) (Sl.ofRow (Row.allocNew _ _ _)) (item_one _) (by skip; unfold maxLen; omega) (by skip; omega) ?_))
                  intro v8 w8 o8 f8 n8 s8 _
                  have co8 := CollI.one (s := y.item) co2 (Fr.alloc Nothing _ _) o8 f8 n8
                  go_wp2_with (fail)
                  go_roundg (s.length - (k + 1))
                  case measure => omega
                  case rel => exact ⟨k + 1, N ++ [y.item], by omega, rfl, by go_num, by simp; omega, Lib.hid (HNX.out HO.out), Lib.hid (HLX.out HO.out), co8.over FWV⟩
          | false =>
            rw [hg] at HW HRR c5
            have he := HW.out
            rw [if_neg (by simp)] at he
            have hne : (y.item.user.toList == y.user.toList) = true := by rw [same_text, decide_eq_true he]
            have HG := Lib.hid hg
            clear he hg
            go_wp2_with (fail)
            go_quiet (fail)
            clear hne
            obtain ⟨V, hV⟩ : ∃ V, V = wr.drewN nq := ⟨_, rfl⟩
            have FV : Fr Nothing wr V := by rw [hV]; exact Fr.drewN _ _ _
            rw [← hV]
            have FWV : Fr Nothing w V := co.fr.trans' FV
            have H7V := Lib.hid (H7.out.fr FV (fun _ _ h => h))
            clear co H7 c0 c1 c2 c3 c4 c5 hV FV
            have hy1 := HC.out V (HB.out.fr FWV (fun _ _ h => h))
            have p0 : V.cell? ⟨b1, o1 + k * 6, none⟩ = some (.string y.user) := hy1 0 _ rfl
            have p1 : V.cell? ⟨b1, o1 + k * 6 + 1, none⟩ = some (.string y.item.user) := hy1 1 _ rfl
            have p2 : V.cell? ⟨b1, o1 + k * 6 + 2, none⟩ = some (.string y.item.name) := hy1 2 _ rfl
            have p3 : V.cell? ⟨b1, o1 + k * 6 + 3, none⟩ = some (.int .i64 y.item.sub) := hy1 3 _ rfl
            have p4 : V.cell? ⟨b1, o1 + k * 6 + 4, none⟩ = some (.bool y.item.asked) := hy1 4 _ rfl
            have p5 : V.cell? ⟨b1, o1 + k * 6 + 5, none⟩ = some (.bool y.gone) := hy1 5 _ rfl

            clear hy1
            rw [HG.out] at p5
            go_wp2_with (fail)
            go_loopg [7, 8, 9] O.length (fun g v dd i wr2 => ∃ (j : Nat) (N : List Item) (d : Bool), j ≤ O.length ∧ g = O.length - j ∧ i = .int .i64 j ∧ dd = .bool d ∧ N.length ≤ j + d.toNat ∧ Hid (N ++ insR Item.user y.user y.item (O.drop j) d = R) ∧ CollI V v N wr2)
            case atStart => exact ⟨0, [], false, Nat.zero_le _, rfl, rfl, rfl, by simp, HRR, CollE.start _ _ _⟩
            case round =>
              clear HRR p0 p1 p2 p3 p4 p5
              obtain ⟨j, N, d, hj, rfl, rfl, rfl, hNl, HI, co2⟩ := hrel
              have hy1 := HC.out wr (HB.out.fr (FWV.trans' co2.fr) (fun _ _ h => h))
              have p0 : wr.cell? ⟨b1, o1 + k * 6, none⟩ = some (.string y.user) := hy1 0 _ rfl
              have p1 : wr.cell? ⟨b1, o1 + k * 6 + 1, none⟩ = some (.string y.item.user) := hy1 1 _ rfl
              have p2 : wr.cell? ⟨b1, o1 + k * 6 + 2, none⟩ = some (.string y.item.name) := hy1 2 _ rfl
              have p3 : wr.cell? ⟨b1, o1 + k * 6 + 3, none⟩ = some (.int .i64 y.item.sub) := hy1 3 _ rfl
              have p4 : wr.cell? ⟨b1, o1 + k * 6 + 4, none⟩ = some (.bool y.item.asked) := hy1 4 _ rfl
              have p5 : wr.cell? ⟨b1, o1 + k * 6 + 5, none⟩ = some (.bool y.gone) := hy1 5 _ rfl
              clear hy1
              by_cases hlt2 : j < O.length
              · obtain ⟨b2, o2, rfl, hx⟩ := (H7V.out.fr co2.fr (fun _ _ h => h)).at_ hlt2
                have hxs := HFO.out O[j] (List.getElem_mem hlt2)
                have hI := HI.out
                rw [List.drop_eq_getElem_cons hlt2, insR] at hI
                obtain ⟨x, hxe⟩ : ∃ x, x = O[j] := ⟨_, rfl⟩
                rw [← hxe] at hx hxs hI
                have HXE := Lib.hid hxe
                have x0 : wr.cell? ⟨b2, o2 + j * 4, none⟩ = some (.string x.user) := hx 0 _ rfl
                have x1 : wr.cell? ⟨b2, o2 + j * 4 + 1, none⟩ = some (.string x.name) := hx 1 _ rfl
                have x2 : wr.cell? ⟨b2, o2 + j * 4 + 2, none⟩ = some (.int .i64 x.sub) := hx 2 _ rfl
                have x3 : wr.cell? ⟨b2, o2 + j * 4 + 3, none⟩ = some (.bool x.asked) := hx 3 _ rfl
                have hjI : (j : Int) < O.length := by omega
                have hq : Hid (∀ n, Calls Try.prog 30 #[.string x.user, .string y.user] (wr.drewN n) fun e w'' => e = .returned (.bool (ltB x.user y.user)) ∧ ∃ m, w'' = wr.drewN m) := Lib.hid (fun n => by
                  have := quiet_draw (ref_ahead x.user y.user (wr.drewN n) hxs HYS.out)
                  rw [ahead_lt] at this; exact this)
                clear hx hxs hxe
                cases d with
                | true =>
                  have hNl : N.length ≤ j + 1 := hNl
                  by_cases he : x.user = y.user
                  · have hne : (x.user.toList == y.user.toList) = true := by rw [same_text, decide_eq_true he]
                    have HN2 : Hid (N ++ insR Item.user y.user y.item (O.drop (j + 1)) true = R) := Lib.hid (by rw [← hI]; simp [he])
                    clear hI HI he hq
                    go_wp2_with (fail)
                    go_quiet (fail)
                    go_wp2_with (fail)
                    go_quiet (fail)
                    go_wp2_with (fail)
                    go_roundg (O.length - (j + 1))
                    case measure => omega
                    case rel => exact ⟨j + 1, N, true, by omega, rfl, by go_num, rfl, by simp; omega, HN2, by exact co2.quiet (by exact Fr.drewN _ _ _)⟩
                  · have hne : (x.user.toList == y.user.toList) = false := by rw [same_text, decide_eq_false he]
                    have HN2 : Hid ((N ++ [x]) ++ insR Item.user y.user y.item (O.drop (j + 1)) true = R) := Lib.hid (by rw [← hI]; simp [he])
                    clear hI HI he hq
                    go_wp2_with (fail)
                    go_quiet (fail)
                    go_wp2_with (fail)
                    go_quiet (fail)
                    go_wp2_with (at_builtin; go_must (refine wpList_append_fp rfl (.tmp 103) (.tmp 108) 22 rfl 27 i0 (.agg #[.string ByteArray.empty, .string ByteArray.empty, .int .i64 0, .bool false]) 4 48 Try.underlying22 Hi.out Hz0.out Hz1.out Hz2.out rfl (by decide) _ _ _ rfl ((co2.drewN _).quiet (Fr.alloc Nothing _ _)).own _ 1 1 x.cells rfl rfl (by simp) (Sl.ofRow (Row.allocNew _ _ _)) (item_one _) (by skip; unfold maxLen; omega) (by skip; omega) ?_))
                    intro v8 w8 o8 f8 n8 s8 _
                    have co8 := CollI.one (s := x) co2 ((Fr.drewN Nothing _ _).trans' (Fr.alloc Nothing _ _)) o8 f8 n8
                    clear co2 o8 f8 n8
                    go_wp2_with (fail)
                    go_roundg (O.length - (j + 1))
                    case measure => omega
                    case rel => exact ⟨j + 1, N ++ [x], true, by omega, rfl, by go_num, rfl, by simp; omega, HN2, co8⟩
                | false =>
                  have hNl : N.length ≤ j := hNl
                  cases hlt3 : ltB x.user y.user with
                  | true =>
                    have he : ¬ x.user = y.user := fun e => by rw [e, ltB_irrefl] at hlt3; cases hlt3
                    have hne : (x.user.toList == y.user.toList) = false := by rw [same_text, decide_eq_false he]
                    have HN2 : Hid ((N ++ [x]) ++ insR Item.user y.user y.item (O.drop (j + 1)) false = R) := Lib.hid (by rw [← hI]; simp [he, hlt3])
                    rw [hlt3] at hq
                    clear hI HI he hlt3
                    go_wp2_with (fail)
                    go_quiet ((go_at_call 30; exact hq.out _))
                    go_wp2_with (fail)
                    go_quiet (fail)
                    go_wp2_with (at_builtin; go_must (refine wpList_append_fp rfl (.tmp 103) (.tmp 108) 22 rfl 27 i0 (.agg #[.string ByteArray.empty, .string ByteArray.empty, .int .i64 0, .bool false]) 4 48 Try.underlying22 Hi.out Hz0.out Hz1.out Hz2.out rfl (by decide) _ _ _ rfl ((co2.drewN _).quiet (Fr.alloc Nothing _ _)).own _ 1 1 x.cells rfl rfl (by simp) (Sl.ofRow (Row.allocNew _ _ _)) (item_one _) (by skip; unfold maxLen; omega) (by skip; omega) ?_))
                    intro v8 w8 o8 f8 n8 s8 _
                    have co8 := CollI.one (s := x) co2 ((Fr.drewN Nothing _ _).trans' (Fr.alloc Nothing _ _)) o8 f8 n8
                    clear co2 o8 f8 n8
                    go_wp2_with (fail)
                    go_roundg (O.length - (j + 1))
                    case measure => omega
                    case rel => exact ⟨j + 1, N ++ [x], false, by omega, rfl, by go_num, rfl, by simp; omega, HN2, co8⟩
                  | false =>
                    rw [hlt3] at hq
                    by_cases he : x.user = y.user
                    · have hne : (x.user.toList == y.user.toList) = true := by rw [same_text, decide_eq_true he]
                      have HN2 : Hid ((N ++ [y.item]) ++ insR Item.user y.user y.item (O.drop (j + 1)) true = R) := Lib.hid (by rw [← hI]; simp [he]; rw [he] at hlt3; rw [hlt3]; rfl)
                      clear hI HI he hlt3
                      go_wp2_with (fail)
                      go_quiet ((go_at_call 30; exact hq.out _))
                      go_wp2_with (at_builtin; go_must (refine wpList_append_fp rfl (.tmp 84) (.tmp 90) 22 rfl 27 i0 (.agg #[.string ByteArray.empty, .string ByteArray.empty, .int .i64 0, .bool false]) 4 48 Try.underlying22 Hi.out Hz0.out Hz1.out Hz2.out rfl (by decide) _ _ _ rfl ((co2.drewN _).quiet (Fr.alloc Nothing _ _)).own _ 1 1 y.item.cells rfl rfl (by simp) (Sl.ofRow (Row.allocNew _ _ _)) (item_one _) (by skip; unfold maxLen; omega) (by skip; omega) ?_))
                      intro v8 w8 o8 f8 n8 s8 _
                      have co8 := CollI.one (s := y.item) co2 ((Fr.drewN Nothing _ _).trans' (Fr.alloc Nothing _ _)) o8 f8 n8
                      clear co2 o8 f8 n8
                      clear p0 p1 p2 p3 p4 p5 x0 x1 x2 x3 s8
                      have hy2 := HC.out w8 (HB.out.fr (FWV.trans' co8.fr) (fun _ _ h => h))
                      have p0 : w8.cell? ⟨b1, o1 + k * 6, none⟩ = some (.string y.user) := hy2 0 _ rfl
                      have p1 : w8.cell? ⟨b1, o1 + k * 6 + 1, none⟩ = some (.string y.item.user) := hy2 1 _ rfl
                      have p2 : w8.cell? ⟨b1, o1 + k * 6 + 2, none⟩ = some (.string y.item.name) := hy2 2 _ rfl
                      have p3 : w8.cell? ⟨b1, o1 + k * 6 + 3, none⟩ = some (.int .i64 y.item.sub) := hy2 3 _ rfl
                      have p4 : w8.cell? ⟨b1, o1 + k * 6 + 4, none⟩ = some (.bool y.item.asked) := hy2 4 _ rfl
                      have p5 : w8.cell? ⟨b1, o1 + k * 6 + 5, none⟩ = some (.bool y.gone) := hy2 5 _ rfl
                      obtain ⟨b3, o3, he3, hx⟩ := (H7V.out.fr co8.fr (fun _ _ h => h)).at_ hlt2
                      cases he3
                      rw [← HXE.out] at hx
                      have x0 : w8.cell? ⟨b2, o2 + j * 4, none⟩ = some (.string x.user) := hx 0 _ rfl
                      have x1 : w8.cell? ⟨b2, o2 + j * 4 + 1, none⟩ = some (.string x.name) := hx 1 _ rfl
                      have x2 : w8.cell? ⟨b2, o2 + j * 4 + 2, none⟩ = some (.int .i64 x.sub) := hx 2 _ rfl
                      have x3 : w8.cell? ⟨b2, o2 + j * 4 + 3, none⟩ = some (.bool x.asked) := hx 3 _ rfl
                      clear hx hy2
                      go_wp2_with (fail)
                      go_quiet (fail)
                      go_wp2_with (fail)
                      go_roundg (O.length - (j + 1))
                      case measure => omega
                      case rel => exact ⟨j + 1, N ++ [y.item], true, by omega, rfl, by go_num, rfl, by simp; omega, HN2, co8.quiet (Fr.drewN _ _ _)⟩
                    · have hne : (x.user.toList == y.user.toList) = false := by rw [same_text, decide_eq_false he]
                      have HN2 : Hid ((N ++ [y.item] ++ [x]) ++ insR Item.user y.user y.item (O.drop (j + 1)) true = R) := Lib.hid (by rw [← hI]; simp [he, hlt3])
                      clear hI HI he hlt3
                      go_wp2_with (fail)
                      go_quiet ((go_at_call 30; exact hq.out _))
                      go_wp2_with (at_builtin; go_must (refine wpList_append_fp rfl (.tmp 84) (.tmp 90) 22 rfl 27 i0 (.agg #[.string ByteArray.empty, .string ByteArray.empty, .int .i64 0, .bool false]) 4 48 Try.underlying22 Hi.out Hz0.out Hz1.out Hz2.out rfl (by decide) _ _ _ rfl ((co2.drewN _).quiet (Fr.alloc Nothing _ _)).own _ 1 1 y.item.cells rfl rfl (by simp) (Sl.ofRow (Row.allocNew _ _ _)) (item_one _) (by skip; unfold maxLen; omega) (by skip; omega) ?_))
                      intro v8 w8 o8 f8 n8 s8 _
                      have co8 := CollI.one (s := y.item) co2 ((Fr.drewN Nothing _ _).trans' (Fr.alloc Nothing _ _)) o8 f8 n8
                      clear co2 o8 f8 n8
                      clear p0 p1 p2 p3 p4 p5 x0 x1 x2 x3 s8
                      have hy2 := HC.out w8 (HB.out.fr (FWV.trans' co8.fr) (fun _ _ h => h))
                      have p0 : w8.cell? ⟨b1, o1 + k * 6, none⟩ = some (.string y.user) := hy2 0 _ rfl
                      have p1 : w8.cell? ⟨b1, o1 + k * 6 + 1, none⟩ = some (.string y.item.user) := hy2 1 _ rfl
                      have p2 : w8.cell? ⟨b1, o1 + k * 6 + 2, none⟩ = some (.string y.item.name) := hy2 2 _ rfl
                      have p3 : w8.cell? ⟨b1, o1 + k * 6 + 3, none⟩ = some (.int .i64 y.item.sub) := hy2 3 _ rfl
                      have p4 : w8.cell? ⟨b1, o1 + k * 6 + 4, none⟩ = some (.bool y.item.asked) := hy2 4 _ rfl
                      have p5 : w8.cell? ⟨b1, o1 + k * 6 + 5, none⟩ = some (.bool y.gone) := hy2 5 _ rfl
                      obtain ⟨b3, o3, he3, hx⟩ := (H7V.out.fr co8.fr (fun _ _ h => h)).at_ hlt2
                      cases he3
                      rw [← HXE.out] at hx
                      have x0 : w8.cell? ⟨b2, o2 + j * 4, none⟩ = some (.string x.user) := hx 0 _ rfl
                      have x1 : w8.cell? ⟨b2, o2 + j * 4 + 1, none⟩ = some (.string x.name) := hx 1 _ rfl
                      have x2 : w8.cell? ⟨b2, o2 + j * 4 + 2, none⟩ = some (.int .i64 x.sub) := hx 2 _ rfl
                      have x3 : w8.cell? ⟨b2, o2 + j * 4 + 3, none⟩ = some (.bool x.asked) := hx 3 _ rfl
                      clear hx hy2
                      go_wp2_with (fail)
                      go_quiet (fail)
                      go_wp2_with (at_builtin; go_must (refine wpList_append_fp rfl (.tmp 103) (.tmp 108) 22 rfl 27 i0 (.agg #[.string ByteArray.empty, .string ByteArray.empty, .int .i64 0, .bool false]) 4 48 Try.underlying22 Hi.out Hz0.out Hz1.out Hz2.out rfl (by decide) _ _ _ rfl ((co8.drewN _).quiet (Fr.alloc Nothing _ _)).own _ 1 1 x.cells rfl rfl (by simp) (Sl.ofRow (Row.allocNew _ _ _)) (item_one _) (by simp only [List.length_append, List.length_cons, List.length_nil]; unfold maxLen; omega) (by simp only [List.length_append, List.length_cons, List.length_nil]; omega) ?_))
                      intro v9 w9 o9 f9 n9 s9 _
                      have co9 := CollI.one (s := x) co8 ((Fr.drewN Nothing _ _).trans' (Fr.alloc Nothing _ _)) (by simpa using o9) f9 n9
                      clear co8 o9 f9 n9
                      go_wp2_with (fail)
                      go_roundg (O.length - (j + 1))
                      case measure => omega
                      case rel => exact ⟨j + 1, N ++ [y.item] ++ [x], true, by omega, rfl, by go_num, rfl, by simp; omega, HN2, co9⟩
              · obtain rfl : j = O.length := by omega
                have hI := HI.out
                rw [List.drop_length, insR] at hI
                cases d with
                | true =>
                  have hNl : N.length ≤ O.length + 1 := hNl
                  simp only [if_true, List.append_nil] at hI
                  subst hI
                  go_wp2_with (fail)
                  go_roundg (s.length - (k + 1))
                  case measure => omega
                  case rel => exact ⟨k + 1, N, by omega, rfl, by go_num, by omega, Lib.hid (HNX.out HO.out), Lib.hid (HLX.out HO.out), co2.over FWV⟩
                | false =>
                  have hNl : N.length ≤ O.length := hNl
                  simp only [Bool.false_eq_true, if_false] at hI
                  subst hI
                  go_wp2_with (at_builtin; go_must (refine wpList_append_fp rfl (.tmp 112) (.tmp 118) 22 rfl 27 i0 (.agg #[.string ByteArray.empty, .string ByteArray.empty, .int .i64 0, .bool false]) 4 48 Try.underlying22 Hi.out Hz0.out Hz1.out Hz2.out rfl (by decide) _ _ _ rfl (co2.quiet (Fr.alloc Nothing _ _)).own _ 1 1 y.item.cells rfl rfl (by simp) (Sl.ofRow (Row.allocNew _ _ _)) (item_one _) (by skip; unfold maxLen; omega) (by skip; omega) ?_))
                  intro v8 w8 o8 f8 n8 s8 _
                  have co8 := CollI.one (s := y.item) co2 (Fr.alloc Nothing _ _) o8 f8 n8
                  go_wp2_with (fail)
                  go_roundg (s.length - (k + 1))
                  case measure => omega
                  case rel => exact ⟨k + 1, N ++ [y.item], by omega, rfl, by go_num, by simp; omega, Lib.hid (HNX.out HO.out), Lib.hid (HLX.out HO.out), co8.over FWV⟩
      · obtain rfl : k = s.length := by omega
        rw [List.take_length] at HN HL
        go_wp2_with (fail)
        go_ret
        exact ⟨_, O, rfl, fun _ _ => HL.out, (fun h => h.elim (fun h => by rw [HR.out] at h; cases h) (fun h => by rw [HN.out] at h; cases h)), co⟩
end Go.Proofs.Ytfedaolpanncoaa
