/- DigestTwice answers true for every input and changes no memory that was there. No condition. -/
import Derived.Test.YtfedaolpanncoaaDigRefS
import Derived.Test.YtfedaolpanncoaaDigLawS
namespace Go.Proofs.Ytfedaolpanncoaa
open Go.RowKit

theorem joinF_append (s t : List DStep) (k : ByteArray) : joinF (s ++ t) k = (joinF t k).or (joinF s k) := by
  refine snoc_ind (P := fun t => joinF (s ++ t) k = (joinF t k).or (joinF s k)) (by rw [List.append_nil]; rfl) (fun l x ih => ?_) t
  rw [← List.append_assoc, joinF_snoc, joinF_snoc]
  by_cases e : k = x.user
  · simp [e]
  · simp [e, ih]
theorem joinF_twice (s : List DStep) : joinF (s ++ s) = joinF s := by
  funext k
  rw [joinF_append]
  cases joinF s k <;> rfl
theorem makeF_again {l xs : List Item} {s : List DStep} (ho : s.any oddB = false) (h : ListedI (makeF l s) xs) : makeF xs s = makeF l s := by
  funext k
  have hf := listed_fun (makeF_key l ho) h
  have h1 : (xs.foldl putF fun _ => none) = makeF l s := by rw [look_find h.rise, ← hf]
  have h2 : makeF xs s k = (s.foldl stepF (makeF l s)) k := by unfold makeF at h1 ⊢; rw [h1]
  rw [h2, fold_last]
  cases hj : joinF s k with
  | none => rfl
  | some st =>
    show _ = makeF l s k
    unfold makeF
    rw [fold_last, hj]
theorem made_fit {l xs : List Item} {s : List DStep} (h : ListedI (makeF l s) xs) (hl : ∀ x ∈ l, x.user.size ≤ maxLen) (hs : ∀ x ∈ s, x.user.size ≤ maxLen) : ∀ x ∈ xs, x.user.size ≤ maxLen := by
  intro x hx
  rcases List.mem_append.1 (makeF_user ((h.mem x).1 hx)) with h1 | h1
  · obtain ⟨y, hy, e⟩ := List.mem_map.1 h1
    rw [← e]; exact hl y hy
  · obtain ⟨y, hy, e⟩ := List.mem_map.1 h1
    rw [← e]; exact hs y hy
set_option maxHeartbeats 8000000 in
set_option maxRecDepth 100000 in
theorem digesttwice_any (a : Option Addr) (l : List Item) (ca : Nat) (b : Option Addr) (m : List DStep) (cb : Nat) (w : World) (hla : l.length ≤ ca) (hca : ca ≤ maxLen) (ta : Items w a l) (ga : ∀ x ∈ l, x.Good) (hlb : m.length ≤ cb) (hcb : cb ≤ maxLen) (tb : Steps w b m) (gb : ∀ x ∈ m, x.Good) :
    Calls Try.prog 8 #[.slice a l.length ca, .slice b m.length cb] w fun e w' => e = .returned (.bool true) ∧ Below w.heap.size w w' := by
  obtain ⟨A, hA⟩ : ∃ A, A = l.take 60 := ⟨_, rfl⟩
  obtain ⟨B, hB⟩ : ∃ B, B = m.take 40 := ⟨_, rfl⟩
  have PA : Arg60 w a l A ca := hA ▸ Arg60.mk' ta hla ga
  have HBl : Hid ((min (m.length : Int) 40).toNat = B.length) := Lib.hid (by rw [hB, List.length_take]; omega)
  have b40 : B.length ≤ 40 := by rw [hB, List.length_take]; omega
  have hbm : B.length ≤ m.length := by rw [hB, List.length_take]; omega
  have HB0 : Hid (Steps w b B) := Lib.hid (by rw [hB]; exact tb.take 40)
  have HFB : Hid (∀ x ∈ B, x.user.size ≤ maxLen) := Lib.hid (fun x hx => (gb x (by rw [hB] at hx; exact List.mem_of_mem_take hx)).1)
  have ha9 : (ca : Int) ≤ 9223372036854775807 := by unfold maxLen at hca; omega
  have hb9 : (cb : Int) ≤ 9223372036854775807 := by unfold maxLen at hcb; omega
  have hmb : (m.length : Int) ≤ cb := by omega
  have HPA := Lib.hid PA
  clear hA hB PA ta tb ga gb hca hcb
  go_enter Try.func8, Try.ntmps8
  go_wp2_with (fail)
  refine (dig_lives _).mono ?_
  rintro e w1 ⟨rfl, f1⟩
  go_wp2_with (fail)
  refine (dig_early60 a l.length ca _ hla ha9).mono ?_
  rintro e w1' ⟨rfl, rfl⟩
  rw [← HPA.out.len]
  have HA := Lib.hid (HPA.out.items.fr f1 (fun _ _ h => h))
  have HB := Lib.hid (HB0.out.fr f1 (fun _ _ h => h))
  have a60 := HPA.out.few
  clear hla
  go_wp2_with (fail)
  rw [HBl.out]
  refine (dig_back b cb B _ HB.out (by omega)).mono ?_
  rintro e w2 ⟨v2, rfl, co2⟩
  obtain ⟨a2, c2, rfl, h2', h2c, h2m, h2n⟩ := coll_steps co2
  have H2 := Lib.hid h2'
  have HN2 := Lib.hid h2n
  have F2 := co2.fr
  clear co2 h2' h2n
  go_wp2_with (fail)
  refine (dig_join a2 none c2 0 B [] _ H2.out ⟨DStep.len, by decide, Sl.nil _ _⟩ (by omega) (by simp) HN2.out (fun _ => ⟨rfl, rfl⟩) HFB.out (fun x hx => by cases hx)).mono ?_
  rintro e w3 ⟨v3, X, rfl, hL3, co3⟩
  rw [List.append_nil] at hL3
  obtain ⟨a3, c3, rfl, h3', h3c, h3m, h3n⟩ := coll_steps co3
  have hXl := joined_len hL3
  have HFX : Hid (∀ x ∈ X, x.user.size ≤ maxLen) := Lib.hid (fun x hx => HFB.out x (joined_sub hL3 x hx))
  have HL3 := Lib.hid hL3
  have H3 := Lib.hid h3'
  have HN3 := Lib.hid h3n
  have F3 := F2.trans' co3.fr
  clear co3 h3' h3n hL3
  go_wp2_with (fail)
  refine (dig_join a3 a3 c3 c3 X X _ H3.out H3.out (by omega) (by omega) HN3.out HN3.out HFX.out HFX.out).mono ?_
  rintro e w4 ⟨v4, Y, rfl, hL4, co4⟩
  rw [joinF_twice, joinF_listed (joinF_key B) HL3.out] at hL4
  obtain rfl := listed_eqS hL4 HL3.out
  obtain ⟨a4, c4, rfl, h4', h4c, h4m, h4n⟩ := coll_steps co4
  have H4 := Lib.hid h4'
  have H34 := Lib.hid (H3.out.fr co4.fr (fun _ _ h => h))
  have F4 := F3.trans' co4.fr
  have HR : Hid (∀ k (h : k + 1 < Y.length), ltB Y[k].user Y[k + 1].user = true) := Lib.hid (fun k h => List.pairwise_iff_getElem.1 hL4.rise k (k + 1) (by omega) h (by omega))
  clear co4 h4' h4n hL4
  have hp37 : Try.prog.stoodInHeld 37 = false := by kernel_rfl
  have hg37 : Try.prog.eqGuardType Try.prog.depth 37 = false := by kernel_rfl
  have hp27 : Try.prog.stoodInHeld 27 = false := by kernel_rfl
  have hg27 : Try.prog.eqGuardType Try.prog.depth 27 = false := by kernel_rfl
  have hll : ((Y.length : Int) != (Y.length : Int)) = false := by simp
  go_wp2_with (fail)
  go_loopw [7] (fun i wr => ∃ k : Nat, k ≤ Y.length ∧ i = .int .i64 k ∧ ∃ q, wr = w4.drewN q) (fun i _ => Y.length - (intOf i).toNat)
  case atStart => exact ⟨0, Nat.zero_le _, rfl, 0, rfl⟩
  case round =>
    obtain ⟨k, hk, rfl, q, rfl⟩ := hrel
    obtain ⟨V, hV⟩ : ∃ V, V = w4.drewN q := ⟨_, rfl⟩
    have FV : Fr Nothing w4 V := by rw [hV]; exact Fr.drewN _ _ _
    rw [← hV]
    have HV := Lib.hid hV
    clear hV
    by_cases hlt : k < Y.length
    · obtain ⟨b1, o1, rfl, g1⟩ := (H34.out.fr FV (fun _ _ h => h)).at_ hlt
      obtain ⟨b2, o2, rfl, g2⟩ := (H4.out.fr FV (fun _ _ h => h)).at_ hlt
      have hr2 : ∀ k', k = k' + 1 → ∃ z : ByteArray, V.cell? ⟨b1, o1 + k' * 6, none⟩ = some (.string z) ∧ Op.bytesLess z.toList Y[k].user.toList = true := by
        rintro k' rfl
        obtain ⟨b3, o3, e3, g3⟩ := (H34.out.fr FV (fun _ _ h => h)).at_ (i := k') (by omega)
        obtain ⟨rfl, rfl⟩ : b1 = b3 ∧ o1 = o3 := by simpa using e3
        exact ⟨_, g3 0 _ rfl, HR.out k' hlt⟩
      obtain ⟨x, hx⟩ : ∃ x, x = Y[k] := ⟨_, rfl⟩
      rw [← hx] at g1 g2 hr2
      have p0 : V.cell? ⟨b1, o1 + k * 6, none⟩ = some (.string x.user) := g1 0 _ rfl
      have p1 : V.cell? ⟨b1, o1 + k * 6 + 1, none⟩ = some (.string x.item.user) := g1 1 _ rfl
      have p2 : V.cell? ⟨b1, o1 + k * 6 + 2, none⟩ = some (.string x.item.name) := g1 2 _ rfl
      have p3 : V.cell? ⟨b1, o1 + k * 6 + 3, none⟩ = some (.int .i64 x.item.sub) := g1 3 _ rfl
      have p4 : V.cell? ⟨b1, o1 + k * 6 + 4, none⟩ = some (.bool x.item.asked) := g1 4 _ rfl
      have p5 : V.cell? ⟨b1, o1 + k * 6 + 5, none⟩ = some (.bool x.gone) := g1 5 _ rfl
      have q0 : V.cell? ⟨b2, o2 + k * 6, none⟩ = some (.string x.user) := g2 0 _ rfl
      have q1 : V.cell? ⟨b2, o2 + k * 6 + 1, none⟩ = some (.string x.item.user) := g2 1 _ rfl
      have q2 : V.cell? ⟨b2, o2 + k * 6 + 2, none⟩ = some (.string x.item.name) := g2 2 _ rfl
      have q3 : V.cell? ⟨b2, o2 + k * 6 + 3, none⟩ = some (.int .i64 x.item.sub) := g2 3 _ rfl
      have q4 : V.cell? ⟨b2, o2 + k * 6 + 4, none⟩ = some (.bool x.item.asked) := g2 4 _ rfl
      have q5 : V.cell? ⟨b2, o2 + k * 6 + 5, none⟩ = some (.bool x.gone) := g2 5 _ rfl
      have hkI : (k : Int) < Y.length := by omega
      clear g1 g2 hx
      cases k with
      | zero =>
        clear hr2
        simp only [Nat.zero_mul, Nat.add_zero] at p0 p1 p2 p3 p4 p5 q0 q1 q2 q3 q4 q5
        go_wp2_with (fail)
        go_quiet (fail)
        go_wp2_with (fail)
        go_roundw
        case rel => exact ⟨1, by omega, rfl, q + nq, by rw [HV.out]; simp⟩
        case measure => simp [intOf]; omega
      | succ k =>
        obtain ⟨z, z0, hz⟩ := hr2 k rfl
        have hkI2 : (k : Int) < Y.length := by omega
        have hkI3 : (k : Int) + 1 < Y.length := by omega
        clear hr2
        go_wp2_with (fail)
        go_quiet (fail)
        go_wp2_with (fail)
        go_roundw
        case rel => exact ⟨k + 2, by omega, by go_num, q + nq, by rw [HV.out]; simp⟩
        case measure => simp [intOf]; omega
    · have hlI : ¬ ((k : Int) < Y.length) := by omega
      have HAV := Lib.hid (HA.out.fr (F4.trans' FV) (fun _ _ h => h))
      have HXV := Lib.hid (H34.out.fr FV (fun _ _ h => h))
      have F5 := F4.trans' FV
      clear hk
      go_wp2_with (fail)
      refine (dig_right a ca A _ HAV.out (by omega)).mono ?_
      rintro e w6 ⟨rfl, n6, rfl⟩
      have HA6 := Lib.hid (HAV.out.drewN n6)
      have HX6 := Lib.hid (HXV.out.drewN n6)
      cases ra : riseB A with
      | false =>
        go_wp2_with (fail)
        refine (dig_make_bad a a3 ca c3 A Y _ HA6.out HX6.out (by omega) (by omega) (.inl ra)).mono ?_
        rintro e w7 ⟨rfl, f7⟩
        go_wp2_with (fail)
        go_ret
        exact ⟨rfl, (f1.trans' (F5.trans' ((Fr.drewN _ _ _).trans' f7))).fromN.belowB⟩
      | true =>
        cases ho : Y.any oddB with
        | true =>
          have HO := Lib.hid ho
          clear ho
          go_wp2_with (fail)
          refine (dig_make_bad a a3 ca c3 A Y _ HA6.out HX6.out (by omega) (by omega) (.inr HO.out)).mono ?_
          rintro e w7 ⟨rfl, f7⟩
          go_wp2_with (fail)
          refine (dig_make_bad none a3 0 c3 [] Y _ (items_nil _ _) (HX6.out.fr f7 (fun _ _ h => h)) (by simp) (by omega) (.inr HO.out)).mono ?_
          rintro e w8 ⟨rfl, f8⟩
          go_wp2_with (fail)
          refine (same_items none none [] [] 0 0 _ (items_nil _ _) (items_nil _ _) (by simp) (by simp)).mono ?_
          rintro e w9 ⟨⟨r, rfl, hr⟩, n9, rfl⟩
          obtain rfl := hr.2 rfl
          clear hr
          go_wp2_with (fail)
          refine (dig_right none 0 [] _ (items_nil _ _) (by simp)).mono ?_
          rintro e w10 ⟨rfl, n10, rfl⟩
          go_wp2_with (fail)
          go_ret
          exact ⟨rfl, (f1.trans' (F5.trans' ((Fr.drewN _ _ _).trans' (f7.trans' (f8.trans' (Fr.drewN _ _ _)))))).fromN.belowB⟩
        | false =>
          have HO := Lib.hid ho
          have RA := Lib.hid (riseB_pw.1 ra)
          clear ho
          go_wp2_with (fail)
          refine (dig_make a a3 ca c3 A Y _ HA6.out HX6.out (by omega) (by omega) ra HO.out HPA.out.fit HFX.out).mono ?_
          rintro e w7 ⟨v7, P, rfl, hP, co7⟩
          obtain ⟨a7, c7, rfl, i7', h7c, h7m⟩ := coll_items co7
          have hPl := made_len hP
          have rP : riseB P = true := riseB_pw.2 hP.rise
          have HFP := Lib.hid (made_fit hP HPA.out.fit HFX.out)
          have HAG : Hid (makeF P Y = makeF A Y) := Lib.hid (makeF_again HO.out hP)
          have HP := Lib.hid hP
          have I7 := Lib.hid i7'
          have HX7 := Lib.hid (HX6.out.fr co7.fr (fun _ _ h => h))
          have f7 := co7.fr
          clear hP i7' co7
          go_wp2_with (fail)
          refine (dig_make a7 a3 c7 c3 P Y _ I7.out HX7.out (by omega) (by omega) rP HO.out HFP.out HFX.out).mono ?_
          rintro e w8 ⟨v8, Z, rfl, hZ, co8⟩
          rw [HAG.out] at hZ
          obtain rfl := listed_eqI hZ HP.out
          obtain ⟨a8, c8, rfl, i8', h8c, h8m⟩ := coll_items co8
          have I8 := Lib.hid i8'
          have I78 := Lib.hid (I7.out.fr co8.fr (fun _ _ h => h))
          have f8 := co8.fr
          clear hZ i8' co8
          go_wp2_with (fail)
          refine (same_items a8 a7 Z Z c8 c7 _ I8.out I78.out (by omega) (by omega)).mono ?_
          rintro e w9 ⟨⟨r, rfl, hr⟩, n9, rfl⟩
          obtain rfl := hr.2 rfl
          clear hr
          go_wp2_with (fail)
          refine (dig_right a7 c7 Z _ (I78.out.drewN n9) (by omega)).mono ?_
          rintro e w10 ⟨rfl, n10, rfl⟩
          rw [rP]
          go_wp2_with (fail)
          go_ret
          exact ⟨rfl, (f1.trans' (F5.trans' ((Fr.drewN _ _ _).trans' (f7.trans' (f8.trans' (Fr.drewN _ _ _)))))).fromN.belowB⟩
end Go.Proofs.Ytfedaolpanncoaa
