/- DigestJoin answers true for every input and changes no memory that was there. No condition. -/
import Derived.Test.YtfedaolpanncoaaDigLawJ
import Derived.Test.YtfedaolpanncoaaDigestBack
namespace Go.Proofs.Ytfedaolpanncoaa
open Go.RowKit

set_option maxHeartbeats 8000000 in
set_option maxRecDepth 100000 in
theorem digestjoin_any (a : Option Addr) (l : List Item) (ca : Nat) (b : Option Addr) (m : List Item) (cb : Nat) (d : Option Addr) (n : List Item) (cd : Nat) (w : World) (hla : l.length ≤ ca) (hca : ca ≤ maxLen) (ta : Items w a l) (ga : ∀ x ∈ l, x.Good) (hlb : m.length ≤ cb) (hcb : cb ≤ maxLen) (tb : Items w b m) (gb : ∀ x ∈ m, x.Good)
    (hld : n.length ≤ cd) (hcd : cd ≤ maxLen) (td : Items w d n) (gd : ∀ x ∈ n, x.Good) :
    Calls Try.prog 7 #[.slice a l.length ca, .slice b m.length cb, .slice d n.length cd] w fun e w' => e = .returned (.bool true) ∧ Below w.heap.size w w' := by
  obtain ⟨A, hA⟩ : ∃ A, A = l.take 60 := ⟨_, rfl⟩
  obtain ⟨B, hB⟩ : ∃ B, B = m.take 60 := ⟨_, rfl⟩
  obtain ⟨D, hD⟩ : ∃ D, D = n.take 60 := ⟨_, rfl⟩
  have PA : Arg60 w a l A ca := hA ▸ Arg60.mk' ta hla ga
  have PB : Arg60 w b m B cb := hB ▸ Arg60.mk' tb hlb gb
  have PD : Arg60 w d n D cd := hD ▸ Arg60.mk' td hld gd
  have ha9 : (ca : Int) ≤ 9223372036854775807 := by unfold maxLen at hca; omega
  have hb9 : (cb : Int) ≤ 9223372036854775807 := by unfold maxLen at hcb; omega
  have hd9 : (cd : Int) ≤ 9223372036854775807 := by unfold maxLen at hcd; omega
  have HPA := Lib.hid PA
  have HPB := Lib.hid PB
  have HPD := Lib.hid PD
  have HCA := Lib.hid hca
  have HCB := Lib.hid hcb
  have HCD := Lib.hid hcd
  clear hA hB hD PA PB PD ta tb td ga gb gd hca hcb hcd
  go_enter Try.func7, Try.ntmps7
  go_wp2_with (fail)
  refine (dig_lives _).mono ?_
  rintro e w1 ⟨rfl, f1⟩
  go_wp2_with (fail)
  refine (dig_early60 a l.length ca _ hla ha9).mono ?_
  rintro e w1' ⟨rfl, rfl⟩
  rw [← HPA.out.len]
  go_wp2_with (fail)
  refine (dig_early60 b m.length cb _ hlb hb9).mono ?_
  rintro e w1' ⟨rfl, rfl⟩
  rw [← HPB.out.len]
  go_wp2_with (fail)
  refine (dig_early60 d n.length cd _ hld hd9).mono ?_
  rintro e w1' ⟨rfl, rfl⟩
  rw [← HPD.out.len]
  have HA := Lib.hid (HPA.out.items.fr f1 (fun _ _ h => h))
  have HB := Lib.hid (HPB.out.items.fr f1 (fun _ _ h => h))
  have HD := Lib.hid (HPD.out.items.fr f1 (fun _ _ h => h))
  have a60 := HPA.out.few
  have b60 := HPB.out.few
  have d60 := HPD.out.few
  have aca := HPA.out.cap
  have bcb := HPB.out.cap
  have dcd := HPD.out.cap
  clear hla hlb hld
  go_wp2_with (fail)
  refine (dig_right a ca A _ HA.out (by omega)).mono ?_
  rintro e w2 ⟨rfl, n2, rfl⟩
  cases ra : riseB A with
  | false =>
    go_wp2_with (fail)
    go_ret
    exact ⟨rfl, (f1.trans' (Fr.drewN _ _ _)).fromN.belowB⟩
  | true =>
    go_wp2_with (fail)
    refine (dig_right b cb B _ (HB.out.drewN n2) (by omega)).mono ?_
    rintro e w3 ⟨rfl, n3, rfl⟩
    cases rb : riseB B with
    | false =>
      go_wp2_with (fail)
      go_ret
      exact ⟨rfl, (f1.trans' (Fr.drewN _ _ _)).fromN.belowB⟩
    | true =>
      go_wp2_with (fail)
      refine (dig_right d cd D _ (HD.out.drewN (n2 + n3)) (by omega)).mono ?_
      rintro e w4 ⟨rfl, n4, rfl⟩
      cases rd : riseB D with
      | false =>
        go_wp2_with (fail)
        go_ret
        exact ⟨rfl, (f1.trans' (Fr.drewN _ _ _)).fromN.belowB⟩
      | true =>
        have RA := Lib.hid (riseB_pw.1 ra)
        have RB := Lib.hid (riseB_pw.1 rb)
        have RD := Lib.hid (riseB_pw.1 rd)
        go_wp2_with (fail)
        have F4 : Fr Nothing w1 (w1.drewN (n2 + n3 + n4)) := Fr.drewN _ _ _
        obtain ⟨w4, hw4⟩ : ∃ w4, w4 = w1.drewN (n2 + n3 + n4) := ⟨_, rfl⟩
        rw [← hw4] at F4 ⊢
        clear hw4
        have HA4 := Lib.hid (HA.out.fr F4 (fun _ _ h => h))
        have HB4 := Lib.hid (HB.out.fr F4 (fun _ _ h => h))
        have HD4 := Lib.hid (HD.out.fr F4 (fun _ _ h => h))
        refine (dig_of a b ca cb A B _ HA4.out HB4.out aca bcb HCA.out HCB.out (by omega) (by omega) ra rb).mono ?_
        rintro e w5 ⟨s5, c5, rfl, co5⟩
        obtain ⟨S, hS⟩ : ∃ S, S = ofL A B := ⟨_, rfl⟩
        have hSl : S.length ≤ A.length + B.length := by rw [hS]; exact ofL_len A B
        rw [← hS] at co5 ⊢
        have HS := Lib.hid hS
        obtain ⟨a5, c5', e5, HS5', h5c, h5m, h5n⟩ := coll_steps co5
        cases e5
        have HS5 := Lib.hid HS5'
        have HB5 := Lib.hid (HB4.out.fr co5.fr (fun _ _ h => h))
        have HD5 := Lib.hid (HD4.out.fr co5.fr (fun _ _ h => h))
        have F5 := F4.trans' co5.fr
        have F45 := co5.fr
        have HN5 := Lib.hid h5n
        clear co5 hS HS5' h5n
        go_wp2_with (fail)
        refine (dig_of b d cb cd B D _ HB5.out HD5.out bcb dcd HCB.out HCD.out (by omega) (by omega) rb rd).mono ?_
        rintro e w6 ⟨t6, c6, rfl, co6⟩
        obtain ⟨T, hT⟩ : ∃ T, T = ofL B D := ⟨_, rfl⟩
        have hTl : T.length ≤ B.length + D.length := by rw [hT]; exact ofL_len B D
        rw [← hT] at co6 ⊢
        have HT := Lib.hid hT
        obtain ⟨a6, c6', e6, HT6', h6c, h6m, h6n⟩ := coll_steps co6
        cases e6
        have HT6 := Lib.hid HT6'
        have HS6 := Lib.hid (HS5.out.fr co6.fr (fun _ _ h => h))
        have F6 := F5.trans' co6.fr
        have F4to := F45.trans' co6.fr
        have HN6 := Lib.hid h6n
        clear co6 hT HT6' h6n
        have HFS : Hid (∀ s ∈ S, s.user.size ≤ maxLen) := Lib.hid (by rw [HS.out]; exact ofL_fit RA.out RB.out HPA.out.fit HPB.out.fit)
        have HFT : Hid (∀ s ∈ T, s.user.size ≤ maxLen) := Lib.hid (by rw [HT.out]; exact ofL_fit RB.out RD.out HPB.out.fit HPD.out.fit)
        go_wp2_with (fail)
        refine (dig_join s5 t6 c5 c6 S T _ HS6.out HT6.out (by omega) (by omega) HN5.out HN6.out HFS.out HFT.out).mono ?_
        rintro e w7 ⟨v7, J, rfl, hL, co7⟩
        obtain ⟨j7, c7, rfl, HJ7', h7c, h7m, _⟩ := coll_steps co7
        have HJ7 := Lib.hid HJ7'
        have hJl := joined_len hL
        rw [List.length_append] at hJl
        have HMJ : Hid (makeF A J = findI D) := Lib.hid (by rw [HS.out, HT.out] at hL; exact makeF_joined RA.out RB.out RD.out hL)
        have HOS : Hid (S.any oddB = false) := Lib.hid (by rw [HS.out]; exact ofL_odd RA.out RB.out)
        have HOT : Hid (T.any oddB = false) := Lib.hid (by rw [HT.out]; exact ofL_odd RB.out RD.out)
        have HOJ : Hid (J.any oddB = false) := Lib.hid (joined_odd hL (by rw [List.any_append, HOS.out, HOT.out]; rfl))
        have HFJ : Hid (∀ s ∈ J, s.user.size ≤ maxLen) := Lib.hid (fun s hs => (List.mem_append.1 (joined_sub hL s hs)).elim (HFS.out s) (HFT.out s))
        have HRJ : Hid (∀ k (h : k + 1 < J.length), ltB J[k].user J[k + 1].user = true) := Lib.hid (fun k h => List.pairwise_iff_getElem.1 hL.rise k (k + 1) (by omega) h (by omega))
        have HS7 := Lib.hid (HS6.out.fr co7.fr (fun _ _ h => h))
        have HT7 := Lib.hid (HT6.out.fr co7.fr (fun _ _ h => h))
        have F7 := F6.trans' co7.fr
        have F7from := F4to.trans' co7.fr
        clear hL co7 HJ7'
        go_wp2_with (fail)
        go_loopw [10] (fun i wr => ∃ k : Nat, 1 ≤ k ∧ (k ≤ J.length ∨ k = 1) ∧ i = .int .i64 k ∧ ∃ q, wr = w7.drewN q) (fun i _ => J.length - (intOf i).toNat)
        case atStart => exact ⟨1, Nat.le_refl _, .inr rfl, rfl, 0, rfl⟩
        case round =>
          obtain ⟨k, hk1, hk, rfl, q, rfl⟩ := hrel
          by_cases hlt : k < J.length
          · obtain ⟨k, rfl⟩ : ∃ k', k = k' + 1 := ⟨k - 1, by omega⟩
            obtain ⟨V, hV⟩ : ∃ V, V = w7.drewN q := ⟨_, rfl⟩
            have HJV : Steps V j7 J := by rw [hV]; exact HJ7.out.drewN q
            obtain ⟨b1, o1, rfl, g1⟩ := HJV.at_ hlt
            obtain ⟨b2, o2, e2, g2⟩ := HJV.at_ (i := k) (by omega)
            obtain ⟨rfl, rfl⟩ : b1 = b2 ∧ o1 = o2 := by simpa using e2
            have hlt2 : ltB J[k].user J[k + 1].user = true := HRJ.out k hlt
            obtain ⟨x, hx⟩ : ∃ x, x = J[k] := ⟨_, rfl⟩
            obtain ⟨y, hy⟩ : ∃ y, y = J[k + 1] := ⟨_, rfl⟩
            rw [← hy] at g1 hlt2
            rw [← hx] at g2 hlt2
            rw [← hV]
            unfold ltB at hlt2
            have p0 : V.cell? ⟨b1, o1 + k * 6, none⟩ = some (.string x.user) := g2 0 _ rfl
            have q0 : V.cell? ⟨b1, o1 + (k + 1) * 6, none⟩ = some (.string y.user) := g1 0 _ rfl
            have hkI : (k : Int) + 1 < J.length := by omega
            have hkI2 : (k : Int) < J.length := by omega
            have HV := Lib.hid hV
            clear g1 g2 hx hy hV HJV
            go_wp2_with (fail)
            go_quiet (fail)
            go_wp2_with (fail)
            go_roundw
            case rel => exact ⟨k + 2, by omega, .inl (by omega), by go_num, q + nq, by rw [HV.out]; simp⟩
            case measure => simp [intOf]; omega
          · have hlI : ¬ ((k : Int) < J.length) := by omega
            obtain ⟨V, hV⟩ : ∃ V, V = w7.drewN q := ⟨_, rfl⟩
            have F8 : Fr Nothing w7 V := by rw [hV]; exact Fr.drewN _ _ _
            rw [← hV]
            clear hV hk
            have HA8 := Lib.hid ((HA4.out.fr F7from (fun _ _ h => h)).fr F8 (fun _ _ h => h))
            have HD8 := Lib.hid ((HD4.out.fr F7from (fun _ _ h => h)).fr F8 (fun _ _ h => h))
            have HJ8 := Lib.hid (HJ7.out.fr F8 (fun _ _ h => h))
            have HS8 := Lib.hid (HS7.out.fr F8 (fun _ _ h => h))
            have HT8 := Lib.hid (HT7.out.fr F8 (fun _ _ h => h))
            go_wp2_with (fail)
            refine (dig_make a j7 ca c7 A J _ HA8.out HJ8.out (by omega) (by omega) ra HOJ.out HPA.out.fit HFJ.out).mono ?_
            rintro e w9 ⟨v9, x9, rfl, h9, co9⟩
            rw [HMJ.out] at h9
            obtain ⟨a9, c9, rfl, i9', h9c, h9m⟩ := coll_items co9
            have e9 := listed_eqI h9 (listed_find RD.out)
            have I9 := Lib.hid i9'
            have E9 := Lib.hid e9
            have F9 := F8.trans' co9.fr
            have HD9 := Lib.hid (HD8.out.fr co9.fr (fun _ _ h => h))
            have HA9 := Lib.hid (HA8.out.fr co9.fr (fun _ _ h => h))
            have HS9 := Lib.hid (HS8.out.fr co9.fr (fun _ _ h => h))
            have HT9 := Lib.hid (HT8.out.fr co9.fr (fun _ _ h => h))
            have l9 : x9.length ≤ 60 := by rw [e9]; exact d60
            clear h9 i9' e9 co9
            go_wp2_with (fail)
            refine (same_items a9 d x9 D c9 cd _ I9.out HD9.out (by omega) (by omega)).mono ?_
            rintro e w10 ⟨⟨r, rfl, hr⟩, n10, rfl⟩
            obtain rfl := hr.2 E9.out
            clear hr
            go_wp2_with (fail)
            refine (dig_make a s5 ca c5 A S _ (HA9.out.drewN n10) (HS9.out.drewN n10) (by omega) (by omega) ra HOS.out HPA.out.fit HFS.out).mono ?_
            rintro e w11 ⟨v11, x11, rfl, h11, co11⟩
            rw [HS.out, makeF_of RA.out RB.out] at h11
            obtain ⟨a11, c11, rfl, i11', h11c, h11m⟩ := coll_items co11
            have e11 := listed_eqI h11 (listed_find RB.out)
            have F11 := F9.trans' ((Fr.drewN _ _ n10).trans' co11.fr)
            have HD11 := Lib.hid ((HD9.out.drewN n10).fr co11.fr (fun _ _ h => h))
            have HT11 := Lib.hid ((HT9.out.drewN n10).fr co11.fr (fun _ _ h => h))
            have l11 : x11.length ≤ 60 := by rw [e11]; exact b60
            have r11 : riseB x11 = true := by rw [e11]; exact rb
            have I11 := Lib.hid i11'
            have E11 := Lib.hid e11
            have HF11 : Hid (∀ x ∈ x11, x.user.size ≤ maxLen) := Lib.hid (by rw [e11]; exact HPB.out.fit)
            clear h11 i11' e11 co11
            go_wp2_with (fail)
            refine (dig_make a11 t6 c11 c6 x11 T _ I11.out HT11.out (by omega) (by omega) r11 HOT.out HF11.out HFT.out).mono ?_
            rintro e w12 ⟨v12, x12, rfl, h12, co12⟩
            rw [E11.out, HT.out, makeF_of RB.out RD.out] at h12
            obtain ⟨a12, c12, rfl, i12', h12c, h12m⟩ := coll_items co12
            have e12 := listed_eqI h12 (listed_find RD.out)
            have F12 := F11.trans' co12.fr
            have HD12 := Lib.hid (HD11.out.fr co12.fr (fun _ _ h => h))
            have l12 : x12.length ≤ 60 := by rw [e12]; exact d60
            have I12 := Lib.hid i12'
            have E12 := Lib.hid e12
            clear h12 i12' e12 co12
            go_wp2_with (fail)
            refine (same_items a12 d x12 D c12 cd _ I12.out HD12.out (by omega) (by omega)).mono ?_
            rintro e w13 ⟨⟨r, rfl, hr⟩, n13, rfl⟩
            obtain rfl := hr.2 E12.out
            clear hr
            go_wp2_with (fail)
            go_ret
            exact ⟨rfl, (f1.trans' (F7.trans' (F12.trans' (Fr.drewN _ _ _)))).fromN.belowB⟩
end Go.Proofs.Ytfedaolpanncoaa
