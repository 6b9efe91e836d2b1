/- DigestMake answers true for every input and changes no memory that was there. No condition. -/
import Derived.Test.YtfedaolpanncoaaDigRMake
import Derived.Test.YtfedaolpanncoaaDigestTwice
namespace Go.Proofs.Ytfedaolpanncoaa
open Go.RowKit

theorem open_none {H : Type} {enc : TypeId × Value → H} {P : Program} {w : World} {t e : TypeId} {fuel : Nat} {a : Option Addr} {len cap : Nat} {x : DataW H × List MemPlace}
    (ht : P.underlying t = some (.slice e)) (h : DataW.trod enc P w 0 (fun _ => true) true fuel t [.slice a len cap] = some x) : a = none → len = 0 ∧ cap = 0 := by
  rcases DataW.trod_slice ht h with ⟨hcs, _⟩ | ⟨ad, l, c, elems, rest, n, _, hcs, hx, hb, hl, hm, hlen, hel, _, _⟩
  · simp at hcs
    exact fun _ => ⟨hcs.2.1, hcs.2.2⟩
  · simp at hcs
    intro h0
    rw [hcs.1] at h0; cases h0
structure Stp60 (w : World) (a : Option Addr) (l L : List DStep) (c : Nat) : Prop where
  len : L.length = min l.length 60
  few : L.length ≤ 60
  steps : Steps w a L
  fit : ∀ x ∈ L, x.user.size ≤ maxLen
theorem Stp60.mk' {w : World} {a : Option Addr} {l : List DStep} {c : Nat} (h : Steps w a l) (hg : ∀ x ∈ l, x.Good) : Stp60 w a l (l.take 60) c :=
  ⟨by rw [List.length_take]; omega, by rw [List.length_take]; omega, h.take 60, fun x hx => (hg x (List.mem_of_mem_take hx)).1⟩
theorem dig_make_all (a b : Option Addr) (ca cb : Nat) (l : List Item) (s : List DStep) (w : World) (hA : Items w a l) (hB : Steps w b s) (la : l.length ≤ 400) (lb : s.length ≤ 400) (fa : ∀ x ∈ l, x.user.size ≤ maxLen) (fb : ∀ x ∈ s, x.user.size ≤ maxLen) :
    Calls Try.prog 15 #[.slice a l.length ca, .slice b s.length cb] w fun e w' => ∃ v xs, e = .returned v ∧ (riseB l = true → s.any oddB = false → ListedI (makeF l s) xs) ∧ ((riseB l = false ∨ s.any oddB = true) → xs = []) ∧ CollI w v xs w' := by
  cases hr : riseB l with
  | false =>
    refine (dig_make_bad a b ca cb l s w hA hB (by omega) (by omega) (.inl hr)).mono ?_
    rintro e w' ⟨rfl, F⟩
    exact ⟨_, [], rfl, (fun h => by cases h), fun _ => rfl, CollE.quiet (CollE.start _ _ _) F⟩
  | true =>
    cases ho : s.any oddB with
    | true =>
      refine (dig_make_bad a b ca cb l s w hA hB (by omega) (by omega) (.inr ho)).mono ?_
      rintro e w' ⟨rfl, F⟩
      exact ⟨_, [], rfl, (fun _ h => by cases h), fun _ => rfl, CollE.quiet (CollE.start _ _ _) F⟩
    | false =>
      refine (dig_make a b ca cb l s w hA hB (by omega) (by omega) hr ho fa fb).mono ?_
      rintro e w' ⟨v, xs, rfl, h, co⟩
      exact ⟨v, xs, rfl, fun _ _ => h, (fun h => by rcases h with h | h <;> cases h), co⟩
set_option maxHeartbeats 8000000 in
set_option maxRecDepth 100000 in
theorem digestmake_any (a : Option Addr) (l : List Item) (ca : Nat) (b : Option Addr) (m : List DStep) (cb : Nat) (d : Option Addr) (n : List DStep) (cd : Nat) (w : World) (hla : l.length ≤ ca) (hca : ca ≤ maxLen) (ta : Items w a l) (ga : ∀ x ∈ l, x.Good) (na : a = none → l.length = 0 ∧ ca = 0)
    (hlb : m.length ≤ cb) (hcb : cb ≤ maxLen) (tb : Steps w b m) (gb : ∀ x ∈ m, x.Good) (hld : n.length ≤ cd) (hcd : cd ≤ maxLen) (td : Steps w d n) (gd : ∀ x ∈ n, x.Good) :
    Calls Try.prog 6 #[.slice a l.length ca, .slice b m.length cb, .slice d n.length cd] w fun e w' => e = .returned (.bool true) ∧ Below w.heap.size w w' := by
  obtain ⟨A, hA⟩ : ∃ A, A = l.take 60 := ⟨_, rfl⟩
  obtain ⟨B, hB⟩ : ∃ B, B = m.take 60 := ⟨_, rfl⟩
  obtain ⟨D, hD⟩ : ∃ D, D = n.take 60 := ⟨_, rfl⟩
  have PA : Arg60 w a l A ca := hA ▸ Arg60.mk' ta hla ga
  have PB : Stp60 w b m B cb := hB ▸ Stp60.mk' tb gb
  have PD : Stp60 w d n D cd := hD ▸ Stp60.mk' td gd
  have NA : a = none → A.length = 0 ∧ ca = 0 := fun h => ⟨by rw [PA.len]; have := (na h).1; omega, (na h).2⟩
  have ha9 : (ca : Int) ≤ 9223372036854775807 := by unfold maxLen at hca; omega
  have hb9 : (cb : Int) ≤ 9223372036854775807 := by unfold maxLen at hcb; omega
  have hd9 : (cd : Int) ≤ 9223372036854775807 := by unfold maxLen at hcd; omega
  have hmb : (m.length : Int) ≤ cb := by omega
  have hnd : (n.length : Int) ≤ cd := by omega
  have HBl : Hid ((min (m.length : Int) 60).toNat = B.length) := Lib.hid (by rw [PB.len]; omega)
  have HDl : Hid ((min (n.length : Int) 60).toNat = D.length) := Lib.hid (by rw [PD.len]; omega)
  have HPA := Lib.hid PA
  have HPB := Lib.hid PB
  have HPD := Lib.hid PD
  have HNA := Lib.hid NA
  clear hA hB hD PA PB PD ta tb td ga gb gd hca hcb hcd na NA
  go_enter Try.func6, Try.ntmps6
  go_wp2_with (fail)
  refine (dig_lives _).mono ?_
  rintro e w1 ⟨rfl, f1⟩
  go_wp2_with (fail)
  go_quiet ((go_at_call 10; exact Calls.quiet_of_same ((dig_early60 a l.length ca _ hla ha9).mono fun e w' ⟨h1, h2⟩ => ⟨h1, h2.symm⟩)))
  rw [← HPA.out.len, HBl.out, HDl.out]
  obtain ⟨V, hV⟩ : ∃ V, V = w1.drewN nq := ⟨_, rfl⟩
  have FV : Fr Nothing w V := by rw [hV]; exact f1.trans' (Fr.drewN _ _ _)
  rw [← hV]
  have HA := Lib.hid (HPA.out.items.fr FV (fun _ _ h => h))
  have HB := Lib.hid (HPB.out.steps.fr FV (fun _ _ h => h))
  have HD := Lib.hid (HPD.out.steps.fr FV (fun _ _ h => h))
  have a60 := HPA.out.few
  have b60 := HPB.out.few
  have d60 := HPD.out.few
  have aca := HPA.out.cap
  clear hla hlb hld hV f1 w1
  go_wp2_with (fail)
  refine (dig_back b cb B V HB.out (by omega)).mono ?_
  rintro e w2 ⟨v2, rfl, co2⟩
  obtain ⟨a2, c2, rfl, h2', h2c, h2m, h2n⟩ := coll_steps co2
  have H2 := Lib.hid h2'
  have F2 := FV.trans' co2.fr
  have HA2 := Lib.hid (HPA.out.items.fr F2 (fun _ _ h => h))
  have HB2 := Lib.hid (HPB.out.steps.fr F2 (fun _ _ h => h))
  clear co2 h2' h2n
  go_wp2_with (fail)
  refine (dig_make_all a a2 ca c2 A B w2 HA2.out H2.out (by omega) (by omega) HPA.out.fit HPB.out.fit).mono ?_
  rintro e w3 ⟨v3, X, rfl, g3, b3, co3⟩
  obtain ⟨a3, c3, rfl, i3', h3c, h3m⟩ := coll_items co3
  have I3 := Lib.hid i3'
  have G3 := Lib.hid g3
  have B3 := Lib.hid b3
  have F3 := F2.trans' co3.fr
  have HA3 := Lib.hid (HPA.out.items.fr F3 (fun _ _ h => h))
  have HB3 := Lib.hid (HPB.out.steps.fr F3 (fun _ _ h => h))
  clear co3 i3' g3 b3
  go_wp2_with (fail)
  refine (ref_make a b ca cb A B w3 HA3.out HB3.out (by omega) (by omega) HNA.out HPA.out.fit HPB.out.fit).mono ?_
  rintro e w4 ⟨v4, Y, rfl, g4, b4, co4⟩
  obtain ⟨a4, c4, rfl, i4', h4c, h4m⟩ := coll_items co4
  obtain rfl : Y = X := by
    cases hr : riseB A with
    | false => rw [B3.out (.inl hr), b4 (.inl hr)]
    | true =>
      cases ho : B.any oddB with
      | true => rw [B3.out (.inr ho), b4 (.inr ho)]
      | false => exact listed_eqI (g4 hr ho) (G3.out hr ho)
  have hYl : Y.length ≤ 120 := by
    cases hr : riseB A with
    | false => rw [b4 (.inl hr)]; simp
    | true =>
      cases ho : B.any oddB with
      | true => rw [b4 (.inr ho)]; simp
      | false => have := made_len (g4 hr ho); omega
  have I4 := Lib.hid i4'
  have I34 := Lib.hid (I3.out.fr co4.fr (fun _ _ h => h))
  have F4 := F3.trans' co4.fr
  clear co4 i4' g4 b4
  go_wp2_with (fail)
  refine (same_items a3 a4 Y Y c3 c4 w4 I34.out I4.out (by omega) (by omega)).mono ?_
  rintro e w5 ⟨⟨r, rfl, hr⟩, n5, rfl⟩
  obtain rfl := hr.2 rfl
  have F5 : Fr Nothing w (w4.drewN n5) := F4.trans' (Fr.drewN _ _ _)
  obtain ⟨w5, hw5⟩ : ∃ w5, w5 = w4.drewN n5 := ⟨_, rfl⟩
  rw [← hw5] at F5 ⊢
  have HB5 := Lib.hid (HPB.out.steps.fr F5 (fun _ _ h => h))
  clear hr hw5
  go_wp2_with (fail)
  refine (dig_back b cb B w5 HB5.out (by omega)).mono ?_
  rintro e w6 ⟨v6, rfl, co6⟩
  obtain ⟨a6, c6, rfl, h6', h6c, h6m, h6n⟩ := coll_steps co6
  have H6 := Lib.hid h6'
  have HN6 := Lib.hid h6n
  have F6 := F5.trans' co6.fr
  have HD6 := Lib.hid (HPD.out.steps.fr F6 (fun _ _ h => h))
  clear co6 h6' h6n
  go_wp2_with (fail)
  refine (dig_back d cd D w6 HD6.out (by omega)).mono ?_
  rintro e w7 ⟨v7, rfl, co7⟩
  obtain ⟨a7, c7, rfl, h7', h7c, h7m, h7n⟩ := coll_steps co7
  have H7 := Lib.hid h7'
  have HN7 := Lib.hid h7n
  have H67 := Lib.hid (H6.out.fr co7.fr (fun _ _ h => h))
  have F7 := F6.trans' co7.fr
  clear co7 h7' h7n
  go_wp2_with (fail)
  refine (dig_join a6 a7 c6 c7 B D w7 H67.out H7.out (by omega) (by omega) HN6.out HN7.out HPB.out.fit HPD.out.fit).mono ?_
  rintro e w8 ⟨v8, J, rfl, hJ, co8⟩
  obtain ⟨a8, c8, rfl, h8', h8c, h8m, h8n⟩ := coll_steps co8
  have hJl := joined_len hJ
  rw [List.length_append] at hJl
  have HJ := Lib.hid hJ
  have H8 := Lib.hid h8'
  have F8 := F7.trans' co8.fr
  clear co8 h8' h8n hJ
  go_wp2_with (fail)
  refine (dig_as a8 c8 J w8 H8.out (by omega)).mono ?_
  rintro e w9 ⟨v9, rfl, co9⟩
  obtain ⟨a9, c9, rfl, h9', _, _, _⟩ := coll_rsteps co9
  have H9 := Lib.hid h9'
  have F9 := F8.trans' co9.fr
  have HB9 := Lib.hid (HPB.out.steps.fr F9 (fun _ _ h => h))
  have HD9 := Lib.hid (HPD.out.steps.fr F9 (fun _ _ h => h))
  clear co9 h9'
  go_wp2_with (fail)
  refine (ref_join b d cb cd B D w9 HB9.out HD9.out (by omega) (by omega) HPB.out.fit HPD.out.fit).mono ?_
  rintro e w10 ⟨v10, K, rfl, hK, co10⟩
  obtain rfl := listed_eqS hK HJ.out
  obtain ⟨a10, c10, rfl, h10', _, _, _⟩ := coll_rsteps co10
  have H10 := Lib.hid h10'
  have H9' := Lib.hid (H9.out.fr co10.fr (fun _ _ h => h))
  have F10 := F9.trans' co10.fr
  clear co10 h10' hK
  go_wp2_with (fail)
  refine (ref_same a9 a10 K c9 c10 w10 H9'.out H10.out (by omega)).mono ?_
  rintro e w11 ⟨rfl, n11, rfl⟩
  go_wp2_with (fail)
  go_ret
  exact ⟨rfl, (F10.trans' (Fr.drewN _ _ _)).fromN.belowB⟩
end Go.Proofs.Ytfedaolpanncoaa
