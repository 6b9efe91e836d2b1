/- DigestBack answers true for every input and changes no memory that was there. No condition. -/
import Derived.Test.YtfedaolpanncoaaDigLaw
import Derived.Test.YtfedaolpanncoaaDigSame
import Derived.Test.YtfedaolpanncoaaDigLives
namespace Go.Proofs.Ytfedaolpanncoaa
open Go.RowKit

/-- A list as an argument: its first sixty. -/
structure Arg60 (w : World) (a : Option Addr) (l L : List Item) (c : Nat) : Prop where
  len : L.length = min l.length 60
  few : L.length ≤ 60
  cap : L.length ≤ c
  items : Items w a L
  fit : ∀ x ∈ L, x.user.size ≤ maxLen
theorem Arg60.mk' {w : World} {a : Option Addr} {l : List Item} {c : Nat} (h : Items w a l) (hl : l.length ≤ c) (hg : ∀ x ∈ l, x.Good) : Arg60 w a l (l.take 60) c :=
  ⟨by rw [List.length_take]; omega, by rw [List.length_take]; omega, by rw [List.length_take]; omega, h.take 60, fun x hx => (hg x (List.mem_of_mem_take hx)).1⟩
/-- Steps of items: their users' lengths. -/
theorem ofL_fit {A B : List Item} (ha : Rise A) (hb : Rise B) (fa : ∀ x ∈ A, x.user.size ≤ maxLen) (fb : ∀ x ∈ B, x.user.size ≤ maxLen) : ∀ s ∈ ofL A B, s.user.size ≤ maxLen := by
  intro s hs
  obtain ⟨_, _, x, hx, e⟩ := (ofL_mem A B ha hb s hs).user
  rw [← e]
  exact (List.mem_append.1 hx).elim (fa x) (fb x)
/-- A slice of the call's own as an argument. -/
theorem coll_items {w w' : World} {v : Value} {xs : List Item} (h : CollE w 27 4 v xs.length (xs.flatMap Item.cells) w') : ∃ a c, v = .slice a xs.length c ∧ Items w' a xs ∧ xs.length ≤ c ∧ c ≤ maxLen := by
  obtain ⟨a, c, rfl, h1, h2⟩ := h.own.shape
  exact ⟨a, c, rfl, ⟨Item.len, by decide, h.own.sl.2⟩, h1, h2⟩
theorem coll_steps {w w' : World} {v : Value} {xs : List DStep} (h : CollE w 37 6 v xs.length (xs.flatMap DStep.cells) w') : ∃ a c, v = .slice a xs.length c ∧ Steps w' a xs ∧ xs.length ≤ c ∧ c ≤ maxLen ∧ (a = none → xs.length = 0 ∧ c = 0) := by
  rcases h.own.2 with ⟨rfl, h0⟩ | ⟨g, cap, cur, rfl, _, _, h1, h2, _⟩
  · have := h.own.sl.2
    have hx : xs.length = 0 := h0
    exact ⟨none, 0, by rw [hx], ⟨DStep.len, by decide, this⟩, by omega, Nat.zero_le _, fun _ => ⟨hx, rfl⟩⟩
  · exact ⟨_, cap, rfl, ⟨DStep.len, by decide, h.own.sl.2⟩, h1, h2, fun h => by cases h⟩
set_option maxHeartbeats 4000000 in
set_option maxRecDepth 100000 in
/-- Of lists that may not be there are no steps. -/
theorem dig_of_bad (a b : Option Addr) (ca cb : Nat) (A B : List Item) (w : World) (hA : Items w a A) (hB : Items w b B) (ha : A.length ≤ 1000) (hb : B.length ≤ 1000) (hbad : riseB A = false ∨ riseB B = false) :
    Calls Try.prog 13 #[.slice a A.length ca, .slice b B.length cb] w fun e w' => e = .returned (.slice none 0 0) ∧ Fr Nothing w w' := by
  have HA := Lib.hid hA
  have HB := Lib.hid hB
  clear hA hB
  go_enter Try.func13, Try.ntmps13
  go_wp2_with (fail)
  go_step3
  go_wp2_with (fail)
  refine (dig_right a ca A _ HA.out ha).mono ?_
  rintro e w1 ⟨rfl, n1, rfl⟩
  cases hr : riseB A with
  | false =>
    clear hbad
    go_wp2_with (fail)
    rw [Exit.noGoto_ret]
    go_ret
    exact ⟨rfl, Fr.drewN _ _ _⟩
  | true =>
    have hb2 : riseB B = false := by rcases hbad with h | h; rw [hr] at h; cases h; exact h
    clear hbad
    go_wp2_with (fail)
    refine (dig_right b cb B _ (HB.out.drewN n1) hb).mono ?_
    rintro e w2 ⟨rfl, n2, rfl⟩
    rw [hb2]
    go_wp2_with (fail)
    rw [Exit.noGoto_ret]
    go_ret
    exact ⟨rfl, Fr.drewN _ _ _⟩
set_option maxHeartbeats 8000000 in
set_option maxRecDepth 100000 in
theorem digestback_any (a : Option Addr) (l : List Item) (ca : Nat) (b : Option Addr) (m : List Item) (cb : Nat) (w : World) (hla : l.length ≤ ca) (hca : ca ≤ maxLen) (ta : Items w a l) (ga : ∀ x ∈ l, x.Good) (hlb : m.length ≤ cb) (hcb : cb ≤ maxLen) (tb : Items w b m) (gb : ∀ x ∈ m, x.Good) :
    Calls Try.prog 4 #[.slice a l.length ca, .slice b m.length cb] w fun e w' => e = .returned (.bool true) ∧ Below w.heap.size w w' := by
  obtain ⟨A, hA⟩ : ∃ A, A = l.take 60 := ⟨_, rfl⟩
  obtain ⟨B, hB⟩ : ∃ B, B = m.take 60 := ⟨_, rfl⟩
  have PA : Arg60 w a l A ca := hA ▸ Arg60.mk' ta hla ga
  have PB : Arg60 w b m B cb := hB ▸ Arg60.mk' tb hlb gb
  have ha9 : (ca : Int) ≤ 9223372036854775807 := by unfold maxLen at hca; omega
  have hb9 : (cb : Int) ≤ 9223372036854775807 := by unfold maxLen at hcb; omega
  have HPA := Lib.hid PA
  have HPB := Lib.hid PB
  have HCA := Lib.hid hca
  have HCB := Lib.hid hcb
  clear hA hB PA PB ta tb ga gb hca hcb
  go_enter Try.func4, Try.ntmps4
  go_wp2_with (fail)
  refine (dig_lives _).mono ?_
  rintro e w1 ⟨rfl, f1⟩
  go_wp2_with (fail)
  refine (dig_early60 a l.length ca _ hla ha9).mono ?_
  rintro e w1' ⟨rfl, rfl⟩
  rw [← HPA.out.len]
  go_wp2_with (fail)
  refine (dig_early60 b m.length cb _ hlb hb9).mono ?_
  rintro e w1' ⟨rfl, rfl⟩
  rw [← HPB.out.len]
  have HA := Lib.hid (HPA.out.items.fr f1 (fun _ _ h => h))
  have HB := Lib.hid (HPB.out.items.fr f1 (fun _ _ h => h))
  have a60 := HPA.out.few
  have b60 := HPB.out.few
  have aca := HPA.out.cap
  have bcb := HPB.out.cap
  clear hla hlb
  by_cases hbad : riseB A = false ∨ riseB B = false
  · have HBAD := Lib.hid hbad
    have hbb := Lib.hid (fun w (h1 : Items w a A) (h2 : Items w b B) => dig_of_bad a b ca cb A B w h1 h2 (by omega) (by omega) hbad)
    cases ra : riseB A with
    | false =>
      clear hbad
      go_wp2_with (fail)
      refine (dig_right a ca A _ HA.out (by omega)).mono ?_
      rintro e w2 ⟨rfl, n2, rfl⟩
      rw [ra]
      go_wp2_with (fail)
      refine (hbb.out _ (HA.out.drewN n2) (HB.out.drewN n2)).mono ?_
      rintro e w3 ⟨rfl, f3⟩
      go_wp2_with (fail)
      go_ret
      exact ⟨rfl, (f1.trans' ((Fr.drewN _ _ _).trans' f3)).fromN.belowB⟩
    | true =>
      have rb : riseB B = false := by rcases hbad with h | h; rw [ra] at h; cases h; exact h
      clear hbad
      go_wp2_with (fail)
      refine (dig_right a ca A _ HA.out (by omega)).mono ?_
      rintro e w2 ⟨rfl, n2, rfl⟩
      rw [ra]
      go_wp2_with (fail)
      refine (dig_right b cb B _ (HB.out.drewN n2) (by omega)).mono ?_
      rintro e w3 ⟨rfl, n3, rfl⟩
      rw [rb]
      go_wp2_with (fail)
      refine (hbb.out _ (HA.out.drewN (n2 + n3)) (HB.out.drewN (n2 + n3))).mono ?_
      rintro e w4 ⟨rfl, f4⟩
      go_wp2_with (fail)
      go_ret
      exact ⟨rfl, (f1.trans' ((Fr.drewN _ _ _).trans' f4)).fromN.belowB⟩
  · have ra : riseB A = true := by cases h : riseB A <;> simp_all
    have rb : riseB B = true := by cases h : riseB B <;> simp_all
    have RA := Lib.hid (riseB_pw.1 ra)
    have RB := Lib.hid (riseB_pw.1 rb)
    clear hbad
    go_wp2_with (fail)
    refine (dig_right a ca A _ HA.out (by omega)).mono ?_
    rintro e w2 ⟨rfl, n2, rfl⟩
    rw [ra]
    go_wp2_with (fail)
    refine (dig_right b cb B _ (HB.out.drewN n2) (by omega)).mono ?_
    rintro e w3 ⟨rfl, n3, rfl⟩
    rw [rb]
    go_wp2_with (fail)
    have F3 : Fr Nothing w1 (w1.drewN (n2 + n3)) := Fr.drewN _ _ _
    obtain ⟨w3, hw3⟩ : ∃ w3, w3 = w1.drewN (n2 + n3) := ⟨_, rfl⟩
    rw [← hw3] at F3 ⊢
    clear hw3
    have HA3 := Lib.hid (HA.out.fr F3 (fun _ _ h => h))
    have HB3 := Lib.hid (HB.out.fr F3 (fun _ _ h => h))
    refine (dig_of a b ca cb A B _ HA3.out HB3.out aca bcb HCA.out HCB.out (by omega) (by omega) ra rb).mono ?_
    rintro e w4 ⟨s4, c4, rfl, co4⟩
    obtain ⟨S, hS⟩ : ∃ S, S = ofL A B := ⟨_, rfl⟩
    have hSl : S.length ≤ A.length + B.length := by rw [hS]; exact ofL_len A B
    have HM : Hid (makeF A S = findI B) := Lib.hid (by rw [hS]; exact makeF_of RA.out RB.out)
    have HO : Hid (S.any oddB = false) := Lib.hid (by rw [hS]; exact ofL_odd RA.out RB.out)
    have HF : Hid (∀ s ∈ S, s.user.size ≤ maxLen) := Lib.hid (by rw [hS]; exact ofL_fit RA.out RB.out HPA.out.fit HPB.out.fit)
    have HE : Hid (S = [] → A = B) := Lib.hid (fun h => ofL_nil_eq RA.out RB.out (by rw [← hS]; exact h))
    rw [← hS] at co4 ⊢
    clear hS
    have HS4 : Hid (Steps w4 s4 S) := Lib.hid ⟨DStep.len, by decide, co4.own.sl.2⟩
    have HA4 := Lib.hid (HA3.out.fr co4.fr (fun _ _ h => h))
    have HB4 := Lib.hid (HB3.out.fr co4.fr (fun _ _ h => h))
    have F4 := F3.trans' co4.fr
    clear co4
    go_wp2_with (fail)
    refine (dig_make a s4 ca c4 A S _ HA4.out HS4.out (by omega) (by omega) ra HO.out HPA.out.fit HF.out).mono ?_
    rintro e w5 ⟨v5, xs, rfl, hL, co5⟩
    rw [HM.out] at hL
    obtain rfl := listed_eqI hL (listed_find RB.out)
    obtain ⟨a5, c5, rfl, h5, h5c, h5m⟩ := coll_items co5
    have HX5 := Lib.hid h5
    have HB5 := Lib.hid (HB4.out.fr co5.fr (fun _ _ h => h))
    have HA5 := Lib.hid (HA4.out.fr co5.fr (fun _ _ h => h))
    have F5 := F4.trans' co5.fr
    clear hL co5 h5
    go_wp2_with (fail)
    refine (same_items a5 b xs xs c5 cb _ HX5.out HB5.out (by omega) (by omega)).mono ?_
    rintro e w6 ⟨⟨r, rfl, hr⟩, n6, rfl⟩
    obtain rfl := hr.2 rfl
    clear hr
    go_wp2_with (fail)
    have hof := dig_of a a ca ca A A (w5.drewN n6) (HA5.out.drewN n6) (HA5.out.drewN n6) aca aca HCA.out HCA.out (by omega) (by omega) ra ra
    rw [ofL_self] at hof
    refine hof.mono ?_
    rintro e w7 ⟨s7, c7, rfl, co7⟩
    have F7 := F5.trans' ((Fr.drewN _ _ n6).trans' co7.fr)
    have HA7 := Lib.hid ((HA5.out.drewN n6).fr co7.fr (fun _ _ h => h))
    have HB7 := Lib.hid ((HB5.out.drewN n6).fr co7.fr (fun _ _ h => h))
    clear hof co7
    have hle : ((S.length : Int) ≤ (A.length : Int) + (xs.length : Int)) := by omega
    by_cases h0 : S = []
    · have e0 := Lib.hid (HE.out h0)
      have hz : S.length = 0 := by rw [h0]; rfl
      have hz2 : ¬ ((0 : Int) < (S.length : Int)) := by omega
      clear h0
      go_wp2_with (fail)
      refine (same_items a b A xs ca cb _ HA7.out HB7.out (by omega) (by omega)).mono ?_
      rintro e w8 ⟨⟨r, rfl, hr⟩, n8, rfl⟩
      obtain rfl := hr.2 e0.out
      clear hr e0
      go_wp2_with (fail)
      go_ret
      exact ⟨rfl, (f1.trans' (F7.trans' (Fr.drewN _ _ _))).fromN.belowB⟩
    · have hpos : 0 < S.length := by
        rcases Nat.eq_zero_or_pos S.length with h | h
        · exact absurd (List.eq_nil_of_length_eq_zero h) h0
        · exact h
      have hz2 : ((0 : Int) < (S.length : Int)) := by omega
      clear h0
      go_wp2_with (fail)
      go_ret
      exact ⟨rfl, (f1.trans' F7).fromN.belowB⟩
end Go.Proofs.Ytfedaolpanncoaa
