/- FrontBack answers true of every input, and changes no argument. No condition. -/
import Derived.Test.YtklpjnjhaodpkaaFrontAway
namespace Go.Proofs.Ytklpjnjhaodpkaa
open Go.RowKit

/-- Texts that lie beside what may be changed. -/
def Beside (S : Nat → Prop) (w : World) (a : Option Addr) (L : List ByteArray) : Prop := Txt w a L ∧ (L = [] ∨ ∃ ad, a = some ad ∧ ad.block < w.heap.size ∧ ¬ S ad.block)
section
variable {S S' : Nat → Prop} {w w' : World} {a : Option Addr} {L : List ByteArray}
theorem Beside.next (h : Beside S w a L) (f : Fr S w w') (hS : ∀ k, S' k → S k ∨ w.heap.size ≤ k) : Beside S' w' a L := by
  obtain ⟨ht, hd⟩ := h
  rcases hd with rfl | ⟨ad, rfl, hlt, hn⟩
  · exact ⟨Sl.nil _ _, .inl rfl⟩
  · refine ⟨Sl.fr ht f (fun ad' e => by cases e; exact hn), .inr ⟨ad, rfl, Nat.lt_of_lt_of_le hlt f.size, fun hs => ?_⟩⟩
    rcases hS _ hs with h1 | h1
    · exact hn h1
    · omega
theorem Beside.mk' {c : Nat} (ht : Txt w a L) (hd : ∀ k, S k → ¬ InBlock (.slice a L.length c) k) : Beside S w a L := by
  refine ⟨ht, ?_⟩
  cases L with
  | nil => exact .inl rfl
  | cons x L =>
    obtain ⟨b, o, rfl, hc⟩ := Txt.at_ ht (i := 0) (by simp)
    exact .inr ⟨_, rfl, World.block_lt_of_cell? w _ hc, fun hs => hd _ hs rfl⟩
theorem Beside.arg {w0 : World} (ht : Txt w0 a L) (F : Fr (FromB w0.heap.size) w0 w) (hS : ∀ k, S k → w0.heap.size ≤ k) : Beside S w a L := by
  refine ⟨Txt.kept ht F, ?_⟩
  cases L with
  | nil => exact .inl rfl
  | cons x L =>
    obtain ⟨b, o, rfl, hc⟩ := Txt.at_ ht (i := 0) (by simp)
    have h1 := World.block_lt_of_cell? w0 _ hc
    exact .inr ⟨_, rfl, Nat.lt_of_lt_of_le h1 F.size, fun hs => by have := hS _ hs; simp only at h1 this; omega⟩
end

theorem txt_from {w : World} {a : Option Addr} {X : List ByteArray} (h : Txt w a X) (k : Nat) : Txt w (Option.map (fun x => x.add k) a) (X.drop k) := by
  cases a with
  | none =>
    have : X = [] := by simpa using Sl.of_none h
    subst this
    rw [List.drop_nil]; exact Sl.nil _ _
  | some ad =>
    by_cases h0 : X = []
    · subst h0; rw [List.drop_nil]; exact Sl.nil _ _
    · obtain ⟨b, o, e, _⟩ := Txt.at_ h (i := 0) (by rcases Nat.eq_zero_or_pos X.length with h1 | h1; exact absurd (List.eq_nil_of_length_eq_zero h1) h0; exact h1)
      obtain rfl : ad = ⟨b, o, none⟩ := by simpa using e
      unfold Txt
      rw [List.map_drop]
      have := Sl.drop h k
      rw [← Addr.add_lit] at this
      exact this
theorem txt_over {w : World} {a : Option Addr} {X : List ByteArray} {k : Nat} (h : X.length ≤ k) : Txt w a (X.drop k) := by rw [List.drop_eq_nil_of_le h]; exact Sl.nil _ _
theorem FBack.own {S : Nat → Prop} {p : Nat} {s : FS} {w wr w' : World} {r : List ByteArray × Int × FS} {e : Ending} (h : FInv S p w s wr) (g : FBack S p wr r e w') :
    ∃ a c S', e = .returned (.tuple #[.slice a r.1.length c, .int .i64 r.2.1]) ∧ Beside S' w' a r.1 ∧ FInv S' p w r.2.2 w' ∧ (∀ k, S' k → S k ∨ wr.heap.size ≤ k) ∧ Fr S wr w' := by
  obtain ⟨a, c, S', he, ht, hz, hn, hf, hS', hd, f⟩ := g
  exact ⟨a, c, S', he, Beside.mk' ht hd, ⟨hf, fun k hk => by
    rcases hS' k hk with h3 | h3
    · exact h.new k h3
    · exact Nat.le_trans h.fr.size h3, h.fr.trans' (f.from_ h.new)⟩, hS', f⟩

/-- A front of a ledger's open texts from number c on. -/
def keptAt (c : Int) (L : List ByteArray) : FS := ⟨some (c, 0, L), [], false, false, false⟩
theorem keptAt_back {c h : Int} {L : List ByteArray} {j : Nat} (hj : w32 (h - c) = j) (hl : j ≤ L.length) : (keptAt c L).back h = (L.drop j, 0, keptAt h (L.drop j)) := by
  simp only [FS.back, FS.keeps, keptAt, hj]
  simp
  omega
theorem keptAt_far {c h : Int} {L : List ByteArray} (hj : (L.length : Int) < w32 (h - c)) : (keptAt c L).back h = ([], 10, keptAt c L) := by
  simp only [FS.back, FS.keeps, keptAt]
  simp
  omega

set_option maxRecDepth 100000 in
set_option maxHeartbeats 4000000 in
theorem frontback_any (a : Option Addr) (A : List ByteArray) (ca : Nat) (h0 m0 : Int) (w : World) (ha : A.length ≤ ca) (hca : ca ≤ maxLen) (ta : Txt w a A) (za : ∀ s ∈ A, s.size ≤ maxLen)
    (_w0 : (Lit.int .i64 h0).wf = true) (_w1 : (Lit.int .i64 m0).wf = true) :
    Calls Try.prog 4 #[.slice a A.length ca, .int .i64 h0, .int .i64 m0] w fun e w' => e = .returned (.bool true) ∧ Below w.heap.size w w' := by
  have hca9 : (ca : Int) ≤ 9223372036854775807 := by unfold maxLen at hca; omega
  obtain ⟨X, hX⟩ : ∃ X, X = A.take 12 := ⟨_, rfl⟩
  have hXl : X.length = min A.length 12 := by rw [hX, List.length_take]; omega
  have hX5 : X.length ≤ 12 := by omega
  have hXc : X.length ≤ ca := by omega
  have htX : Txt w a X := by rw [hX]; unfold Txt; rw [List.map_take]; exact Sl.take ta 12
  have hzX : ∀ s ∈ X, s.size ≤ maxLen := fun s hs => za s (by rw [hX] at hs; exact List.mem_of_mem_take hs)
  have eX : (min (A.length : Int) 12).toNat = X.length := by omega
  have aI : (A.length : Int) ≤ ca := by omega
  obtain ⟨hh, hhl, hhe'⟩ := umod h0 (X.length + 1) (by omega) (by omega)
  have hhe : wrap64 ((IntKind.u64.wrap h0).tmod ((X.length : Int) + 1)) = (hh : Int) := hhe'
  obtain ⟨mm, hml, hme'⟩ := umod m0 (X.length + 1 - hh) (by omega) (by omega)
  have hme : wrap64 ((IntKind.u64.wrap m0).tmod ((X.length : Int) + 1 - hh)) = (mm : Int) := by
    rw [← hme']
    congr 2
    omega
  have Hhe := Lib.hid hhe
  have Hme := Lib.hid hme
  have HtX := Lib.hid htX
  have HzX := Lib.hid hzX
  have HeX := Lib.hid eX
  clear hX hXl htX hzX ta za hca eX hhe hme hhe' hme'
  go_enter Try.func4, Try.ntmps4
  go_wp2_with (fail)
  refine (front_lives _).mono ?_
  rintro e w1 ⟨rfl, f1⟩
  go_wp2_with (fail)
  rw [HeX.out]
  refine (front_new _).mono ?_
  rintro e w2 ⟨p, S, rfl, h2, hS, f2⟩
  have i2 : FInv S p w ⟨none, [], false, false, false⟩ w2 := ⟨h2, fun k hk => Nat.le_trans f1.size (hS k hk), f1.fromN.trans' f2.fromN⟩
  clear h2 hS f1 f2
  go_wp2_with (fail)
  refine (front_keep i2.front).mono ?_
  rintro e w3 ⟨rfl, g3⟩
  rw [kept_keep] at g3 ⊢
  obtain ⟨S3, i3, _⟩ := i2.gone g3
  have i3 : FInv S3 p w (kept [] false) w3 := i3
  have I3 := Lib.hid i3
  clear g3 i2 i3 aI
  go_wp2_with (fail)
  go_loopg [8] X.length (fun g i wr => ∃ k : Nat, k ≤ X.length ∧ g = X.length - k ∧ i = .int .i64 k ∧ ∃ S', FInv S' p w (kept (X.take k) false) wr)
  case atStart => exact ⟨0, Nat.zero_le _, rfl, rfl, S3, I3.out⟩
  case round =>
    obtain ⟨k, hk, rfl, rfl, S4, i4⟩ := hrel
    clear I3
    have kI : (k : Int) ≤ X.length := by omega
    by_cases hlt : k < X.length
    · have hta := HtX.out.kept i4.fr
      obtain ⟨b1, o1, rfl, hx1⟩ := Txt.at_ hta hlt
      have hxz := HzX.out X[k] (List.getElem_mem hlt)
      obtain ⟨x, hx⟩ : ∃ x, x = X[k] := ⟨_, rfl⟩
      rw [← hx] at hx1 hxz
      have hput := front_put ⟨#[97]⟩ x false i4.front (by decide) hxz
      rw [kept_put false _ _ (by rw [List.length_take]; omega)] at hput
      have hnx : X.take k ++ [x] = X.take (k + 1) := by rw [List.take_succ_eq_append_getElem hlt, hx]
      rw [hnx] at hput
      have I4 := Lib.hid i4
      clear hta hx hxz hnx i4
      go_wp2_with (fail)
      refine hput.mono ?_
      intro e w5 g
      obtain ⟨a5, c5, S5, rfl, own5, new5, _, i5, _, fr5⟩ := FTold.own I4.out g
      have I5 := Lib.hid i5
      clear hput g own5 new5 i5 fr5 hx1
      go_wp2_with (fail)
      go_roundg (X.length - (k + 1))
      case measure => omega
      case rel => exact ⟨k + 1, by omega, rfl, by go_num, S5, I5.out⟩
    · obtain rfl : k = X.length := by omega
      rw [List.take_length] at i4
      have i4 : FInv S4 p w (keptAt 0 X) wr := i4
      have hb1 := front_back (hh : Int) ⟨by omega, by omega⟩ i4.front
      rw [keptAt_back (j := hh) (by unfold w32; omega) (by omega)] at hb1
      have I4 := Lib.hid i4
      clear i4
      have e1 := Hhe.out
      have e2 := Hme.out
      have e3 : IntKind.u64.wrap ((X.length : Int) + 1 - hh) = (X.length : Int) + 1 - hh := by
        have : ∀ z : Int, IntKind.u64.wrap z = z % 18446744073709551616 := fun z => by simp [IntKind.wrap, IntKind.bits, IntKind.signed]
        rw [this]; omega
      have q1 : (hh : Int) < X.length + 1 := by omega
      have q2 : (mm : Int) ≤ 12 := by omega
      have q3 : (X.length : Int) ≤ 12 := by omega
      have q4 : ((X.length : Int) + 1 - hh == 0) = false := by rw [beq_eq_false_iff_ne]; omega
      have q5 : decide ((X.length : Int) + 1 - hh = 0) = false := by rw [decide_eq_false_iff_not]; omega
      have q6 : ¬ ((X.length : Int) + 1 - hh = 0) := by omega
      go_wp2_with (fail)
      rw [e1]
      refine hb1.mono ?_
      intro e w5 g
      obtain ⟨a1, c1, S5, rfl, b1, i5, _, _⟩ := FBack.own I4.out g
      obtain ⟨T, hT⟩ : ∃ T, T = X.drop hh := ⟨_, rfl⟩
      have hTl : T.length = X.length - hh := by rw [hT, List.length_drop]
      simp only at b1 i5 ⊢
      rw [← hT] at b1 i5 ⊢
      have hb2 := front_back (hh : Int) ⟨by omega, by omega⟩ i5.front
      rw [keptAt_back (j := 0) (by unfold w32; omega) (by omega), List.drop_zero] at hb2
      have B1 := Lib.hid b1
      have I5 := Lib.hid i5
      have HTl := Lib.hid hTl
      have HT := Lib.hid hT
      clear b1 i5 hb1 g hT hTl e1 e2 e3 q4 q5 q6
      go_wp2_with (fail)
      refine hb2.mono ?_
      intro e w6 g
      obtain ⟨a2, c2, S6, rfl, b2, i6, hS6, f6⟩ := FBack.own I5.out g
      have b1 := B1.out.next f6 hS6
      simp only at b2 i6 ⊢
      have hb3 := front_back ((hh : Int) + mm) ⟨by omega, by omega⟩ i6.front
      rw [keptAt_back (j := mm) (by unfold w32; omega) (by have := HTl.out; omega)] at hb3
      obtain ⟨V, hV⟩ : ∃ V, V = T.drop mm := ⟨_, rfl⟩
      have hVl : V.length = X.length - hh - mm := by rw [hV, List.length_drop, HTl.out]
      have hVX : V = X.drop (hh + mm) := by rw [hV, HT.out, List.drop_drop]
      rw [← hV] at hb3
      have B1 := Lib.hid b1
      have B2 := Lib.hid b2
      have I6 := Lib.hid i6
      have HVl := Lib.hid hVl
      have HV := Lib.hid hVX
      clear b1 b2 i6 hb2 g hV hVl hVX hS6 f6
      go_wp2_with (fail)
      refine hb3.mono ?_
      intro e w7 g
      obtain ⟨a3, c3, S7, rfl, b3, i7, hS7, f7⟩ := FBack.own I6.out g
      have b1 := B1.out.next f7 hS7
      have b2 := B2.out.next f7 hS7
      simp only at b3 i7 ⊢
      have B1 := Lib.hid b1
      have B2 := Lib.hid b2
      have B3 := Lib.hid b3
      have I7 := Lib.hid i7
      clear b1 b2 b3 i7 hb3 g hS7 f7
      have hXc' : X.length ≤ ca := hXc
      by_cases hm : mm = 0
      · subst hm
        have hb4 := front_back (hh : Int) ⟨by omega, by omega⟩ I7.out.front
        rw [keptAt_back (j := 0) (by unfold w32; omega) (by omega), List.drop_zero] at hb4
        go_wp2_with (fail)
        refine hb4.mono ?_
        intro e w8 g
        obtain ⟨a4, c4, S8, rfl, _, i8, hS8, f8⟩ := FBack.own I7.out g
        have b1 := B1.out.next f8 hS8
        have b2 := B2.out.next f8 hS8
        have b3 := B3.out.next f8 hS8
        simp only at i8 ⊢
        have htw : Txt w8 a X := HtX.out.kept i8.fr
        clear B1 B2 B3 I7 hS8 f8 g hb4
        by_cases hc1 : ca = hh
        · have hs1 : Txt w8 a T := by rw [HT.out]; first | exact txt_from htw hh | exact txt_over (by omega)
          have hs2 : Txt w8 a V := by rw [HV.out]; first | exact txt_from htw (hh) | exact txt_over (by omega)
          clear htw
          go_wp2_with (fail)
          rw [← HTl.out]
          refine (same_yes a1 _ T c1 _ w8 b1.1 hs1 (by unfold maxLen; have := HTl.out; omega)).mono ?_
          rintro e w9 ⟨rfl, n9, rfl⟩
          go_wp2_with (fail)
          refine (same_yes a1 a2 T c1 c2 _ (Sl.drewN b1.1 n9) (Sl.drewN b2.1 n9) (by unfold maxLen; have := HTl.out; omega)).mono ?_
          rintro e w10 ⟨rfl, n10, rfl⟩
          go_wp2_with (fail)
          have hlv : X.length - (hh) = V.length := by have := HVl.out; omega
          rw [hlv]
          refine (same_yes a3 _ V c3 _ _ (Sl.drewN b3.1 _) (Sl.drewN hs2 _) (by unfold maxLen; have := HVl.out; omega)).mono ?_
          rintro e w11 ⟨rfl, n11, rfl⟩
          clear hlv
          have hop : Calls Try.prog 15 #[.pointer (some ⟨p, 0, none⟩)] (w8.drewN (n9 + n10 + n11)) fun e w' => e = .returned (.int .i64 V.length) ∧ w8.drewN (n9 + n10 + n11) = w' := front_open (i8.front.drewN (n9 + n10 + n11))
          have hvo : ((V.length : Int) == (X.length : Int) - (hh)) = true := by rw [beq_iff_eq]; have := HVl.out; omega
          go_wp2_with (fail)
          refine hop.mono ?_
          rintro e w12 ⟨rfl, rfl⟩
          go_wp2_with (fail)
          go_ret
          exact ⟨rfl, (i8.fr.trans' (Fr.drewN _ _ _)).belowB⟩
        · have hs1 : Txt w8 (Option.map (fun x => x.add hh) a) T := by rw [HT.out]; first | exact txt_from htw hh | exact txt_over (by omega)
          have hs2 : Txt w8 (Option.map (fun x => x.add hh) a) V := by rw [HV.out]; first | exact txt_from htw (hh) | exact txt_over (by omega)
          clear htw
          go_wp2_with (fail)
          rw [← HTl.out]
          refine (same_yes a1 _ T c1 _ w8 b1.1 hs1 (by unfold maxLen; have := HTl.out; omega)).mono ?_
          rintro e w9 ⟨rfl, n9, rfl⟩
          go_wp2_with (fail)
          refine (same_yes a1 a2 T c1 c2 _ (Sl.drewN b1.1 n9) (Sl.drewN b2.1 n9) (by unfold maxLen; have := HTl.out; omega)).mono ?_
          rintro e w10 ⟨rfl, n10, rfl⟩
          go_wp2_with (fail)
          have hlv : X.length - (hh) = V.length := by have := HVl.out; omega
          rw [hlv]
          refine (same_yes a3 _ V c3 _ _ (Sl.drewN b3.1 _) (Sl.drewN hs2 _) (by unfold maxLen; have := HVl.out; omega)).mono ?_
          rintro e w11 ⟨rfl, n11, rfl⟩
          clear hlv
          have hop : Calls Try.prog 15 #[.pointer (some ⟨p, 0, none⟩)] (w8.drewN (n9 + n10 + n11)) fun e w' => e = .returned (.int .i64 V.length) ∧ w8.drewN (n9 + n10 + n11) = w' := front_open (i8.front.drewN (n9 + n10 + n11))
          have hvo : ((V.length : Int) == (X.length : Int) - (hh)) = true := by rw [beq_iff_eq]; have := HVl.out; omega
          go_wp2_with (fail)
          refine hop.mono ?_
          rintro e w12 ⟨rfl, rfl⟩
          go_wp2_with (fail)
          go_ret
          exact ⟨rfl, (i8.fr.trans' (Fr.drewN _ _ _)).belowB⟩
      · have hb4 := front_back (hh : Int) ⟨by omega, by omega⟩ I7.out.front
        rw [keptAt_far (by unfold w32; have := HVl.out; omega)] at hb4
        have hq : ((hh : Int) == (hh : Int) + (mm : Int)) = false := by rw [beq_eq_false_iff_ne]; omega
        go_wp2_with (fail)
        refine hb4.mono ?_
        intro e w8 g
        obtain ⟨a4, c4, S8, rfl, _, i8, hS8, f8⟩ := FBack.own I7.out g
        have b1 := B1.out.next f8 hS8
        have b2 := B2.out.next f8 hS8
        have b3 := B3.out.next f8 hS8
        simp only at i8 ⊢
        have htw : Txt w8 a X := HtX.out.kept i8.fr
        clear B1 B2 B3 I7 hS8 f8 g hb4
        have hc1 : ¬ ca = hh := by omega
        by_cases hc2 : ca = hh + mm
        · have hs1 : Txt w8 (Option.map (fun x => x.add hh) a) T := by rw [HT.out]; first | exact txt_from htw hh | exact txt_over (by omega)
          have hs2 : Txt w8 a V := by rw [HV.out]; first | exact txt_from htw (hh + mm) | exact txt_over (by omega)
          clear htw
          go_wp2_with (fail)
          rw [← HTl.out]
          refine (same_yes a1 _ T c1 _ w8 b1.1 hs1 (by unfold maxLen; have := HTl.out; omega)).mono ?_
          rintro e w9 ⟨rfl, n9, rfl⟩
          go_wp2_with (fail)
          refine (same_yes a1 a2 T c1 c2 _ (Sl.drewN b1.1 n9) (Sl.drewN b2.1 n9) (by unfold maxLen; have := HTl.out; omega)).mono ?_
          rintro e w10 ⟨rfl, n10, rfl⟩
          go_wp2_with (fail)
          have hlv : X.length - (hh + mm) = V.length := by have := HVl.out; omega
          rw [hlv]
          refine (same_yes a3 _ V c3 _ _ (Sl.drewN b3.1 _) (Sl.drewN hs2 _) (by unfold maxLen; have := HVl.out; omega)).mono ?_
          rintro e w11 ⟨rfl, n11, rfl⟩
          clear hlv
          have hop : Calls Try.prog 15 #[.pointer (some ⟨p, 0, none⟩)] (w8.drewN (n9 + n10 + n11)) fun e w' => e = .returned (.int .i64 V.length) ∧ w8.drewN (n9 + n10 + n11) = w' := front_open (i8.front.drewN (n9 + n10 + n11))
          have hvo : ((V.length : Int) == (X.length : Int) - ((hh : Int) + (mm : Int))) = true := by rw [beq_iff_eq]; have := HVl.out; omega
          go_wp2_with (fail)
          refine hop.mono ?_
          rintro e w12 ⟨rfl, rfl⟩
          go_wp2_with (fail)
          go_ret
          exact ⟨rfl, (i8.fr.trans' (Fr.drewN _ _ _)).belowB⟩
        · have hs1 : Txt w8 (Option.map (fun x => x.add hh) a) T := by rw [HT.out]; first | exact txt_from htw hh | exact txt_over (by omega)
          have hs2 : Txt w8 (Option.map (fun x => x.add (hh + mm)) a) V := by rw [HV.out]; first | exact txt_from htw (hh + mm) | exact txt_over (by omega)
          clear htw
          go_wp2_with (fail)
          rw [← HTl.out]
          refine (same_yes a1 _ T c1 _ w8 b1.1 hs1 (by unfold maxLen; have := HTl.out; omega)).mono ?_
          rintro e w9 ⟨rfl, n9, rfl⟩
          go_wp2_with (fail)
          refine (same_yes a1 a2 T c1 c2 _ (Sl.drewN b1.1 n9) (Sl.drewN b2.1 n9) (by unfold maxLen; have := HTl.out; omega)).mono ?_
          rintro e w10 ⟨rfl, n10, rfl⟩
          go_wp2_with (fail)
          have hlv : X.length - (hh + mm) = V.length := by have := HVl.out; omega
          rw [hlv]
          refine (same_yes a3 _ V c3 _ _ (Sl.drewN b3.1 _) (Sl.drewN hs2 _) (by unfold maxLen; have := HVl.out; omega)).mono ?_
          rintro e w11 ⟨rfl, n11, rfl⟩
          clear hlv
          have hop : Calls Try.prog 15 #[.pointer (some ⟨p, 0, none⟩)] (w8.drewN (n9 + n10 + n11)) fun e w' => e = .returned (.int .i64 V.length) ∧ w8.drewN (n9 + n10 + n11) = w' := front_open (i8.front.drewN (n9 + n10 + n11))
          have hvo : ((V.length : Int) == (X.length : Int) - ((hh : Int) + (mm : Int))) = true := by rw [beq_iff_eq]; have := HVl.out; omega
          go_wp2_with (fail)
          refine hop.mono ?_
          rintro e w12 ⟨rfl, rfl⟩
          go_wp2_with (fail)
          go_ret
          exact ⟨rfl, (i8.fr.trans' (Fr.drewN _ _ _)).belowB⟩
end Go.Proofs.Ytklpjnjhaodpkaa
