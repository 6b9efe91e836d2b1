/- LedgerPlays answers true for every input and changes no memory that was there. No condition. -/
import Derived.Test.YtgeibjmpcgkagaaLedRef
import Derived.Deep.CutBlock
namespace Go.Proofs.Ytgeibjmpcgkagaa
open Go.RowKit

/-- The ledger and the reference's are alike, k steps on. -/
structure LedInv (S S2 : Nat → Prop) (p q n B : Nat) (start : Int) (w wr : World) (k done : Nat) (into : Int) (A : List ByteArray) : Prop where
  led : IsLed S wr p n (w32 (start + done)) (w32 (start + into)) (A.drop done)
  ref : IsLedRef S2 wr q n start done into A
  inB : ∀ k, S2 k → B ≤ k
  apart : ∀ k, S k → ¬ S2 k
  fr : Fr (FromB B) w wr
  al : A.length ≤ k
  il : into ≤ (k : Int) * 4294967296

section
variable {S S2 S3 : Nat → Prop} {p q n B k done done' : Nat} {start into into' : Int} {w wr w' : World} {A A' : List ByteArray}
theorem LedInv.quiet (h : LedInv S S2 p q n B start w wr k done into A) (F : Fr Nothing wr w') : LedInv S S2 p q n B start w w' k done into A :=
  ⟨h.led.fr F (fun _ _ h => h), h.ref.fr F (fun _ _ h => h), h.inB, h.apart, h.fr.trans' F.fromN, h.al, h.il⟩
theorem LedInv.same (h : LedInv S S2 p q n B start w wr k done into A) (hS : ∀ k, S k → B ≤ k) (l : IsLed S w' p n (w32 (start + done)) (w32 (start + into)) (A.drop done)) (F : Fr S wr w') : LedInv S S2 p q n B start w w' k done into A :=
  ⟨l, h.ref.fr F (fun k h1 h2 => h.apart k h2 h1), h.inB, h.apart, h.fr.trans' (F.from_ hS), h.al, h.il⟩
theorem LedInv.next (h : LedInv S S2 p q n B start w wr k done into A) : LedInv S S2 p q n B start w wr (k + 1) done into A :=
  ⟨h.led, h.ref, h.inB, h.apart, h.fr, by have := h.al; omega, by have := h.il; omega⟩
theorem LedInv.both {w1 w2 : World} (h : LedInv S S2 p q n B start w wr k done into A) (hB : B ≤ wr.heap.size) (hS : ∀ k, S k → B ≤ k)
    (l : IsLed S w1 p n (w32 (start + done')) (w32 (start + into')) (A'.drop done')) (f1 : Fr S wr w1) (g : LedRefGone S2 w1 q n start done' into' A' w2) (ha : A'.length ≤ k + 1) (hi : into' ≤ ((k + 1 : Nat) : Int) * 4294967296) :
    ∃ S3, LedInv S S3 p q n B start w w2 (k + 1) done' into' A' := by
  obtain ⟨S3, hr, hs, f2⟩ := g
  have hs' : ∀ k, S3 k → S2 k ∨ wr.heap.size ≤ k := fun k hk => (hs k hk).imp id (fun h => Nat.le_trans f1.size h)
  refine ⟨S3, l.fr f2 (fun k h1 h2 => h.apart k h1 h2), hr, fun k hk => ?_, fun k h1 h2 => ?_, (h.fr.trans' (f1.from_ hS)).trans' (f2.from_ h.inB), ha, hi⟩
  · rcases hs' k hk with h1 | h1
    · exact h.inB k h1
    · omega
  · rcases hs k h2 with h3 | h3
    · exact h.apart k h1 h3
    · have := l.lt h1; omega
theorem LedRefGone.ofSame (h : IsLedRef S2 w' q n start done into A) (F : Fr S2 wr w') : LedRefGone S2 wr q n start done into A w' := ⟨S2, h, fun _ h => .inl h, F⟩
end

set_option maxRecDepth 100000 in
set_option maxHeartbeats 8000000 in
theorem ledplays_any (places start : Int) (a : Option Addr) (rs : List LedOp) (c : Nat) (w : World) (_w0 : (Lit.int .i64 places).wf = true) (_w1 : (Lit.int .u32 start).wf = true) (hlc : rs.length ≤ c) (hcm : c ≤ maxLen) (ht : Recs LedOp.cells 5 w a rs) (hs : ∀ r ∈ rs, r.Good) :
    Calls Try.prog 6 #[.int .i64 places, .int .u32 start, .slice a rs.length c] w fun e w' => e = .returned (.bool true) ∧ Below w.heap.size w w' := by
  have hd := U32.of_wf _w1
  obtain ⟨m, hm⟩ : ∃ m : Nat, (m : Int) = min (max places 1) 64 := ⟨(min (max places 1) 64).toNat, by omega⟩
  have Hm := Lib.hid hm
  have hc9 : (c : Int) ≤ 9223372036854775807 := by unfold maxLen at hcm; omega
  clear _w0 _w1 hcm hm
  go_enter Try.func6, Try.ntmps6
  go_wp2_with (fail)
  refine (led_lives _).mono ?_
  rintro e w1 ⟨rfl, f0⟩
  go_wp2_with (fail)
  refine (led_new places m start _ Hm.out hd).mono ?_
  rintro e w2 ⟨p, S, rfl, h1, hS, f1⟩
  go_wp2_with (fail)
  refine (lref_new places m start _ Hm.out hd).mono ?_
  rintro e w3 ⟨q, S2, rfl, h2, hS2, f2⟩
  have hS' : ∀ k, S k → w.heap.size ≤ k := fun k hk => Nat.le_trans f0.size (hS k hk)
  have e0 : w32 (start + ((0 : Nat) : Int)) = start := by rw [show start + ((0 : Nat) : Int) = start by omega]; exact hd.eq
  have e1 : w32 (start + 0) = start := e0
  have inv : LedInv S S2 p q m w.heap.size start w w3 0 0 0 [] :=
    ⟨by rw [e0, e1]; exact h1.fr f2 (fun _ _ h => h), h2, fun k hk => Nat.le_trans f0.size (Nat.le_trans f1.size (hS2 k hk)), fun k a b => by have := h1.lt a; have := hS2 k b; omega, (f0.fromN.trans' f1.fromN).trans' f2.fromN, by simp, by simp⟩
  clear h1 h2 hS hS2 f0 f1 f2 e0 e1
  go_wp2_with (fail)
  refine (ledop_early a rs.length c _ hlc hc9).mono ?_
  rintro e w4 ⟨rfl, rfl⟩
  obtain ⟨Q, hQ⟩ : ∃ Q, Q = rs.take 200 := ⟨_, rfl⟩
  have htQ : Recs LedOp.cells 5 w a Q := by rw [hQ]; exact ht.take 200
  have hQl : min rs.length 200 = Q.length := by rw [hQ]; simp; omega
  have hQ2 : Q.length ≤ 200 := by rw [hQ]; simp; omega
  have hsQ : ∀ r ∈ Q, r.Good := fun r hr => hs r (by rw [hQ] at hr; exact List.mem_of_mem_take hr)
  rw [hQl]
  clear hQ hQl ht hlc hc9 hs
  go_wp2_with (fail)
  go_loopg [9] Q.length (fun g i wr => ∃ (k done : Nat) (into : Int) (A : List ByteArray) (S2 : Nat → Prop), k ≤ Q.length ∧ g = Q.length - k ∧ i = .int .i64 k ∧ LedInv S S2 p q m w.heap.size start w wr k done into A)
  case atStart => exact ⟨0, 0, 0, [], S2, Nat.zero_le _, rfl, rfl, inv⟩
  case round =>
    clear inv S2
    obtain ⟨k, done, into, A, S2, hk, rfl, rfl, inv⟩ := hrel
    have hBs := inv.fr.size
    by_cases hlt : k < Q.length
    · obtain ⟨b, o, rfl, hc⟩ := (htQ.kept inv.fr).at_ hlt
      have c0 := hc 0 _ rfl
      rw [Nat.add_zero] at c0
      have c1 := hc 1 _ rfl
      have c2 := hc 2 _ rfl
      have c3 := hc 3 _ rfl
      have c4 := hc 4 _ rfl
      have hg := hsQ Q[k] (List.getElem_mem hlt)
      obtain ⟨x, hx⟩ : ∃ x, x = Q[k] := ⟨_, rfl⟩
      rw [← hx] at c0 c1 c2 c3 c4 hg
      clear hc hx
      have r0 := Row.allocNew wr x.cells 44
      obtain ⟨ob, hob⟩ : ∃ ob, ob = wr.heap.size := ⟨_, rfl⟩
      have inv1 := inv.quiet (Fr.alloc Nothing wr (.cells x.cells.toArray 44))
      have n1 : ¬ S ob := fun h => by have := inv.led.lt h; omega
      have n2 : ¬ S2 ob := fun h => by have := inv.ref.lt h; omega
      have hBs1 := inv1.fr.size
      go_wp2_with (fail)
      refine (ledop_number x _ hg.2.2.1 inv1.led).mono ?_
      rintro e w5 ⟨h, hh, rfl, f5⟩
      have inv5 := inv1.quiet f5
      have r5 := r0.fr f5 (fun h => h)
      rw [← hob] at r5
      have d0 := r5.cell 0 rfl
      have d1 := r5.cell 1 rfl
      have d2 := r5.cell 2 rfl
      have d3 := r5.cell 3 rfl
      have d4 := r5.cell 4 rfl
      rw [← hob]
      clear inv inv1 f5 r0 c0 c1 c2 c3 c4 r5 hob hg
      go_upto_block 2 with (go_at_call 19; refine (ledop_kind x _).mono ?_; rintro e w7 ⟨z, hz, rfl, f7⟩)
      have e1 := cell_fr d1 f7 (fun h => h)
      have e4 := cell_fr d4 f7 (fun h => h)
      have inv7 := inv5.quiet f7
      clear d0 d1 d2 d3 d4 inv5 f7 hBs1 hBs
      have hB7 := inv7.fr.size
      have hle := inv7.led.le
      have hmo := inv7.led.most
      have hal := inv7.al
      have hil := inv7.il
      have hdl : done ≤ A.length := by obtain ⟨v, hr, _⟩ := inv7.ref; exact hr.dl
      rw [List.length_drop] at hle
      go_cut [12] (fun ok wx => ok = .bool true ∧ ∃ (done' : Nat) (into' : Int) (A' : List ByteArray) (S3 : Nat → Prop), LedInv S S3 p q m w.heap.size start w wx (k + 1) done' into' A')
      case first =>
        obtain rfl | rfl | rfl | rfl | rfl : z = 0 ∨ z = 1 ∨ z = 2 ∨ z = 3 ∨ z = 4 := by omega
        · by_cases hL : A.length - done < m
          · go_wp2_with (fail)
            go_region_held3 (fun w' => w'.cell? ⟨ob, 4, none⟩ = some (.string x.s)) (first | assumption)
              (first
                | (go_at_call 10; refine (led_send_ok _ inv7.led.drew (by rw [List.length_drop]; exact hL)).mono ?_; rintro e w8 ⟨rfl, g8, f8'⟩; have f8 := (Fr.drew S w7).trans' f8'; have e48 := cell_fr e4 f8 n1; have k8 := inv7.ref.fr f8 (fun k h1 h2 => inv7.apart k h2 h1))
                | (go_at_call 23; refine (lref_send_ok _ k8 hL (by omega)).mono ?_; rintro e w9 ⟨rfl, g9⟩; have e49 := cell_fr e48 g9.choose_spec.2.2 n2))
            go_wp2_with (fail)
            go_meet
            case rel =>
              have hdd : A.drop done ++ [x.s] = (A ++ [x.s]).drop done := by rw [List.drop_append_of_le_length hdl]
              obtain ⟨S3, i3⟩ := inv7.both hB7 hS' (hdd ▸ g8) f8 g9 (by simp; omega) (by omega)
              exact ⟨rfl, _, _, _, S3, i3⟩
          · have hL' : m ≤ A.length - done := by omega
            go_wp2_with (fail)
            go_region_held3 (fun w' => w'.cell? ⟨ob, 4, none⟩ = some (.string x.s)) (first | assumption)
              (first
                | (go_at_call 10; refine (led_send_no _ inv7.led.drew (by rw [List.length_drop]; exact hL')).mono ?_; rintro e w8 ⟨rfl, m8, rfl⟩)
                | (go_at_call 23; refine (lref_send_no _ (inv7.ref.drewN _) hL').mono ?_; rintro e w9 ⟨rfl, m9, rfl⟩))
            go_wp2_with (fail)
            go_meet
            case rel => exact ⟨rfl, _, _, _, S2, (inv7.quiet (Fr.drewN _ _ _)).next⟩
        · by_cases hin : w32 (h - w32 (start + done)) ≤ ((A.length - done : Nat) : Int)
          · obtain ⟨j, hj⟩ := Int.eq_ofNat_of_zero_le (w32_lo (h - w32 (start + done)))
            have hjl : j ≤ A.length - done := by omega
            have hjl2 : done + j ≤ A.length := by omega
            have hmet := met_at hh hj
            have Hj := Lib.hid hj
            have Hmet := Lib.hid hmet
            clear hj hin hmet
            go_wp2_with (fail)
            refine (led_confirm_ok h j inv7.led hh Hj.out (by rw [List.length_drop]; exact hjl)).mono ?_
            rintro e w8 ⟨rfl, g8, f8⟩
            go_wp2_with (fail)
            refine (lref_confirm_ok h j (inv7.ref.fr f8 (fun k h1 h2 => inv7.apart k h2 h1)) hh Hj.out hjl2).mono ?_
            rintro e w9 ⟨rfl, k9, f9⟩
            go_wp2_with (fail)
            go_meet
            case rel =>
              have g8' : IsLed S w8 p m (w32 (start + ((done + j : Nat) : Int))) (w32 (start + into)) (A.drop (done + j)) := by
                rw [show ((done + j : Nat) : Int) = (done : Int) + j by omega, Hmet.out, ← List.drop_drop]; exact g8
              obtain ⟨S3, i3⟩ := inv7.both hB7 hS' g8' f8 (LedRefGone.ofSame k9 f9) (by omega) (by omega)
              exact ⟨rfl, _, _, _, S3, i3⟩
          · have hin1 : ((A.length - done : Nat) : Int) < w32 (h - w32 (start + done)) := by omega
            go_wp2_with (fail)
            refine (led_confirm_no h inv7.led (by rw [List.length_drop]; exact hin1)).mono ?_
            rintro e w8 ⟨rfl, m8, rfl⟩
            go_wp2_with (fail)
            refine (lref_confirm_no h (inv7.ref.drewN m8) hin1).mono ?_
            rintro e w9 ⟨rfl, rfl⟩
            go_wp2_with (fail)
            go_meet
            case rel => exact ⟨rfl, _, _, _, S2, (inv7.quiet (Fr.drewN _ _ _)).next⟩
        · have hsh : w32 (w32 (start + into) + max x.n 0) = w32 (start + (into + max x.n 0 % 4294967296)) := by
            rw [w32_add, ← w32_add' (start + into) (max x.n 0)]
            unfold w32
            rw [show start + into + max x.n 0 % 4294967296 = start + (into + max x.n 0 % 4294967296) by omega]
          have Hsh := Lib.hid hsh
          clear hsh
          go_wp2_with (fail)
          go_region_held3 (fun w' => w'.cell? ⟨ob, 1, none⟩ = some (.int .i64 x.n)) (first | assumption)
            (first
              | (go_at_call 20; refine (led_take _ inv7.led.drew).mono ?_; rw [Hsh.out]; rintro e w8 ⟨rfl, g8, f8'⟩; have f8 := (Fr.drew S w7).trans' f8'; have e18 := cell_fr e1 f8 n1; have k8 := inv7.ref.fr f8 (fun k h1 h2 => inv7.apart k h2 h1))
              | (go_at_call 25; refine (lref_take _ k8 (by omega)).mono ?_; rintro e w9 ⟨rfl, k9, f9⟩; have e19 := cell_fr e18 f9 n2))
          go_wp2_with (fail)
          go_meet
          case rel =>
            obtain ⟨S3, i3⟩ := inv7.both hB7 hS' g8 f8 (LedRefGone.ofSame k9 f9) (by omega) (by omega)
            exact ⟨rfl, _, _, _, S3, i3⟩
        · by_cases hin : w32 (h - w32 (start + done)) ≤ ((A.length - done : Nat) : Int)
          · obtain ⟨j, hj⟩ := Int.eq_ofNat_of_zero_le (w32_lo (h - w32 (start + done)))
            have hjl : j ≤ A.length - done := by omega
            have hjl2 : done + j ≤ A.length := by omega
            have hmet := met_at hh hj
            have Hj := Lib.hid hj
            have Hmet := Lib.hid hmet
            clear hj hin hmet
            obtain ⟨M, hM⟩ : ∃ M, M = A.drop (done + j) := ⟨_, rfl⟩
            have HM := Lib.hid hM
            have hM9 : M.length ≤ maxLen := by rw [hM, List.length_drop]; unfold maxLen; omega
            clear hM
            go_wp2_with (fail)
            refine (led_again_ok h j M inv7.led hh Hj.out (by rw [List.length_drop]; exact hjl) (by rw [HM.out, List.drop_drop])).mono ?_
            rintro e w8 ⟨a8, rfl, t8, n8, z8, g8, f8⟩
            go_wp2_with (fail)
            refine (lref_confirm_ok h j (inv7.ref.fr f8 (fun k h1 h2 => inv7.apart k h2 h1)) hh Hj.out hjl2).mono ?_
            rintro e w9 ⟨rfl, k9, f9⟩
            have t9 := Sl.fr t8 f9 (fun ad had hs => by have := (n8 ad had).1; have := inv7.ref.lt hs; omega)
            have g8' : IsLed S w8 p m (w32 (start + ((done + j : Nat) : Int))) (w32 (start + into)) (A.drop (done + j)) := by
              rw [show ((done + j : Nat) : Int) = (done : Int) + j by omega, Hmet.out, ← HM.out]; exact g8
            obtain ⟨S3, i3⟩ := inv7.both hB7 hS' g8' f8 (LedRefGone.ofSame k9 f9) (by omega) (by omega)
            clear g8 g8' n8 z8 t8
            go_wp2_with (fail)
            refine (lref_open k9).mono ?_
            rintro e w10 ⟨a10, c10, L10, rfl, HL, t10, n10, rfl⟩
            have eL := HL.out.trans HM.out.symm
            subst eL
            go_wp2_with (fail)
            refine (same_yes a8 a10 L10 _ _ _ (by exact t9) (by exact t10) hM9).mono ?_
            rintro e w11 ⟨rfl, m11, rfl⟩
            go_wp2_with (fail)
            go_meet
            case rel =>
              exact ⟨rfl, _, _, _, S3, i3.quiet (Fr.drewN _ _ _)⟩
          · have hin1 : ((A.length - done : Nat) : Int) < w32 (h - w32 (start + done)) := by omega
            go_wp2_with (fail)
            refine (led_again_no h inv7.led (by rw [List.length_drop]; exact hin1)).mono ?_
            rintro e w8 ⟨rfl, m8, rfl⟩
            go_wp2_with (fail)
            refine (lref_confirm_no h (inv7.ref.drewN m8) hin1).mono ?_
            rintro e w9 ⟨rfl, rfl⟩
            go_wp2_with (fail)
            go_meet
            case rel => exact ⟨rfl, _, _, _, S2, (inv7.quiet (Fr.drewN _ _ _)).next⟩
        · by_cases hin : 0 ≤ x.n ∧ x.n ≤ ((A.length - done : Nat) : Int)
          · obtain ⟨j, hj⟩ := Int.eq_ofNat_of_zero_le hin.1
            have hjl : j ≤ A.length - done := by omega
            have hjl2 : done + j ≤ A.length := by omega
            rw [hj] at e1
            clear hj hin
            go_wp2_with (fail)
            go_region_held3 (fun w' => w'.cell? ⟨ob, 1, none⟩ = some (.int .i64 j)) (first | assumption)
              (first
                | (go_at_call 21; refine (led_undo_ok j inv7.led.drew (by rw [List.length_drop]; exact hjl)).mono ?_; rintro e w8 ⟨rfl, g8, f8'⟩; have f8 := (Fr.drew S w7).trans' f8'; have e18 := cell_fr e1 f8 n1; have k8 := inv7.ref.fr f8 (fun k h1 h2 => inv7.apart k h2 h1))
                | (go_at_call 27; refine (lref_undo_ok j k8 hjl2).mono ?_; rintro e w9 ⟨rfl, g9⟩; have e19 := cell_fr e18 g9.choose_spec.2.2 n2))
            go_wp2_with (fail)
            go_meet
            case rel =>
              have hdd : (A.drop done).take ((A.drop done).length - j) = (A.take (A.length - j)).drop done := by
                rw [List.drop_take, List.length_drop]; congr 1; omega
              obtain ⟨S3, i3⟩ := inv7.both hB7 hS' (hdd ▸ g8) f8 g9 (by simp; omega) (by omega)
              exact ⟨rfl, _, _, _, S3, i3⟩
          · have hin1 : x.n < 0 ∨ ((A.length - done : Nat) : Int) < x.n := by omega
            go_wp2_with (fail)
            go_region_held3 (fun w' => w'.cell? ⟨ob, 1, none⟩ = some (.int .i64 x.n)) (first | assumption)
              (first
                | (go_at_call 21; refine (led_undo_no x.n inv7.led.drew (by rw [List.length_drop]; exact hin1)).mono ?_; rintro e w8 ⟨rfl, rfl⟩)
                | (go_at_call 27; refine (lref_undo_no x.n inv7.ref.drew hin1).mono ?_; rintro e w9 ⟨rfl, m9, rfl⟩))
            go_wp2_with (fail)
            go_meet
            case rel => exact ⟨rfl, _, _, _, S2, (inv7.quiet (Fr.drewN _ _ _)).next⟩
      case rest =>
        obtain ⟨rfl, done', into', A', S3, inv'⟩ := hcut
        clear inv7 hB7 hle hmo hal hil hdl e1 e4 n1 n2 hh
        obtain ⟨v, hr, hSv⟩ := inv'.ref
        obtain ⟨av, cv, rfl, _, _⟩ := hr.own.shape
        have e0 := hr.head.cell 0 rfl
        have e1 := hr.head.cell 1 rfl
        have e2 := hr.head.cell 2 rfl
        have hal := inv'.al
        have hdl := hr.dl
        have hle := inv'.led.le
        have hmo := inv'.led.most
        have hqlt : q < wc.heap.size := hr.head.lt
        have nS : ¬ S q := fun h => inv'.apart q h ((hSv q).2 (.inl rfl))
        clear hr hSv
        obtain ⟨L, hL⟩ : ∃ L, L = A'.drop done' := ⟨_, rfl⟩
        have HL := Lib.hid hL
        have hsent : w32 (w32 (start + done') + (L.length : Int)) = w32 (start + A'.length) := by
          rw [hL, w32_add, List.length_drop]; congr 1; omega
        have Hsent := Lib.hid hsent
        clear hsent
        have hL9 : L.length ≤ maxLen := by rw [hL, List.length_drop]; unfold maxLen; omega
        have led := inv'.led
        rw [← hL] at led
        clear hL
        go_wp2_with (fail)
        go_region_held3 (fun w' => w'.cell? ⟨q, 0, none⟩ = some (.slice av A'.length cv) ∧ w'.cell? ⟨q, 1, none⟩ = some (.int .i64 done') ∧ w'.cell? ⟨q, 2, none⟩ = some (.int .i64 into')) (first | assumption | exact ⟨e0, e1, e2⟩ | exact ⟨e08, e18, e28⟩ | exact ⟨e09, e19, e29⟩)
          (first
            | (go_at_call 13; refine (led_sent led.drew).mono ?_; rw [Hsent.out]; rintro e w6 ⟨rfl, m6, rfl⟩)
            | (go_at_call 28; refine (lref_number _ ref8).mono ?_; rintro e w7 ⟨rfl, rfl⟩)
            | (go_at_call 28; refine (lref_number _ (inv'.ref.drewN _)).mono ?_; rintro e w7 ⟨rfl, rfl⟩)
            | (go_at_call 29; refine (led_confirmed (led.drewN _)).mono ?_; rintro e w7 ⟨rfl, rfl⟩)
            | (go_at_call 30; refine (led_came (led.drewN _)).mono ?_; rintro e w8 ⟨rfl, g8, f8'⟩; have f8 : Fr S wc w8 := (Fr.drewN S wc _).trans' f8'; have e08 := cell_fr e0 f8 nS; have e18 := cell_fr e1 f8 nS; have e28 := cell_fr e2 f8 nS; have ref8 := inv'.ref.fr f8 (fun k h1 h2 => inv'.apart k h2 h1))
            | (go_at_call 14; refine (led_open g8).mono ?_; rintro e w9 ⟨a9, rfl, t9, b9, b9', f9⟩; have ref9 := ref8.fr f9 (fun _ _ h => h); have e09 := cell_fr e08 f9 (fun h => h); have e19 := cell_fr e18 f9 (fun h => h); have e29 := cell_fr e28 f9 (fun h => h))
            | (go_at_call 26; refine (lref_open ref9).mono ?_; rintro e w10 ⟨a10, c10, L10, rfl, HL10, t10, n10, rfl⟩; have eL := HL10.out.trans HL.out.symm; subst eL)
            | (go_at_call 16; refine (same_yes a9 a10 L10 _ _ _ (by exact t9) (by exact t10) hL9).mono ?_; rintro e w11 ⟨rfl, m11, rfl⟩))
        have i9 := (inv'.same hS' (by rw [← HL.out]; exact g8) f8).quiet f9
        go_wp2_with (fail)
        go_roundg (Q.length - (k + 1))
        case measure => omega
        case rel => exact ⟨k + 1, done', into', A', S3, by omega, rfl, by go_num, i9.quiet (Fr.drewN _ _ _)⟩
    · go_wp2_with (fail)
      go_ret
      exact ⟨rfl, inv.fr.belowB⟩

end Go.Proofs.Ytgeibjmpcgkagaa
