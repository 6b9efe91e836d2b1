/- LedgerStarts answers true for every input and changes no memory that was there. No condition. -/
import Derived.Test.YtgeibjmpcgkagaaLedOps
import Derived.Deep.CutBlock
namespace Go.Proofs.Ytgeibjmpcgkagaa
open Go.RowKit

/-- Two ledgers alike, the second's numbers so far on. -/
structure TwoLed (S T : Nat → Prop) (p q B : Nat) (fr_ : Int) (w wr : World) (c i : Int) (L : List ByteArray) : Prop where
  one : IsLed S wr p 5 c i L
  two : IsLed T wr q 5 (w32 (c + fr_)) (w32 (i + fr_)) L
  fr : Fr (FromB B) w wr

section
variable {S T : Nat → Prop} {p q B : Nat} {d : Int} {w wr w' : World} {c i : Int} {L : List ByteArray}
theorem TwoLed.quiet (h : TwoLed S T p q B d w wr c i L) (F : Fr Nothing wr w') : TwoLed S T p q B d w w' c i L :=
  ⟨h.one.fr F (fun _ _ h => h), h.two.fr F (fun _ _ h => h), h.fr.trans' F.fromN⟩
theorem shift_sub (h c d : Int) : w32 (w32 (h + d) - w32 (c + d)) = w32 (h - c) := by
  rw [w32_sub, w32_sub', show h + d - (c + d) = h - c by omega]
theorem shift_add (a d k : Int) : w32 (w32 (a + k) + d) = w32 (w32 (a + d) + k) := by
  rw [w32_add, w32_add, show a + k + d = a + d + k by omega]
end

set_option maxRecDepth 100000 in
set_option maxHeartbeats 4000000 in
theorem ledstarts_any (a : Option Addr) (rs : List LedOp) (c : Nat) (d : Int) (w : World) (hlc : rs.length ≤ c) (hcm : c ≤ maxLen) (ht : Recs LedOp.cells 5 w a rs) (hs : ∀ r ∈ rs, r.Good) (_w1 : (Lit.int .u32 d).wf = true) :
    Calls Try.prog 5 #[.slice a rs.length c, .int .u32 d] w fun e w' => e = .returned (.bool true) ∧ Below w.heap.size w w' := by
  have hd := U32.of_wf _w1
  have hd0 : 0 ≤ d := hd.1
  have hd1 : d < 4294967296 := hd.2
  have hc9 : (c : Int) ≤ 9223372036854775807 := by unfold maxLen at hcm; omega
  clear _w1 hcm
  go_enter Try.func5, Try.ntmps5
  go_wp2_with (fail)
  refine (led_lives _).mono ?_
  rintro e w1 ⟨rfl, f0⟩
  go_wp2_with (fail)
  refine (led_new 5 5 0 _ (by decide) ⟨by decide, by decide⟩).mono ?_
  rintro e w2 ⟨p, S, rfl, h1, hS, f1⟩
  go_wp2_with (fail)
  refine (led_new 5 5 d _ (by decide) hd).mono ?_
  rintro e w3 ⟨q, T, rfl, h2, hT, f2⟩
  have hS' : ∀ k, S k → w.heap.size ≤ k := fun k hk => Nat.le_trans f0.size (hS k hk)
  have hT' : ∀ k, T k → w.heap.size ≤ k := fun k hk => Nat.le_trans f0.size (Nat.le_trans f1.size (hT k hk))
  have hST : ∀ k, S k → ¬ T k := fun k a b => by have := h1.lt a; have := hT k b; omega
  have hTS : ∀ k, T k → ¬ S k := fun k a b => hST k b a
  have e0 : w32 (0 + d) = d := by rw [Int.zero_add]; exact hd.eq
  have inv : TwoLed S T p q w.heap.size d w w3 0 0 [] := ⟨h1.fr f2 (fun _ _ h => h), by rw [e0]; exact h2, (f0.fromN.trans' f1.fromN).trans' f2.fromN⟩
  clear h1 h2 hS hT f0 f1 f2 e0
  go_wp2_with (fail)
  refine (ledop_early a rs.length c _ hlc hc9).mono ?_
  rintro e w4 ⟨rfl, rfl⟩
  obtain ⟨Q, hQ⟩ : ∃ Q, Q = rs.take 200 := ⟨_, rfl⟩
  have htQ : Recs LedOp.cells 5 w a Q := by rw [hQ]; exact ht.take 200
  have hQl : min rs.length 200 = Q.length := by rw [hQ]; simp; omega
  have hQ2 : Q.length ≤ 200 := by rw [hQ]; simp; omega
  have hsQ : ∀ r ∈ Q, r.Good := fun r hr => hs r (by rw [hQ] at hr; exact List.mem_of_mem_take hr)
  rw [hQl]
  clear hQ hQl ht hlc hc9 hs
  go_wp2_with (fail)
  go_loopg [7] Q.length (fun g i wr => ∃ (k : Nat) (c n : Int) (L : List ByteArray), k ≤ Q.length ∧ g = Q.length - k ∧ i = .int .i64 k ∧ TwoLed S T p q w.heap.size d w wr c n L)
  case atStart => exact ⟨0, 0, 0, [], Nat.zero_le _, rfl, rfl, inv⟩
  case round =>
    clear inv
    obtain ⟨k, cf, cm, L, hk, rfl, rfl, inv⟩ := hrel
    have hBs := inv.fr.size
    by_cases hlt : k < Q.length
    · obtain ⟨b, o, rfl, hc⟩ := (htQ.kept inv.fr).at_ hlt
      have c0 := hc 0 _ rfl
      rw [Nat.add_zero] at c0
      have c1 := hc 1 _ rfl
      have c2 := hc 2 _ rfl
      have c3 := hc 3 _ rfl
      have c4 := hc 4 _ rfl
      have hg := hsQ Q[k] (List.getElem_mem hlt)
      obtain ⟨x, hx⟩ : ∃ x, x = Q[k] := ⟨_, rfl⟩
      rw [← hx] at c0 c1 c2 c3 c4 hg
      clear hc hx
      have r0 := Row.allocNew wr x.cells 44
      obtain ⟨ob, hob⟩ : ∃ ob, ob = wr.heap.size := ⟨_, rfl⟩
      have inv1 := inv.quiet (Fr.alloc Nothing wr (.cells x.cells.toArray 44))
      have n1 : ¬ S ob := fun h => by have := inv.one.lt h; omega
      have n2 : ¬ T ob := fun h => by have := inv.two.lt h; omega
      have hBs1 := inv1.fr.size
      go_wp2_with (fail)
      refine (ledop_number x _ hg.2.2.1 inv1.one).mono ?_
      rintro e w5 ⟨h, hh, rfl, f5⟩
      have inv5 := inv1.quiet f5
      have r5 := r0.fr f5 (fun h => h)
      rw [← hob] at r5
      have d0 := r5.cell 0 rfl
      have d1 := r5.cell 1 rfl
      have d2 := r5.cell 2 rfl
      have d3 := r5.cell 3 rfl
      have d4 := r5.cell 4 rfl
      rw [← hob]
      clear inv inv1 f5 r0 c0 c1 c2 c3 c4 r5 hob hg
      go_wp2_with (fail)
      refine (ref_add h d _ hh).mono ?_
      rintro e w6 ⟨rfl, rfl⟩
      go_upto_block 2 with (go_at_call 19; refine (ledop_kind x _).mono ?_; rintro e w7 ⟨z, hz, rfl, f7⟩)
      have e1 := cell_fr d1 f7 (fun h => h)
      have e4 := cell_fr d4 f7 (fun h => h)
      have inv7 := inv5.quiet f7
      clear d0 d1 d2 d3 d4 inv5 f7 hBs1 hBs
      have hB7 := inv7.fr.size
      have hle := inv7.one.le
      go_cut [11] (fun ok wx => ok = .bool true ∧ ∃ (c' n' : Int) (L' : List ByteArray), TwoLed S T p q w.heap.size d w wx c' n' L')
      case first =>
        have hsub := shift_sub h cf d
        obtain rfl | rfl | rfl | rfl | rfl : z = 0 ∨ z = 1 ∨ z = 2 ∨ z = 3 ∨ z = 4 := by omega
        · by_cases hL : L.length < 5
          · go_wp2_with (fail)
            go_region_held3 (fun w' => w'.cell? ⟨ob, 4, none⟩ = some (.string x.s)) (first | assumption)
              (first
                | (go_at_call_of 10 (Value.pointer (some ⟨p, 0, none⟩)); refine (led_send_ok _ inv7.one.drew hL).mono ?_; rintro e w8 ⟨rfl, g8, f8'⟩; have f8 := (Fr.drew S w7).trans' f8'; have e48 := cell_fr e4 f8 n1; have k8 := inv7.two.fr f8 hTS)
                | (go_at_call_of 10 (Value.pointer (some ⟨q, 0, none⟩)); refine (led_send_ok _ k8 hL).mono ?_; rintro e w9 ⟨rfl, k9, f9⟩; have e49 := cell_fr e48 f9 n2; have g9 := g8.fr f9 hST))
            go_wp2_with (fail)
            go_meet
            case rel => exact ⟨rfl, _, _, _, g9, k9, (inv7.fr.trans' (f8.from_ hS')).trans' (f9.from_ hT')⟩
          · have hL' : 5 ≤ L.length := by omega
            go_wp2_with (fail)
            go_region_held3 (fun w' => w'.cell? ⟨ob, 4, none⟩ = some (.string x.s)) (first | assumption)
              (first
                | (go_at_call_of 10 (Value.pointer (some ⟨p, 0, none⟩)); refine (led_send_no _ inv7.one.drew hL').mono ?_; rintro e w8 ⟨rfl, m8, rfl⟩)
                | (go_at_call_of 10 (Value.pointer (some ⟨q, 0, none⟩)); refine (led_send_no _ (inv7.two.drewN _) hL').mono ?_; rintro e w9 ⟨rfl, m9, rfl⟩))
            go_wp2_with (fail)
            go_meet
            case rel => exact ⟨rfl, _, _, _, inv7.quiet (Fr.drewN _ _ _)⟩
        · by_cases hin : w32 (h - cf) ≤ L.length
          · obtain ⟨j, hj⟩ := Int.eq_ofNat_of_zero_le (w32_lo (h - cf))
            rw [hj] at hsub
            have hjl : j ≤ L.length := by omega
            have Hj := Lib.hid hj
            have Hs := Lib.hid hsub
            clear hj hsub hin
            go_wp2_with (fail)
            refine (led_confirm_ok h j inv7.one hh Hj.out hjl).mono ?_
            rintro e w8 ⟨rfl, g8, f8⟩
            go_wp2_with (fail)
            refine (led_confirm_ok _ j (inv7.two.fr f8 hTS) (U32.w _) Hs.out hjl).mono ?_
            rintro e w9 ⟨rfl, k9, f9⟩
            go_wp2_with (fail)
            go_meet
            case rel => exact ⟨rfl, _, _, _, g8.fr f9 hST, k9, (inv7.fr.trans' (f8.from_ hS')).trans' (f9.from_ hT')⟩
          · have hin1 : (L.length : Int) < w32 (h - cf) := by omega
            have hin2 : (L.length : Int) < w32 (w32 (h + d) - w32 (cf + d)) := by rw [hsub]; exact hin1
            clear hsub
            go_wp2_with (fail)
            refine (led_confirm_no h inv7.one hin1).mono ?_
            rintro e w8 ⟨rfl, m8, rfl⟩
            go_wp2_with (fail)
            refine (led_confirm_no _ (inv7.two.drewN m8) hin2).mono ?_
            rintro e w9 ⟨rfl, m9, rfl⟩
            go_wp2_with (fail)
            go_meet
            case rel => exact ⟨rfl, _, _, _, inv7.quiet (Fr.drewN _ _ _)⟩
        · have hwd : IntKind.i64.wrap d = d := IntWalk.i64_in _ (by omega)
          have hsh := shift_add cm d (max x.n 0)
          have Hsh := Lib.hid hsh
          clear hsub hsh
          go_wp2_with (fail)
          go_region_held3 (fun w' => w'.cell? ⟨ob, 1, none⟩ = some (.int .i64 x.n)) (first | assumption)
            (first
              | (go_at_call_of 20 (Value.pointer (some ⟨p, 0, none⟩)); refine (led_take _ inv7.one.drew).mono ?_; rintro e w8 ⟨rfl, g8, f8'⟩; have f8 := (Fr.drew S w7).trans' f8'; have e18 := cell_fr e1 f8 n1; have k8 := inv7.two.fr f8 hTS)
              | (go_at_call 12; refine (ref_add _ _ _ (U32.w _)).mono ?_; rw [Hsh.out]; rintro e w8' ⟨rfl, rfl⟩)
              | (go_at_call_of 20 (Value.pointer (some ⟨q, 0, none⟩)); refine (led_take _ k8).mono ?_; rintro e w9 ⟨rfl, k9, f9⟩; have e19 := cell_fr e18 f9 n2; have g9 := g8.fr f9 hST))
          go_wp2_with (fail)
          go_meet
          case rel => exact ⟨rfl, _, _, _, g9, Hsh.out ▸ k9, (inv7.fr.trans' (f8.from_ hS')).trans' (f9.from_ hT')⟩
        · go_wp2_with (fail)
          go_meet
          case rel => exact ⟨rfl, _, _, _, inv7⟩
        · by_cases hin : 0 ≤ x.n ∧ x.n ≤ L.length
          · obtain ⟨hi0, hi1⟩ := hin
            obtain ⟨j, hj⟩ := Int.eq_ofNat_of_zero_le hi0
            rw [hj] at e1
            have hjl : j ≤ L.length := by omega
            clear hsub hi0 hi1 hj
            go_wp2_with (fail)
            go_region_held3 (fun w' => w'.cell? ⟨ob, 1, none⟩ = some (.int .i64 j)) (first | assumption)
              (first
                | (go_at_call_of 21 (Value.pointer (some ⟨p, 0, none⟩)); refine (led_undo_ok j inv7.one.drew hjl).mono ?_; rintro e w8 ⟨rfl, g8, f8'⟩; have f8 := (Fr.drew S w7).trans' f8'; have e18 := cell_fr e1 f8 n1; have k8 := inv7.two.fr f8 hTS)
                | (go_at_call_of 21 (Value.pointer (some ⟨q, 0, none⟩)); refine (led_undo_ok j k8 hjl).mono ?_; rintro e w9 ⟨rfl, k9, f9⟩; have e19 := cell_fr e18 f9 n2; have g9 := g8.fr f9 hST))
            go_wp2_with (fail)
            go_meet
            case rel => exact ⟨rfl, _, _, _, g9, k9, (inv7.fr.trans' (f8.from_ hS')).trans' (f9.from_ hT')⟩
          · have hin' : x.n < 0 ∨ (L.length : Int) < x.n := by omega
            clear hsub
            go_wp2_with (fail)
            go_region_held3 (fun w' => w'.cell? ⟨ob, 1, none⟩ = some (.int .i64 x.n)) (first | assumption)
              (first
                | (go_at_call_of 21 (Value.pointer (some ⟨p, 0, none⟩)); refine (led_undo_no _ inv7.one.drew hin').mono ?_; rintro e w8 ⟨rfl, rfl⟩)
                | (go_at_call_of 21 (Value.pointer (some ⟨q, 0, none⟩)); refine (led_undo_no _ inv7.two.drew hin').mono ?_; rintro e w9 ⟨rfl, rfl⟩))
            go_wp2_with (fail)
            go_meet
            case rel => exact ⟨rfl, _, _, _, inv7.quiet (Fr.drew _ _)⟩
      case rest =>
        obtain ⟨rfl, c', n', L', inv'⟩ := hcut
        clear inv7 hB7 e1 e4 hz hle L
        have hle := inv'.one.le
        have hsh := shift_add c' d (L'.length : Int)
        have Hsh := Lib.hid hsh
        clear hsh
        have hL9 : L'.length ≤ maxLen := by unfold maxLen; omega
        go_wp2_with (fail)
        refine (led_sent inv'.one).mono ?_
        rintro e w8 ⟨rfl, m8, rfl⟩
        go_wp2_with (fail)
        refine (ref_add _ _ _ (U32.w _)).mono ?_
        rw [Hsh.out]
        rintro e w9 ⟨rfl, rfl⟩
        go_wp2_with (fail)
        refine (led_sent (inv'.two.drewN m8)).mono ?_
        rintro e w10 ⟨rfl, m10, rfl⟩
        go_wp2_with (fail)
        refine (led_open (inv'.one.drewN _)).mono ?_
        rintro e w11 ⟨a1, rfl, t1, b1, _, f1⟩
        go_wp2_with (fail)
        refine (led_open ((inv'.two.drewN _).fr f1 (fun _ _ h => h))).mono ?_
        rintro e w12 ⟨a2, rfl, t2, b2, _, f2⟩
        go_wp2_with (fail)
        refine (same_yes a1 a2 L' _ _ _ (Sl.fr t1 f2 (fun _ _ h => h)) t2 hL9).mono ?_
        rintro e w13 ⟨rfl, m13, rfl⟩
        go_wp2_with (fail)
        go_roundg (Q.length - (k + 1))
        case measure => omega
        case rel => exact ⟨k + 1, c', n', L', by omega, rfl, by go_num, (((inv'.quiet (Fr.drewN _ _ _)).quiet f1).quiet f2).quiet (Fr.drewN _ _ _)⟩
    · go_wp2_with (fail)
      go_ret
      exact ⟨rfl, inv.fr.belowB⟩

end Go.Proofs.Ytgeibjmpcgkagaa
