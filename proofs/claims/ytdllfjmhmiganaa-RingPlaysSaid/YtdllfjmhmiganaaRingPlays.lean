/- RingPlays answers true for every input and changes no memory that was there. No condition. -/
import Derived.Test.YtdllfjmhmiganaaRingLives
import Derived.Test.YtdllfjmhmiganaaRingRef
import Derived.Test.YtdllfjmhmiganaaRingOps
import Derived.Deep.CutBlock
namespace Go.Proofs.Ytdllfjmhmiganaa
open Go.RowKit

set_option maxHeartbeats 400000 in
theorem ringop_early (a : Option Addr) (n c : Nat) (w : World) (hn : n ≤ c) (hc : (c : Int) ≤ 9223372036854775807) :
    Calls Try.prog 20 #[.slice a n c] w fun e w' => e = .returned (.slice a (min n 200) c) ∧ w = w' := by
  have h1 : (n : Int) ≤ c := by omega
  by_cases h2 : (200 : Int) < n
  · have h3 : (200 : Int) ≤ c := by omega
    have hm : min n 200 = 200 := by omega
    rw [hm]
    clear hm
    go_enter Try.func20, Try.ntmps20
    go_wp2
    go_ret
    exact ⟨rfl, rfl⟩
  · have hm : min n 200 = n := by omega
    rw [hm]
    clear hm
    go_enter Try.func20, Try.ntmps20
    go_wp2
    go_ret
    exact ⟨rfl, rfl⟩

def KindOf (m : Nat) (w : World) (e : Ending) (w' : World) : Prop := ∃ q : Nat, q < m ∧ e = .returned (.int .i64 q) ∧ Fr Nothing w w'
set_option maxHeartbeats 400000 in
theorem ringop_kind (o : RingOp) (w : World) :
    Calls Try.prog 21 #[.agg #[.int .i64 o.kind, .int .i64 o.n, .string o.s]] w (KindOf 4 w) := by
  obtain ⟨q, hq, e⟩ := umod o.kind 4 (by omega) (by omega)
  have E : Hid (wrap64 ((IntKind.u64.wrap o.kind).tmod 4) = (q : Int)) := e
  clear e
  go_enter Try.func21, Try.ntmps21
  go_wp2
  go_ret
  exact ⟨q, hq, congrArg _ (congrArg _ E.out), Fr.alloc _ _ _⟩

structure PlayInv (S S2 : Nat → Prop) (p p2 m B : Nat) (w : World) (L : List ByteArray) (wr : World) : Prop where
  ring : IsRing S wr p m L
  ref : IsRef S2 wr p2 m L
  inB : ∀ k, S2 k → B ≤ k
  apart : ∀ k, S k → ¬ S2 k
  fr : Fr (FromB B) w wr

section
variable {S S2 S3 : Nat → Prop} {p p2 m B : Nat} {w wr w' : World} {L L' : List ByteArray}
theorem PlayInv.quiet (h : PlayInv S S2 p p2 m B w L wr) (F : Fr Nothing wr w') : PlayInv S S2 p p2 m B w L w' :=
  ⟨h.ring.fr F (fun _ _ h => h), h.ref.fr F (fun _ _ h => h), h.inB, h.apart, h.fr.trans' F.fromN⟩
theorem PlayInv.drewN (h : PlayInv S S2 p p2 m B w L wr) (n : Nat) : PlayInv S S2 p p2 m B w L (wr.drewN n) := h.quiet (Fr.drewN _ _ _)
/-- Both rings have gone on: first the ring, then the reference's. -/
theorem PlayInv.both {w1 w2 : World} (h : PlayInv S S2 p p2 m B w L wr) (hB : B ≤ wr.heap.size) (hS : ∀ k, S k → B ≤ k) (r : IsRing S w1 p m L') (f1 : Fr S wr w1) (g : RefGone S2 w1 p2 m L' w2) :
    ∃ S3, PlayInv S S3 p p2 m B w L' w2 ∧ ∀ k, S3 k → S2 k ∨ wr.heap.size ≤ k := by
  obtain ⟨S3, hr, hs, f2⟩ := g
  have hs' : ∀ k, S3 k → S2 k ∨ wr.heap.size ≤ k := fun k hk => (hs k hk).imp id (fun h => Nat.le_trans f1.size h)
  refine ⟨S3, ⟨r.fr f2 (fun k h1 h2 => h.apart k h1 h2), hr, fun k hk => ?_, fun k h1 h2 => ?_, (h.fr.trans' (f1.from_ hS)).trans' (f2.from_ h.inB)⟩, hs'⟩
  · rcases hs' k hk with h1 | h1
    · exact h.inB k h1
    · omega
  · rcases hs k h2 with h3 | h3
    · exact h.apart k h1 h3
    · have := r.lt h1; omega
end

set_option maxRecDepth 100000 in
set_option maxHeartbeats 4000000 in
theorem ringplays_any (places : Int) (a : Option Addr) (rs : List RingOp) (c : Nat) (w : World) (_w0 : (Lit.int .i64 places).wf = true) (hlc : rs.length ≤ c) (hcm : c ≤ maxLen) (ht : Recs RingOp.cells 3 w a rs) (_hs : ∀ r ∈ rs, r.Good) :
    Calls Try.prog 7 #[.int .i64 places, .slice a rs.length c] w fun e w' => e = .returned (.bool true) ∧ Below w.heap.size w w' := by
  obtain ⟨m, hm⟩ : ∃ m : Nat, (m : Int) = min (max places 1) 64 := ⟨(min (max places 1) 64).toNat, by omega⟩
  have Hm := Lib.hid hm
  have hc9 : (c : Int) ≤ 9223372036854775807 := by unfold maxLen at hcm; omega
  clear hm _w0 _hs hcm
  go_enter Try.func7, Try.ntmps7
  go_wp2_with (fail)
  refine (ring_lives _).mono ?_
  rintro e w1 ⟨rfl, f0⟩
  go_wp2_with (fail)
  refine (ring_new places m _ Hm.out).mono ?_
  rintro e w2 ⟨p, S, rfl, r1, hS, f1⟩
  go_wp2_with (fail)
  refine (ref_new places m _ Hm.out).mono ?_
  rintro e w3 ⟨p2, S2, rfl, r2, hS2, f2⟩
  have hS' : ∀ k, S k → w.heap.size ≤ k := fun k hk => Nat.le_trans f0.size (hS k hk)
  have inv : PlayInv S S2 p p2 m w.heap.size w [] w3 :=
    ⟨r1.fr f2 (fun _ _ h => h), r2, fun k hk => Nat.le_trans f0.size (Nat.le_trans f1.size (hS2 k hk)), fun k h1 h2 => by have := r1.lt h1; have := hS2 k h2; omega, (f0.fromN.trans' f1.fromN).trans' f2.fromN⟩
  clear r1 r2 hS hS2 f0 f1 f2
  go_wp2_with (fail)
  refine (ringop_early a rs.length c _ hlc hc9).mono ?_
  rintro e w4 ⟨rfl, rfl⟩
  obtain ⟨T, hT⟩ : ∃ T, T = rs.take 200 := ⟨_, rfl⟩
  have htT : Recs RingOp.cells 3 w a T := by rw [hT]; exact ht.take 200
  have hTl : min rs.length 200 = T.length := by rw [hT]; simp; omega
  have hT2 : T.length ≤ 200 := by rw [hT]; simp; omega
  rw [hTl]
  clear hT hTl ht hlc hc9
  go_wp2_with (fail)
  go_loopg [7] T.length (fun g i wr => ∃ (k : Nat) (L : List ByteArray) (S2 : Nat → Prop), k ≤ T.length ∧ g = T.length - k ∧ i = .int .i64 k ∧ PlayInv S S2 p p2 m w.heap.size w L wr)
  case atStart => exact ⟨0, [], S2, Nat.zero_le _, rfl, rfl, inv⟩
  case round =>
    clear inv S2
    obtain ⟨k, L, S2, hk, rfl, rfl, inv⟩ := hrel
    have hBs := inv.fr.size
    by_cases hlt : k < T.length
    · obtain ⟨b, o, rfl, hc⟩ := (htT.kept inv.fr).at_ hlt
      have c0 := hc 0 _ rfl
      rw [Nat.add_zero] at c0
      have c1 := hc 1 _ rfl
      have c2 := hc 2 _ rfl
      clear hc
      have hwr : ∀ x, (wr.alloc x).heap.size = wr.heap.size + 1 := fun x => by simp
      go_upto_block 2 with (go_at_call 21; refine (ringop_kind T[k] _).mono ?_; rintro e w5 ⟨q, hq, rfl, f5⟩)
      have fa : Fr Nothing wr w5 := (Fr.alloc _ _ _).trans' f5
      have d1 : w5.cell? ⟨wr.heap.size, 1, none⟩ = some (.int .i64 T[k].n) := cell_fr ((Row.allocNew wr [.int .i64 T[k].kind, .int .i64 T[k].n, .string T[k].s] 44).cell 1 rfl) f5 (fun h => h)
      have d2 : w5.cell? ⟨wr.heap.size, 2, none⟩ = some (.string T[k].s) := cell_fr ((Row.allocNew wr [.int .i64 T[k].kind, .int .i64 T[k].n, .string T[k].s] 44).cell 2 rfl) f5 (fun h => h)
      have n1 : ¬ S wr.heap.size := fun h => by have := inv.ring.lt h; omega
      have n2 : ¬ S2 wr.heap.size := fun h => by have := inv.ref.lt h; omega
      have inv5 := inv.quiet fa
      have hB5 := inv5.fr.size
      obtain ⟨ob, hob⟩ : ∃ ob, ob = wr.heap.size := ⟨_, rfl⟩
      obtain ⟨x, hx⟩ : ∃ x, x = T[k] := ⟨_, rfl⟩
      rw [← hob] at d1 d2 n1 n2
      rw [← hx] at d1 d2
      rw [← hob, ← hx]
      clear inv fa f5 c0 c1 c2 hwr hob hx
      go_cut [9] (fun ok wx => ok = .bool true ∧ ∃ (L' : List ByteArray) (S3 : Nat → Prop), PlayInv S S3 p p2 m w.heap.size w L' wx)
      case first =>
        obtain rfl | rfl | rfl | rfl : q = 0 ∨ q = 1 ∨ q = 2 ∨ q = 3 := by omega
        · by_cases hL : L.length < m
          · go_wp2_with (fail)
            go_region_held3 (fun w' => w'.cell? ⟨ob, 2, none⟩ = some (.string x.s)) (first | assumption)
              (first
                | (go_at_call 11; refine (ring_push_ok _ inv5.ring.drew hL).mono ?_; rintro e w6 ⟨rfl, r6, f6'⟩; have f6 := (Fr.drew S w5).trans' f6'; have d26 := cell_fr d2 f6 n1; have ref6 := inv5.ref.fr f6 (fun k h1 h2 => inv5.apart k h2 h1))
                | (go_at_call 22; refine (ref_push_ok _ ref6 hL).mono ?_; rintro e w7 ⟨rfl, g7⟩; have d27 := cell_fr d26 g7.choose_spec.2.2 n2))
            go_wp2_with (fail)
            go_meet
            case rel =>
              obtain ⟨S3, i3, _⟩ := inv5.both hB5 hS' r6 f6 g7
              exact ⟨rfl, _, S3, i3⟩
          · have hL' : m ≤ L.length := by omega
            go_wp2_with (fail)
            go_region_held3 (fun w' => w'.cell? ⟨ob, 2, none⟩ = some (.string x.s)) (first | assumption)
              (first
                | (go_at_call 11; refine (ring_push_no _ inv5.ring.drew hL').mono ?_; rintro e w6 ⟨rfl, m6, rfl⟩)
                | (go_at_call 22; refine (ref_push_no _ (inv5.ref.drewN _) hL').mono ?_; rintro e w7 ⟨rfl, m7, rfl⟩))
            go_wp2_with (fail)
            go_meet
            case rel => exact ⟨rfl, L, S2, inv5.drewN _⟩
        · by_cases hin : 0 ≤ x.n ∧ x.n ≤ L.length
          · obtain ⟨hi0, hi1⟩ := hin
            go_wp2_with (fail)
            go_region_held3 (fun w' => w'.cell? ⟨ob, 1, none⟩ = some (.int .i64 x.n)) (first | assumption)
              (first
                | (go_at_call 12; refine (ring_drop_ok _ inv5.ring.drew hi0 hi1).mono ?_; rintro e w6 ⟨rfl, r6, f6'⟩; have f6 := (Fr.drew S w5).trans' f6'; have d26 := cell_fr d1 f6 n1; have ref6 := inv5.ref.fr f6 (fun k h1 h2 => inv5.apart k h2 h1))
                | (go_at_call 23; refine (ref_drop_ok _ ref6 hi0 hi1).mono ?_; rintro e w7 ⟨rfl, g7⟩; have d27 := cell_fr d26 g7.choose_spec.2.2 n2))
            go_wp2_with (fail)
            go_meet
            case rel =>
              obtain ⟨S3, i3, _⟩ := inv5.both hB5 hS' r6 f6 g7
              exact ⟨rfl, _, S3, i3⟩
          · have hin' : x.n < 0 ∨ (L.length : Int) < x.n := by omega
            go_wp2_with (fail)
            go_region_held3 (fun w' => w'.cell? ⟨ob, 1, none⟩ = some (.int .i64 x.n)) (first | assumption)
              (first
                | (go_at_call 12; refine (ring_drop_no _ inv5.ring.drew hin').mono ?_; rintro e w6 ⟨rfl, rfl⟩)
                | (go_at_call 23; refine (ref_drop_no _ inv5.ref.drew hin').mono ?_; rintro e w7 ⟨rfl, rfl⟩))
            go_wp2_with (fail)
            go_meet
            case rel => exact ⟨rfl, L, S2, inv5.quiet (Fr.drew _ _)⟩
        · obtain ⟨j, hj⟩ : ∃ j : Nat, (j : Int) = min (max x.n 0) L.length := ⟨(min (max x.n 0) L.length).toNat, by omega⟩
          have Hj := Lib.hid hj
          have hle := inv5.ring.le
          have hmo := inv5.ring.most
          clear hj
          go_wp2_with (fail)
          go_region_held3 (fun w' => w'.cell? ⟨ob, 1, none⟩ = some (.int .i64 x.n)) (first | assumption)
            (first
              | (go_at_call 16; refine (ring_cut _ j inv5.ring.drew Hj.out).mono ?_; rintro e w6 ⟨a6, X, Y, rfl, Hxy, Hx, t6, b6, r6, f6'⟩; have f6 := (Fr.drew S w5).trans' f6'; have d26 := cell_fr d1 f6 n1; have ref6 := inv5.ref.fr f6 (fun k h1 h2 => inv5.apart k h2 h1))
              | (go_at_call 24; refine (ref_cut _ j ref6 Hj.out).mono ?_; rintro e w7 ⟨a7, c7, X', Y', rfl, Hxy', Hx', t7, g7⟩; obtain ⟨rfl, rfl⟩ : X = X' ∧ Y = Y' := List.append_inj (Hxy.out.trans Hxy'.out.symm) (Hx.out.trans Hx'.out.symm); have d27 := cell_fr d26 g7.choose_spec.2.2 n2; have t67 := Sl.fr t6 g7.choose_spec.2.2 (fun ad had hk => by have h1 := inv5.ref.lt hk; have h2 := b6 ad had; simp at h2; omega); have hYl : Y.length ≤ maxLen := by have := congrArg List.length Hxy.out; simp at this; unfold maxLen; omega)
              | (go_at_call 13; refine (same_yes a6 a7 Y _ _ _ t67 t7 hYl).mono ?_; rintro e w8 ⟨rfl, m8, rfl⟩))
          go_wp2_with (fail)
          go_meet
          case rel =>
            obtain ⟨S3, i3, _⟩ := inv5.both hB5 hS' r6 f6 g7
            exact ⟨rfl, _, S3, i3.drewN _⟩
        · obtain ⟨v, hr, _⟩ := inv5.ref
          obtain ⟨av, cv, rfl, _, _⟩ := hr.own.shape
          have e0 := hr.head.cell 0 rfl
          have hsl := hr.own.sl.2
          have hle := inv5.ring.le
          have hmo := inv5.ring.most
          by_cases hin : 0 ≤ x.n ∧ x.n < L.length
          · obtain ⟨hi0, hi1⟩ := hin
            obtain ⟨j, hj⟩ := Int.eq_ofNat_of_zero_le hi0
            rw [hj] at d1
            have hjl : j < L.length := by omega
            obtain ⟨bv, ov, rfl, hcv⟩ := Txt.at_ hsl hjl
            have q1 : (0 : Int) ≤ j := by omega
            have q2 : (j : Int) < L.length := by omega
            have Hr := Lib.hid hr
            clear hj hi0 hi1 hr
            go_wp2_with (fail)
            refine (ring_at_ok j L[j] inv5.ring q1 (by simp)).mono ?_
            rintro e w6 ⟨rfl, m6, rfl⟩
            go_wp2_with (fail)
            go_quiet (fail)
            go_wp2_with (fail)
            go_meet
            case rel => exact ⟨rfl, L, S2, (inv5.drewN m6).drewN nq⟩
          · have Hr := Lib.hid hr
            clear hr
            by_cases h0 : x.n < 0
            · have g0 : decide (0 ≤ x.n) = false := by simp; omega
              go_wp2_with (fail)
              refine (ring_at_no x.n inv5.ring (by omega)).mono ?_
              rintro e w6 ⟨rfl, rfl⟩
              go_wp2_with (fail)
              go_quiet (fail)
              go_wp2_with (fail)
              go_meet
              case rel => exact ⟨rfl, L, S2, inv5.drewN nq⟩
            · have h1 : (L.length : Int) ≤ x.n := by omega
              have g0 : decide (0 ≤ x.n) = true := by simp; omega
              have g1 : decide (x.n < (L.length : Int)) = false := by simp; omega
              go_wp2_with (fail)
              refine (ring_at_no x.n inv5.ring (by omega)).mono ?_
              rintro e w6 ⟨rfl, rfl⟩
              go_wp2_with (fail)
              go_quiet (fail)
              go_wp2_with (fail)
              go_meet
              case rel => exact ⟨rfl, L, S2, inv5.drewN nq⟩
      case rest =>
        obtain ⟨rfl, L', S3, inv'⟩ := hcut
        clear inv5 hB5 d1 d2 n1 n2 hq L S2
        obtain ⟨v, hr, _⟩ := inv'.ref
        obtain ⟨av, cv, rfl, _, _⟩ := hr.own.shape
        have e0 := hr.head.cell 0 rfl
        have e1 := hr.head.cell 1 rfl
        have hsl := hr.own.sl.2
        have hle := inv'.ring.le
        have hmo := inv'.ring.most
        have hplt : p2 < wc.heap.size := hr.head.lt
        have hL9 : L'.length ≤ maxLen := by unfold maxLen; omega
        have Hr := Lib.hid hr
        clear hr
        go_wp2_with (fail)
        go_region_held3 (fun w' => w'.cell? ⟨p2, 0, none⟩ = some (.slice av L'.length cv) ∧ w'.cell? ⟨p2, 1, none⟩ = some (.int .i64 m)) (first | assumption | exact ⟨e0, e1⟩ | exact ⟨e06, e16⟩)
          (first
            | (go_at_call 15; refine (ring_len inv'.ring.drew).mono ?_; rintro e w6 ⟨rfl, rfl⟩)
            | (go_at_call 18; refine (ring_places inv'.ring.drew).mono ?_; rintro e w6 ⟨rfl, rfl⟩)
            | (go_at_call 14; refine (ring_list inv'.ring.drew).mono ?_; rintro e w6 ⟨a6, rfl, t6, b6, b6', f6'⟩; have f6 := (Fr.drew Nothing wc).trans' f6'; have e06 := cell_fr e0 f6 (fun h => h); have e16 := cell_fr e1 f6 (fun h => h); have hsl6 := Sl.fr hsl f6 (fun _ _ h => h))
            | (go_at_call 13; refine (same_yes a6 av L' _ _ _ t6 hsl6 hL9).mono ?_; rintro e w8 ⟨rfl, m8, rfl⟩))
        go_wp2_with (fail)
        go_roundg (T.length - (k + 1))
        case measure => omega
        case rel => exact ⟨k + 1, L', S3, by omega, rfl, by go_num, (inv'.quiet f6).drewN m8⟩
    · go_wp2_with (fail)
      go_ret
      exact ⟨rfl, inv.fr.belowB⟩

end Go.Proofs.Ytdllfjmhmiganaa
