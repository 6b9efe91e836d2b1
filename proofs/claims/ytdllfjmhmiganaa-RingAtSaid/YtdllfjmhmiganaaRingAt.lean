/- RingAt answers true for every input and changes no memory that was there. No condition. -/
import Derived.Test.YtdllfjmhmiganaaRingLives
namespace Go.Proofs.Ytdllfjmhmiganaa
open Go.RowKit

set_option maxRecDepth 100000 in
set_option maxHeartbeats 2000000 in
theorem ringat_any (places : Int) (a : Option Addr) (L : List ByteArray) (c : Nat) (n : Int) (w : World) (_w0 : (Lit.int .i64 places).wf = true) (_hl : L.length ≤ maxLen) (ht : Txt w a L) (_hs : ∀ s ∈ L, s.size ≤ maxLen) (_w1 : (Lit.int .i64 n).wf = true) :
    Calls Try.prog 5 #[.int .i64 places, .slice a L.length c, .int .i64 n] w fun e w' => e = .returned (.bool true) ∧ Below w.heap.size w w' := by
  obtain ⟨m, hm⟩ : ∃ m : Nat, (m : Int) = min (max places 1) 64 := ⟨(min (max places 1) 64).toNat, by omega⟩
  have Hm := Lib.hid hm
  unfold maxLen at _hl
  clear hm _w0 _w1 _hs
  go_enter Try.func5, Try.ntmps5
  go_wp2_with (fail)
  refine (ring_lives _).mono ?_
  rintro e w1 ⟨rfl, f0⟩
  go_wp2_with (fail)
  refine (ring_new places m _ Hm.out).mono ?_
  rintro e w2 ⟨p, S, rfl, r1, hS, f1⟩
  have hS' : ∀ k, S k → w.heap.size ≤ k := fun k hk => Nat.le_trans f0.size (hS k hk)
  have F : Fr (FromB w.heap.size) w w2 := f0.fromN.trans' f1.fromN
  clear hS f0 f1
  go_wp2_with (fail)
  go_loopw [8] (fun i wr => ∃ (k : Nat) (M : List ByteArray), k ≤ L.length ∧ k ≤ 100 ∧ i = .int .i64 k ∧ IsRing S wr p m M ∧ Fr (FromB w.heap.size) w wr) (fun i _ => L.length - (intOf i).toNat)
  case atStart => exact ⟨0, [], Nat.zero_le _, Nat.zero_le _, rfl, r1, F⟩
  case round =>
    clear r1 F
    obtain ⟨k, M, hk, hk7, rfl, r1, F⟩ := hrel
    by_cases hlt : k < L.length ∧ k < 100
    · obtain ⟨hlt, hk70⟩ := hlt
      obtain ⟨b, o, rfl, hc⟩ := (ht.kept F).at_ hlt
      by_cases hM : M.length < m
      · go_wp2_with (fail)
        refine (ring_push_ok _ r1 hM).mono ?_
        rintro e w4 ⟨rfl, r3, f3⟩
        go_wp2_with (fail)
        go_roundw
        case rel => exact ⟨k + 1, M ++ [L[k]], by omega, by omega, by go_num, r3, F.trans' (f3.from_ hS')⟩
        case measure => simp [intOf]; omega
      · go_wp2_with (fail)
        refine (ring_push_no _ r1 (by omega)).mono ?_
        rintro e w4 ⟨rfl, m4, rfl⟩
        have hbb := World.block_lt_of_cell? _ _ hc
        by_cases h2 : 2 ≤ M.length
        · go_wp2_with (fail)
          refine (ring_drop_ok 2 (r1.drewN m4) (by decide) (by omega)).mono ?_
          rintro e w5 ⟨rfl, r5, f5⟩
          have F5 := (F.trans' (Fr.drewN _ _ m4)).trans' (f5.from_ hS')
          obtain ⟨b', o', hbo, hc'⟩ := (ht.kept F5).at_ hlt
          obtain ⟨rfl, rfl⟩ : b = b' ∧ o = o' := by simpa using hbo
          have hle := r1.le
          go_wp2_with (fail)
          refine (ring_push_ok _ r5 (by simp; omega)).mono ?_
          rintro e w6 ⟨rfl, r6, f6⟩
          go_wp2_with (fail)
          go_roundw
          case rel => exact ⟨k + 1, _, by omega, by omega, by go_num, r6, F5.trans' (f6.from_ hS')⟩
          case measure => simp [intOf]; omega
        · go_wp2_with (fail)
          refine (ring_drop_no 2 (r1.drewN m4) (by omega)).mono ?_
          rintro e w5 ⟨rfl, rfl⟩
          go_wp2_with (fail)
          refine (ring_push_no _ (r1.drewN m4) (by omega)).mono ?_
          rintro e w6 ⟨rfl, m6, rfl⟩
          go_wp2_with (fail)
          go_roundw
          case rel => exact ⟨k + 1, M, by omega, by omega, by go_num, r1.drewN _, F.trans' (Fr.drewN _ _ _)⟩
          case measure => simp [intOf]; omega
    · have hex : (k : Int) < L.length → ¬ (k : Int) < 100 := by omega
      have hMm := r1.le
      have hmost := r1.most
      by_cases h1 : k < L.length
      all_goals
        go_wp2_with (fail)
        refine (ring_list r1).mono ?_
        rintro e w4 ⟨a1, rfl, t1, b1, _, f4⟩
        have r4 := r1.fr f4 fun _ _ h => h
        have F4 := F.trans' f4.fromN
        have hb4 : ∀ ad, a1 = some ad → ad.block = wr.heap.size := fun ad had => by rw [(b1 ad had).1]
        have hSw : ∀ k, S k → k < wr.heap.size := fun k hk => r1.lt hk
        clear r1 F f4 b1
        go_wp2_with (fail)
        go_loopw [10] (fun i wx => ∃ (j : Nat) , j ≤ M.length ∧ i = .int .i64 j ∧ ∃ m, wx = w4.drewN m) (fun i _ => M.length - (intOf i).toNat)
        case atStart => exact ⟨0, Nat.zero_le _, rfl, 0, rfl⟩
        case round =>
          obtain ⟨j, hj, rfl, m4, rfl⟩ := hrel
          by_cases hjl : j < M.length
          · obtain ⟨b, o, rfl, hc⟩ := Txt.at_ t1 hjl
            go_wp2_with (fail)
            refine (ring_at_ok j M[j] (r4.drewN m4) (by omega) (by simp [hjl])).mono ?_
            rintro e w5 ⟨rfl, m5, rfl⟩
            go_wp2_with (fail)
            go_roundw
            case rel => exact ⟨j + 1, by omega, by go_num, m4 + m5, by simp⟩
            case measure => simp [intOf]; omega
          · obtain rfl : j = M.length := by omega
            go_upto_region 17 with (fail)
            go_cut [13, 14] (fun s13 s14 wx => ((0 ≤ n ∧ n < M.length ∧ ∃ x, s13 = .string x ∧ s14 = .bool true) ∨ ((n < 0 ∨ (M.length : Int) ≤ n) ∧ s13 = .string ByteArray.empty ∧ s14 = .bool false)) ∧ ∃ m, wx = w4.drewN m)
            case first =>
              by_cases hin : 0 ≤ n ∧ n < M.length
              · obtain ⟨hn0, hn1⟩ := hin
                go_wp2_with (fail)
                refine (ring_at_ok n M[n.toNat] (r4.drewN m4) hn0 (by simp)).mono ?_
                rintro e w5 ⟨rfl, m5, rfl⟩
                go_wp2_with (fail)
                go_meet
                case rel => exact ⟨.inl ⟨hn0, hn1, _, rfl, rfl⟩, m4 + m5, by simp⟩
              · go_wp2_with (fail)
                refine (ring_at_no n (r4.drewN m4) (by omega)).mono ?_
                rintro e w5 ⟨rfl, rfl⟩
                go_wp2_with (fail)
                go_meet
                case rel => exact ⟨.inr ⟨by omega, rfl, rfl⟩, m4, rfl⟩
            case rest =>
              obtain ⟨hs, m5, rfl⟩ := hcut
              go_upto_region 18 with (fail)
              go_cut [105] (fun s wx => s = .bool false ∧ w4.drewN m5 = wx)
              case first =>
                have p1 : ¬ ((m : Int) < M.length) := by omega
                rcases hs with ⟨hn0, hn1, x, rfl, rfl⟩ | ⟨hn, rfl, rfl⟩
                · go_wp2_with (first | (go_at_call 15; refine (ring_len (r4.drewN m5)).mono ?_; rintro e w5 ⟨rfl, rfl⟩) | (go_at_call 18; refine (ring_places (r4.drewN m5)).mono ?_; rintro e w5 ⟨rfl, rfl⟩))
                  go_meet
                  case rel => exact ⟨congrArg Value.bool (by simp; omega), rfl⟩
                · by_cases hn0 : n < 0
                  all_goals
                    go_wp2_with (first | (go_at_call 15; refine (ring_len (r4.drewN m5)).mono ?_; rintro e w5 ⟨rfl, rfl⟩) | (go_at_call 18; refine (ring_places (r4.drewN m5)).mono ?_; rintro e w5 ⟨rfl, rfl⟩))
                    go_meet
                    case rel => exact ⟨congrArg Value.bool (by simp; omega), rfl⟩
              case rest =>
                obtain ⟨rfl, rfl⟩ := hcut
                by_cases hM0 : M.length = 0
                · obtain rfl : M = [] := List.eq_nil_of_length_eq_zero hM0
                  go_wp2_with (fail)
                  refine (ring_drop_no 1 (r4.drewN m5) (by simp)).mono ?_
                  rintro e w6 ⟨rfl, rfl⟩
                  go_wp2_with (fail)
                  go_ret
                  exact ⟨rfl, (F4.trans' (Fr.drewN _ _ _)).belowB⟩
                · obtain ⟨x, N, rfl⟩ : ∃ x N, M = x :: N := by
                    cases M with
                    | nil => simp at hM0
                    | cons x N => exact ⟨x, N, rfl⟩
                  obtain ⟨b1, o1, rfl, _⟩ := Txt.at_ t1 (i := 0) (by simp)
                  have hN64 : N.length ≤ 64 := by simp at hMm; omega
                  clear hM0 hs
                  go_wp2_with (fail)
                  refine (ring_drop_ok 1 (r4.drewN m5) (by decide) (by simp; omega)).mono ?_
                  rintro e w6 ⟨rfl, r6', f6⟩
                  have r6 : IsRing S w6 p m N := r6'
                  go_wp2_with (fail)
                  have hb6 : ∀ ad, some (⟨b1, o1, none⟩ : Addr) = some ad → ¬ S ad.block := fun ad had hk => by have := hSw _ hk; have := hb4 ad had; omega
                  have t6 : Txt w6 (some ⟨b1, o1 + 1, none⟩) N := Sl.drop (Sl.fr (Sl.drewN t1 m5) f6 hb6) 1
                  have F6 := (F4.trans' (Fr.drewN _ _ m5)).trans' (f6.from_ hS')
                  clear r6' hb6 f6 t1 r4 F4
                  by_cases hN : N.length = 0
                  · obtain rfl : N = [] := List.eq_nil_of_length_eq_zero hN
                    go_region_held3 (fun _ => True) (trivial)
                      (first
                        | (go_at_call 14; refine (ring_list r6.drew).mono ?_; rintro e w7 ⟨a7, rfl, t7, b7, _, f7⟩)
                        | (go_at_call 13; refine (same_yes a7 (some ⟨b1, o1, none⟩) [] 0 0 _ (Sl.nil _ _) (Sl.nil _ _) (by decide)).mono ?_; rintro e w8 ⟨rfl, m8, rfl⟩))
                    go_wp2_with (fail)
                    go_ret
                    exact ⟨rfl, (((F6.trans' (Fr.drew _ _)).trans' f7.fromN).trans' (Fr.drewN _ _ m8)).belowB⟩
                  · have hN' : ¬ N = [] := fun e => hN (by rw [e]; rfl)
                    have q1 : (1 : Int) ≤ (N.length : Int) + 1 := by omega
                    have q2 : 1 ≤ N.length + 1 := by omega
                    have q3 : (0 : Int) ≤ (N.length : Int) := by omega
                    go_region_held3 (fun _ => True) (trivial)
                      (first
                        | (go_at_call 14; refine (ring_list r6.drew).mono ?_; rintro e w7 ⟨a7, rfl, t7, b7, _, f7⟩; have t6' := Sl.fr (Sl.drew t6) f7 (fun _ _ h => h))
                        | (go_at_call 13; refine (same_yes a7 (some ⟨b1, o1 + 1, none⟩) N _ _ _ t7 t6' (by unfold maxLen; omega)).mono ?_; rintro e w8 ⟨rfl, m8, rfl⟩))
                    go_wp2_with (fail)
                    go_ret
                    exact ⟨rfl, (((F6.trans' (Fr.drew _ _)).trans' f7.fromN).trans' (Fr.drewN _ _ m8)).belowB⟩

end Go.Proofs.Ytdllfjmhmiganaa
