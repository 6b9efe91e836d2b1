/- RingRound answers true for every input and changes no memory that was there. No condition. -/
import Derived.Test.YtdllfjmhmiganaaRingLives
namespace Go.Proofs.Ytdllfjmhmiganaa
open Go.RowKit

theorem clamp_most (k : Int) : ∃ m : Nat, (m : Int) = min (max k 1) 64 := ⟨(min (max k 1) 64).toNat, by omega⟩

set_option maxHeartbeats 1000000 in
theorem round_any (places n : Int) (a : Option Addr) (L : List ByteArray) (c : Nat) (w : World) (_w0 : (Lit.int .i64 places).wf = true) (_w1 : (Lit.int .i64 n).wf = true) (_hl : L.length ≤ maxLen) (ht : Txt w a L) (_hs : ∀ s ∈ L, s.size ≤ maxLen) :
    Calls Try.prog 3 #[.int .i64 places, .int .i64 n, .slice a L.length c] w fun e w' => e = .returned (.bool true) ∧ Below w.heap.size w w' := by
  obtain ⟨m, hm⟩ := clamp_most places
  have Hm := Lib.hid hm
  unfold maxLen at _hl
  clear _w0 _w1 _hs
  clear hm
  go_enter Try.func3, Try.ntmps3
  go_wp2_with (fail)
  refine (ring_lives _).mono ?_
  rintro e w1 ⟨rfl, f0⟩
  go_wp2_with (fail)
  refine (ring_new places m _ Hm.out).mono ?_
  rintro e w2 ⟨p, S, rfl, r1, hS, f1⟩
  go_wp2_with (fail)
  refine (ring_new places m _ Hm.out).mono ?_
  rintro e w3 ⟨q, T, rfl, r2, hT, f2⟩
  have hST : ∀ k, S k → ¬ T k := fun k h1 h2 => by have := r1.lt h1; have := hT k h2; omega
  have hTS : ∀ k, T k → ¬ S k := fun k h1 h2 => hST k h2 h1
  have hS' : ∀ k, S k → w.heap.size ≤ k := fun k hk => Nat.le_trans f0.size (hS k hk)
  have hT' : ∀ k, T k → w.heap.size ≤ k := fun k hk => Nat.le_trans f0.size (Nat.le_trans f1.size (hT k hk))
  have r1' := r1.fr f2 (fun _ _ h => h)
  have F : Fr (FromB w.heap.size) w w3 := (f0.fromN.trans' f1.fromN).trans' f2.fromN
  have hmost := r2.most
  clear r1 hS hT f0 f1 f2
  go_upto_region 4 with (fail)
  go_cut [1] (fun s wx => ∃ N : Nat, N < 200 ∧ s = .int .i64 N ∧ w3 = wx)
  case first =>
    go_wp2_with (fail)
    go_meet
    case rel =>
      obtain ⟨N, h1, h2⟩ := umod n 200 (by omega) (by omega)
      exact ⟨N, h1, congrArg _ h2, rfl⟩
  case rest =>
    obtain ⟨N, hN, rfl, rfl⟩ := hcut
    go_wp2_with (fail)
    go_loopw [9] (fun i wr => ∃ k : Nat, k ≤ N ∧ i = .int .i64 k ∧ IsRing S wr p m [] ∧ IsRing T wr q m [] ∧ Fr (FromB w.heap.size) w wr) (fun i _ => N - (intOf i).toNat)
    case atStart => exact ⟨0, Nat.zero_le _, rfl, r1', r2, F⟩
    case round =>
      clear r1' r2 F
      obtain ⟨k, hk, rfl, r1, r2, F⟩ := hrel
      by_cases hlt : k < N
      · go_wp2_with (fail)
        refine (ring_push_ok _ r1 (by have := r1.one; simp; omega)).mono ?_
        rintro e w4 ⟨rfl, r3, f3⟩
        go_wp2_with (fail)
        refine (ring_drop_ok 1 r3 (by decide) (by simp)).mono ?_
        rintro e w5 ⟨rfl, r4, f4⟩
        go_wp2_with (fail)
        go_roundw
        case rel => exact ⟨k + 1, by omega, by go_num, r4, (r2.fr f3 hTS).fr f4 hTS, (F.trans' (f3.from_ hS')).trans' (f4.from_ hS')⟩
        case measure => simp [intOf]; omega
      · go_wp2_with (fail)
        go_loopw [10] (fun i wr => ∃ (k : Nat) (M : List ByteArray), k ≤ L.length ∧ k ≤ 70 ∧ i = .int .i64 k ∧ IsRing S wr p m M ∧ IsRing T wr q m M ∧ Fr (FromB w.heap.size) w wr) (fun i _ => L.length - (intOf i).toNat)
        case atStart => exact ⟨0, [], Nat.zero_le _, Nat.zero_le _, rfl, r1, r2, F⟩
        case round =>
          clear r1 r2 F hk hlt hN
          obtain ⟨k, M, hk, hk7, rfl, r1, r2, F⟩ := hrel
          by_cases hlt : k < L.length ∧ k < 70
          · obtain ⟨hlt, hk70⟩ := hlt
            obtain ⟨b, o, rfl, hc0⟩ := ht.at_ hlt
            have hbb : b < w.heap.size := World.block_lt_of_cell? w _ hc0
            have hc := cell_kept hc0 hbb F (fun _ h => h)
            clear hc0
            by_cases hM : M.length < m
            · go_wp2_with (fail)
              go_region_held3 (fun w' => w'.cell? ⟨b, o + k, none⟩ = some (.string L[k])) (first | assumption)
                (first
                  | (go_at_call_of 11 (Value.pointer (some ⟨p, 0, none⟩)); refine (ring_push_ok _ r1.drew hM).mono ?_; rintro e w4 ⟨rfl, r3, f3'⟩; have f3 := (Fr.drew S wr).trans' f3'; have hc4 := cell_kept hc hbb f3 hS'; have r2' := r2.fr f3 hTS)
                  | (go_at_call_of 11 (Value.pointer (some ⟨q, 0, none⟩)); refine (ring_push_ok _ r2' hM).mono ?_; rintro e w5 ⟨rfl, r4, f4⟩; have hc5 := cell_kept hc4 hbb f4 hT'; have r3' := r3.fr f4 hST))
              go_wp2_with (fail)
              go_roundw
              case rel => exact ⟨k + 1, M ++ [L[k]], by omega, by omega, by go_num, r3', r4, (F.trans' (f3.from_ hS')).trans' (f4.from_ hT')⟩
              case measure => simp [intOf]; omega
            · have hM' : m ≤ M.length := by omega
              go_wp2_with (fail)
              go_region_held3 (fun w' => w'.cell? ⟨b, o + k, none⟩ = some (.string L[k])) (first | assumption)
                (first
                  | (go_at_call_of 11 (Value.pointer (some ⟨p, 0, none⟩)); refine (ring_push_no _ r1.drew hM').mono ?_; rintro e w4 ⟨rfl, m4, rfl⟩)
                  | (go_at_call_of 11 (Value.pointer (some ⟨q, 0, none⟩)); refine (ring_push_no _ (r2.drewN _) hM').mono ?_; rintro e w5 ⟨rfl, m5, rfl⟩))
              go_wp2_with (fail)
              go_roundw
              case rel => exact ⟨k + 1, M, by omega, by omega, by go_num, r1.drewN _, r2.drewN _, F.trans' (Fr.drewN _ _ _)⟩
              case measure => simp [intOf]; omega
          · have hex : (k : Int) < L.length → ¬ (k : Int) < 70 := by omega
            by_cases h1 : k < L.length
            all_goals
              go_wp2_with (fail)
              refine (ring_list r1).mono ?_
              rintro e w4 ⟨a1, rfl, t1, b1, _, f4⟩
              go_wp2_with (fail)
              refine (ring_list (r2.fr f4 fun _ _ h => h)).mono ?_
              rintro e w5 ⟨a2, rfl, t2, b2, _, f5⟩
              go_wp2_with (fail)
              refine (same_yes a1 a2 M _ _ _ (t1.fr f5 fun _ _ h => h) t2 (by have := r1.le; unfold maxLen; omega)).mono ?_
              rintro e w6 ⟨rfl, m6, rfl⟩
              go_wp2_with (fail)
              refine (ring_len (((r1.fr f4 fun _ _ h => h).fr f5 fun _ _ h => h).drewN m6)).mono ?_
              rintro e w6 ⟨rfl, rfl⟩
              go_wp2_with (fail)
              refine (ring_len (((r2.fr f4 fun _ _ h => h).fr f5 fun _ _ h => h).drewN m6)).mono ?_
              rintro e w6 ⟨rfl, rfl⟩
              go_wp2_with (fail)
              go_ret
              exact ⟨rfl, (((F.trans' f4.fromN).trans' f5.fromN).trans' (Fr.drewN _ _ _)).belowB⟩

end Go.Proofs.Ytdllfjmhmiganaa
