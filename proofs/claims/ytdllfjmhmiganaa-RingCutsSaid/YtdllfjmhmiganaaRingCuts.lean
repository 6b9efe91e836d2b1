/- RingCuts answers true for every input and changes no memory that was there. No condition. -/
import Derived.Test.YtdllfjmhmiganaaRingLives
import Derived.Test.YtdllfjmhmiganaaAppend
namespace Go.Proofs.Ytdllfjmhmiganaa
open Go.RowKit

theorem clamp_cut (k : Int) (l : Nat) : ∃ m : Nat, (m : Int) = min (max k 0) l := ⟨(min (max k 0) l).toNat, by omega⟩

set_option maxHeartbeats 1000000 in
theorem cuts_any (places : Int) (a : Option Addr) (L : List ByteArray) (c : Nat) (n : Int) (w : World) (_w0 : (Lit.int .i64 places).wf = true) (_hl : L.length ≤ maxLen) (ht : Txt w a L) (_hs : ∀ s ∈ L, s.size ≤ maxLen) (_w1 : (Lit.int .i64 n).wf = true) :
    Calls Try.prog 4 #[.int .i64 places, .slice a L.length c, .int .i64 n] w fun e w' => e = .returned (.bool true) ∧ Below w.heap.size w w' := by
  obtain ⟨i0, hi, hz0, hz1, hz2⟩ := info_parts Try.infoString
  have Hz2 := Lib.hid hz2
  have Hz1 := Lib.hid hz1
  have Hz0 := Lib.hid hz0
  have Hi := Lib.hid hi
  clear hz2 hz1 hz0 hi
  obtain ⟨m, hm⟩ : ∃ m : Nat, (m : Int) = min (max places 1) 64 := ⟨(min (max places 1) 64).toNat, by omega⟩
  have Hm := Lib.hid hm
  unfold maxLen at _hl
  clear hm _w0 _w1 _hs
  go_enter Try.func4, Try.ntmps4
  go_wp2_with (fail)
  refine (ring_lives _).mono ?_
  rintro e w1 ⟨rfl, f0⟩
  go_wp2_with (fail)
  refine (ring_new places m _ Hm.out).mono ?_
  rintro e w2 ⟨p, S, rfl, r1, hS, f1⟩
  have hS' : ∀ k, S k → w.heap.size ≤ k := fun k hk => Nat.le_trans f0.size (hS k hk)
  have F : Fr (FromB w.heap.size) w w2 := f0.fromN.trans' f1.fromN
  clear hS f0 f1
  go_wp2_with (fail)
  go_loopw [8] (fun i wr => ∃ (k : Nat) (M : List ByteArray), k ≤ L.length ∧ k ≤ 64 ∧ i = .int .i64 k ∧ IsRing S wr p m M ∧ Fr (FromB w.heap.size) w wr) (fun i _ => L.length - (intOf i).toNat)
  case atStart => exact ⟨0, [], Nat.zero_le _, Nat.zero_le _, rfl, r1, F⟩
  case round =>
    clear r1 F
    obtain ⟨k, M, hk, hk7, rfl, r1, F⟩ := hrel
    by_cases hlt : k < L.length ∧ k < 64
    · obtain ⟨hlt, hk70⟩ := hlt
      obtain ⟨b, o, rfl, hc⟩ := (ht.kept F).at_ hlt
      by_cases hM : M.length < m
      · go_wp2_with (fail)
        refine (ring_push_ok _ r1 hM).mono ?_
        rintro e w4 ⟨rfl, r3, f3⟩
        go_wp2_with (fail)
        go_roundw
        case rel => exact ⟨k + 1, M ++ [L[k]], by omega, by omega, by go_num, r3, F.trans' (f3.from_ hS')⟩
        case measure => simp [intOf]; omega
      · go_wp2_with (fail)
        refine (ring_push_no _ r1 (by omega)).mono ?_
        rintro e w4 ⟨rfl, m4, rfl⟩
        go_wp2_with (fail)
        go_roundw
        case rel => exact ⟨k + 1, M, by omega, by omega, by go_num, r1.drewN _, F.trans' (Fr.drewN _ _ _)⟩
        case measure => simp [intOf]; omega
    · have hex : (k : Int) < L.length → ¬ (k : Int) < 64 := by omega
      obtain ⟨j, hj⟩ := clamp_cut n M.length
      have Hj := Lib.hid hj
      have hMm := r1.le
      have hmost := r1.most
      clear hj
      by_cases h1 : k < L.length
      all_goals
        go_wp2_with (fail)
        refine (ring_list r1).mono ?_
        rintro e w4 ⟨a1, rfl, t1, b1, _, f4⟩
        go_wp2_with (fail)
        refine (ring_cut n j (r1.fr f4 fun _ _ h => h) Hj.out).mono ?_
        rintro e w5 ⟨a2, X, Y, rfl, Hxy, Hx, t2, b2, r5, f5⟩
        go_wp2_with (fail)
        refine (ring_list r5).mono ?_
        rintro e w6 ⟨a3, rfl, t3, b3, b3', f6⟩
        have hlen : X.length + Y.length = M.length := by rw [← Hxy.out]; simp
        have hxj : X.length = j := Hx.out
        have hown := listed_owns t3 b3 (by unfold maxLen; omega)
        have q1 : 0 ≤ n → (M.length : Int) < n → ((X.length : Int) == (M.length : Int)) = true := fun _ _ => by rw [beq_iff_eq]; have := Hj.out; omega
        have q2 : 0 ≤ n → ¬ (M.length : Int) < n → ((X.length : Int) == n) = true := fun _ _ => by rw [beq_iff_eq]; have := Hj.out; omega
        have q3 : ((X.length : Int) == (M.length : Int) - (Y.length : Int)) = true := by rw [beq_iff_eq]; omega
        have hy0 : (Y.length : Int) ≤ 64 := by omega
        have hx0 : X.length + Y.length ≤ 64 := by omega
        have Hlen := Lib.hid hlen
        have Q := Lib.hid (And.intro q1 q2)
        have Hq3 := Lib.hid q3
        clear hlen hxj b3' q1 q2 q3
        go_wp2_with (at_builtin; go_must (refine wpList_append_fp rfl (.tmp 39) (.tmp 40) 22 rfl 9 i0 (.string ByteArray.empty) 1 16 Try.underlying22 Hi.out Hz0.out Hz1.out Hz2.out rfl (by decide) _ X.length (X.map Value.string) rfl hown a2 Y.length Y.length (Y.map Value.string) rfl (by simp) ?_ (Sl.fr t2 f6 fun _ _ h => h) (one_texts Y) (by unfold maxLen; omega) (by omega) ?_))
        · intro ha; subst ha
          have := Sl.of_none t2
          simp at this; simp [this]
        intro v7 w7 o7 f7 n7 s7 _
        have o7' : Owns w7 9 1 v7 M.length (M.map Value.string) := by
          have e := Hlen.out
          rw [e, ← List.map_append, Hxy.out] at o7; exact o7
        obtain ⟨a7, c7, rfl, _, _⟩ := o7'.shape
        have t7 := o7'.sl.2
        clear o7 o7' hown
        have hb4 : ∀ ad, a1 = some ad → ad.block = wr.heap.size := fun ad had => by rw [(b1 ad had).1]
        have t1' : Txt w7 a1 M := by
          have x5 := t1.fr f5 (fun ad had hk => by have := r1.lt hk; have := hb4 ad had; omega)
          have x6 := Sl.fr x5 f6 (fun _ _ h => h)
          refine Sl.fr x6 f7 (fun ad had hk => ?_)
          have := hb4 ad had
          cases a3 with
          | none => simp [InBlock, Value.ownBlock] at hk
          | some a3' =>
            have h3 := (b3 a3' rfl).1
            simp only [InBlock, Value.ownBlock, Option.some.injEq] at hk
            rw [h3] at hk
            have := f4.size; have := f5.size
            have hlt : wr.heap.size < w4.heap.size := by
              have := (b1 ad had).2.lt; exact this
            simp only at hk; omega
        have r7 : IsRing S w7 p m X := by
          refine (r5.fr f6 fun _ _ h => h).fr f7 (fun k hk hk' => ?_)
          have hlt := r5.lt hk
          cases a3 with
          | none => simp [InBlock, Value.ownBlock] at hk'
          | some a3' =>
            have h3 := (b3 a3' rfl).1
            simp only [InBlock, Value.ownBlock, Option.some.injEq] at hk'
            rw [h3] at hk'
            simp only at hk'; omega
        have F7 : Fr (FromB w.heap.size) w w7 := by
          refine (((F.trans' f4.fromN).trans' (f5.from_ hS')).trans' f6.fromN).trans' (f7.from_ fun k hk => ?_)
          cases a3 with
          | none => simp [InBlock, Value.ownBlock] at hk
          | some a3' =>
            have h3 := (b3 a3' rfl).1
            simp only [InBlock, Value.ownBlock, Option.some.injEq] at hk
            rw [h3] at hk
            have := F.size; have := f4.size; have := f5.size
            simp only at hk; omega
        clear t1 t2 t3 b1 b2 b3 r5 r1 F f4 f5 f6 f7 n7 s7
        go_wp2_with (fail)
        refine (same_yes a7 a1 M _ _ _ t7 t1' (by unfold maxLen; omega)).mono ?_
        rintro e w8 ⟨rfl, m8, rfl⟩
        have r8 := r7.drewN m8
        have q3 := Hq3.out
        by_cases hn : n < 0
        · go_wp2_with (fail)
          refine (ring_len r8).mono ?_
          rintro e w9 ⟨rfl, rfl⟩
          go_wp2_with (fail)
          go_ret
          exact ⟨rfl, (F7.trans' (Fr.drewN _ _ _)).belowB⟩
        · have hn0 : 0 ≤ n := by omega
          by_cases hn1 : (M.length : Int) < n
          · have q1 := Q.out.1 hn0 (by omega)
            go_wp2_with (fail)
            refine (ring_len r8).mono ?_
            rintro e w9 ⟨rfl, rfl⟩
            go_wp2_with (fail)
            go_ret
            exact ⟨rfl, (F7.trans' (Fr.drewN _ _ _)).belowB⟩
          · have q2 := Q.out.2 hn0 (by omega)
            go_wp2_with (fail)
            refine (ring_len r8).mono ?_
            rintro e w9 ⟨rfl, rfl⟩
            go_wp2_with (fail)
            go_ret
            exact ⟨rfl, (F7.trans' (Fr.drewN _ _ _)).belowB⟩

end Go.Proofs.Ytdllfjmhmiganaa
