/- Contracts of package ring, continued: Cut, New, and the calls of a ring that is not there. Condition: the ring lies in memory as New makes it. -/
import Derived.Test.YtgeibjmpcgkagaaRingB
namespace Go.Proofs.Ytgeibjmpcgkagaa
open Go.RowKit

theorem clamp_ways {n : Int} {m l : Nat} (hm : (m : Int) = min (max n 0) l) : (n < 0 → m = 0) ∧ (0 ≤ n → n ≤ l → n = m) ∧ (0 ≤ n → l < n → m = l) ∧ m ≤ l := by omega

set_option maxHeartbeats 400000 in
theorem cut_some (p g f : Nat) (ss L : List ByteArray) (n : Int) (m : Nat) (w : World) (h : RingAt w p g f ss L) (hL : 0 < L.length) (hm : (m : Int) = min (max n 0) L.length) :
    Calls Try.prog 39 #[.pointer (some ⟨p, 0, none⟩), .int .i64 n] w fun e w' =>
      ∃ a : Option Addr, e = .returned (.slice a (L.length - m) (L.length - m)) ∧ Sl w' a ((L.drop m).map Value.string) ∧ (∀ ad, a = some ad → w.heap.size = ad.block) ∧
      (∃ ss', ss'.length = ss.length ∧ RingAt w' p g f ss' (L.take m)) ∧ Fr (fun k => k = p ∨ k = g) w w' := by
  obtain ⟨c1, c2, c3, c4⟩ := clamp_ways hm
  clear hm
  have c4i : (m : Int) ≤ L.length := by omega
  have Hc := Lib.hid (And.intro c1 (And.intro c2 c3))
  clear c1 c2 c3
  go_enter Try.func39, Try.ntmps39
  go_upto_region 1 with (fail)
  go_cut [1] (fun s wx => s = .int .i64 m ∧ w = wx)
  case first =>
    go_wp2_with (go_at_call 37; refine (len_any p g f ss L _ h).mono ?_; rintro e w' ⟨rfl, rfl⟩)
    all_goals
      obtain ⟨c1, c2, c3⟩ := Hc.out
      go_meet
      case rel => exact ⟨by congr 1; omega, rfl⟩
  case rest =>
    obtain ⟨rfl, rfl⟩ := hcut
    clear Hc
    go_upto_region 2 with (fail)
    go_cut [5] (fun s wx => ∃ a : Option Addr, s = .slice a (L.length - m) (L.length - m) ∧ Sl wx a ((L.drop m).map Value.string) ∧ (∀ ad, a = some ad → w.heap.size = ad.block) ∧ Fr Nothing w wx)
    case first =>
      by_cases hlm : L.length = m
      · go_wp2_with (first | (go_at_call 38; refine (list_some p g f ss L _ h hL).mono ?_; rintro e w1 ⟨rfl, hr1, hf1⟩))
        go_meet
        case rel => exact ⟨_, by rw [hlm, Nat.sub_self], by rw [List.drop_eq_nil_of_le (by omega)]; exact Sl.nil _ _, fun ad had => by simp at had; rw [← had], hf1⟩
      · go_wp2_with (first | (go_at_call 38; refine (list_some p g f ss L _ h hL).mono ?_; rintro e w1 ⟨rfl, hr1, hf1⟩))
        go_meet
        case rel => exact ⟨_, rfl, by have := (Sl.ofRow hr1).drop m; rw [List.map_drop]; simpa using this, fun ad had => by simp at had; rw [← had], hf1⟩
    case rest =>
      obtain ⟨a, rfl, hsl, hab, hf1⟩ := hcut
      have HR := Lib.hid (h.fr hf1 id id)
      have hplt := h.head.lt
      have hglt := h.body.lt
      have hln0 := h.ln
      clear h
      go_wp2_with (fail)
      go_loopw [6] (fun i wr => ∃ k : Nat, m ≤ k ∧ k ≤ L.length ∧ i = .int .i64 k ∧ (∃ ss', ss'.length = ss.length ∧ RingP (fun j => j < m ∨ k ≤ j) wr p g f ss' L) ∧ Fr (fun k => k = p ∨ k = g) wc wr) (fun i _ => L.length - (intOf i).toNat)
      case atStart => exact ⟨m, Nat.le_refl _, c4, rfl, ⟨ss, rfl, HR.out.weak (fun _ _ _ => trivial)⟩, Fr.refl _ _⟩
      case round =>
        obtain ⟨k, hmk, hk, rfl, ⟨ss', hss, hr⟩, hf⟩ := hrel
        have h0 := hr.places
        have h1 := hr.first
        have hn1 := hr.n1
        have hn64 := hr.n64
        have hfn := hr.fn
        have hln := hr.ln
        have hne : ¬ g = p := fun e => hr.ne e.symm
        by_cases hlt : k < L.length
        · have hj : (f + k) % ss'.length < ss'.length := Nat.mod_lt _ (by omega)
          have hb := hr.body.cell ((f + k) % ss'.length) (v := .string ss'[(f + k) % ss'.length]) (by simp [hj])
          have hbf := hr.body.free ((f + k) % ss'.length)
          have Hss := Lib.hid hss
          clear hss
          go_wp2_with (first | (go_at_call 37; refine (len_any p g f ss' L _ hr).mono ?_; rintro e w' ⟨rfl, rfl⟩; have HR' := Lib.hid hr; clear hr) | (go_at_call 40; go_must (refine (place_any p g ss'.length f k _ (by exact h0) (by exact h1) hn1 hn64 hfn (by omega)).mono ?_); rintro e w' ⟨rfl, m', rfl⟩))
          go_roundw
          case rel => exact ⟨k + 1, by omega, by omega, by go_num, ⟨_, by simpa using Hss.out, ((HR'.out.drewN m').clear hlt ByteArray.empty).weak (fun i hi hi' => ⟨by omega, by omega⟩)⟩, (hf.trans' (Fr.drewN _ wr m')).trans' (Fr.setCell (.inr rfl) _)⟩
          case measure => simp [intOf]; omega
        · obtain rfl : k = L.length := by omega
          have hpf2 := hr.head.free 2
          have h2 := hr.count
          have Hss := Lib.hid hss
          clear hss
          go_wp2_with (first | (go_at_call 37; refine (len_any p g f ss' L _ hr).mono ?_; rintro e w' ⟨rfl, rfl⟩; have HR' := Lib.hid hr; clear hr))
          go_ret
          have F := hf.trans' (Fr.setCell (.inl rfl) (.int .i64 (m : Int)) (w := wr) (p := ⟨p, 2, none⟩))
          exact ⟨a, rfl, hsl.fr F (fun ad had => by have := hab ad had; omega), hab, ⟨ss', Hss.out, (HR'.out.weak (P' := fun j => j < m) (fun i hi hi' => .inl hi')).cutted c4⟩, (hf1.mono (fun _ _ h => h.elim)).trans' F⟩

set_option maxHeartbeats 400000 in
theorem cut_nil (p g f : Nat) (ss : List ByteArray) (n : Int) (w : World) (h : RingAt w p g f ss []) :
    Calls Try.prog 39 #[.pointer (some ⟨p, 0, none⟩), .int .i64 n] w fun e w' =>
      e = .returned (.slice none 0 0) ∧ RingAt w' p g f ss [] ∧ Fr (fun k => k = p ∨ k = g) w w' := by
  go_enter Try.func39, Try.ntmps39
  go_upto_region 1 with (fail)
  go_cut [1] (fun s wx => s = .int .i64 0 ∧ w = wx)
  case first =>
    go_wp2_with (go_at_call 37; refine (len_any p g f ss [] _ h).mono ?_; rintro e w' ⟨rfl, rfl⟩)
    all_goals
      go_meet
      case rel => exact ⟨by first | rfl | (congr 1; omega), rfl⟩
  case rest =>
    obtain ⟨rfl, rfl⟩ := hcut
    go_wp2_with (go_at_call 38; refine (list_nil p g f ss _ h).mono ?_; rintro e w' ⟨rfl, rfl⟩)
    refine wp_loop_once ?_
    have hpf2 := h.head.free 2
    have h2 := h.count
    go_wp2_with (first | (go_at_call 37; refine (len_any p g f ss [] _ h).mono ?_; rintro e w' ⟨rfl, rfl⟩))
    go_ret
    exact ⟨rfl, (h.weak (P' := fun j => j < 0) (fun i hi hi' => trivial)).cutted (n := 0) (Nat.zero_le _), Fr.setCell (.inl rfl) _⟩

set_option maxHeartbeats 400000 in
theorem push_none (s : ByteArray) (w : World) :
    Calls Try.prog 32 #[.pointer none, .string s] w fun e w' => e = .returned (.bool false) ∧ ∃ m, w' = w.drewN m := by
  go_enter Try.func32, Try.ntmps32
  go_wp2
  go_quiet (fail)
  go_wp2
  go_ret
  exact ⟨rfl, nq, rfl⟩

set_option maxHeartbeats 400000 in
theorem drop_none (n : Int) (w : World) :
    Calls Try.prog 35 #[.pointer none, .int .i64 n] w fun e w' => e = .returned (.bool false) ∧ w = w' := by
  go_enter Try.func35, Try.ntmps35
  go_wp2
  go_ret
  exact ⟨rfl, rfl⟩

set_option maxHeartbeats 400000 in
theorem len_none (w : World) :
    Calls Try.prog 37 #[.pointer none] w fun e w' => e = .returned (.int .i64 0) ∧ w = w' := by
  go_enter Try.func37, Try.ntmps37
  go_wp2
  go_ret
  exact ⟨rfl, rfl⟩

set_option maxHeartbeats 400000 in
theorem list_none (w : World) :
    Calls Try.prog 38 #[.pointer none] w fun e w' => e = .returned (.slice none 0 0) ∧ w = w' := by
  go_enter Try.func38, Try.ntmps38
  go_wp2_with (go_at_call 37; refine (len_none _).mono ?_; rintro e w' ⟨rfl, rfl⟩)
  go_ret
  exact ⟨rfl, rfl⟩

set_option maxHeartbeats 400000 in
theorem cut_none (n : Int) (w : World) :
    Calls Try.prog 39 #[.pointer none, .int .i64 n] w fun e w' => e = .returned (.slice none 0 0) ∧ w = w' := by
  go_enter Try.func39, Try.ntmps39
  go_upto_region 1 with (fail)
  go_cut [1] (fun s wx => s = .int .i64 0 ∧ w = wx)
  case first =>
    go_wp2_with (go_at_call 37; refine (len_none _).mono ?_; rintro e w' ⟨rfl, rfl⟩)
    all_goals
      go_meet
      case rel => exact ⟨by first | rfl | (congr 1; omega), rfl⟩
  case rest =>
    obtain ⟨rfl, rfl⟩ := hcut
    go_wp2_with (go_at_call 38; refine (list_none _).mono ?_; rintro e w' ⟨rfl, rfl⟩)
    refine wp_loop_once ?_
    go_wp2_with (first | (go_at_call 37; refine (len_none _).mono ?_; rintro e w' ⟨rfl, rfl⟩))
    go_ret
    exact ⟨rfl, rfl⟩

def RingMade (m : Nat) (w : World) (e : Ending) (w' : World) : Prop :=
  ∃ p g ss, e = .returned (.pointer (some ⟨p, 0, none⟩)) ∧ ss.length = m ∧ RingAt w' p g 0 ss [] ∧ w.heap.size ≤ p ∧ w.heap.size ≤ g ∧ Fr Nothing w w'

set_option maxHeartbeats 400000 in
theorem new_ring (n : Int) (m : Nat) (w : World) (hm : (m : Int) = min (max n 1) 64) :
    Calls Try.prog 31 #[.int .i64 n] w (RingMade m w) := by
  obtain ⟨i0, hi, hz0, hz1, hz2⟩ := info_parts Try.infoString
  have hby : i0.bytes * m ≤ 281474976710656 := by rw [hz2]; omega
  have hml : m ≤ maxLen := by unfold maxLen; omega
  have Hz1 := Lib.hid hz1
  have Hz0 := Lib.hid hz0
  have Hi := Lib.hid hi
  clear hz2 hz1 hz0 hi
  go_enter Try.func31, Try.ntmps31
  go_wp2_with (at_make; refine wpList_make_row _ rfl _ _ 33 rfl 9 i0 (.string ByteArray.empty) Try.underlying33 Hi.out Hz0.out Hz1.out rfl .i64 .i64 _ _ m rfl rfl (by omega) (by omega) hby hml ?_; intro w1 hr1 hf1 hlt1)
  all_goals
    go_ret
    refine ⟨w1.heap.size, w.heap.size, List.replicate m ByteArray.empty, rfl, by simp, ⟨by omega, ?_, ?_, by simp; omega, by simp; omega, by simp; omega, by simp, fun i _ hi => by simp at hi⟩, by omega, Nat.le_refl _, hf1.trans' (Fr.alloc _ _ _)⟩
    · have := Row.allocNew w1 [.slice (some ⟨w.heap.size, 0, none⟩) m m, .int .i64 0, .int .i64 0] 65
      simpa using this
    · have := hr1.allocOld (.cells [.slice (some ⟨w.heap.size, 0, none⟩) m m, .int .i64 0, .int .i64 0].toArray 65)
      simpa using this

end Go.Proofs.Ytgeibjmpcgkagaa
