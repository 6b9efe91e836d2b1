/- WheelFull answers true for every input and changes no memory that was there. No condition. -/
import Derived.Test.YtgfphbehecpgpaaWheelF
namespace Go.Proofs.Ytgfphbehecpgpaa
open Go.RowKit
theorem ins_last {L : List Due} {d : Due} (h : ∀ x ∈ L, dless x d) : ins L d = L ++ [d] := by
  unfold ins
  rw [List.filter_eq_self.2 (fun x hx => by simpa using h x hx), List.filter_eq_nil_iff.2 (fun x hx => by simpa using dless_asym (h x hx))]
def run (a b : Int) (k : Nat) : List Due := (List.range k).map (fun (i : Nat) => (a + i, b + i))
theorem run_len (a b : Int) (k : Nat) : (run a b k).length = k := by simp [run]
theorem mem_run {a b : Int} {k : Nat} {x : Due} : x ∈ run a b k ↔ ∃ i : Nat, i < k ∧ x = (a + i, b + i) := by
  simp only [run, List.mem_map, List.mem_range]
  exact ⟨fun ⟨i, h, e⟩ => ⟨i, h, e.symm⟩, fun ⟨i, h, e⟩ => ⟨i, h, e.symm⟩⟩
theorem run_ids {a b : Int} {k : Nat} {j : Int} : j ∈ (run a b k).map Prod.fst ↔ ∃ i : Nat, i < k ∧ j = a + i := by
  rw [List.mem_map]
  constructor
  · rintro ⟨x, hx, rfl⟩
    obtain ⟨i, hi, rfl⟩ := mem_run.1 hx
    exact ⟨i, hi, rfl⟩
  · rintro ⟨i, hi, rfl⟩
    exact ⟨_, mem_run.2 ⟨i, hi, rfl⟩, rfl⟩
theorem run_set (a b : Int) (k : Nat) : setL (run a b k) (a + k) (b + k) = run a b (k + 1) := by
  unfold setL
  rw [less_none (fun h => by obtain ⟨i, hi, e⟩ := run_ids.1 h; omega), ins_last (fun x hx => by
    obtain ⟨i, hi, rfl⟩ := mem_run.1 hx
    unfold dless; simp only; omega)]
  simp [run, List.range_succ]
theorem only_one {L : List Due} {d : Due} (h : Neat L) (hd : ∀ x, x ∈ L ↔ x = d) : L = [d] := by
  obtain ⟨R, rfl⟩ := head_of_min h.asc ((hd d).2 rfl) (fun x hx => by rw [(hd x).1 hx]; exact dless_irrefl d)
  cases R with
  | nil => rfl
  | cons y R =>
    have h1 := (hd y).1 (by simp)
    have h2 := (List.pairwise_cons.1 h.asc).1 y (by simp)
    rw [h1] at h2
    exact (dless_irrefl _ h2).elim
theorem Neat.early {L : List Due} (h : Neat L) (t : Int) : Neat (L.filter (fun d => decide (d.2 ≤ t))) :=
  ⟨h.asc.filter _, (List.filter_sublist.map Prod.fst).nodup h.ids⟩
theorem full_came {a b : Int} (h : Neat (run a b 256)) : (setL (run a b 256) (a + 3) (b + 999)).filter (fun d => decide (d.2 ≤ b)) = [(a, b)] := by
  refine only_one ((h.set _ _).early b) (fun x => ?_)
  rw [List.mem_filter]
  unfold setL
  rw [mem_ins, mem_less, mem_run]
  simp only [decide_eq_true_iff]
  constructor
  · rintro ⟨rfl | ⟨⟨i, hi, rfl⟩, h2⟩, h3⟩
    · simp only at h3; omega
    · simp only at h3 h2
      have : i = 0 := by omega
      subst this; simp
  · rintro rfl
    exact ⟨.inr ⟨⟨0, by omega, by simp⟩, by simp only; omega⟩, by simp only; omega⟩
theorem full_left {a b : Int} (h : Neat (run a b 256)) : ((setL (run a b 256) (a + 3) (b + 999)).filter (fun d => decide (b < d.2))).length = 255 := by
  have h1 := full_came h
  have h2 := (List.filter_append_perm (fun (d : Due) => decide (d.2 ≤ b)) (setL (run a b 256) (a + 3) (b + 999))).length_eq
  rw [List.length_append] at h2
  have h3 := set_len h (a + 3) (b + 999)
  rw [if_pos (show a + 3 ∈ _ from run_ids.2 ⟨3, by omega, by simp⟩), run_len] at h3
  rw [h1, h3] at h2
  have h4 : (fun (d : Due) => !decide (d.2 ≤ b)) = (fun d => decide (b < d.2)) := by funext d; simp only [← decide_not]; congr 1; apply propext; omega
  rw [h4] at h2
  simp at h2; omega

theorem full_go {S : Nat → Prop} {w : World} {p m : Nat} {a b : Int} (h : IsWheel S w p 0 (setL (run a b 256) (a + 3) (b + 999)) m) (hn : Neat (run a b 256)) (h0 : 0 ≤ b) (h1 : b ≤ 2000) (hm : m < 4000) :
    Calls Try.prog 13 #[.pointer (some ⟨p, 0, none⟩), .int .i64 b] w fun e w' => ∃ q c S' L', e = .returned (.tuple #[.slice (some ⟨q, 0, none⟩) 1 c, .int .i64 0]) ∧ w'.cell? ⟨q, 0, none⟩ = some (.int .i64 a) ∧ ¬ S' q ∧ IsWheel S' w' p b L' m ∧ L'.length = 255 ∧ a + 256 ∉ L'.map Prod.fst ∧ Grown w S S' ∧ Fr S w w' := by
  refine (isw_go (t := b) h h0 (by omega) hm).mono ?_
  rintro e w' ⟨lv, S', rfl, K, g, o, ap, f⟩
  rw [full_came hn] at o
  obtain ⟨q, c, rfl⟩ : ∃ q c, lv = .slice (some ⟨q, 0, none⟩) 1 c := by
    rcases o.2 with ⟨h1, h2⟩ | ⟨q, cap, cur, h1, _⟩
    · simp at h2
    · exact ⟨q, cap, h1⟩
  have hc := World.ownsRow.cellAt o 0 (by simp)
  refine ⟨q, c, S', _, rfl, hc, (ap q rfl).2, K, full_left hn, fun hx => ?_, g, f⟩
  obtain ⟨x, hx, e⟩ := List.mem_map.1 hx
  rcases mem_ins.1 (List.mem_filter.1 hx).1 with rfl | h2
  · simp only at e; omega
  · obtain ⟨i, hi, rfl⟩ := mem_run.1 (mem_less.1 h2).1
    simp only at e; omega

set_option maxHeartbeats 4000000 in
set_option maxRecDepth 100000 in
theorem wheelfull_any (first t : Int) (w : World) (_w0 : (Lit.int .i64 first).wf = true) (_w1 : (Lit.int .i64 t).wf = true) :
    Calls Try.prog 4 #[.int .i64 first, .int .i64 t] w fun e w' => e = .returned (.bool true) ∧ Below w.heap.size w w' := by
  clear _w0 _w1
  obtain ⟨a, ha, ea⟩ := umod first 1000 (by omega) (by omega)
  obtain ⟨b, hb, eb⟩ := umod t 1000 (by omega) (by omega)
  have Ea : Hid (wrap64 ((IntKind.u64.wrap first).tmod 1000) = (a : Int)) := ea
  have Eb : Hid (wrap64 ((IntKind.u64.wrap t).tmod 1000) = (b : Int)) := eb
  clear ea eb
  go_enter Try.func4, Try.ntmps4
  go_wp2_with (fail)
  refine (wheel_lives _).mono ?_
  rintro e w1 ⟨rfl, f0⟩
  go_upto_region 4 with (go_at_call 10; refine (isw_new _).mono ?_; rintro e w2 ⟨p, S, rfl, K1, n1, f1⟩)
  go_cut [0, 1] (fun s1 s2 wx => s1 = .int .i64 a ∧ s2 = .int .i64 (1 + b) ∧ w2 = wx)
  case first =>
    go_wp2_with (fail)
    go_meet
    case rel => exact ⟨by rw [Ea.out], by rw [Eb.out]; exact congrArg (Value.int .i64) (by unfold wrap64; omega), rfl⟩
  case rest =>
    obtain ⟨rfl, rfl, rfl⟩ := hcut
    go_wp2_with (fail)
    go_loopg [6] 256 (fun g i wr => ∃ (k : Nat) (S' : Nat → Prop), k ≤ 256 ∧ g = 256 - k ∧ i = .int .i64 k ∧ Hid (IsWheel S' wr p 0 (run a (1 + b) k) k ∧ (∀ k, S' k → w.heap.size ≤ k) ∧ Fr (FromB w.heap.size) w wr))
    case atStart => exact ⟨0, S, by omega, rfl, rfl, ⟨K1, fun k hk => Nat.le_trans f0.size (n1 k hk), f0.fromN.trans' f1.fromN⟩⟩
    case round =>
      obtain ⟨k, S1, hk, rfl, rfl, HX⟩ := hrel
      by_cases hlt : k < 256
      · have g1 : decide ((k : Int) < 256) = true := by rw [decide_eq_true_iff]; omega
        have hset := isw_set (id := (a : Int) + k) (t := 1 + (b : Int) + k) HX.out.1 (by unfold W64; omega) (by omega) (by omega) (by rw [run_len]; omega) (.inr (by rw [run_len]; exact hlt)) (by omega)
        rw [run_set] at hset
        go_wp2_with (go_at_call 12; refine hset.mono ?_; rintro e w3 ⟨rfl, S3, K3, n3, f3⟩)
        go_roundg (256 - (k + 1))
        case measure => omega
        case rel =>
          refine ⟨k + 1, S3, by omega, rfl, by go_num, Lib.hid ⟨K3, fun q hq => ?_, HX.out.2.2.trans' (f3.mono (fun q _ h => HX.out.2.1 q h))⟩⟩
          rcases n3 q hq with h | h
          · exact HX.out.2.1 q h
          · exact Nat.le_trans HX.out.2.2.size h
      · obtain rfl : k = 256 := by omega
        have HN := HX.out.1.neat
        have hfull := isw_set_full (id := (a : Int) + 256) (t := 1 + (b : Int)) HX.out.1 (by unfold W64; omega) (by omega) (by omega) (by rw [run_len]) (fun h => by obtain ⟨i, hi, e⟩ := run_ids.1 h; omega)
        have hset := isw_set (id := (a : Int) + 3) (t := 1 + (b : Int) + 999) HX.out.1 (by unfold W64; omega) (by omega) (by omega) (by rw [run_len]; omega) (.inl (run_ids.2 ⟨3, by omega, by simp⟩)) (by omega)
        go_wp2_with (first
          | (with_reducible (go_at_call 12; refine hfull.mono ?_; rintro e w3 ⟨rfl, rfl⟩))
          | (with_reducible (go_at_call 12; refine hset.mono ?_; rintro e w3 ⟨rfl, S3, K3, n3, f3⟩; have hgo := full_go K3 HN (by omega) (by omega) (by omega)))
          | (go_at_call 13; refine hgo.mono ?_; rintro e w4 ⟨q, c4, S4, L4, rfl, c40, nq, K4, l4, i4, n4, f4⟩; have hs4 := isw_set (id := (a : Int) + 256) (t := 1 + (b : Int) + 1) K4 (by unfold W64; omega) (by omega) (by omega) (by omega) (.inr (by omega)) (by omega))
          | (go_at_call 12; refine hs4.mono ?_; rintro e w5 ⟨rfl, S5, K5, n5, f5⟩; have c50 := cell_fr c40 f5 nq; have hln := isw_len K5; rw [set_len K4.neat, if_neg i4, l4] at hln)
          | (go_at_call 15; refine hln.mono ?_; rintro e w6 ⟨rfl, rfl⟩))
        go_ret
        have a0 := HX.out.2.2.size
        have a3 := f3.size
        have q3 : ∀ k, S3 k → w.heap.size ≤ k := fun k h => by
          rcases n3 k h with h | h
          · exact HX.out.2.1 k h
          · omega
        have q4 : ∀ k, S4 k → w.heap.size ≤ k := fun k h => by
          rcases n4 k h with h | h
          · exact q3 k h
          · omega
        exact ⟨rfl, (((HX.out.2.2.trans' (f3.mono (fun k _ h => HX.out.2.1 k h))).trans' (f4.mono (fun k _ h => q3 k h))).trans' (f5.mono (fun k _ h => q4 k h))).belowB⟩
end Go.Proofs.Ytgfphbehecpgpaa
