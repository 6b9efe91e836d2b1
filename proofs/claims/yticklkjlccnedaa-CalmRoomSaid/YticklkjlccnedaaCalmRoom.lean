/- CalmRoom answers true for every input and changes no memory that was there. No condition. -/
import Derived.Test.YticklkjlccnedaaCalmOps
namespace Go.Proofs.Yticklkjlccnedaa
open Go.RowKit

theorem again_names {N : List ByteArray} (hn : N.Nodup) {i : Nat} (hi : i < N.length) :
    (N.drop i ++ N.take i).filter (fun x => !decide (x = N[i])) ++ [N[i]] = N.drop (i + 1) ++ N.take (i + 1) := by
  have e : N.drop i = N[i] :: N.drop (i + 1) := List.drop_eq_getElem_cons hi
  have h1 : N[i] ∉ N.take i ++ N.drop (i + 1) := by
    have h2 : N = N.take i ++ (N[i] :: N.drop (i + 1)) := by rw [← e]; exact (List.take_append_drop i N).symm
    rw [h2] at hn
    rw [List.nodup_append] at hn
    obtain ⟨_, g2, g3⟩ := hn
    rw [List.nodup_cons] at g2
    intro hm
    rcases List.mem_append.1 hm with h | h
    · exact g3 _ h _ (List.mem_cons_self ..) rfl
    · exact g2.1 h
  rw [e, List.cons_append, List.filter_cons_of_neg (by simp), List.take_succ_eq_append_getElem hi, ← List.append_assoc]
  congr 1
  refine List.filter_eq_self.2 fun x hx => ?_
  simp only [Bool.not_eq_true', decide_eq_false_iff_not]
  rintro rfl
  refine h1 ?_
  rcases List.mem_append.1 hx with h | h
  · exact List.mem_append.2 (.inr h)
  · exact List.mem_append.2 (.inl h)

/-- The second loop: the names stand in this order, and the list of names lies aside. -/
def Room2 (S : Nat → Prop) (p m : Nat) (w : World) (N : List ByteArray) (a1 : Option Addr) (c1 : Nat) (X : List ByteArray) (wr : World) : Prop :=
  ∃ L : List (ByteArray × ByteArray), CInv S p m w L wr ∧ L.map Prod.fst = X ∧ Txt wr a1 N ∧ (∀ q, InBlock (.slice a1 N.length c1) q → ¬ S q) ∧ ∀ q, InBlock (.slice a1 N.length c1) q → q < wr.heap.size

set_option maxRecDepth 100000 in
set_option maxHeartbeats 4000000 in
theorem calmroom_any (n : Int) (a : Option Addr) (X : List ByteArray) (c : Nat) (w : World) (_w0 : (Lit.int .i64 n).wf = true) (hlc : X.length ≤ c) (hcm : c ≤ maxLen) (ht : Txt w a X) (hs : ∀ s ∈ X, s.size ≤ maxLen) :
    Calls Try.prog 5 #[.int .i64 n, .slice a X.length c] w fun e w' => e = .returned (.bool true) ∧ Below w.heap.size w w' := by
  obtain ⟨m, hm⟩ : ∃ m : Nat, (m : Int) = min (max n 1) 64 := ⟨(min (max n 1) 64).toNat, by omega⟩
  have Hm := Lib.hid hm
  have hl9 : (X.length : Int) ≤ 9223372036854775807 := by unfold maxLen at hcm; omega
  have Hs := Lib.hid hs
  have m0 : (1 : Int) ≤ m := by omega
  have m1 : (m : Int) ≤ 64 := by omega
  clear hm _w0 hlc hcm hs
  go_enter Try.func5, Try.ntmps5
  go_wp2_with (fail)
  refine (calm_lives _).mono ?_
  rintro e w1 ⟨rfl, f0⟩
  go_wp2_with (fail)
  refine (calm_new n m _ Hm.out).mono ?_
  rintro e w2 ⟨p, S, rfl, h1, hS, f1⟩
  have inv : CInv S p m w [] w2 := ⟨h1, fun k hk => Nat.le_trans f0.size (hS k hk), f0.fromN.trans' f1.fromN⟩
  clear h1 hS f0 f1
  go_upto_region 4 with (fail)
  go_cut [0] (fun s wx => s = .int .i64 m ∧ w2 = wx)
  case first =>
    go_wp2_with (fail)
    all_goals
      have := Hm.out
      go_meet
      case rel => exact ⟨by congr 1; omega, rfl⟩
  case rest =>
    obtain ⟨rfl, rfl⟩ := hcut
    go_wp2_with (fail)
    go_loopg [6] X.length (fun g i wr => ∃ (k : Nat) (L : List (ByteArray × ByteArray)) (S : Nat → Prop), k ≤ X.length ∧ g = X.length - k ∧ i = .int .i64 k ∧ CInv S p m w L wr)
    case atStart => exact ⟨0, [], S, Nat.zero_le _, rfl, rfl, inv⟩
    case round =>
      clear inv S
      obtain ⟨k, L, S, hk, rfl, rfl, inv⟩ := hrel
      by_cases hlt : k < X.length ∧ k < 100
      · obtain ⟨hlt, h100⟩ := hlt
        have h100i : (k : Int) < 100 := by omega
        obtain ⟨b, o, rfl, hc⟩ := (ht.kept inv.fr).at_ hlt
        have hsz := Hs.out X[k] (List.getElem_mem hlt)
        obtain ⟨x, hx⟩ : ∃ x, x = X[k] := ⟨_, rfl⟩
        rw [← hx] at hc hsz
        clear hx
        have hle := inv.calm.le
        by_cases hf : (findT L x).isSome
        · have Hf := Lib.hid hf
          clear hf
          go_wp2_with (fail)
          refine (calm_of x hsz inv.calm).mono ?_
          rw [show (findT L x).isSome = true from Hf.out]
          rintro e w3 ⟨rfl, rfl⟩
          go_wp2_with (fail)
          refine (calm_len inv.calm).mono ?_
          rintro e w3 ⟨rfl, rfl⟩
          go_wp2_with (fail)
          refine (calm_put_ok x _ hsz (by decide) inv.calm (.inl Hf.out)).mono ?_
          rintro e w4 ⟨rfl, g4⟩
          obtain ⟨S4, i4', _⟩ := inv.gone g4
          obtain ⟨M, i4⟩ : ∃ M, CInv S4 p m w M w4 := ⟨_, i4'⟩
          clear i4'
          have hle4 := i4.calm.le
          clear inv g4 hc
          go_wp2_with (fail)
          refine (calm_len i4.calm).mono ?_
          rintro e w5 ⟨rfl, rfl⟩
          go_wp2_with (fail)
          go_roundg (X.length - (k + 1))
          case measure => omega
          case rel => exact ⟨k + 1, _, S4, by omega, rfl, by go_num, i4⟩
        · have hf' : findT L x = none := by simpa using hf
          have Hf := Lib.hid hf'
          have Hf2 : Hid ((findT L x).isSome = false) := (show _ = _ by rw [hf']; rfl)
          clear hf hf'
          by_cases hL : L.length < m
          · have hd : ((L.length : Int) == (m : Int)) = false := by rw [beq_eq_false_iff_ne]; omega
            go_wp2_with (fail)
            refine (calm_of x hsz inv.calm).mono ?_
            rw [Hf2.out]
            rintro e w3 ⟨rfl, rfl⟩
            go_wp2_with (fail)
            refine (calm_len inv.calm).mono ?_
            rintro e w3 ⟨rfl, rfl⟩
            go_wp2_with (fail)
            refine (calm_put_ok x _ hsz (by decide) inv.calm (.inr hL)).mono ?_
            rintro e w4 ⟨rfl, g4⟩
            obtain ⟨S4, i4', _⟩ := inv.gone g4
            obtain ⟨M, i4⟩ : ∃ M, CInv S4 p m w M w4 := ⟨_, i4'⟩
            clear i4'
            have hle4 := i4.calm.le
            clear inv g4 hc
            go_wp2_with (fail)
            refine (calm_len i4.calm).mono ?_
            rintro e w5 ⟨rfl, rfl⟩
            go_wp2_with (fail)
            go_roundg (X.length - (k + 1))
            case measure => omega
            case rel => exact ⟨k + 1, _, S4, by omega, rfl, by go_num, i4⟩
          · have hd : ((L.length : Int) == (m : Int)) = true := by rw [beq_iff_eq]; omega
            go_wp2_with (fail)
            refine (calm_of x hsz inv.calm).mono ?_
            rw [Hf2.out]
            rintro e w3 ⟨rfl, rfl⟩
            go_wp2_with (fail)
            refine (calm_len inv.calm).mono ?_
            rintro e w3 ⟨rfl, rfl⟩
            go_wp2_with (fail)
            refine (calm_put_no x _ hsz inv.calm Hf.out (by omega)).mono ?_
            rintro e w4 ⟨rfl, f4⟩
            have i4 := inv.quiet f4
            clear inv f4 hc
            go_wp2_with (fail)
            refine (calm_len i4.calm).mono ?_
            rintro e w5 ⟨rfl, rfl⟩
            go_wp2_with (fail)
            go_roundg (X.length - (k + 1))
            case measure => omega
            case rel => exact ⟨k + 1, _, S, by omega, rfl, by go_num, i4⟩
      · have hc2 : k = X.length ∨ (k < X.length ∧ (100 : Int) ≤ k) := by omega
        clear hlt
        rcases hc2 with rfl | ⟨h2, h3⟩
        all_goals
          go_wp2_with (fail)
          refine (calm_from inv.calm).mono ?_
          rintro e w3 ⟨a1, c1, rfl, t1, b1, o1, f1⟩
          obtain ⟨N, hN⟩ : ∃ N, N = L.map Prod.fst := ⟨_, rfl⟩
          have hnd := inv.calm.nodup
          have hle := inv.calm.le
          have hmo := inv.calm.most
          have hNl : N.length ≤ 64 := by rw [hN]; simp; omega
          have hB := inv.fr.size
          have i3 : Room2 S p m w N a1 c1 (N.drop 0 ++ N.take 0) w3 := by
            rw [← hN] at t1 o1 b1
            exact ⟨L, inv.quiet f1, by simp [hN], t1, fun q hq hS => by have := inv.calm.lt hS; have := b1 q hq; omega, fun q hq => o1.lt hq⟩
          rw [← hN] at hnd
          rw [← hN]
          have Hnd := Lib.hid hnd
          clear inv t1 b1 o1 f1 hN hnd hle
          go_wp2_with (fail)
          go_loopg [11] N.length (fun g i wr => ∃ (j : Nat) (S : Nat → Prop), j ≤ N.length ∧ g = N.length - j ∧ i = .int .i64 j ∧ Room2 S p m w N a1 c1 (N.drop j ++ N.take j) wr)
          case atStart => exact ⟨0, S, Nat.zero_le _, rfl, rfl, i3⟩
          case round =>
            clear i3 S L
            obtain ⟨j, S, hj, rfl, rfl, i3⟩ := hrel
            obtain ⟨L, inv, hNL, t3, ap, lt⟩ := i3
            by_cases hlt : j < N.length
            · obtain ⟨b2, o2, rfl, hc⟩ := t3.at_ hlt
              have hin : N[j] ∈ L.map Prod.fst := by
                rw [hNL]
                exact List.mem_append.2 (.inl (List.mem_drop_iff_getElem.2 ⟨0, by omega, by simp⟩))
              have hsz : N[j].size ≤ maxLen := by
                obtain ⟨q, hq, hqe⟩ := List.mem_map.1 hin
                rw [← hqe]; exact (inv.calm.wf q hq).1
              have hfi := find_some hin
              have hag := again_names Hnd.out hlt
              rw [← hNL, ← strike_names] at hag
              obtain ⟨x, hx⟩ : ∃ x, x = N[j] := ⟨_, rfl⟩
              rw [← hx] at hc hsz hfi hag
              have Hag := Lib.hid hag
              have Hfi := Lib.hid hfi
              have HNL := Lib.hid hNL
              clear hx hag hfi hNL hin
              go_wp2_with (fail)
              refine (calm_put_ok x _ hsz (by decide) inv.calm (.inl Hfi.out)).mono ?_
              rintro e w4 ⟨rfl, g4⟩
              have g4' := g4
              obtain ⟨S4, i4, hs4⟩ := inv.gone g4
              obtain ⟨S5, _, _, f4⟩ := g4'
              have i5 : Room2 S4 p m w N (some ⟨b2, o2, none⟩) c1 (N.drop (j + 1) ++ N.take (j + 1)) w4 := by
                refine ⟨_, i4, ?_, Sl.fr t3 f4 (fun ad had => by obtain rfl := Option.some.inj had; exact ap _ (by simp [InBlock, Value.ownBlock])), fun q hq hS => ?_, fun q hq => Nat.lt_of_lt_of_le (lt q hq) f4.size⟩
                · rw [← Hag.out]; simp
                · rcases hs4 q hS with h | h
                  · exact ap q hq h
                  · have := lt q hq; omega
              clear inv i4 t3 ap lt hc f4
              go_wp2_with (fail)
              go_roundg (N.length - (j + 1))
              case measure => omega
              case rel => exact ⟨j + 1, S4, by omega, rfl, by go_num, i5⟩
            · obtain rfl : j = N.length := by omega
              have hNL' : L.map Prod.fst = N := by rw [hNL, List.drop_length, List.take_length]; rfl
              have HNL := Lib.hid hNL'
              clear hNL hNL'
              go_wp2_with (fail)
              refine (calm_from inv.calm).mono ?_
              rw [HNL.out]
              rintro e w4 ⟨a4, c4, rfl, t4, b4, o4, f4⟩
              go_wp2_with (fail)
              refine (same_yes a4 a1 _ _ _ _ t4 (Sl.fr t3 f4 (fun _ _ h => h)) (by unfold maxLen; omega)).mono ?_
              rintro e w5 ⟨rfl, m5, rfl⟩
              go_wp2_with (fail)
              go_ret
              exact ⟨rfl, (((inv.quiet f4).drewN m5).fr).belowB⟩

end Go.Proofs.Yticklkjlccnedaa
