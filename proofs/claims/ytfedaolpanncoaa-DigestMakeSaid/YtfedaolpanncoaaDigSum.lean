/- A list's sum, as Sum tells it. Condition: of each item the two texts together are fewer than 2^48 bytes. -/
import Derived.Test.YtfedaolpanncoaaDigText
import Derived.Deep.LoopGhost
namespace Go.Proofs.Ytfedaolpanncoaa
open Go.RowKit

def sumN (l : List Item) : Nat := fnvs 2166136261 (l.flatMap textB)
def Small (x : Item) : Prop := x.user.size + x.name.size + 5 ≤ 281474976710656

theorem fnvs_succ {h : Nat} {l : List Nat} {k : Nat} (hk : k < l.length) : fnvs h (l.take (k + 1)) = fnv (fnvs h (l.take k)) l[k] := by
  rw [List.take_succ_eq_append_getElem hk, fnvs_append, fnvs_one]

set_option maxRecDepth 100000 in
set_option maxHeartbeats 2000000 in
theorem dig_sum (a : Option Addr) (c : Nat) (l : List Item) (w : World) (h : Items w a l) (hl : l.length ≤ 1000) (hs : ∀ x ∈ l, Small x) :
    Calls Try.prog 11 #[.slice a l.length c] w fun e w' => e = .returned (.int .u32 (sumN l : Nat)) ∧ Fr Nothing w w' := by
  have H := Lib.hid h
  have HS := Lib.hid hs
  clear h hs
  go_enter Try.func11, Try.ntmps11
  go_wp2_with (fail)
  go_loopg [3, 10] l.length (fun g sh i wr => ∃ k : Nat, k ≤ l.length ∧ g = l.length - k ∧ i = .int .i64 k ∧ (∃ s : Nat, sh = .int .u32 (s : Nat) ∧ Hid (s = fnvs 2166136261 ((l.take k).flatMap textB)) ∧ s < 4294967296) ∧ Fr Nothing w wr)
  case atStart => exact ⟨0, Nat.zero_le _, rfl, rfl, ⟨2166136261, rfl, rfl, by decide⟩, Fr.refl _ _⟩
  case round =>
    obtain ⟨k, hk, rfl, rfl, ⟨s, rfl, Hs, hs9⟩, F⟩ := hrel
    by_cases hlt : k < l.length
    · have hr := H.out.fr F (fun _ _ h => h)
      obtain ⟨b1, o1, rfl, hc⟩ := hr.at_ hlt
      have hsm := HS.out l[k] (List.getElem_mem hlt)
      obtain ⟨x, hx⟩ : ∃ x, x = l[k] := ⟨_, rfl⟩
      have c0 : wr.cell? ⟨b1, o1 + k * 4, none⟩ = some (.string x.user) := by rw [hx]; exact hc 0 _ rfl
      have c1 : wr.cell? ⟨b1, o1 + k * 4 + 1, none⟩ = some (.string x.name) := by rw [hx]; exact hc 1 _ rfl
      have c2 : wr.cell? ⟨b1, o1 + k * 4 + 2, none⟩ = some (.int .i64 x.sub) := by rw [hx]; exact hc 2 _ rfl
      have c3 : wr.cell? ⟨b1, o1 + k * 4 + 3, none⟩ = some (.bool x.asked) := by rw [hx]; exact hc 3 _ rfl
      rw [← hx] at hsm
      have Hsm := Lib.hid hsm
      have Hx := Lib.hid hx
      clear hr hc hsm hx
      go_wp2_with (fail)
      refine (dig_text x _ Hsm.out).mono ?_
      intro e w1 hj
      obtain ⟨a1, ca1, rfl, co1⟩ := hj
      have f1 : Fr Nothing wr w1 := (Fr.alloc _ _ _).trans' co1.fr
      have hsl1 := co1.own.sl.2
      rw [byte_len]
      have Hsl := Lib.hid hsl1
      have F1 := Lib.hid (F.trans' f1)
      have hbl := textB_lt x
      have hlen9 : (textB x).length ≤ 281474976710656 := by
        have := Hsm.out
        simp only [textB, List.length_append, strB_len, List.length_cons, List.length_nil]
        unfold Small at this
        omega
      obtain ⟨T, hT⟩ : ∃ T, T = textB x := ⟨_, rfl⟩
      rw [← hT] at hbl hlen9 Hsl ⊢
      have HT := Lib.hid hT
      have Hbl := Lib.hid hbl
      have hlenI : (T.length : Int) ≤ 281474976710656 := by omega
      clear hsl1 co1 f1 hbl hT hlen9 c0 c1 c2 c3 F
      go_wp2_with (fail)
      go_loop [3, 17] (fun sh j => ∃ m : Nat, m ≤ T.length ∧ j = .int .i64 m ∧ ∃ s' : Nat, sh = .int .u32 (s' : Nat) ∧ Hid (s' = fnvs s (T.take m)) ∧ s' < 4294967296) (fun _ j => T.length - (intOf j).toNat)
      case atStart => exact ⟨0, Nat.zero_le _, rfl, s, rfl, rfl, hs9⟩
      case round =>
        obtain ⟨m, hm, rfl, s', rfl, Hs', hs9'⟩ := hrel
        by_cases hlm : m < T.length
        · obtain ⟨b2, o2, rfl, h2⟩ := Sl.oneCell (j := m) (v := .int .u8 (T[m] : Nat)) Hsl.out (by simp [byteCells, hlm])
          have hb9 := Hbl.out T[m] (List.getElem_mem hlm)
          obtain ⟨y, hy⟩ : ∃ y, y = T[m] := ⟨_, rfl⟩
          rw [← hy] at h2 hb9
          have Hy := Lib.hid hy
          clear hy
          go_wp2_with (fail)
          go_round
          case rel => exact ⟨m + 1, by omega, by go_num, fnv s' y, by rw [fnv_step s' y hs9' hb9], (show _ = _ by rw [fnvs_succ hlm, ← Hs'.out, Hy.out]), fnv_lt _ _⟩
          case measure => simp [intOf]; omega
        · obtain rfl : m = T.length := by omega
          have hs' := Hs'.out
          rw [List.take_length] at hs'
          have Hss := Lib.hid hs'
          clear hs' Hs'
          go_wp2_with (fail)
          go_roundg (l.length - (k + 1))
          case measure => omega
          case rel => exact ⟨k + 1, by omega, rfl, by go_num, ⟨s', rfl, (show _ = _ by rw [List.take_succ_eq_append_getElem hlt, List.flatMap_append, fnvs_append, ← Hs.out, List.flatMap_cons, List.flatMap_nil, List.append_nil, ← Hx.out, ← HT.out, Hss.out]), hs9'⟩, F1.out⟩
    · obtain rfl : k = l.length := by omega
      have hs' := Hs.out
      rw [List.take_length] at hs'
      have Hss := Lib.hid hs'
      clear hs' Hs
      go_wp2_with (fail)
      go_ret
      exact ⟨by rw [Hss.out]; rfl, F⟩
end Go.Proofs.Ytfedaolpanncoaa
