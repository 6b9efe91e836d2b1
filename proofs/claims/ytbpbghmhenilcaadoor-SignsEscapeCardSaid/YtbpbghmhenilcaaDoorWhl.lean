/- signs.Whole. No condition. -/
import Derived.Test.YtbpbghmhenilcaaDoorFull
import Derived.Lib.MinMax
namespace Go.Proofs.YtbpbghmhenilcaaDoor
open Go.RowKit

/-- May the bytes from k on be the beginning of a sign? -/
def partAt (s : ByteArray) (k : Nat) : Bool := !fullS (s.extract k s.size) && Lib.runeStart ((s.get! k).toNat : Int)
def wholeFrom (s : ByteArray) : Nat → Nat → Nat
  | 0, _ => s.size
  | f + 1, k => if k < s.size then (if partAt s k = true then k else wholeFrom s f (k + 1)) else s.size
def wholeN (s : ByteArray) : Nat := wholeFrom s 4 (s.size - 3)
def wholeV (s : ByteArray) : Value := if rightS (s.extract 0 (wholeN s)) = true then .tuple #[.int .i64 (wholeN s : Nat), .int .i64 0] else .tuple #[.int .i64 0, .int .i64 2]
theorem wholeFrom_le (s : ByteArray) : ∀ f k, wholeFrom s f k ≤ s.size
  | 0, _ => Nat.le_refl _
  | f + 1, k => by
    rw [wholeFrom]
    split
    · split
      · omega
      · exact wholeFrom_le s f (k + 1)
    · exact Nat.le_refl _
theorem tabs_fr {w w' : World} (h : Tabs w) (F : Fr Nothing w w') : Tabs w' :=
  ⟨fun c hc => cell_fr (h.1 c hc) F (fun h => h), fun i hi => ⟨cell_fr (h.2 i hi).1 F (fun h => h), cell_fr (h.2 i hi).2 F (fun h => h)⟩⟩
set_option maxHeartbeats 8000000 in
set_option maxRecDepth 100000 in
theorem whole_f (s : ByteArray) (w : World) (hs : s.size ≤ 1000000) (hT : Tabs w) :
    Calls Tryd.prog 11 #[.string s] w fun e w' => e = .returned (wholeV s) ∧ Fr Nothing w w' := by
  obtain ⟨N, hN⟩ : ∃ N, N = s.size := ⟨_, rfl⟩
  obtain ⟨K, hK⟩ : ∃ K, K = N - 3 := ⟨_, rfl⟩
  obtain ⟨W, hW⟩ : ∃ W, W = wholeN s := ⟨_, rfl⟩
  obtain ⟨R, hR⟩ : ∃ R, R = wholeV s := ⟨_, rfl⟩
  obtain ⟨B, hB⟩ : ∃ B, B = rightS (s.extract 0 W) := ⟨_, rfl⟩
  obtain ⟨E, hE⟩ : ∃ E : Int, E = if B = true then 0 else 2 := ⟨_, rfl⟩
  have HE := Lib.hid hE
  have hWN : W ≤ N := by rw [hW, hN]; exact wholeFrom_le s _ _
  have hmx : max ((N : Int) - 4 + 1) 0 = (K : Int) := by omega
  have hsz : s.size = N := hN.symm
  have HST : Hid (N - K < 4 ∧ wholeFrom s 4 K = W) := Lib.hid ⟨by omega, by rw [hW, hK, hN]; rfl⟩
  have HRt : Hid (∀ w', Tabs w' → Calls Tryd.prog 13 #[.string (s.extract 0 W)] w' fun e w'' => e = .returned (.int .i64 E) ∧ Fr Nothing w' w'') := Lib.hid (fun w' hT' => by
    have := right_f (s.extract 0 W) w' (by rw [ByteArray.size_extract]; omega) hT'
    unfold rightV at this
    rw [← hB, ← hE] at this; exact this)
  have HRv : Hid (R = if B = true then .tuple #[.int .i64 (W : Nat), .int .i64 0] else .tuple #[.int .i64 0, .int .i64 2]) := Lib.hid (by rw [hR, hB, hW]; rfl)
  have hKN : K ≤ N := by omega
  rw [← hR]
  have HT := Lib.hid hT
  have HFu := Lib.hid full_f
  have HRs := Lib.hid Tryd.utf8_RuneStart
  clear hN hK hW hT hR hB hE
  go_enter Tryd.func11, Tryd.ntmps11
  go_wp2_with (fail)
  go_loopg [4, 5] (N - K) (fun gg vn vk wr => ∃ k f : Nat, K ≤ k ∧ k ≤ N ∧ gg = N - k ∧ vn = .int .i64 (N : Int) ∧ vk = .int .i64 (k : Int) ∧ Hid (N - k < f ∧ wholeFrom s f k = W) ∧ Hid (Fr Nothing w wr))
  case atStart => exact ⟨K, 4, by omega, by omega, rfl, rfl, rfl, HST, Lib.hid (Fr.refl _ _)⟩
  case round =>
    clear HST
    obtain ⟨k, f, hKk, hk, rfl, rfl, rfl, HS, HF⟩ := hrel
    by_cases hlt : k < N
    · have hltI : (k : Int) < N := by omega
      have hkI : (k : Int) ≤ N := by omega
      obtain ⟨t, ht⟩ : ∃ t, t = s.extract k N := ⟨_, rfl⟩
      have hts : t.size < 9223372036854775807 := by rw [ht, ByteArray.size_extract]; omega
      obtain ⟨x, hx⟩ : ∃ x, s.get! k = x := ⟨_, rfl⟩
      have hss : k < s.size := by omega
      have hix : s[k]'hss = x := by rw [← hx]; exact (Utf8W.get!_of_lt s k hss).symm
      have hx256 : (x.toNat : Int) < 256 := by have := x.toNat_lt; omega
      have hx0 : (0 : Int) ≤ x.toNat := by omega
      have hex : s.extract k N = t := ht.symm
      have hC := HFu.out t wr hts (tabs_fr HT.out HF.out)
      have hRS := fun w' => HRs.out (x.toNat : Int) w' hx0 hx256
      obtain ⟨A, hA⟩ : ∃ A, A = fullS t := ⟨_, rfl⟩
      obtain ⟨D, hD⟩ : ∃ D, D = Lib.runeStart (x.toNat : Int) := ⟨_, rfl⟩
      rw [← hA] at hC
      rw [← hD] at hRS
      obtain ⟨g, rfl⟩ : ∃ g, f = g + 1 := ⟨f - 1, by have := HS.out.1; omega⟩
      have HP : Hid (W = if (!A && D) = true then k else wholeFrom s g (k + 1)) := Lib.hid (by
        rw [← HS.out.2, wholeFrom, if_pos hss]
        unfold partAt
        rw [hsz, ← ht, ← hA, hx, ← hD])
      have HSg : Hid (N - (k + 1) < g) := Lib.hid (by have := HS.out.1; omega)
      have HC := Lib.hid hC
      have HRS := Lib.hid hRS
      clear ht hx hA hD hC hRS HS
      cases A with
      | true =>
        go_wp2_with (go_at_call 21; refine HC.out.mono ?_)
        rintro e w3 ⟨rfl, F3⟩
        have HF3 : Hid (Fr Nothing w w3) := Lib.hid (HF.out.trans' F3)
        clear F3
        go_wp2_with (fail)
        go_roundg (N - (k + 1))
        case measure => omega
        case rel => exact ⟨k + 1, g, by omega, by omega, rfl, rfl, by go_num, Lib.hid ⟨HSg.out, by rw [HP.out]; rfl⟩, HF3⟩
      | false =>
        cases D with
        | false =>
          go_wp2_with (first | (go_at_call 21; refine HC.out.mono ?_) | (go_at_call 22; refine (HRS.out _).mono ?_))
          rintro e w3 ⟨rfl, F3⟩
          have HF3 : Hid (Fr Nothing w w3) := Lib.hid (HF.out.trans' F3)
          clear F3
          go_wp2_with (go_at_call 22; refine (HRS.out _).mono ?_; rintro e w4 ⟨rfl, rfl⟩)
          go_roundg (N - (k + 1))
          case measure => omega
          case rel => exact ⟨k + 1, g, by omega, by omega, rfl, rfl, by go_num, Lib.hid ⟨HSg.out, by rw [HP.out]; rfl⟩, HF3⟩
        | true =>
          obtain rfl : W = k := HP.out
          go_wp2_with (first | (go_at_call 21; refine HC.out.mono ?_) | (go_at_call 22; refine (HRS.out _).mono ?_))
          rintro e w3 ⟨rfl, F3⟩
          have FZ : Hid (Fr Nothing w w3) := Lib.hid (HF.out.trans' F3)
          clear F3
          go_wp2_with (go_at_call 22; refine (HRS.out _).mono ?_; rintro e w4 ⟨rfl, rfl⟩)
          go_wp2_with (go_at_call 13; refine (HRt.out _ (tabs_fr HT.out FZ.out)).mono ?_)
          rintro e w5 ⟨rfl, F5⟩
          have HF5 : Hid (Fr Nothing w w5) := Lib.hid (FZ.out.trans' F5)
          clear F5
          cases B with
          | true =>
            obtain rfl : E = 0 := HE.out
            go_wp2_with (fail)
            go_ret2
            exact ⟨by rw [HRv.out]; rfl, HF5.out⟩
          | false =>
            obtain rfl : E = 2 := HE.out
            go_wp2_with (fail)
            go_ret2
            exact ⟨by rw [HRv.out]; rfl, HF5.out⟩
    · obtain rfl : N = k := by omega
      obtain rfl : W = N := by
        rw [← HS.out.2]
        obtain ⟨g, rfl⟩ : ∃ g, f = g + 1 := ⟨f - 1, by have := HS.out.1; omega⟩
        rw [wholeFrom, if_neg (by omega), hsz]
      have FZ := HF
      go_wp2_with (go_at_call 13; refine (HRt.out _ (tabs_fr HT.out FZ.out)).mono ?_)
      rintro e w5 ⟨rfl, F5⟩
      have HF5 : Hid (Fr Nothing w w5) := Lib.hid (FZ.out.trans' F5)
      clear F5
      cases B with
      | true =>
        obtain rfl : E = 0 := HE.out
        go_wp2_with (fail)
        go_ret2
        exact ⟨by rw [HRv.out]; rfl, HF5.out⟩
      | false =>
        obtain rfl : E = 2 := HE.out
        go_wp2_with (fail)
        go_ret2
        exact ⟨by rw [HRv.out]; rfl, HF5.out⟩
end Go.Proofs.YtbpbghmhenilcaaDoor
