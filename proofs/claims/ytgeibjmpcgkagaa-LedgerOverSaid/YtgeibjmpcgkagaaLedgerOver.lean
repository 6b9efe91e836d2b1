/- LedgerOver answers true for every input and changes no memory that was there. No condition. -/
import Derived.Test.YtgeibjmpcgkagaaLedLives
namespace Go.Proofs.Ytgeibjmpcgkagaa
open Go.RowKit

set_option maxRecDepth 100000 in
set_option maxHeartbeats 2000000 in
theorem ledover_any (places start : Int) (w : World) (_w0 : (Lit.int .i64 places).wf = true) (w1 : (Lit.int .u32 start).wf = true) :
    Calls Try.prog 3 #[.int .i64 places, .int .u32 start] w fun e w' => e = .returned (.bool true) ∧ Below w.heap.size w w' := by
  have hs := U32.of_wf w1
  clear _w0 w1
  go_enter Try.func3, Try.ntmps3
  go_wp2_with (fail)
  refine (led_lives _).mono ?_
  rintro e w1 ⟨rfl, f0⟩
  go_upto_region 3 with (fail)
  go_cut [0] (fun s wx => ∃ m : Nat, 1 ≤ m ∧ m ≤ 64 ∧ s = .int .i64 m ∧ w1 = wx)
  case first =>
    obtain ⟨q, hq, e⟩ := umod places 64 (by omega) (by omega)
    have e' : wrap64 ((IntKind.u64.wrap places).tmod 64) = (q : Int) := e
    clear e
    go_wp2_with (fail)
    go_meet
    case rel => exact ⟨1 + q, by omega, by omega, by simp [e'], rfl⟩
  case rest =>
    obtain ⟨m, hm1, hm64, rfl, rfl⟩ := hcut
    go_wp2_with (fail)
    refine (led_new m m start _ (by omega) hs).mono ?_
    rintro e w2 ⟨p, S, rfl, h1, hS, f1⟩
    have hS' : ∀ k, S k → w.heap.size ≤ k := fun k hk => Nat.le_trans f0.size (hS k hk)
    have F : Fr (FromB w.heap.size) w w2 := f0.fromN.trans' f1.fromN
    clear hS f0 f1
    go_wp2_with (fail)
    go_loopg [6] m (fun g i wr => ∃ (k : Nat) (L : List ByteArray), k ≤ m ∧ g = m - k ∧ i = .int .i64 k ∧ L.length ≤ k ∧ k ≤ L.length ∧ IsLed S wr p m start start L ∧ Fr (FromB w.heap.size) w wr)
    case atStart => exact ⟨0, [], Nat.zero_le _, rfl, rfl, Nat.zero_le _, Nat.zero_le _, h1, F⟩
    case round =>
      clear h1 F
      obtain ⟨k, L, hk, rfl, rfl, l1, l2, h1, F⟩ := hrel
      by_cases hlt : k < m
      · go_wp2_with (fail)
        refine (led_send_ok _ h1 (by omega)).mono ?_
        rintro e w3 ⟨rfl, h2, f2⟩
        go_wp2_with (fail)
        go_roundg (m - (k + 1))
        case measure => omega
        case rel => exact ⟨k + 1, _, by omega, rfl, by go_num, by simp; omega, by simp; omega, h2, F.trans' (f2.from_ hS')⟩
      · have a1 : w32 (w32 (start + 1) - start) = ((1 : Nat) : Int) := by rw [w32_sub, show start + 1 - start = (1 : Int) by omega]; rfl
        have a2 : w32 (start - w32 (start + 1)) = 4294967295 := by rw [w32_sub', show start - (start + 1) = (-1 : Int) by omega]; rfl
        go_wp2_with (fail)
        refine (led_send_no _ h1 (by omega)).mono ?_
        rintro e w3 ⟨rfl, m3, rfl⟩
        go_wp2_with (fail)
        refine (ref_add _ _ _ hs).mono ?_
        rintro e w4 ⟨rfl, rfl⟩
        go_wp2_with (fail)
        refine (led_confirm_ok _ 1 (h1.drewN m3) (U32.w _) a1 (by omega)).mono ?_
        rintro e w5 ⟨rfl, h5, f5⟩
        go_wp2_with (fail)
        refine (led_send_ok _ h5 (by simp; omega)).mono ?_
        rintro e w6 ⟨rfl, h6', f6⟩
        obtain ⟨M, hM⟩ : ∃ M, M = L.drop 1 ++ [⟨#[122]⟩] := ⟨_, rfl⟩
        have h6 : IsLed S w6 p m (w32 (start + 1)) start M := by rw [hM]; exact h6'
        have hMl : M.length = m := by rw [hM]; simp; omega
        clear h6' h5 hM
        go_wp2_with (fail)
        refine (led_confirm_no start h6 (by rw [a2]; omega)).mono ?_
        rintro e w7 ⟨rfl, m7, rfl⟩
        have a3 : w32 (w32 (start + 1) + (M.length : Nat)) = w32 (start + ((m : Int) + 1)) := by rw [w32_add, hMl, show start + 1 + (m : Int) = start + ((m : Int) + 1) by omega]
        have Hml := Lib.hid hMl
        have HF := Lib.hid (((F.trans' (Fr.drewN _ _ _)).trans' (f5.from_ hS')).trans' (f6.from_ hS'))
        clear a1 a2 hMl F f5 f6 h1 l1 l2
        go_wp2_with (fail)
        refine (led_sent (h6.drewN m7)).mono ?_
        rw [a3]
        rintro e w8 ⟨rfl, m8, rfl⟩
        go_wp2_with (fail)
        refine (ref_add _ _ _ hs).mono ?_
        rintro e w9 ⟨rfl, rfl⟩
        go_wp2_with (fail)
        refine (led_open (h6.drewN _)).mono ?_
        rintro e w10 ⟨a, rfl, t, _, _, f10⟩
        rw [Hml.out]
        go_wp2_with (fail)
        go_ret
        exact ⟨rfl, ((HF.out.trans' (Fr.drewN _ _ _)).trans' f10.fromN).belowB⟩

end Go.Proofs.Ytgeibjmpcgkagaa
