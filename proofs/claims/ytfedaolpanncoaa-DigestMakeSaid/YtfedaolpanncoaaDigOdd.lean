/- Which steps are odd, and whether one is. No condition. -/
import Derived.Test.YtfedaolpanncoaaDigCmp
namespace Go.Proofs.Ytfedaolpanncoaa
open Go.RowKit

def oddB (s : DStep) : Bool := if s.gone then !sameB s.item noItem else !decide (s.item.user = s.user)
set_option maxRecDepth 100000 in
set_option maxHeartbeats 2000000 in
theorem dig_odd (s : DStep) (w : World) :
    Calls Try.prog 24 #[.agg s.cells.toArray] w fun e w' => e = .returned (.bool (oddB s)) ∧ w' = w.alloc (.cells s.cells.toArray 37) := by
  have hp27 : Try.prog.stoodInHeld 27 = false := by kernel_rfl
  have hg27 : Try.prog.eqGuardType Try.prog.depth 27 = false := by kernel_rfl
  obtain ⟨u, ⟨v, n, b, a⟩, g⟩ := s
  unfold DStep.cells
  go_enter Try.func24, Try.ntmps24
  cases g with
  | true =>
    simp only [oddB, if_true]
    cases hs : sameB ⟨v, n, b, a⟩ noItem with
    | true =>
      obtain ⟨rfl, rfl, rfl, rfl⟩ : v = ByteArray.empty ∧ n = ByteArray.empty ∧ b = 0 ∧ a = false := by
        have := (sameB_iff _ _).1 hs
        simpa [noItem] using this
      clear hs
      go_wp2_with (fail)
      go_ret
      exact ⟨rfl, rfl⟩
    | false =>
      go_wp2_with (fail)
      all_goals first
        | (go_ret; exact ⟨rfl, rfl⟩)
        | (rename_i h4 h3 h2 h1; subst h2; subst h1; go_ret; exact ⟨rfl, rfl⟩)
        | (exfalso
           rename_i h4 h3 h2 h1
           obtain rfl : v = ByteArray.empty := text_eq.1 (h4.trans (by simp))
           obtain rfl : n = ByteArray.empty := text_eq.1 (h3.trans (by simp))
           subst h2
           obtain rfl : a = false := by simpa using h1
           simp [sameB, noItem] at hs)
  | false =>
    by_cases he : v = u
    · have h0 : oddB ⟨u, ⟨v, n, b, a⟩, false⟩ = false := by simp [oddB, he]
      have h1 : (v.toList == u.toList) = true := by rw [same_text, decide_eq_true he]
      rw [h0]
      clear h0 he
      go_wp2_with (fail)
      go_ret
      exact ⟨rfl, rfl⟩
    · have h0 : oddB ⟨u, ⟨v, n, b, a⟩, false⟩ = true := by simp [oddB, he]
      have h1 : (v.toList == u.toList) = false := by rw [same_text, decide_eq_false he]
      rw [h0]
      clear h0 he
      go_wp2_with (fail)
      go_ret
      exact ⟨rfl, rfl⟩
set_option maxRecDepth 100000 in
set_option maxHeartbeats 2000000 in
theorem dig_index (a : Option Addr) (c : Nat) (l : List DStep) (w : World) (h : Steps w a l) (hl : l.length ≤ 1000) :
    Calls Try.prog 37 #[.slice a l.length c, .func (.func 24) #[] #[]] w fun e w' => (∃ i : Int, e = .returned (.int .i64 i) ∧ (0 ≤ i ↔ l.any oddB = true)) ∧ Fr Nothing w w' := by
  have H := Lib.hid h
  clear h
  go_enter Try.func37, Try.ntmps37
  go_wp2_with (fail)
  go_loopg [8] l.length (fun g i wr => ∃ k : Nat, k ≤ l.length ∧ g = l.length - k ∧ i = .int .i64 k ∧ Hid (∀ j (h : j < l.length), j < k → oddB l[j] = false) ∧ Fr Nothing w wr)
  case atStart => exact ⟨0, Nat.zero_le _, rfl, rfl, Lib.hid (fun _ _ h => by omega), Fr.refl _ _⟩
  case round =>
    obtain ⟨k, hk, rfl, rfl, HN, F⟩ := hrel
    by_cases hlt : k < l.length
    · obtain ⟨b1, o1, rfl, hc⟩ := (H.out.fr F (fun _ _ h => h)).at_ hlt
      obtain ⟨x, hx⟩ : ∃ x, x = l[k] := ⟨_, rfl⟩
      rw [← hx] at hc
      have HX := Lib.hid hx
      have c0 : wr.cell? ⟨b1, o1 + k * 6, none⟩ = some (.string x.user) := hc 0 _ rfl
      have c1 : wr.cell? ⟨b1, o1 + k * 6 + 1, none⟩ = some (.string x.item.user) := hc 1 _ rfl
      have c2 : wr.cell? ⟨b1, o1 + k * 6 + 2, none⟩ = some (.string x.item.name) := hc 2 _ rfl
      have c3 : wr.cell? ⟨b1, o1 + k * 6 + 3, none⟩ = some (.int .i64 x.item.sub) := hc 3 _ rfl
      have c4 : wr.cell? ⟨b1, o1 + k * 6 + 4, none⟩ = some (.bool x.item.asked) := hc 4 _ rfl
      have c5 : wr.cell? ⟨b1, o1 + k * 6 + 5, none⟩ = some (.bool x.gone) := hc 5 _ rfl
      have F2 := F.trans' (Fr.alloc Nothing wr (.cells x.cells.toArray 37))
      clear hc hx
      cases ho : oddB x with
      | true =>
        have HO := Lib.hid ho
        go_wp2_with (go_at_call 24; refine (dig_odd x _).mono ?_; rintro e w2 ⟨rfl, rfl⟩; rw [ho])
        go_ret
        exact ⟨⟨k, rfl, by constructor <;> intro _; exact List.any_eq_true.2 ⟨x, by rw [HX.out]; exact List.getElem_mem hlt, HO.out⟩; omega⟩, F2⟩
      | false =>
        have HO := Lib.hid ho
        go_wp2_with (go_at_call 24; refine (dig_odd x _).mono ?_; rintro e w2 ⟨rfl, rfl⟩; rw [ho])
        go_roundg (l.length - (k + 1))
        case measure => omega
        case rel =>
          refine ⟨k + 1, by omega, rfl, by go_num, Lib.hid (fun j hj hjk => ?_), F2⟩
          by_cases h1 : j < k
          · exact HN.out j hj h1
          · obtain rfl : j = k := by omega
            rw [← HX.out]; exact HO.out
    · obtain rfl : k = l.length := by omega
      go_wp2_with (fail)
      go_ret
      refine ⟨⟨-1, rfl, ?_⟩, F⟩
      constructor
      · intro h; omega
      · intro h
        obtain ⟨x, hx, hox⟩ := List.any_eq_true.1 h
        obtain ⟨j, hj, rfl⟩ := List.mem_iff_getElem.1 hx
        rw [HN.out j hj hj] at hox; cases hox
theorem dig_contains (a : Option Addr) (c : Nat) (l : List DStep) (w : World) (h : Steps w a l) (hl : l.length ≤ 1000) :
    Calls Try.prog 23 #[.slice a l.length c, .func (.func 24) #[] #[]] w fun e w' => e = .returned (.bool (l.any oddB)) ∧ Fr Nothing w w' := by
  go_enter Try.func23, Try.ntmps23
  go_wp2_with (go_at_call 37; refine (dig_index a c l _ h hl).mono ?_; rintro e w1 ⟨⟨i, rfl, hi⟩, F⟩; have HI := Lib.hid hi; clear hi)
  go_ret
  refine ⟨?_, F⟩
  have : decide (0 ≤ i) = l.any oddB := by rw [Bool.eq_iff_iff, decide_eq_true_iff, HI.out]
  rw [← this]
  rfl
end Go.Proofs.Ytfedaolpanncoaa
