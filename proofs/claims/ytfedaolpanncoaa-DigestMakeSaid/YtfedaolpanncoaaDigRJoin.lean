/- Two rows of steps as one, as the document's answer does it. Condition: the texts' lengths. -/
import Derived.Test.YtfedaolpanncoaaDigAs
namespace Go.Proofs.Ytfedaolpanncoaa
open Go.RowKit

theorem coll_rsteps {w w' : World} {v : Value} {xs : List DStep} (h : CollR w v xs w') : ∃ a c, v = .slice a xs.length c ∧ Steps w' a xs ∧ xs.length ≤ c ∧ c ≤ maxLen ∧ (a = none → xs.length = 0 ∧ c = 0) := by
  rcases h.own.2 with ⟨rfl, h0⟩ | ⟨g, cap, cur, rfl, _, _, h1, h2, _⟩
  · have := h.own.sl.2
    have hx : xs.length = 0 := h0
    exact ⟨none, 0, by rw [hx], ⟨DStep.len, by decide, this⟩, by omega, Nat.zero_le _, fun _ => ⟨hx, rfl⟩⟩
  · exact ⟨_, cap, rfl, ⟨DStep.len, by decide, h.own.sl.2⟩, h1, h2, fun h => by cases h⟩
theorem listedS_nil : ListedS (joinF []) [] := ⟨List.Pairwise.nil, fun x => Iff.intro (fun h => by cases h) (fun h => by cases h)⟩
theorem joined_fit {s xs : List DStep} (h : ListedS (joinF s) xs) (hs : ∀ x ∈ s, x.user.size ≤ maxLen) : ∀ x ∈ xs, x.user.size ≤ maxLen := fun x hx => hs x (joined_sub h x hx)
set_option maxRecDepth 100000 in
set_option maxHeartbeats 8000000 in
theorem ref_join (a b : Option Addr) (ca cb : Nat) (s t : List DStep) (w : World) (hA : Steps w a s) (hB : Steps w b t) (la : s.length ≤ 400) (lb : t.length ≤ 400) (fa : ∀ x ∈ s, x.user.size ≤ maxLen) (fb : ∀ x ∈ t, x.user.size ≤ maxLen) :
    Calls Try.prog 21 #[.slice a s.length ca, .slice b t.length cb] w fun e w' => ∃ v xs, e = .returned v ∧ ListedS (joinF (s ++ t)) xs ∧ CollR w v xs w' := by
  have HA := Lib.hid hA
  have HB := Lib.hid hB
  have FA := Lib.hid fa
  have FB := Lib.hid fb
  clear hA hB fa fb
  go_enter Try.func21, Try.ntmps21
  go_wp2_with (fail)
  go_loopg [5, 6] s.length (fun g v i wr => ∃ (k : Nat) (O : List DStep), k ≤ s.length ∧ g = s.length - k ∧ i = .int .i64 k ∧ Hid (ListedS (joinF (s.take k)) O) ∧ CollR w v O wr)
  case atStart => exact ⟨0, [], Nat.zero_le _, rfl, rfl, Lib.hid listedS_nil, CollE.start _ _ _⟩
  case round =>
    obtain ⟨k, O, hk, rfl, rfl, HO, co⟩ := hrel
    have hOl := joined_len HO.out
    rw [List.length_take] at hOl
    obtain ⟨a7, c7, rfl, h7', _, _, _⟩ := coll_rsteps co
    by_cases hlt : k < s.length
    · obtain ⟨b1, o1, rfl, hc⟩ := (HA.out.fr co.fr (fun _ _ h => h)).at_ hlt
      have HN := Lib.hid (show ListedS (joinF (s.take (k + 1))) (insR DStep.user s[k].user s[k] O false) from by rw [List.take_succ_eq_append_getElem hlt, joinF_snoc]; exact listed_put HO.out)
      have HXF := Lib.hid (FA.out s[k] (List.getElem_mem hlt))
      have HFO := Lib.hid (joined_fit HO.out (fun x hx => FA.out x (List.mem_of_mem_take hx)))
      obtain ⟨x, hx⟩ : ∃ x, x = s[k] := ⟨_, rfl⟩
      rw [← hx] at hc HN HXF
      have c0 : wr.cell? ⟨b1, o1 + k * 6, none⟩ = some (.string x.user) := hc 0 _ rfl
      have c1 : wr.cell? ⟨b1, o1 + k * 6 + 1, none⟩ = some (.string x.item.user) := hc 1 _ rfl
      have c2 : wr.cell? ⟨b1, o1 + k * 6 + 2, none⟩ = some (.string x.item.name) := hc 2 _ rfl
      have c3 : wr.cell? ⟨b1, o1 + k * 6 + 3, none⟩ = some (.int .i64 x.item.sub) := hc 3 _ rfl
      have c4 : wr.cell? ⟨b1, o1 + k * 6 + 4, none⟩ = some (.bool x.item.asked) := hc 4 _ rfl
      have c5 : wr.cell? ⟨b1, o1 + k * 6 + 5, none⟩ = some (.bool x.gone) := hc 5 _ rfl
      have hkI : (k : Int) < s.length := by omega
      have H7 := Lib.hid h7'
      clear hc hx h7'
      go_wp2_with (fail)
      refine (ref_put a7 c7 O x wr H7.out (by omega) HFO.out HXF.out).mono ?_
      rintro e w8 ⟨v8, rfl, co8⟩
      have co9 : CollR w v8 _ w8 := co8.over co.fr
      clear co co8
      go_wp2_with (fail)
      go_roundg (s.length - (k + 1))
      case measure => omega
      case rel => exact ⟨k + 1, _, by omega, rfl, by go_num, HN, co9⟩
    · obtain rfl : k = s.length := by omega
      rw [List.take_length] at HO
      have HS0 : Hid (ListedS (joinF (s ++ t.take 0)) O) := Lib.hid (by rw [List.take_zero, List.append_nil]; exact HO.out)
      clear HO h7' hk
      go_wp2_with (fail)
      go_loopg [5, 7] t.length (fun g v i wr => ∃ (k : Nat) (O : List DStep), k ≤ t.length ∧ g = t.length - k ∧ i = .int .i64 k ∧ Hid (ListedS (joinF (s ++ t.take k)) O) ∧ CollR w v O wr)
      case atStart => exact ⟨0, O, Nat.zero_le _, rfl, rfl, HS0, co⟩
      case round =>
        clear co HS0
        obtain ⟨k, O, hk, rfl, rfl, HO, co⟩ := hrel
        have hOl := joined_len HO.out
        rw [List.length_append, List.length_take] at hOl
        obtain ⟨a7, c7, rfl, h7', _, _, _⟩ := coll_rsteps co
        by_cases hlt : k < t.length
        · obtain ⟨b1, o1, rfl, hc⟩ := (HB.out.fr co.fr (fun _ _ h => h)).at_ hlt
          have HN := Lib.hid (show ListedS (joinF (s ++ t.take (k + 1))) (insR DStep.user t[k].user t[k] O false) from by rw [List.take_succ_eq_append_getElem hlt, ← List.append_assoc, joinF_snoc]; exact listed_put HO.out)
          have HXF := Lib.hid (FB.out t[k] (List.getElem_mem hlt))
          have HFO := Lib.hid (joined_fit HO.out (fun x hx => (List.mem_append.1 hx).elim (FA.out x) (fun hx => FB.out x (List.mem_of_mem_take hx))))
          obtain ⟨x, hx⟩ : ∃ x, x = t[k] := ⟨_, rfl⟩
          rw [← hx] at hc HN HXF
          have c0 : wr.cell? ⟨b1, o1 + k * 6, none⟩ = some (.string x.user) := hc 0 _ rfl
          have c1 : wr.cell? ⟨b1, o1 + k * 6 + 1, none⟩ = some (.string x.item.user) := hc 1 _ rfl
          have c2 : wr.cell? ⟨b1, o1 + k * 6 + 2, none⟩ = some (.string x.item.name) := hc 2 _ rfl
          have c3 : wr.cell? ⟨b1, o1 + k * 6 + 3, none⟩ = some (.int .i64 x.item.sub) := hc 3 _ rfl
          have c4 : wr.cell? ⟨b1, o1 + k * 6 + 4, none⟩ = some (.bool x.item.asked) := hc 4 _ rfl
          have c5 : wr.cell? ⟨b1, o1 + k * 6 + 5, none⟩ = some (.bool x.gone) := hc 5 _ rfl
          have hkI : (k : Int) < t.length := by omega
          have H7 := Lib.hid h7'
          clear hc hx h7'
          go_wp2_with (fail)
          refine (ref_put a7 c7 O x wr H7.out (by omega) HFO.out HXF.out).mono ?_
          rintro e w8 ⟨v8, rfl, co8⟩
          have co9 : CollR w v8 _ w8 := co8.over co.fr
          clear co co8
          go_wp2_with (fail)
          go_roundg (t.length - (k + 1))
          case measure => omega
          case rel => exact ⟨k + 1, _, by omega, rfl, by go_num, HN, co9⟩
        · obtain rfl : k = t.length := by omega
          rw [List.take_length] at HO
          clear h7' hk
          go_wp2_with (fail)
          go_ret
          exact ⟨_, O, rfl, HO.out, co⟩
end Go.Proofs.Ytfedaolpanncoaa
