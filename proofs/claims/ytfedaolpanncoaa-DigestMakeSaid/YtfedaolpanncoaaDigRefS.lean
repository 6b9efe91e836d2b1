/- Steps of the document's answer: how they are decoded; turned to the program's and back. No condition. -/
import Derived.Test.YtfedaolpanncoaaDigLawJ
import Derived.Test.YtfedaolpanncoaaDigestBack
namespace Go.Proofs.Ytfedaolpanncoaa
open Go.RowKit

def DStep.Good (s : DStep) : Prop := s.user.size ≤ maxLen ∧ s.item.Good
theorem Try.infoRStep : (Try.prog.info? 59).map (fun i => (i.zero, i.size, i.bytes)) = some (some (.agg #[.string ByteArray.empty, .string ByteArray.empty, .string ByteArray.empty, .int .i64 0, .bool false, .bool false]), 6, 72) := by kernel_rfl
set_option maxRecDepth 100000 in
theorem rstep_dec {H : Type} {enc : TypeId × Value → H} {w : World} (n : Nat) (cs : List Value) (y : DataW H × List MemPlace)
    (h : DataW.trod enc Try.prog w 0 (fun _ => true) true n 59 cs = some y) : ∃ r : DStep, cs = r.cells ∧ r.Good := by
  obtain ⟨xs, m, _, _, hl, hlen, hf⟩ := DataW.trod_struct Try.underlying59 h
  have hl' : cs.length = 6 := hl.trans (by kernel_rfl)
  have hx : xs.length = 3 := hlen
  match cs, hl', xs, hx with
  | [c0, c1, c2, c3, c4, c5], _, [y0, y1, y2], _ =>
    have k3 : Try.prog.cellsOf 9 = 1 := by kernel_rfl
    have k4 : Try.prog.cellsOf 4 = 1 := by kernel_rfl
    have ki : Try.prog.cellsOf 27 = 4 := by kernel_rfl
    obtain ⟨s, e0, _, ws⟩ := DataW.trod_string Try.underlying9 (hf 0 _ rfl)
    obtain ⟨r, e1, wr⟩ := item_dec _ _ _ (hf 1 _ rfl)
    obtain ⟨b, e2, _⟩ := DataW.trod_bool Try.underlying4 (hf 2 _ rfl)
    simp [k3, k4, ki] at e0 e1 e2
    subst e0 e2
    unfold Item.cells at e1
    simp only [List.cons.injEq, and_true] at e1
    obtain ⟨rfl, rfl, rfl, rfl⟩ := e1
    exact ⟨⟨s, r, b⟩, rfl, ws, wr⟩
set_option maxRecDepth 100000 in
set_option maxHeartbeats 4000000 in
theorem dig_back (a : Option Addr) (c : Nat) (l : List DStep) (w : World) (h : Steps w a l) (hl : l.length ≤ 1000) :
    Calls Try.prog 16 #[.slice a l.length c] w fun e w' => ∃ v, e = .returned v ∧ CollE w 37 6 v l.length (l.flatMap DStep.cells) w' := by
  obtain ⟨i0, hi, hz0, hz1, hz2⟩ := info_parts Try.infoStep
  have Hz2 := Lib.hid hz2
  have Hz1 := Lib.hid hz1
  have Hz0 := Lib.hid hz0
  have Hi := Lib.hid hi
  have H := Lib.hid h
  clear hi hz0 hz1 hz2 h
  go_enter Try.func16, Try.ntmps16
  go_wp2_with (fail)
  go_loopg [3, 4] l.length (fun g v i wr => ∃ k : Nat, k ≤ l.length ∧ g = l.length - k ∧ i = .int .i64 k ∧ CollE w 37 6 v k ((l.take k).flatMap DStep.cells) wr)
  case atStart => exact ⟨0, Nat.zero_le _, rfl, rfl, CollE.start _ _ _⟩
  case round =>
    obtain ⟨k, hk, rfl, rfl, co⟩ := hrel
    by_cases hlt : k < l.length
    · obtain ⟨b1, o1, rfl, hc⟩ := (H.out.fr co.fr (fun _ _ h => h)).at_ hlt
      obtain ⟨x, hx⟩ : ∃ x, x = l[k] := ⟨_, rfl⟩
      rw [← hx] at hc
      have HX := Lib.hid hx
      have c0 : wr.cell? ⟨b1, o1 + k * 6, none⟩ = some (.string x.user) := hc 0 _ rfl
      have c1 : wr.cell? ⟨b1, o1 + k * 6 + 1, none⟩ = some (.string x.item.user) := hc 1 _ rfl
      have c2 : wr.cell? ⟨b1, o1 + k * 6 + 2, none⟩ = some (.string x.item.name) := hc 2 _ rfl
      have c3 : wr.cell? ⟨b1, o1 + k * 6 + 3, none⟩ = some (.int .i64 x.item.sub) := hc 3 _ rfl
      have c4 : wr.cell? ⟨b1, o1 + k * 6 + 4, none⟩ = some (.bool x.item.asked) := hc 4 _ rfl
      have c5 : wr.cell? ⟨b1, o1 + k * 6 + 5, none⟩ = some (.bool x.gone) := hc 5 _ rfl
      have hkI : (k : Int) < l.length := by omega
      clear hc hx
      go_wp2_with (fail)
      go_region_law
        ((refine step_append_fp (by rfl) (.tmp 11) (.tmp 28) 32 (by rfl) 37 i0 (.agg #[.string ByteArray.empty, .string ByteArray.empty, .string ByteArray.empty, .int .i64 0, .bool false, .bool false]) 6 72 Try.underlying32 Hi.out Hz0.out Hz1.out Hz2.out rfl (by decide) _ k ((l.take k).flatMap DStep.cells) (by rfl) (co.drew.quiet (Fr.alloc _ _ _)).own _ 1 1 x.cells (by rfl) rfl (by simp) (Sl.ofRow (Row.allocNew _ _ _)) (step_one _) (by unfold maxLen; omega) (by omega) ?_
          intro v7 w7 o7 f7 n7 s7 _
          have co7 := CollE.more co ((Fr.drew _ _).trans' (Fr.alloc _ _ _)) o7 f7 n7
          clear co o7 f7 n7 s7))
      all_goals go_wp2_with (fail)
      all_goals
        go_roundg (l.length - (k + 1))
        case measure => omega
        case rel =>
          refine ⟨k + 1, by omega, rfl, by go_num, ?_⟩
          rw [List.take_succ_eq_append_getElem hlt, List.flatMap_append, ← HX.out]
          simpa using co7
    · obtain rfl : k = l.length := by omega
      rw [List.take_length] at co
      go_wp2_with (fail)
      go_ret
      exact ⟨_, rfl, co⟩
end Go.Proofs.Ytfedaolpanncoaa
