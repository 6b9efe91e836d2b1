/- signs.Escape. No condition. -/
import Derived.Test.YtbpbghmhenilcaaDoorByteR
import Derived.Test.YtbpbghmhenilcaaDoorRight
namespace Go.Proofs.YtbpbghmhenilcaaDoor
open Go.RowKit

theorem meth_rep (t : Nat) (w : World) : (method 262 100 (.pointer (some ⟨t, 0, none⟩)) "Replace").run Tryd.prog w = .ok (111, .pointer (some ⟨t, 0, none⟩)) w := by kernel_rfl
set_option maxHeartbeats 4000000 in
set_option maxRecDepth 100000 in
theorem replace_f (b : Nat) (a : Option Addr) (c : Nat) (s : ByteArray) (w : World) (hs : s.size ≤ 1000000) (hR : RepRow w b 0 0 .nilIface (.slice a 10 c)) (hT : Txt w a oldnew) (hab : ∀ ad, a = some ad → ad.block ≠ b) :
    Calls Tryd.prog 28 #[.pointer (some ⟨b, 0, none⟩), .string s] w fun e w' => e = .returned (.string (escS s)) ∧ Fr (fun q => q = b) w w' := by
  have HO := Lib.hid (once_do (P := RepP b) b (repP_fr b) .nilIface (.slice a 10 c) w hR (fun W F hW => buildOnce_f b .nilIface a c W hW (Sl.fr hT F (fun ad h e => hab ad h e))))
  obtain ⟨R, hRR⟩ : ∃ R, R = escS s := ⟨_, rfl⟩
  rw [← hRR]
  have HRR := Lib.hid hRR
  clear hR hT hab hRR
  go_enter Tryd.func28, Tryd.ntmps28
  go_wp2_with (go_at_call 37; refine HO.out.mono ?_)
  rintro e w1 ⟨rfl, v5, h1, F1, t, rfl, hok⟩
  have c3 := Row.cell h1 3 rfl
  have hm := meth_rep t w1
  have HB := Lib.hid (byteRep_f b t s w1 hs hok)
  have HF1 := Lib.hid F1
  clear h1 hok F1
  go_wp2_with (go_at_call 111; refine HB.out.mono ?_; rintro e w2 ⟨rfl, F2⟩; rw [← HRR.out])

  go_ret
  exact ⟨rfl, HF1.out.trans' (F2.mono (fun _ _ h => h.elim))⟩
/-- What Escape answers. -/
def escV (s : ByteArray) : Value := if rightS s = true then .tuple #[.string (escS s), .int .i64 0] else .tuple #[.string ByteArray.empty, .int .i64 2]
set_option maxHeartbeats 4000000 in
set_option maxRecDepth 100000 in
theorem escape_f (s : ByteArray) (w : World) (hs : s.size ≤ 1000000) (hT : Tabs w) :
    Calls Tryd.prog 17 #[.string s] w fun e w' => e = .returned (escV s) ∧ Fr Nothing w w' := by
  have HRt := Lib.hid (right_f s w (by omega) hT)
  have HR := Lib.hid (fun b a c w => replace_f b a c s w hs)
  have HE := Lib.hid escaper_f
  cases hr : rightS s with
  | false =>
    have hv : rightV s = .int .i64 2 := by unfold rightV; rw [hr]; rfl
    have he : escV s = .tuple #[.string ByteArray.empty, .int .i64 2] := by unfold escV; rw [hr]; rfl
    rw [hv] at HRt
    rw [he]
    clear hv he hr
    go_enter Tryd.func17, Tryd.ntmps17
    go_wp2_with (go_at_call 13; refine HRt.out.mono ?_; rintro e w1 ⟨rfl, F1⟩)
    go_ret2
    exact ⟨rfl, F1⟩
  | true =>
    have hv : rightV s = .int .i64 0 := by unfold rightV; rw [hr]; rfl
    have he : escV s = .tuple #[.string (escS s), .int .i64 0] := by unfold escV; rw [hr]; rfl
    obtain ⟨R, hRR⟩ : ∃ R, R = escS s := ⟨_, rfl⟩
    rw [hv] at HRt
    rw [he, ← hRR]
    have HRR := Lib.hid hRR
    clear hv he hr hRR
    go_enter Tryd.func17, Tryd.ntmps17
    go_wp2_with (go_at_call 13; refine HRt.out.mono ?_)
    rintro e w1 ⟨rfl, F1⟩
    have HF1 := Lib.hid F1
    clear F1
    go_wp2_with (go_at_call 27; refine (HE.out _).mono ?_)
    rintro e w2 ⟨b, a', c', rfl, h1, h2, h3, h4, h5⟩
    have HRp := Lib.hid (HR.out b a' c' w2 h1 h2 h3)
    have HF2 : Hid (Fr Nothing w w2) := Lib.hid (HF1.out.trans' h4)
    have hb : w.heap.size ≤ b := by have := HF1.out.size; omega
    clear h1 h2 h3 h4 h5
    go_wp2_with (go_at_call 28; refine HRp.out.mono ?_; rintro e w3 ⟨rfl, F3⟩; rw [← HRR.out])
    go_ret2
    exact ⟨rfl, HF2.out.trans F3 (fun k hk e => by omega)⟩
end Go.Proofs.YtbpbghmhenilcaaDoor
