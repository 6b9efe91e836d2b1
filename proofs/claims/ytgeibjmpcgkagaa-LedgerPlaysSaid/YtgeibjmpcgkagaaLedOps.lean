/- The steps of the ledger's scripts as they lie in memory, and the law's own small functions. No condition. -/
import Derived.Test.YtgeibjmpcgkagaaLedLives
import Derived.Test.YtgeibjmpcgkagaaOpen
namespace Go.Proofs.Ytgeibjmpcgkagaa
open Go.RowKit

structure LedOp where
  kind : Int
  n : Int
  h : Int
  on : Bool
  s : ByteArray
def LedOp.cells (o : LedOp) : List Value := [.int .i64 o.kind, .int .i64 o.n, .int .u32 o.h, .bool o.on, .string o.s]
def LedOp.Good (o : LedOp) : Prop := (Lit.int .i64 o.kind).wf = true ∧ (Lit.int .i64 o.n).wf = true ∧ U32 o.h ∧ o.s.size ≤ maxLen
theorem LedOp.len (o : LedOp) : o.cells.length = 5 := rfl

theorem ledop_dec {H : Type} {enc : TypeId × Value → H} {w : World} (n : Nat) (cs : List Value) (y : DataW H × List MemPlace)
    (h : DataW.trod enc Try.prog w 0 (fun _ => true) true n 44 cs = some y) : ∃ r : LedOp, cs = r.cells ∧ r.Good := by
  obtain ⟨xs, m, _, _, hl, hlen, hf⟩ := DataW.trod_struct Try.underlying44 h
  have hl' : cs.length = 5 := hl.trans (by kernel_rfl)
  have hx : xs.length = 5 := hlen
  match cs, hl', xs, hx with
  | [c0, c1, c2, c3, c4], _, [y0, y1, y2, y3, y4], _ =>
    obtain ⟨a, e0, _, wa⟩ := DataW.trod_int Try.underlying3 (hf 0 _ rfl)
    obtain ⟨b, e1, _, wb⟩ := DataW.trod_int Try.underlying3 (hf 1 _ rfl)
    obtain ⟨c, e2, _, wc⟩ := DataW.trod_int Try.underlying22 (hf 2 _ rfl)
    obtain ⟨d, e3, _⟩ := DataW.trod_bool Try.underlying4 (hf 3 _ rfl)
    obtain ⟨s, e4, _, ws⟩ := DataW.trod_string Try.underlying9 (hf 4 _ rfl)
    have k0 : Try.prog.cellsOf 3 = 1 := by kernel_rfl
    have k1 : Try.prog.cellsOf 22 = 1 := by kernel_rfl
    have k2 : Try.prog.cellsOf 4 = 1 := by kernel_rfl
    have k3 : Try.prog.cellsOf 9 = 1 := by kernel_rfl
    simp [k0, k1, k2, k3] at e0 e1 e2 e3 e4
    subst e0 e1 e2 e3 e4
    exact ⟨⟨a, b, c, d, s⟩, rfl, wa, wb, U32.of_wf wc, ws⟩

set_option maxHeartbeats 400000 in
theorem ledop_early (a : Option Addr) (n c : Nat) (w : World) (hn : n ≤ c) (hc : (c : Int) ≤ 9223372036854775807) :
    Calls Try.prog 17 #[.slice a n c] w fun e w' => e = .returned (.slice a (min n 200) c) ∧ w = w' := by
  have h1 : (n : Int) ≤ c := by omega
  by_cases h2 : (200 : Int) < n
  · have h3 : (200 : Int) ≤ c := by omega
    have hm : min n 200 = 200 := by omega
    rw [hm]
    clear hm
    go_enter Try.func17, Try.ntmps17
    go_wp2
    go_ret
    exact ⟨rfl, rfl⟩
  · have hm : min n 200 = n := by omega
    rw [hm]
    clear hm
    go_enter Try.func17, Try.ntmps17
    go_wp2
    go_ret
    exact ⟨rfl, rfl⟩

def KindOf (m : Nat) (w : World) (e : Ending) (w' : World) : Prop := ∃ q : Nat, q < m ∧ e = .returned (.int .i64 q) ∧ Fr Nothing w w'
set_option maxHeartbeats 400000 in
theorem ledop_kind (o : LedOp) (w : World) :
    Calls Try.prog 19 #[.agg #[.int .i64 o.kind, .int .i64 o.n, .int .u32 o.h, .bool o.on, .string o.s]] w (KindOf 5 w) := by
  obtain ⟨q, hq, e⟩ := umod o.kind 5 (by omega) (by omega)
  have E : Hid (wrap64 ((IntKind.u64.wrap o.kind).tmod 5) = (q : Int)) := e
  clear e
  go_enter Try.func19, Try.ntmps19
  go_wp2
  go_ret
  exact ⟨q, hq, congrArg _ (congrArg _ E.out), Fr.alloc _ _ _⟩

def NumOf (w : World) (e : Ending) (w' : World) : Prop := ∃ v : Int, U32 v ∧ e = .returned (.int .u32 v) ∧ Fr Nothing w w'
set_option maxHeartbeats 400000 in
theorem ledop_number {S : Nat → Prop} {p n : Nat} {conf came : Int} {L : List ByteArray} (o : LedOp) (w : World) (hu : U32 o.h) (hI : IsLed S w p n conf came L) :
    Calls Try.prog 18 #[.agg #[.int .i64 o.kind, .int .i64 o.n, .int .u32 o.h, .bool o.on, .string o.s], .pointer (some ⟨p, 0, none⟩)] w (NumOf w) := by
  have uc := hI.uc
  have hI1 := hI.fr (Fr.alloc Nothing w (.cells #[.int .i64 o.kind, .int .i64 o.n, .int .u32 o.h, .bool o.on, .string o.s] 44)) (fun _ _ h => h)
  obtain ⟨k, n, h, on, s⟩ := o
  have h0 : 0 ≤ h := hu.1
  have h1 : h < 4294967296 := hu.2
  cases on with
  | false =>
    go_enter Try.func18, Try.ntmps18
    go_wp2_with (fail)
    go_ret
    exact ⟨h, hu, rfl, Fr.alloc _ _ _⟩
  | true =>
    go_enter Try.func18, Try.ntmps18
    go_wp2_with (fail)
    go_quiet (first | (go_at_call 29; exact quiet_eq (led_confirmed (hI1.drewN _))) | (go_at_call 12; exact quiet_eq (ref_add _ _ _ uc)))
    go_wp2_with (fail)
    go_ret
    exact ⟨_, U32.w _, rfl, (Fr.alloc _ _ _).trans' (Fr.drewN _ _ _)⟩

end Go.Proofs.Ytgeibjmpcgkagaa
