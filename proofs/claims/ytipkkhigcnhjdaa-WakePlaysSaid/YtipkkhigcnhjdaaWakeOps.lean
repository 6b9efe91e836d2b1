/- The steps of the wake's scripts as they lie in memory, and the laws' small functions. No condition. -/
import Derived.Test.YtipkkhigcnhjdaaWakeT
import Derived.Test.YtipkkhigcnhjdaaWakeLives
import Derived.Deep.CutBlock
namespace Go.Proofs.Ytipkkhigcnhjdaa
open Go.RowKit

structure WakeOp where
  kind : Int
  by_ : Int
  dev : ByteArray
def WakeOp.cells (o : WakeOp) : List Value := [.int .i64 o.kind, .int .i64 o.by_, .string o.dev]
def WakeOp.Good (o : WakeOp) : Prop := (Lit.int .i64 o.kind).wf = true ∧ (Lit.int .i64 o.by_).wf = true ∧ o.dev.size ≤ maxLen
theorem WakeOp.len (o : WakeOp) : o.cells.length = 3 := rfl
theorem wakeop_dec {H : Type} {enc : TypeId × Value → H} {w : World} (n : Nat) (cs : List Value) (y : DataW H × List MemPlace)
    (h : DataW.trod enc Try.prog w 0 (fun _ => true) true n 37 cs = some y) : ∃ r : WakeOp, cs = r.cells ∧ r.Good := by
  obtain ⟨xs, m, _, _, hl, hlen, hf⟩ := DataW.trod_struct Try.underlying37 h
  have hl' : cs.length = 3 := hl.trans (by kernel_rfl)
  have hx : xs.length = 3 := hlen
  match cs, hl', xs, hx with
  | [c0, c1, c2], _, [y0, y1, y2], _ =>
    obtain ⟨a, e0, _, wa⟩ := DataW.trod_int Try.underlying3 (hf 0 _ rfl)
    obtain ⟨b, e1, _, wb⟩ := DataW.trod_int Try.underlying3 (hf 1 _ rfl)
    obtain ⟨s, e2, _, ws⟩ := DataW.trod_string Try.underlying9 (hf 2 _ rfl)
    have k0 : Try.prog.cellsOf 3 = 1 := by kernel_rfl
    have k3 : Try.prog.cellsOf 9 = 1 := by kernel_rfl
    simp [k0, k3] at e0 e1 e2
    subst e0 e1 e2
    exact ⟨⟨a, b, s⟩, rfl, wa, wb, ws⟩

set_option maxHeartbeats 400000 in
theorem wakeop_early (a : Option Addr) (n c : Nat) (w : World) (hn : n ≤ c) (_hc : (c : Int) ≤ 9223372036854775807) :
    Calls Try.prog 14 #[.slice a n c] w fun e w' => e = .returned (.slice a (min n 150) c) ∧ w = w' := by
  have h1 : (n : Int) ≤ c := by omega
  have e : (min (n : Int) 150).toNat = min n 150 := by omega
  go_enter Try.func14, Try.ntmps14
  go_wp2_with (fail)
  go_ret
  exact ⟨rfl, rfl⟩

def KindOf (m : Nat) (w : World) (e : Ending) (w' : World) : Prop := ∃ q : Nat, q < m ∧ e = .returned (.int .i64 q) ∧ Fr Nothing w w'
set_option maxHeartbeats 400000 in
theorem wakeop_kind (o : WakeOp) (w : World) :
    Calls Try.prog 15 #[.agg #[.int .i64 o.kind, .int .i64 o.by_, .string o.dev]] w (KindOf 4 w) := by
  obtain ⟨q, hq, e⟩ := umod o.kind 4 (by omega) (by omega)
  have E : Hid (wrap64 ((IntKind.u64.wrap o.kind).tmod 4) = (q : Int)) := e
  clear e
  go_enter Try.func15, Try.ntmps15
  go_wp2
  go_ret
  exact ⟨q, hq, congrArg _ (congrArg _ E.out), Fr.alloc _ _ _⟩

/-- The only name of these laws. -/
abbrev nameA : ByteArray := ⟨#[97]⟩
/-- One device at most, of that name: what was hinted, and what was told. -/
def ALogic (L : List Dev) (R : List ByteArray) (h t : Int) : Prop :=
  (L = [] ∧ R = [] ∧ t = h) ∨ ∃ d : Dev, L = [d] ∧ d.name = nameA ∧ t + d.waits = h ∧ 0 ≤ d.waits ∧ ((d.rowed = true ∧ R = [nameA] ∧ 1 ≤ d.waits) ∨ (d.rowed = false ∧ R = []))

theorem ALogic.hintNew (B : Nat) (h t now qt : Int) (ht : t = h) : ALogic (callL ([] ++ [newDev nameA B]) 0 now qt) (callR ([] ++ [newDev nameA B]) [] 0 now qt) (h + 1) t := by
  have hcb : callsB (newDev nameA B) now qt = true := by simp [callsB, loudB, newDev]
  simp only [callL, callR, List.nil_append, List.getElem?_cons_zero, hcb, if_true]
  exact .inr ⟨_, rfl, rfl, by simp [newDev]; omega, by simp [newDev], .inl ⟨rfl, rfl, by simp [newDev]⟩⟩
theorem ALogic.hintKnown {d : Dev} {R : List ByteArray} {h t : Int} (hl : ALogic [d] R h t) (now qt : Int) : ALogic (callL (incL [d] 0) 0 now qt) (callR (incL [d] 0) R 0 now qt) (h + 1) t := by
  rcases hl with ⟨h1, _⟩ | ⟨d', h1, hn, hs, h0, hr⟩
  · simp at h1
  · obtain rfl : d = d' := by simpa using h1
    have hinc : incL [d] 0 = [{ d with waits := d.waits + 1 }] := rfl
    rw [hinc]
    simp only [callL, callR, List.getElem?_cons_zero]
    cases hc : callsB { d with waits := d.waits + 1 } now qt with
    | true =>
      have hrf : d.rowed = false := by
        unfold callsB at hc
        simp only [Bool.and_eq_true, Bool.not_eq_true'] at hc
        exact hc.1.2
      have hR : R = [] := by
        rcases hr with ⟨h2, _⟩ | ⟨_, h2⟩
        · rw [hrf] at h2; simp at h2
        · exact h2
      subst hR
      simp only [if_true]
      exact .inr ⟨_, rfl, hn, by simp; omega, by simp; omega, .inl ⟨rfl, by simp [hn], by simp; omega⟩⟩
    | false =>
      simp only [Bool.false_eq_true, if_false]
      refine .inr ⟨_, rfl, hn, by simp; omega, by simp; omega, ?_⟩
      rcases hr with ⟨h2, h3, h4⟩ | ⟨h2, h3⟩
      · exact .inl ⟨h2, h3, by simp; omega⟩
      · exact .inr ⟨h2, h3⟩
theorem ALogic.tick {L : List Dev} {R N : List ByteArray} {h t : Int} (hl : ALogic L R h t) (now qt : Int) (hN : N.Perm (L.map Dev.name)) : ALogic (L.map (tickD now qt)) (R ++ N.filter (callsN L now qt)) h t := by
  rcases hl with ⟨rfl, rfl, h3⟩ | ⟨d, rfl, hn, hs, h0, hr⟩
  · obtain rfl : N = [] := by simpa using hN
    exact .inl ⟨rfl, rfl, h3⟩
  · have hN' : N = [d.name] := by simpa using hN
    subst hN'
    have hcn : callsN [d] now qt d.name = callsB d now qt := by simp [callsN]
    rw [List.map_cons, List.map_nil, List.filter_cons, hcn, List.filter_nil]
    cases hc : callsB d now qt with
    | true =>
      have hc2 := hc
      unfold callsB at hc2
      simp only [Bool.and_eq_true, Bool.not_eq_true', decide_eq_true_eq] at hc2
      have hR : R = [] := by
        rcases hr with ⟨h2, _⟩ | ⟨_, h2⟩
        · rw [hc2.1.2] at h2; simp at h2
        · exact h2
      subst hR
      refine .inr ⟨tickD now qt d, rfl, ?_, ?_, ?_, .inl ⟨?_, ?_, ?_⟩⟩ <;> simp [tickD, hc, hn, hs, h0] <;> omega
    | false =>
      refine .inr ⟨tickD now qt d, rfl, ?_, ?_, ?_, ?_⟩
      · simp [tickD, hc, hn]
      · simp [tickD, hc, hs]
      · simp [tickD, hc, h0]
      · simpa [tickD, hc] using hr
theorem ALogic.row {L : List Dev} {R : List ByteArray} {h t : Int} (hl : ALogic L R h t) : R.Nodup ∧ (∀ r ∈ R, r ∈ L.map Dev.name) ∧ R.length ≤ 1 := by
  rcases hl with ⟨rfl, rfl, _⟩ | ⟨d, rfl, hn, _, _, ⟨_, rfl, _⟩ | ⟨_, rfl⟩⟩
  · exact ⟨by simp, by simp, by simp⟩
  · exact ⟨by simp, by simp [hn], by simp⟩
  · exact ⟨by simp, by simp, by simp⟩
theorem ALogic.fetch {L : List Dev} {R : List ByteArray} {h t : Int} (hl : ALogic L R h t) (now : Int) : ALogic (fetchL L R now) [] h (if R.length = 0 then t else h) ∧ ∀ c ∈ toldOf L R, c.name = nameA ∧ 1 ≤ c.count ∧ t + c.count = h := by
  rcases hl with ⟨rfl, rfl, h3⟩ | ⟨d, rfl, hn, hs, h0, ⟨h1, rfl, h2⟩ | ⟨h1, rfl⟩⟩
  · exact ⟨.inl ⟨rfl, rfl, by simpa using h3⟩, fun c hc => by simp [toldOf] at hc⟩
  · have e : waitsOf [d] nameA = d.waits := by simp [waitsOf, hn]
    refine ⟨.inr ⟨resetD now d, ?_, hn, ?_, ?_, .inr ⟨rfl, rfl⟩⟩, fun c hc => ?_⟩
    · simp [fetchL, inR, hn]
    · simp [resetD]
    · simp [resetD]
    · obtain rfl : c = ⟨nameA, waitsOf [d] nameA⟩ := by simpa [toldOf] using hc
      exact ⟨rfl, by rw [e]; exact h2, by rw [e]; exact hs⟩
  · exact ⟨by rw [fetchL_nil]; exact .inr ⟨d, rfl, hn, by simpa using hs, h0, .inr ⟨h1, rfl⟩⟩, fun c hc => by simp [toldOf] at hc⟩

end Go.Proofs.Ytipkkhigcnhjdaa
