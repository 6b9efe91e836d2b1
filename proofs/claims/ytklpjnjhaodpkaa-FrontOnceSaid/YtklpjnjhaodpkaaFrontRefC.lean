/- The reference's front: flush, Put, SetIdle, Confirm. Condition: IsRF, and fewer than 290 texts in all. -/
import Derived.Test.YtklpjnjhaodpkaaFrontRefB
namespace Go.Proofs.Ytklpjnjhaodpkaa
open Go.RowKit

def RS.flush (r : RS) (more : List ByteArray) : RS := RS.given { r with C := [] } (r.C.map Prod.snd ++ more)
def RS.ferr (r : RS) (more : List ByteArray) : Int := RS.err { r with C := [] } (r.C.map Prod.snd ++ more)
def RS.put (r : RS) (k t : ByteArray) (waits : Bool) : Int × RS :=
  if r.over then (11, r)
  else if waits && r.idle then
    if (findT r.C k).isSome ∨ r.C.length < 6 then (0, { r with C := strike r.C k ++ [(k, t)] })
    else if r.ferr [] = 0 then (0, { r.flush [] with C := [(k, t)] }) else (r.ferr [], r.flush [])
  else (r.ferr [t], r.flush [t])
def RS.setIdle (r : RS) (on : Bool) : Int × RS :=
  if r.over then (11, r) else if on then (0, { r with idle := true }) else (RS.ferr { r with idle := false } [], RS.flush { r with idle := false } [])

section
variable {w w' : World} {q lq cq : Nat} {vA : Value} {S SL SC : Nat → Prop} {r : RS}
theorem RFSaid.over {S2 : Nat → Prop} {w3 : World} {er : Int} {r' : RS} {e : Ending} (h : RFSaid S2 q w3 er r' e w') (h2 : ∀ k, S2 k → S k ∨ w.heap.size ≤ k) (F : Fr S w w3) : RFSaid S q w er r' e w' := by
  obtain ⟨v, he, S', hf, hS', f⟩ := h
  refine ⟨v, he, S', hf, fun k hk => ?_, F.trans f (fun k hk h => ?_)⟩
  · rcases hS' k hk with h1 | h1
    · exact h2 k h1
    · exact .inr (Nat.le_trans F.size h1)
  · rcases h2 k h with h1 | h1
    · exact h1
    · omega

/-- The front when its calm was turned. -/
theorem rf_calmed {SC' : Nat → Prop} {C' : List (ByteArray × ByteArray)} (ha : RFAt w q lq cq vA SL SC r) (hS : ∀ k, S k ↔ (k = q ∨ SL k ∨ SC k ∨ InBlock vA k))
    (h1 : IsCRef SC' w' cq 6 C') (h2 : ∀ k, SC' k → SC k ∨ w.heap.size ≤ k) (f : Fr SC w w') : RFGone S w q { r with C := C' } w' := by
  have hlt : ∀ k, S k → k < w.heap.size := fun k hk => IsRF.lt ⟨lq, cq, vA, SL, SC, ha, hS⟩ hk
  have key : ∀ k, SC' k → SC k ∨ ¬ S k := fun k hk => by
    rcases h2 k hk with h3 | h3
    · exact .inl h3
    · exact .inr (fun hs => by have := hlt k hs; omega)
  refine ⟨fun k => k = q ∨ SL k ∨ SC' k ∨ InBlock vA k, ⟨lq, cq, vA, SL, SC', ⟨ha.head.fr f ha.nc, ha.led.fr f (fun k hk h => ha.lc k hk h), h1, ha.own.fr f (fun k hk h => ha.ca k h hk), ha.nl, fun h => ?_, ha.na, fun k hk h => ?_, ha.la, fun k hk h => ?_⟩, fun _ => Iff.rfl⟩, fun k hk => ?_, f.mono fun k _ h => (hS k).2 (.inr (.inr (.inl h)))⟩
  · rcases key q h with h3 | h3
    · exact ha.nc h3
    · exact h3 ((hS q).2 (.inl rfl))
  · rcases key k h with h3 | h3
    · exact ha.lc k hk h3
    · exact h3 ((hS k).2 (.inr (.inl hk)))
  · rcases key k hk with h3 | h3
    · exact ha.ca k h3 h
    · exact h3 ((hS k).2 (.inr (.inr (.inr h))))
  · rcases hk with rfl | h3 | h3 | h3
    · exact .inl ((hS _).2 (.inl rfl))
    · exact .inl ((hS k).2 (.inr (.inl h3)))
    · rcases h2 k h3 with h4 | h4
      · exact .inl ((hS k).2 (.inr (.inr (.inl h4))))
      · exact .inr h4
    · exact .inl ((hS k).2 (.inr (.inr (.inr h3))))

theorem cref_clear {C : List (ByteArray × ByteArray)} (h : IsCRef SC w cq 6 C) : ∃ v, w.cell? ⟨cq, 0, none⟩ = some v ∧ w.frozen? ⟨cq, 0, none⟩ = false ∧ (∃ a n c, v = .slice a n c) ∧
    ∃ SC', IsCRef SC' (w.setCell ⟨cq, 0, none⟩ (.slice none 0 0)) cq 6 [] ∧ (∀ k, SC' k → SC k ∨ w.heap.size ≤ k) ∧ Fr SC w (w.setCell ⟨cq, 0, none⟩ (.slice none 0 0)) := by
  obtain ⟨v, hr, hS⟩ := h
  have no : ∀ k, ¬ InBlock (.slice none 0 0) k := fun k hk => by simp [InBlock, Value.ownBlock] at hk
  obtain ⟨a, c, rfl, _, _⟩ := hr.own.shape
  refine ⟨_, hr.head.cell 0 rfl, hr.head.free 0, ⟨_, _, _, rfl⟩, fun k => k = cq ∨ InBlock (.slice none 0 0) k, ⟨.slice none 0 0, ⟨hr.head.set 0 _, Owns.nil _ _ _, no _, hr.most, by simp⟩, fun _ => Iff.rfl⟩, fun k hk => ?_, Fr.setCell (S := SC) (p := ⟨cq, 0, none⟩) ((hS cq).2 (.inl rfl)) _⟩
  rcases hk with rfl | h
  · exact .inl ((hS _).2 (.inl rfl))
  · exact absurd h (no k)

set_option maxRecDepth 100000 in
set_option maxHeartbeats 2000000 in
theorem rf_flush (more : List ByteArray) (a : Option Addr) (c : Nat) (h : IsRF S w q r) (hk : r.keeps = true) (hb : Beside S w a more) (hz : a = none → more.length = 0 ∧ c = 0) (hl : r.A.length + r.C.length + more.length ≤ 290) :
    Calls Try.prog 36 #[.pointer (some ⟨q, 0, none⟩), .slice a more.length c] w (RFSaid S q w (r.ferr more) (r.flush more)) := by
  obtain ⟨i0, hi, hz0, hz1, hz2⟩ := info_parts Try.infoText
  have Hz2 := Lib.hid hz2
  have Hz1 := Lib.hid hz1
  have Hz0 := Lib.hid hz0
  have Hi := Lib.hid hi
  have Hk := Lib.hid hk
  have Hz := Lib.hid hz
  have Hb := Lib.hid hb
  obtain ⟨lq, cq, vA, SL, SC, ha, hS⟩ := h
  have h5 := ha.head.cell 5 rfl
  have htx := cref_texts 1 Prod.snd (by decide) (fun _ => rfl) ha.calm
  have Ha := Lib.hid ha
  have HS := Lib.hid hS
  clear hz2 hz1 hz0 hi hk hz hb ha hS
  go_enter Try.func36, Try.ntmps36
  go_wp2_with (fail)
  refine htx.mono ?_
  rintro e w1 ⟨a1, c1, rfl, ht1, hn1, own1, f1⟩
  have hm1 : Sl w1 a (more.map Value.string) := Sl.fr Hb.out.1 f1 (fun _ _ h => h)
  have h51 : w1.cell? ⟨q, 5, none⟩ = some (.pointer (some ⟨cq, 0, none⟩)) := cell_fr h5 f1 (fun h => h)
  rw [List.length_map] at own1
  simp only [List.length_map] at hn1
  clear htx ht1 h5
  go_wp2_with (at_builtin; go_must (refine wpList_append_fp rfl (.tmp 11) (.tmp 12) 28 rfl 9 i0 (.string ByteArray.empty) 1 16 Try.underlying28 Hi.out Hz0.out Hz1.out Hz2.out rfl (by decide) _ r.C.length ((r.C.map Prod.snd).map Value.string) rfl own1 a more.length c (more.map Value.string) rfl (by simp) Hz.out hm1 (one_texts _) (by unfold maxLen; omega) (by omega) ?_))
  intro v2 w2 o2' f2 n2 s2 _
  obtain ⟨l, hll⟩ : ∃ l, l = r.C.map Prod.snd ++ more := ⟨_, rfl⟩
  have hlen : l.length = r.C.length + more.length := by rw [hll]; simp
  have o2 : Owns w2 9 1 v2 l.length (l.map Value.string) := by rw [hlen, hll]; simpa using o2'
  obtain ⟨a2, c2, rfl, _, _⟩ := o2.shape
  have fw : Fr Nothing w w2 := f1.trans f2 (fun b hb h => by
    have h2 := hn1 b h; omega)
  have ha2 := Ha.out.fr fw (fun h => h) (fun _ _ h => h) (fun _ _ h => h) (fun _ _ h => h)
  have hn2 : ∀ b, InBlock (.slice a2 l.length c2) b → w.heap.size ≤ b := fun b hb => by
    rcases n2 b hb with h1 | h1
    · exact hn1 b h1
    · exact Nat.le_trans f1.size h1
  have h52 := ha2.head.cell 5 rfl
  obtain ⟨vc, hvc, pvc, ⟨ax, nx, cx, rfl⟩, SC', hc3, hsc, f3⟩ := cref_clear ha2.calm
  obtain ⟨S3, hrf3, hS3, F3⟩ := rf_calmed ha2 HS.out hc3 hsc f3
  have hbs : Beside S3 (w2.setCell ⟨cq, 0, none⟩ (.slice none 0 0)) a2 l := by
    have hb2 : Beside S w2 a2 l := Beside.mk' (c := c2) o2.sl.2 (fun k hk h => by
      have h1 := IsRF.lt (S := S) ⟨lq, cq, vA, SL, SC, Ha.out, HS.out⟩ hk
      have h2 := hn2 k h
      omega)
    exact hb2.next F3 hS3
  have has := rf_assign l a2 c2 hrf3 Hk.out hbs (by rw [hlen]; show r.A.length + _ ≤ 290; omega)
  have hfin := fun e w4 (h4 : RFSaid S3 q (w2.setCell ⟨cq, 0, none⟩ (.slice none 0 0)) (RS.err { r with C := [] } l) (RS.given { r with C := [] } l) e w4) => (h4.over (S := S) (w := w) (fun k hk => by
    rcases hS3 k hk with h1 | h1
    · exact .inl h1
    · exact .inr (Nat.le_trans fw.size h1)) ((fw.mono fun _ _ h => h.elim).trans' F3))
  have Hll := Lib.hid hll
  have Hfin := Lib.hid hfin
  clear hll hlen o2' o2 f1 f2 n2 s2 fw ha2 hn2 hc3 hsc f3 hrf3 hS3 F3 hbs hn1 own1 hm1 h51 hfin
  go_wp2_with (fail)
  refine has.mono ?_
  intro e w4 h4
  have hb := Hfin.out e w4 h4
  obtain ⟨v4, rfl, _⟩ := h4
  have HB := Lib.hid hb
  clear hb has Hfin
  go_wp2_with (fail)
  go_ret2
  unfold RS.ferr RS.flush
  rw [← Hll.out]
  exact HB.out
end
end Go.Proofs.Ytklpjnjhaodpkaa
