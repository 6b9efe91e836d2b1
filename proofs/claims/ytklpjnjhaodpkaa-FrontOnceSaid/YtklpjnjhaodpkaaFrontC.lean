/- front.Front: New, Put, Idle, Keep, Leave, Back, Confirm, Open. No condition. -/
import Derived.Test.YtklpjnjhaodpkaaFrontB
namespace Go.Proofs.Ytklpjnjhaodpkaa
open Go.RowKit

def FS.flush (s : FS) (more : List ByteArray) : List ByteArray × Int × FS :=
  (FS.told { s with calm := [] } (s.calm.map Prod.snd ++ more), FS.err { s with calm := [] } (s.calm.map Prod.snd ++ more), FS.given { s with calm := [] } (s.calm.map Prod.snd ++ more))
def FS.put (s : FS) (k t : ByteArray) (waits : Bool) : List ByteArray × Int × FS :=
  if s.over then ([], 11, s)
  else if waits && s.idle then
    if (findT s.calm k).isSome ∨ s.calm.length < 6 then ([], 0, { s with calm := strike s.calm k ++ [(k, t)] })
    else if (s.flush []).2.1 = 0 then ((s.flush []).1, 0, { (s.flush []).2.2 with calm := [(k, t)] }) else s.flush []
  else s.flush [t]
def FS.setIdle (s : FS) (on : Bool) : List ByteArray × Int × FS :=
  if s.over then ([], 11, s) else if on then ([], 0, { s with idle := true }) else FS.flush { s with idle := false } []
abbrev FSaid (S : Nat → Prop) (p : Nat) (w : World) (r : List ByteArray × Int × FS) : Ending → World → Prop := FTold S p w r.1 r.2.1 r.2.2

section
variable {w w' w3 : World} {p : Nat} {S S2 : Nat → Prop} {s s' : FS} {out : List ByteArray} {er : Int}
theorem FTold.over {e : Ending} (h : FTold S2 p w3 out er s' e w') (h2 : ∀ k, S2 k → S k ∨ w.heap.size ≤ k) (F : Fr S w w3) : FTold S p w out er s' e w' := by
  obtain ⟨a, c, S', he, own, hn, hf, hS', hd, f⟩ := h
  refine ⟨a, c, S', he, own, fun k hk => Nat.le_trans F.size (hn k hk), hf, fun k hk => ?_, hd, F.trans f (fun k hk h => ?_)⟩
  · rcases hS' k hk with h1 | h1
    · exact h2 k h1
    · exact .inr (Nat.le_trans F.size h1)
  · rcases h2 k h with h1 | h1
    · exact h1
    · omega
theorem FTold.nothing (h : IsFront S w p s) (er : Int) : FTold S p w [] er s (.returned (.tuple #[.slice none 0 0, .int .i64 er])) w :=
  ⟨none, 0, S, rfl, Owns.nil _ _ _, fun k hk => by simp [InBlock, Value.ownBlock] at hk, h, fun _ h => .inl h, fun k _ hk => by simp [InBlock, Value.ownBlock] at hk, Fr.refl _ _⟩

/-- The front when its calm was turned. -/
theorem front_calmed {lv : Value} {cp : Nat} {SL SC SC' : Nat → Prop} {C : List (ByteArray × ByteArray)} (ha : FrontAt w p lv cp SL SC s) (hS : ∀ k, S k ↔ (k = p ∨ SC k ∨ SL k))
    (h1 : IsCalm SC' w' cp 6 C) (h2 : ∀ k, SC' k → SC k ∨ w.heap.size ≤ k) (f : Fr SC w w') :
    FrontGone S w p { s with calm := C } w' := by
  have hlt : ∀ k, S k → k < w.heap.size := fun k hk => IsFront.lt ⟨lv, cp, SL, SC, ha, hS⟩ hk
  have hn : ¬ SC' p := fun h => by
    rcases h2 p h with h3 | h3
    · exact ha.nc h3
    · have := ha.head.lt; omega
  have hcl : ∀ k, SC' k → ¬ SL k := fun k hk hl => by
    rcases h2 k hk with h3 | h3
    · exact ha.cl k h3 hl
    · have := ha.led.lt hl; omega
  refine ⟨fun k => k = p ∨ SC' k ∨ SL k, ⟨lv, cp, SL, SC', ⟨ha.head.fr f ha.nc, h1, ha.led.fr f (fun k hk h => ha.cl k h hk), hn, ha.nl, hcl⟩, fun _ => Iff.rfl⟩, fun k hk => ?_, f.mono fun k _ h => (hS k).2 (.inr (.inl h))⟩
  rcases hk with rfl | h3 | h3
  · exact .inl ((hS _).2 (.inl rfl))
  · rcases h2 k h3 with h4 | h4
    · exact .inl ((hS k).2 (.inr (.inl h4)))
    · exact .inr h4
  · exact .inl ((hS k).2 (.inr (.inr h3)))

set_option maxHeartbeats 1000000 in
theorem front_flush (more : List ByteArray) (a : Option Addr) (c : Nat) (h : IsFront S w p s) (ht : Txt w a more) (hz : a = none → more.length = 0 ∧ c = 0) (hn : ∀ k, S k → ¬ InBlock (.slice a more.length c) k) (hl : more.length ≤ 100) (ho : s.over = false) :
    Calls Try.prog 26 #[.pointer (some ⟨p, 0, none⟩), .slice a more.length c] w (FSaid S p w (s.flush more)) := by
  have hcl := h.calmLe
  obtain ⟨lv, cp, SL, SC, ha, hS⟩ := h
  have h1 := ha.head.cell 1 rfl
  have hfl := calm_flush ha.calm
  have Ha := Lib.hid ha
  have HS := Lib.hid hS
  have Hn := Lib.hid hn
  have Hz := Lib.hid hz
  have Ht := Lib.hid ht
  have Ho := Lib.hid ho
  clear ha hS hn hz ht ho
  go_enter Try.func26, Try.ntmps26
  go_wp2_with (fail)
  refine hfl.mono ?_
  rintro e w1 ⟨a1, c1, rfl, ht1, hn1, own1, SC', hc1, hsc', f1⟩
  have hg := front_calmed Ha.out HS.out hc1 hsc' f1
  obtain ⟨S1, hf1, hS1, F1⟩ := hg
  have htm1 : Txt w1 a more := Sl.fr Ht.out f1 (fun ad e hs => Hn.out ad.block ((HS.out _).2 (.inr (.inl hs))) (by rw [e]; rfl))
  have hz1 : a1 = none → s.calm.length = 0 ∧ c1 = 0 := fun e => by
    subst e
    rcases own1.2 with ⟨h2, h3⟩ | ⟨g, cap, cur, h2, _⟩
    · simp only [Value.slice.injEq] at h2; exact ⟨h2.2.1, h2.2.2⟩
    · simp at h2
  have Hf1 := Lib.hid hf1
  have HS1 := Lib.hid hS1
  have HF1 := Lib.hid F1
  clear hc1 hsc' f1 hf1 hS1 F1 hfl h1
  go_wp2_with (fail)
  have fa := Fr.alloc Nothing w1 (.cells #[Value.slice a1 s.calm.length c1, Value.slice a more.length c] 28)
  have hrow := Row.allocNew w1 [Value.slice a1 s.calm.length c1, Value.slice a more.length c] 28
  have hcc := concatT [⟨a1, c1, (s.calm.map Prod.snd).map Value.string⟩, ⟨a, c, more.map Value.string⟩] (some ⟨w1.heap.size, 0, none⟩) 2 (w1.alloc (.cells #[Value.slice a1 s.calm.length c1, Value.slice a more.length c] 28))
    (by simp only [List.map_cons, List.map_nil, Part.val, List.length_map]; exact Sl.ofRow hrow)
    (by
      intro q hq
      simp only [List.mem_cons, List.not_mem_nil, or_false] at hq
      rcases hq with rfl | rfl
      · exact ⟨by simpa using hz1, Sl.fr ht1 fa (fun _ _ h => h), one_texts _⟩
      · exact ⟨by simpa using Hz.out, Sl.fr htm1 fa (fun _ _ h => h), one_texts _⟩)
    (by simp) (by simp only [total, List.flatMap_cons, List.flatMap_nil, List.length_append, List.length_map, List.length_nil]; omega)
  have hfe : ([⟨a1, c1, (s.calm.map Prod.snd).map Value.string⟩, ⟨a, c, more.map Value.string⟩] : List Part).flatMap Part.xs = (s.calm.map Prod.snd ++ more).map Value.string := by simp
  rw [hfe] at hcc
  have Hfa := Lib.hid fa
  clear hfe hrow fa ht1 htm1 own1 hz1
  refine hcc.mono ?_
  rintro e w2 ⟨a2, c2, rfl, co2⟩
  clear hcc
  obtain ⟨l, hll⟩ : ∃ l, l = s.calm.map Prod.snd ++ more := ⟨_, rfl⟩
  rw [← hll] at co2 ⊢
  rw [List.length_map] at co2 ⊢
  have hlen : l.length ≤ 1000 := by rw [hll]; simp; omega
  have F12 : Fr Nothing w1 w2 := Hfa.out.trans' co2.fr
  have hf2 := Hf1.out.quiet F12
  have hd2 : ∀ k, S1 k → ¬ InBlock (.slice a2 l.length c2) k := fun k hk h => by
    have h3 := co2.new k h
    have h4 := Hf1.out.lt hk
    simp at h3
    omega
  have has := front_assign l a2 c2 hf2 co2.own.sl.2 hd2 hlen Ho.out
  have Hll := Lib.hid hll
  have HF12 := Lib.hid F12
  clear co2 hf2 hd2 hll F12
  go_wp2_with (fail)
  refine has.mono ?_
  intro e w4 htold
  have hb := htold.over HS1.out (HF1.out.trans HF12.out (fun _ _ h => h.elim))
  obtain ⟨a4, c4, S4, rfl, _⟩ := htold
  have Hb := Lib.hid hb
  clear hb
  go_wp2_with (fail)
  go_ret2
  unfold FSaid FS.flush
  rw [← Hll.out]
  exact Hb.out
end
end Go.Proofs.Ytklpjnjhaodpkaa
