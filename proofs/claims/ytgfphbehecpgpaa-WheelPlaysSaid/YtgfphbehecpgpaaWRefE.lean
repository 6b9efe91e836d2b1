/- The document's wheel: Go. Condition: IsRefW. -/
import Derived.Test.YtgfphbehecpgpaaWRefC
namespace Go.Proofs.Ytgfphbehecpgpaa
open Go.RowKit
section
variable {S : Nat → Prop} {w w1 w2 : World} {q : Nat} {T : Int} {L : List Due}
theorem wref_go_bad (t : Int) (h : IsRefW S w q T L) (hr : t < T ∨ 1099511627776 < t) :
    Calls Try.prog 20 #[.pointer (some ⟨q, 0, none⟩), .int .i64 t] w fun e w' => e = .returned (.tuple #[.slice none 0 0, .int .i64 10]) ∧ w = w' := by
  obtain ⟨a, c, hr1, hS⟩ := h
  have c2 := hr1.head.cell 1 rfl
  clear hr1 hS
  by_cases h1 : t < T
  · have g1 : decide (t < T) = true := by rw [decide_eq_true_iff]; omega
    clear hr
    go_enter Try.func20, Try.ntmps20
    go_wp2_with (fail)
    go_ret2
    exact ⟨rfl, rfl⟩
  · have g1 : decide (t < T) = false := by rw [decide_eq_false_iff_not]; omega
    have g2 : decide (1099511627776 < t) = true := by rw [decide_eq_true_iff]; omega
    clear hr h1
    go_enter Try.func20, Try.ntmps20
    go_wp2_with (fail)
    go_ret2
    exact ⟨rfl, rfl⟩
/-- In the loop of Go: D came, R is left; the header's block is the only elder one that has changed. -/
structure RefGo (S : Nat → Prop) (w wr : World) (q : Nat) (t : Int) (D R : List Due) (ov : Value) (a : Option Addr) (c : Nat) : Prop where
  ref : RefAt wr q a c t R
  old : ∀ ad, a = some ad → S ad.block
  own : Owns wr 3 1 ov D.length (ints D)
  new : ∀ k, InBlock ov k → w.heap.size ≤ k
  fr : Fr (fun k => k = q) w wr
/-- What Go of the document's wheel answers and leaves. -/
def RefWent (S : Nat → Prop) (w : World) (q : Nat) (t : Int) (L : List Due) (e : Ending) (w' : World) : Prop := ∃ lv S', e = .returned (.tuple #[lv, .int .i64 0]) ∧ IsRefW S' w' q t (past L t) ∧ Grown w S S' ∧
      Owns w' 3 1 lv (upTo L t).length (ints (upTo L t)) ∧ (∀ k, InBlock lv k → w.heap.size ≤ k ∧ ¬ S' k) ∧ Fr S w w'
variable {D R : List Due} {t : Int} {ov v7 : Value} {a : Option Addr} {b o c : Nat} {x : Due} {wr wa w7 : World}
theorem RefGo.start (h : RefAt w q a c T L) (hS : ∀ k, S k ↔ RB q a k) : RefGo S w (w.setCell ⟨q, 1, none⟩ (.int .i64 t)) q t [] L (.slice none 0 0) a c := by
  have hset : Fr (fun k => k = q) w (w.setCell ⟨q, 1, none⟩ (.int .i64 t)) := Fr.setCell (S := fun k => k = q) (p := ⟨q, 1, none⟩) rfl _
  have hab : ∀ ad, a = some ad → ad.block ≠ q := fun ad ha => by
    rcases h.shape with ⟨h1, _⟩ | ⟨b, o, h1, h2, _⟩
    · rw [h1] at ha; simp at ha
    · rw [h1] at ha; obtain rfl := Option.some.inj ha; exact h2
  refine ⟨⟨h.head.set 1 _, h.recs.fr hset (fun ad ha => hab ad ha), h.le, h.cap, ?_⟩, fun ad ha => (hS _).2 (.inr ⟨ad, ha, rfl⟩), Owns.nil _ _ _, fun k hk => by simp [InBlock, Value.ownBlock] at hk, hset⟩
  rcases h.shape with h1 | ⟨b, o, h1, h2, h3⟩
  · exact .inl h1
  · exact .inr ⟨b, o, h1, h2, Nat.lt_of_lt_of_le h3 hset.size⟩
/-- One more has come. -/
theorem RefGo.step (hlt : ∀ k, S k → k < w.heap.size) (hq : S q) (h : RefGo S w wr q t D (x :: R) ov (some ⟨b, o, none⟩) c) (F : Fr Nothing wr wa) (o7 : Owns w7 3 1 v7 (D.length + 1) (ints D ++ [.int .i64 x.1])) (f : Fr (InBlock ov) wa w7) (nn : NewOr wa ov v7) :
    Row w7 q [.slice (some ⟨b, o, none⟩) (R.length + 1) c, .int .i64 t] 42 ∧
      RefGo S w (w7.setCell ⟨q, 0, none⟩ (.slice (if c = 1 then some ⟨b, o, none⟩ else some ⟨b, o + 2, none⟩) R.length (c - 1))) q t (D ++ [x]) R v7 (if c = 1 then some ⟨b, o, none⟩ else some ⟨b, o + 2, none⟩) (c - 1) := by
  have F7 : Fr (InBlock ov) wr w7 := (F.mono (fun _ _ h => h.elim)).trans' f
  have hqo : ¬ InBlock ov q := fun hb => by have := h.new q hb; have := hlt q hq; omega
  have hbo : ¬ InBlock ov b := fun hb => by have := h.new b hb; have := hlt b (h.old _ rfl); omega
  have r7 := h.ref.fr F7 (fun k hk => by
    rcases hk with rfl | ⟨ad, ha, rfl⟩
    · exact hqo
    · obtain rfl := Option.some.inj ha; exact hbo)
  have hbq : b ≠ q := by
    rcases h.ref.shape with ⟨h1, _⟩ | ⟨b', o', h1, h2, _⟩
    · simp at h1
    · simp only [Option.some.injEq, Addr.mk.injEq] at h1; rw [h1.1]; exact h2
  have hle : R.length + 1 ≤ c := h.ref.le
  have hset : Fr (fun k => k = q) w7 (w7.setCell ⟨q, 0, none⟩ (.slice (if c = 1 then some ⟨b, o, none⟩ else some ⟨b, o + 2, none⟩) R.length (c - 1))) := Fr.setCell (S := fun k => k = q) (p := ⟨q, 0, none⟩) rfl _
  have hn7 : ∀ k, InBlock v7 k → w.heap.size ≤ k := fun k hk => (nn k hk).elim (h.new k) (fun h2 => Nat.le_trans (Nat.le_trans h.fr.size F.size) h2)
  have hsl := sl_rest r7.recs (n := 1) (by simp) (by simpa using hle)
  have e1 : o + 1 * 2 = o + 2 := by omega
  rw [e1] at hsl
  refine ⟨r7.head, ⟨⟨r7.head.set 0 _, ⟨rcells_len, by omega, hsl.fr hset (fun ad ha => ?_)⟩, by omega, by have := h.ref.cap; omega, .inr ⟨b, if c = 1 then o else o + 2, ?_, hbq, ?_⟩⟩, fun ad ha => ?_, ?_, hn7, ?_⟩⟩
  · by_cases hc : c = 1
    · rw [if_pos hc] at ha; obtain rfl := Option.some.inj ha; exact hbq
    · rw [if_neg hc] at ha; obtain rfl := Option.some.inj ha; exact hbq
  · by_cases hc : c = 1 <;> simp [hc]
  · exact Nat.lt_of_lt_of_le (r7.lt (.inr ⟨_, rfl, rfl⟩)) hset.size
  · by_cases hc : c = 1
    · rw [if_pos hc] at ha; obtain rfl := Option.some.inj ha; exact h.old _ rfl
    · rw [if_neg hc] at ha; obtain rfl := Option.some.inj ha; exact h.old ⟨b, o, none⟩ rfl
  · have e2 : ints (D ++ [x]) = ints D ++ [.int .i64 x.1] := by simp [ints]
    rw [e2, List.length_append, List.length_singleton]
    exact o7.fr hset (fun k hk e => by have := hn7 k hk; have := hlt q hq; omega)
  · exact (h.fr.trans F7 (fun k hk hb => by have := h.new k hb; omega)).trans' hset
set_option maxHeartbeats 2000000 in
theorem wref_go (h : IsRefW S w q T L) (h1 : T ≤ t) (h2 : t ≤ 1099511627776) (hl : L.length ≤ 256) (hN : L.Pairwise dless) :
    Calls Try.prog 20 #[.pointer (some ⟨q, 0, none⟩), .int .i64 t] w (RefWent S w q t L) := by
  obtain ⟨i0, hi, hz0, hz1, hz2⟩ := info_parts infoInt
  have Hz2 := Lib.hid hz2
  have Hz1 := Lib.hid hz1
  have Hz0 := Lib.hid hz0
  have Hi := Lib.hid hi
  have HN := Lib.hid hN
  have hlt : Hid (∀ k, S k → k < w.heap.size) := Lib.hid (fun k hk => h.lt hk)
  clear hz2 hz1 hz0 hi hN
  obtain ⟨a, c, hr1, hS⟩ := h
  have hq : Hid (S q) := Lib.hid ((hS q).2 (.inl rfl))
  have c2 := hr1.head.cell 1 rfl
  have c3 := hr1.head.free 1
  have g1 : decide (t < T) = false := by rw [decide_eq_false_iff_not]; omega
  have g2 : decide (1099511627776 < t) = false := by rw [decide_eq_false_iff_not]; omega
  have ST := Lib.hid (RefGo.start (t := t) hr1 hS)
  clear h1 h2 hr1 hS
  go_enter Try.func20, Try.ntmps20
  go_wp2_with (fail)
  go_loopg [6] L.length (fun g ov wr => ∃ (D R : List Due) (a : Option Addr) (c : Nat), g = R.length ∧ D.length + R.length ≤ 256 ∧ Hid (D ++ R = L ∧ (∀ d ∈ D, d.2 ≤ t)) ∧ Hid (RefGo S w wr q t D R ov a c))
  case atStart => exact ⟨[], L, a, c, rfl, by simpa using hl, Lib.hid ⟨rfl, by simp⟩, ST⟩
  case round =>
    obtain ⟨D, R, a, c, rfl, hDR, HD, HX⟩ := hrel
    have hle := HX.out.ref.le
    have hc9 : (c : Int) ≤ 9223372036854775807 := by have := HX.out.ref.cap; unfold maxLen at this; omega
    cases R with
    | nil =>
      have k0 := HX.out.ref.head.cell 0 rfl
      simp only [List.length_nil] at k0 hle
      go_wp2_with (fail)
      go_ret2
      have hcut := HD.out.1
      obtain ⟨e1, e2⟩ := split_early (t := t) hcut.symm HD.out.2 (by simp)
      have hS2 : ∀ k, RB q a k → S k := fun k hk => hk.elim (fun h => h ▸ hq.out) (fun ⟨ad, ha, h⟩ => h ▸ HX.out.old ad ha)
      have hown := HX.out.own
      have href := HX.out.ref
      rw [e1] at hown
      rw [e2] at href
      exact ⟨_, RB q a, rfl, ⟨a, c, href, fun k => Iff.rfl⟩, fun k hk => .inl (hS2 k hk), hown, fun k hk => ⟨HX.out.new k hk, fun hs => by have := HX.out.new k hk; have := hlt.out k (hS2 k hs); omega⟩, HX.out.fr.mono (fun k _ h => h ▸ hq.out)⟩
    | cons x R =>
      obtain ⟨b, o, rfl, hcell⟩ := HX.out.ref.recs.at_ (i := 0) (by simp)
      have x0 : wr.cell? ⟨b, o, none⟩ = some (.int .i64 x.1) := by have := hcell 0 _ rfl; simpa using this
      have x1 : wr.cell? ⟨b, o + 1, none⟩ = some (.int .i64 x.2) := by have := hcell 1 _ rfl; simpa using this
      have k0 : wr.cell? ⟨q, 0, none⟩ = some (.slice (some ⟨b, o, none⟩) (R.length + 1) c) := HX.out.ref.head.cell 0 rfl
      simp only [List.length_cons] at hDR hle
      have hp : (0 : Int) < R.length + 1 := by omega
      have hp2 : (1 : Int) ≤ c := by omega
      have hp3 : (R.length : Int) + 1 ≤ c := by omega
      clear hcell
      by_cases ht : x.2 ≤ t
      · have g3 : decide (x.2 ≤ t) = true := by rw [decide_eq_true_iff]; exact ht
        have ht2 := Lib.hid ht
        by_cases hc1 : c = 1
        · subst hc1
          obtain rfl : R = [] := List.eq_nil_of_length_eq_zero (by omega)
          go_wp2_with (at_builtin; go_must (refine wpList_append_fp rfl (.tmp 38) (.tmp 46) 23 rfl 3 i0 (.int .i64 0) 1 8 Try.underlying23 Hi.out Hz0.out Hz1.out Hz2.out rfl (by decide) u6 D.length (ints D) rfl (HX.out.own.fr (Fr.alloc Nothing _ _) (fun _ _ h => h)) _ 1 1 [.int .i64 x.1] rfl rfl (by simp) (Sl.ofRow (Row.allocNew _ _ _)) (by intro u hu; simp at hu; rw [hu]; rfl) (by unfold maxLen; omega) (by omega) ?_); intro v7 w7 o7 f7 n7 s7 _; have ST7 := HX.out.step hlt.out hq.out (Fr.alloc Nothing _ _) o7 f7 n7; have k7 := ST7.1.cell 0 rfl; have k8 := ST7.1.free 0; have HS7 := Lib.hid ST7.2; clear ST7)
          have HS8 := HS7
          simp only [if_true, Nat.sub_self, List.length_nil] at HS8
          go_roundg 0
          case measure => simp
          case rel => exact ⟨D ++ [x], [], _, _, rfl, by simp; omega, Lib.hid ⟨by rw [← HD.out.1]; simp, fun d hd => (List.mem_append.1 hd).elim (HD.out.2 d) (fun h => by obtain rfl := List.mem_singleton.1 h; exact ht2.out)⟩, HS8⟩
        · go_wp2_with (at_builtin; go_must (refine wpList_append_fp rfl (.tmp 38) (.tmp 46) 23 rfl 3 i0 (.int .i64 0) 1 8 Try.underlying23 Hi.out Hz0.out Hz1.out Hz2.out rfl (by decide) u6 D.length (ints D) rfl (HX.out.own.fr (Fr.alloc Nothing _ _) (fun _ _ h => h)) _ 1 1 [.int .i64 x.1] rfl rfl (by simp) (Sl.ofRow (Row.allocNew _ _ _)) (by intro u hu; simp at hu; rw [hu]; rfl) (by unfold maxLen; omega) (by omega) ?_); intro v7 w7 o7 f7 n7 s7 _; have ST7 := HX.out.step hlt.out hq.out (Fr.alloc Nothing _ _) o7 f7 n7; have k7 := ST7.1.cell 0 rfl; have k8 := ST7.1.free 0; have HS7 := Lib.hid ST7.2; clear ST7)
          have HS8 := HS7
          simp only [if_neg hc1] at HS8
          go_roundg R.length
          case measure => simp
          case rel => exact ⟨D ++ [x], R, _, _, rfl, by simp; omega, Lib.hid ⟨by rw [← HD.out.1]; simp, fun d hd => (List.mem_append.1 hd).elim (HD.out.2 d) (fun h => by obtain rfl := List.mem_singleton.1 h; exact ht2.out)⟩, HS8⟩
      · have g3 : decide (x.2 ≤ t) = false := by rw [decide_eq_false_iff_not]; exact ht
        go_wp2_with (fail)
        go_ret2
        have hcut := HD.out.1
        obtain ⟨e1, e2⟩ := split_early (t := t) hcut.symm HD.out.2 (fun d hd => by
          have hp := HN.out
          rw [← HD.out.1, List.pairwise_append, List.pairwise_cons] at hp
          rcases List.mem_cons.1 hd with rfl | h
          · omega
          · have := hp.2.1.1 d h
            unfold dless at this
            omega)
        have hS2 : ∀ k, RB q (some ⟨b, o, none⟩) k → S k := fun k hk => hk.elim (fun h => h ▸ hq.out) (fun ⟨ad, ha, h⟩ => h ▸ HX.out.old ad ha)
        have hown := HX.out.own
        have href := HX.out.ref
        rw [e1] at hown
        rw [e2] at href
        exact ⟨_, RB q (some ⟨b, o, none⟩), rfl, ⟨some ⟨b, o, none⟩, c, href, fun k => Iff.rfl⟩, fun k hk => .inl (hS2 k hk), hown, fun k hk => ⟨HX.out.new k hk, fun hs => by have := HX.out.new k hk; have := hlt.out k (hS2 k hs); omega⟩, HX.out.fr.mono (fun k _ h => h ▸ hq.out)⟩
end
end Go.Proofs.Ytgfphbehecpgpaa
