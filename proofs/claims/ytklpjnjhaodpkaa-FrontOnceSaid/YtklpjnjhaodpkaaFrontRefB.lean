/- The reference's front: assign, flush. Condition: IsRF, and fewer than 290 texts in all. -/
import Derived.Test.YtklpjnjhaodpkaaFrontRef
namespace Go.Proofs.Ytklpjnjhaodpkaa
open Go.RowKit

/-- What a call says that tells texts that nobody looks at, and a number. -/
def RFSaid (S : Nat → Prop) (q : Nat) (w : World) (er : Int) (r' : RS) (e : Ending) (w' : World) : Prop :=
  ∃ v, e = .returned (.tuple #[v, .int .i64 er]) ∧ RFGone S w q r' w'
def RS.room (r : RS) (n : Nat) : Nat := min n (12 - (r.A.length - r.done))
def RS.given (r : RS) (l : List ByteArray) : RS := { r with A := r.A ++ l.take (r.room l.length), over := r.over || decide (r.room l.length < l.length) }
def RS.err (r : RS) (l : List ByteArray) : Int := if r.room l.length < l.length then 13 else 0

section
variable {w w' : World} {q : Nat} {S : Nat → Prop} {r : RS}
/-- One more text was assigned: the ledger and the list of all have it. -/
theorem rf_step {wr w8 w9 W : World} {lq cq m : Nat} {vA vB u : Value} {SL SL' SC S' : Nat → Prop} {x : ByteArray} {xs : List Value}
    (ha : RFAt wr q lq cq vA SL SC r) (hSS : ∀ k, S' k ↔ (k = q ∨ SL k ∨ SC k ∨ InBlock vA k)) (own : Owns wr 9 1 u m xs) (hdv : ∀ b, S' b → ¬ InBlock u b)
    (hl : IsLedRef SL' w8 lq 12 0 r.done 0 (r.A ++ [x])) (hs : ∀ k, SL' k → SL k ∨ wr.heap.size ≤ k) (f : Fr SL wr w8) (f89 : Fr (InBlock vA) w8 w9)
    (o9 : Owns w9 9 1 vB (r.A.length + 1) (r.A.map Value.string ++ [Value.string x])) (n9 : NewOr W vA vB) (hW : w8.heap.size ≤ W.heap.size) :
    ∃ S'', IsRF S'' (w9.setCell ⟨q, 6, none⟩ vB) q { r with A := r.A ++ [x] } ∧ (∀ b, S'' b → S' b ∨ wr.heap.size ≤ b) ∧ Fr S' wr (w9.setCell ⟨q, 6, none⟩ vB) ∧ Owns (w9.setCell ⟨q, 6, none⟩ vB) 9 1 u m xs ∧ (∀ b, S'' b → ¬ InBlock u b) ∧
      (∀ b o y, ¬ S' b → w8.cell? ⟨b, o, none⟩ = some y → (w9.setCell ⟨q, 6, none⟩ vB).cell? ⟨b, o, none⟩ = some y) := by
  have hqa := ha.na
  have fset : Fr (fun z => z = q) w9 (w9.setCell ⟨q, 6, none⟩ vB) := Fr.setCell (S := fun z => z = q) (p := ⟨q, 6, none⟩) rfl _
  have hvq : ¬ InBlock vB q := fun h => by
    rcases n9 q h with h1 | h1
    · exact hqa h1
    · have := ha.head.lt; have := f.size; omega
  have fB : Fr (fun k => k = q ∨ InBlock vA k) w8 (w9.setCell ⟨q, 6, none⟩ vB) := (f89.mono fun _ _ h => .inr h).trans' (fset.mono fun _ _ h => .inl h)
  have hB : Owns (w9.setCell ⟨q, 6, none⟩ vB) 9 1 vB (r.A ++ [x]).length ((r.A ++ [x]).map Value.string) := by
    have := Owns.fr o9 fset (fun k hk e => hvq (e ▸ hk))
    simpa using this
  have hnB : NewOr w8 vA vB := fun k hk => by
    rcases n9 k hk with h1 | h1
    · exact .inl h1
    · exact .inr (Nat.le_trans hW h1)
  have hh := ((ha.head.fr f ha.nl).fr f89 ha.na).set 6 vB
  have hrf := ha.leds hl hs f hB fB hnB hh
  have fsz := f.size
  have hlt : ∀ b, S' b → b < wr.heap.size := fun b hb => IsRF.lt (S := S') ⟨lq, cq, vA, SL, SC, ha, hSS⟩ hb
  have hnew : ∀ b, (b = q ∨ SL' b ∨ SC b ∨ InBlock vB b) → S' b ∨ wr.heap.size ≤ b := fun b hb => by
    rcases hb with h1 | h1 | h1 | h1
    · exact .inl ((hSS b).2 (.inl h1))
    · rcases hs b h1 with h2 | h2
      · exact .inl ((hSS b).2 (.inr (.inl h2)))
      · exact .inr h2
    · exact .inl ((hSS b).2 (.inr (.inr (.inl h1))))
    · rcases hnB b h1 with h2 | h2
      · exact .inl ((hSS b).2 (.inr (.inr (.inr h2))))
      · exact .inr (Nat.le_trans fsz h2)
  have F : Fr S' wr (w9.setCell ⟨q, 6, none⟩ vB) := (f.mono fun b _ h => (hSS b).2 (.inr (.inl h))).trans' (fB.mono fun b _ h => by
    rcases h with rfl | h
    · exact (hSS _).2 (.inl rfl)
    · exact (hSS b).2 (.inr (.inr (.inr h))))
  refine ⟨_, ⟨lq, cq, vB, SL', SC, hrf, fun _ => Iff.rfl⟩, hnew, F, own.fr F (fun k hk h => hdv k h hk), fun b hb hu => ?_, fun b o y hn hy => ?_⟩
  · rcases hnew b hb with h1 | h1
    · exact hdv b h1 hu
    · have := own.lt hu; omega
  · exact cell_fr hy fB (fun h => hn (by
      rcases h with rfl | h
      · exact (hSS _).2 (.inl rfl)
      · exact (hSS b).2 (.inr (.inr (.inr h)))))

/-- Between the two halves of a round. -/
def RFCut (S' : Nat → Prop) (wr : World) (q : Nat) (r2 : RS) (b o : Nat) (x : ByteArray) (u : Value) (m : Nat) (xs : List Value) (l : List ByteArray) (a : Option Addr) (wB : World) : Prop :=
  wB.cell? ⟨q, 0, none⟩ = some (.bool false) ∧ wB.cell? ⟨b, o, none⟩ = some (.string x) ∧ ∃ S2, IsRF S2 wB q r2 ∧ (∀ b, S2 b → S' b ∨ wr.heap.size ≤ b) ∧ Fr S' wr wB ∧ Owns wB 9 1 u m xs ∧ (∀ b, S2 b → ¬ InBlock u b) ∧ Beside (fun b => S2 b ∨ InBlock u b) wB a l

set_option maxRecDepth 100000 in
set_option maxHeartbeats 4000000 in
theorem rf_assign (l : List ByteArray) (a : Option Addr) (c : Nat) (h : IsRF S w q r) (hk : r.keeps = true) (hb : Beside S w a l) (hl : r.A.length + l.length ≤ 290) :
    Calls Try.prog 48 #[.pointer (some ⟨q, 0, none⟩), .slice a l.length c] w (RFSaid S q w (r.err l) (r.given l)) := by
  obtain ⟨i0, hi, hz0, hz1, hz2⟩ := info_parts Try.infoText
  have Hz2 := Lib.hid hz2
  have Hz1 := Lib.hid hz1
  have Hz0 := Lib.hid hz0
  have Hi := Lib.hid hi
  have Hk := Lib.hid hk
  have hlI : (l.length : Int) ≤ 290 := by omega
  have hdl : r.done ≤ r.A.length := h.doneLe
  clear hz2 hz1 hz0 hi hk
  go_enter Try.func48, Try.ntmps48
  go_wp2_with (fail)
  go_loopg [6, 7] l.length (fun g v i wr => ∃ (k m : Nat) (S' : Nat → Prop), k ≤ l.length ∧ g = l.length - k ∧ i = .int .i64 k ∧ Hid (k ≤ r.room l.length) ∧ m ≤ k ∧ (∃ xs, Owns wr 9 1 v m xs) ∧ (∀ b, InBlock v b → w.heap.size ≤ b) ∧
    IsRF S' wr q { r with A := r.A ++ l.take k } ∧ (∀ b, S' b → S b ∨ w.heap.size ≤ b) ∧ (∀ b, S' b → ¬ InBlock v b) ∧ Fr S w wr ∧ Beside (fun b => S' b ∨ InBlock v b) wr a l)
  case atStart => exact ⟨0, 0, S, Nat.zero_le _, rfl, rfl, Nat.zero_le _, Nat.zero_le _, ⟨[], Owns.nil _ _ _⟩, fun b hb => by simp [InBlock, Value.ownBlock] at hb, by rw [List.take_zero, List.append_nil]; exact h, fun _ h => .inl h, fun b _ hb => by simp [InBlock, Value.ownBlock] at hb, Fr.refl _ _, hb.next (Fr.refl _ _) (fun b hb => by rcases hb with h | h; exact .inl h; simp [InBlock, Value.ownBlock] at h)⟩
  case round =>
    clear h hb
    obtain ⟨k, m, S', hkl, rfl, rfl, Hr, hmk, ⟨xs, own⟩, hnew, hrf, hS', hdv, F, hbs⟩ := hrel
    by_cases hlt : k < l.length
    · obtain ⟨lq, cq, vA, SL, SC, ha, hSS⟩ := hrf
      obtain ⟨b1, o1, rfl, hx1⟩ := Txt.at_ hbs.1 hlt
      have hbn : ¬ S' b1 := by
        rcases hbs.2 with h0 | ⟨ad, e, _, hn⟩
        · rw [h0] at hlt; simp at hlt
        · cases e; exact fun h => hn (.inl h)
      obtain ⟨x, hx⟩ : ∃ x, x = l[k] := ⟨_, rfl⟩
      rw [← hx] at hx1
      have h3 : wr.cell? ⟨q, 3, none⟩ = some (.bool true) := by rw [← Hk.out]; exact ha.head.cell 3 rfl
      have h4 := ha.head.cell 4 rfl
      have h1 := ha.head.cell 1 rfl
      have p1 := ha.head.free 1
      have hql : ¬ SL q := ha.nl
      have hbl : ¬ SL b1 := fun h => hbn ((hSS b1).2 (.inr (.inl h)))
      have Ha := Lib.hid ha
      have HSS := Lib.hid hSS
      have Hx := Lib.hid hx
      have hAl : (r.A ++ l.take k).length = r.A.length + k := by rw [List.length_append, List.length_take]; omega
      by_cases hroom : r.A.length + k - r.done < 12
      · have hled : IsLedRef SL wr lq 12 0 r.done 0 (r.A ++ l.take k) := ha.led
        have HAl := Lib.hid hAl
        have hrm : k + 1 ≤ r.room l.length := by unfold RS.room; omega
        have Hrm := Lib.hid hrm
        clear ha hSS hx hAl hrm h1 p1
        go_wp2_with (fail)
        go_region_held3 (fun w' => w'.cell? ⟨q, 3, none⟩ = some (.bool true) ∧ w'.cell? ⟨q, 4, none⟩ = some (.pointer (some ⟨lq, 0, none⟩)) ∧ w'.cell? ⟨b1, o1 + k, none⟩ = some (.string x)) (first | assumption | exact ⟨h3, h4, hx1⟩ | exact ⟨z3, z4, hx8⟩)
          ((go_at_call 61; refine (lref_send_ok x hled.drew (by rw [HAl.out]; exact hroom) (by rw [HAl.out]; omega)).mono ?_; rintro e w8 ⟨rfl, g8⟩; have z3 := cell_fr (by exact h3) g8.choose_spec.2.2 hql; have z4 := cell_fr (by exact h4) g8.choose_spec.2.2 hql; have hx8 := cell_fr (by exact hx1) g8.choose_spec.2.2 hbl))
        obtain ⟨SL', hl8, hsl, f8⟩ := g8
        have f8 : Fr SL wr w8 := (Fr.drew SL wr).trans' f8
        have hsl : ∀ b, SL' b → SL b ∨ wr.heap.size ≤ b := hsl
        have ha8 : RFAt wr q lq cq vA SL SC { r with A := r.A ++ l.take k } := Ha.out
        have hr8 := ha8.head.fr f8 hql
        have hv8 := ha8.own.fr f8 (fun b hb h => ha8.la b h hb)
        have h68 := hr8.cell 6 rfl
        have h68a := (hr8.allocOld (.cells #[.string x] 9)).cell 6 rfl
        have Hr8 := Lib.hid hr8
        have Hv8 := Lib.hid hv8
        have Hl8 := Lib.hid hl8
        have Hsl := Lib.hid hsl
        have Hf8 := Lib.hid f8
        have hqv := ha8.na
        have hbv : ¬ InBlock vA b1 := fun h => hbn ((HSS.out b1).2 (.inr (.inr (.inr h))))
        have hAll := HAl.out
        clear ha8 hr8 hv8 hl8 hsl f8 h3 h4 hx1 z3 z4 hled
        go_upto_region 8 with (fail)
        go_cut [44] (fun _ wB => RFCut S' wr q { r with A := r.A ++ l.take (k + 1) } b1 (o1 + k) x u6 m xs l (some ⟨b1, o1, none⟩) wB)
        case first =>
          go_region_law
            ((refine step_append_fp (by rfl) (.tmp 38) (.tmp 43) 28 (by rfl) 9 i0 (.string ByteArray.empty) 1 16 Try.underlying28 Hi.out Hz0.out Hz1.out Hz2.out rfl (by decide) vA (r.A ++ l.take k).length ((r.A ++ l.take k).map Value.string) (by rfl) (Owns.fr Hv8.out ((Fr.drew Nothing w8).trans' (Fr.alloc Nothing _ _)) (fun _ _ h => h)) _ 1 1 [Value.string x] (by rfl) rfl (by simp) (Sl.ofRow (Row.allocNew _ [Value.string x] _)) (by simp [Value.oneCell']) (by unfold maxLen; omega) (by omega) ?_
              intro v9 w9 o9 f9 n9 s9 _
              have f89 : Fr (InBlock vA) w8 w9 := ((Fr.drew _ _).trans' (Fr.alloc _ _ _)).trans' f9
              have hr9 := Hr8.out.fr f89 hqv
              have p69 := hr9.free 6
              have c69 := hr9.cell 6 rfl
              have Hr9 := Lib.hid hr9
              clear hr9
              obtain ⟨a9, c9, rfl, _, _⟩ := o9.shape))
          all_goals
            rw [hAll] at o9 n9
            have hap : r.A ++ l.take k ++ [x] = r.A ++ l.take (k + 1) := by rw [List.take_succ_eq_append_getElem hlt, ← Hx.out, List.append_assoc]
            have hl8' : IsLedRef SL' w8 lq 12 0 r.done 0 (r.A ++ l.take k ++ [x]) := Hl8.out
            obtain ⟨S2, grf, gS2, gF, gown, gdv, gcell⟩ := rf_step (r := { r with A := r.A ++ l.take k }) Ha.out HSS.out own hdv hl8' Hsl.out Hf8.out f89 (by rw [hAll]; exact o9) n9 (by simp)
            have gx := gcell b1 (o1 + k) _ hbn hx8
            have hrB : Row (w9.setCell ⟨q, 6, none⟩ (.slice a9 (r.A.length + k + 1) c9)) q [.bool false, .bool r.over, .bool r.idle, .bool r.keeps, .pointer (some ⟨lq, 0, none⟩), .pointer (some ⟨cq, 0, none⟩), .slice a9 (r.A.length + k + 1) c9] 47 := Hr9.out.set 6 _
            have g0 := hrB.cell 0 rfl
            have gbs : Beside (fun b => S2 b ∨ InBlock u6 b) (w9.setCell ⟨q, 6, none⟩ (.slice a9 (r.A.length + k + 1) c9)) (some ⟨b1, o1, none⟩) l := hbs.next (gF.mono fun _ _ h => .inl h) (fun b hb => by
              rcases hb with h | h
              · rcases gS2 b h with h1 | h1
                · exact .inl (.inl h1)
                · exact .inr h1
              · exact .inl (.inr h))
            have grf' : IsRF S2 (w9.setCell ⟨q, 6, none⟩ (.slice a9 (r.A.length + k + 1) c9)) q { r with A := r.A ++ l.take (k + 1) } := by rw [← hap]; exact grf
            have g : RFCut S' wr q { r with A := r.A ++ l.take (k + 1) } b1 (o1 + k) x u6 m xs l (some ⟨b1, o1, none⟩) (w9.setCell ⟨q, 6, none⟩ (.slice a9 (r.A.length + k + 1) c9)) := ⟨g0, gx, S2, grf', gS2, gF, gown, gdv, gbs⟩
            have G := Lib.hid g
            clear g
            clear g0 gx grf' gS2 gF gown gdv gbs hrB grf gcell hl8' o9 n9 f9 f89
            go_wp2_with (fail)
            go_meet
            case rel => exact G.out
        case rest =>
          obtain ⟨g0, gx, S2, grf, gS2, gF, gown, gdv, gbs⟩ := hcut
          have Grf := Lib.hid grf
          have Gbs := Lib.hid gbs
          have GS2 := Lib.hid gS2
          have Gdv := Lib.hid gdv
          have GF := Lib.hid gF
          clear grf gbs gS2 gdv gF h68 h68a hx8
          go_wp2_with (at_builtin; go_must (refine wpList_append_fp rfl (.tmp 52) (.tmp 57) 28 rfl 9 i0 (.string ByteArray.empty) 1 16 Try.underlying28 Hi.out Hz0.out Hz1.out Hz2.out rfl (by decide) _ m xs rfl (Owns.fr gown (Fr.alloc Nothing _ _) (fun _ _ h => h)) _ 1 1 [Value.string x] rfl rfl (by simp) (Sl.ofRow (Row.allocNew _ [Value.string x] _)) (by simp [Value.oneCell']) (by unfold maxLen; omega) (by omega) ?_))
          intro v7 w7 o7 f7 n7 s7 _
          have fu : Fr (InBlock u6) wc w7 := (Fr.alloc _ _ _).trans' f7
          have hn7 : ∀ b, InBlock v7 b → InBlock u6 b ∨ wc.heap.size ≤ b := fun b hb => by
            rcases n7 b hb with h1 | h1
            · exact .inl h1
            · simp at h1; exact .inr (by omega)
          have hwl : w.heap.size ≤ wr.heap.size := F.size
          have hlc : wr.heap.size ≤ wc.heap.size := GF.out.size
          have rel : ∃ S4 : Nat → Prop, (∃ xs, Owns w7 9 1 v7 (m + 1) xs) ∧ (∀ b, InBlock v7 b → w.heap.size ≤ b) ∧ IsRF S4 w7 q { r with A := r.A ++ l.take (k + 1) } ∧ (∀ b, S4 b → S b ∨ w.heap.size ≤ b) ∧ (∀ b, S4 b → ¬ InBlock v7 b) ∧ Fr S w w7 ∧ Beside (fun b => S4 b ∨ InBlock v7 b) w7 (some ⟨b1, o1, none⟩) l := by
            refine ⟨S2, ⟨_, o7⟩, fun b hb => ?_, Grf.out.fr fu Gdv.out, fun b hb => ?_, fun b hb h => ?_, ?_, Gbs.out.next (fu.mono fun _ _ h => .inr h) (fun b hb => ?_)⟩
            · rcases hn7 b hb with h1 | h1
              · exact hnew b h1
              · omega
            · rcases GS2.out b hb with h1 | h1
              · exact hS' b h1
              · exact .inr (by omega)
            · rcases hn7 b h with h1 | h1
              · exact Gdv.out b hb h1
              · have := Grf.out.lt hb; omega
            · have g1 : Fr S w wc := F.trans GF.out (fun b hb h => by
                rcases hS' b h with h1 | h1
                · exact h1
                · omega)
              exact g1.trans fu (fun b hb h => by have := hnew b h; omega)
            · rcases hb with h | h
              · exact .inl (.inl h)
              · rcases hn7 b h with h1 | h1
                · exact .inl (.inr h1)
                · exact .inr h1
          obtain ⟨S4, r1, r2, r3, r4, r5, r6, r7⟩ := rel
          clear f7 fu hn7 Grf Gbs GS2 Gdv GF o7 n7 s7 own hnew hS' hdv F hbs gown
          go_wp2_with (fail)
          go_roundg (l.length - (k + 1))
          case measure => omega
          case rel => exact ⟨k + 1, m + 1, S4, by omega, rfl, by go_num, Hrm.out, by omega, r1, r2, r3, r4, r5, r6, r7⟩
      · have hled : IsLedRef SL wr lq 12 0 r.done 0 (r.A ++ l.take k) := ha.led
        have HAl := Lib.hid hAl
        have hrk : r.room l.length = k := by have := Hr.out; unfold RS.room at this ⊢; omega
        have Hrk := Lib.hid hrk
        clear ha hSS hx hAl hrk
        go_wp2_with (fail)
        go_region_held3 (fun w' => w'.cell? ⟨q, 3, none⟩ = some (.bool true) ∧ w'.cell? ⟨q, 4, none⟩ = some (.pointer (some ⟨lq, 0, none⟩)) ∧ w'.cell? ⟨b1, o1 + k, none⟩ = some (.string x)) (first | assumption | exact ⟨h3, h4, hx1⟩)
          ((go_at_call 61; refine (lref_send_no x hled.drew (by rw [HAl.out]; omega)).mono ?_; rintro e w8 ⟨rfl, m8, rfl⟩))
        obtain ⟨ao, co, rfl, _, _⟩ := own.shape
        go_wp2_with (fail)
        go_ret2
        have hg : r.given l = { r with A := r.A ++ l.take k, over := true } := by unfold RS.given; rw [Hrk.out]; simp [hlt]
        have he : r.err l = 13 := by unfold RS.err; rw [Hrk.out, if_pos hlt]
        rw [hg, he]
        refine ⟨_, rfl, S', ⟨lq, cq, vA, SL, SC, rf_setOver (Ha.out.fr (Fr.drewN Nothing wr _) (fun h => h) (fun _ _ h => h) (fun _ _ h => h) (fun _ _ h => h)) true, HSS.out⟩, hS', ?_⟩
        exact F.trans ((Fr.drewN S' wr _).trans' (Fr.setCell (S := S') (p := ⟨q, 1, none⟩) ((HSS.out q).2 (.inl rfl)) _)) (fun b hb h => by
          rcases hS' b h with h1 | h1
          · exact h1
          · omega)
    · obtain rfl : k = l.length := by omega
      have hrl : r.room l.length = l.length := by
        have := Hr.out
        unfold RS.room at this ⊢
        omega
      have Hrl := Lib.hid hrl
      have Hrf := Lib.hid hrf
      obtain ⟨ao, co, rfl, _, _⟩ := own.shape
      clear hrl hrf
      go_wp2_with (fail)
      go_ret2
      have hg : r.given l = { r with A := r.A ++ l.take l.length } := by unfold RS.given; rw [Hrl.out]; simp
      have he : r.err l = 0 := by unfold RS.err; rw [Hrl.out, if_neg (by omega)]
      rw [hg, he]
      exact ⟨_, rfl, S', Hrf.out, hS', F⟩
end
end Go.Proofs.Ytklpjnjhaodpkaa
