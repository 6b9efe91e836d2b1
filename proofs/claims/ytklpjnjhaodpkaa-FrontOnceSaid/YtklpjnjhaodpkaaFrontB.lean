/- front.Front: what is assigned, and told. No condition. -/
import Derived.Test.YtklpjnjhaodpkaaFront
namespace Go.Proofs.Ytklpjnjhaodpkaa
open Go.RowKit

/-- How many of so many texts can be assigned. -/
def FS.room (s : FS) (n : Nat) : Nat := match s.led with | none => n | some t => min n (12 - t.2.2.length)
/-- The state when texts were assigned, as far as there was room. -/
def FS.given (s : FS) (l : List ByteArray) : FS :=
  { s with led := s.led.map fun t => (t.1, t.2.1, t.2.2 ++ l.take (s.room l.length)), over := s.over || decide (s.room l.length < l.length) }
def FS.told (s : FS) (l : List ByteArray) : List ByteArray := if s.away then [] else l.take (s.room l.length)
def FS.err (s : FS) (l : List ByteArray) : Int := if s.room l.length < l.length then 13 else 0
/-- What a call tells: texts, and a number; and the front that it leaves. -/
def FTold (S : Nat → Prop) (p : Nat) (w : World) (out : List ByteArray) (er : Int) (s' : FS) (e : Ending) (w' : World) : Prop :=
  ∃ a c S', e = .returned (.tuple #[.slice a out.length c, .int .i64 er]) ∧ Owns w' 9 1 (.slice a out.length c) out.length (out.map Value.string) ∧ (∀ k, InBlock (.slice a out.length c) k → w.heap.size ≤ k) ∧
    IsFront S' w' p s' ∧ (∀ k, S' k → S k ∨ w.heap.size ≤ k) ∧ (∀ k, S' k → ¬ InBlock (.slice a out.length c) k) ∧ Fr S w w'

/-- The state when the first k texts were assigned. -/
def FS.part (s : FS) (l : List ByteArray) (k : Nat) : FS := { s with led := s.led.map fun t => (t.1, t.2.1, t.2.2 ++ l.take k) }

section
variable {w w' : World} {p : Nat} {S : Nat → Prop} {s : FS}
theorem part_zero (s : FS) (l : List ByteArray) : s.part l 0 = s := by
  unfold FS.part
  cases h : s.led with
  | none => simp only [Option.map_none]; rw [← h]
  | some t => simp only [Option.map_some, List.take_zero, List.append_nil]; rw [← h]

theorem front_sent {wr w1 : World} {q cp : Nat} {SL SC : Nat → Prop} {s : FS} {l : List ByteArray} {k : Nat} {t : Int × Int × List ByteArray} (hd : s.led = some t)
    (ha : FrontAt wr p (.pointer (some ⟨q, 0, none⟩)) cp SL SC (s.part l k)) (h1 : IsLed SL w1 q 12 t.1 t.2.1 (t.2.2 ++ l.take (k + 1))) (f1 : Fr SL wr w1) : FrontAt w1 p (.pointer (some ⟨q, 0, none⟩)) cp SL SC (s.part l (k + 1)) :=
  ⟨ha.head.fr f1 ha.nl, ha.calm.fr f1 ha.cl, by simp only [FS.part, hd, Option.map_some]; exact ⟨q, rfl, h1⟩, ha.nc, ha.nl, ha.cl⟩
theorem FrontAt.drewN {lv : Value} {cp : Nat} {SL SC : Nat → Prop} (h : FrontAt w p lv cp SL SC s) (n : Nat) : FrontAt (w.drewN n) p lv cp SL SC s := h.fr (Fr.drewN Nothing _ _) (fun h => h) (fun _ _ h => h) (fun _ _ h => h)
theorem front_setOver {lv : Value} {cp : Nat} {SL SC : Nat → Prop} (ha : FrontAt w p lv cp SL SC s) (b : Bool) : FrontAt (w.setCell ⟨p, 4, none⟩ (.bool b)) p lv cp SL SC { s with over := b } := by
  have f : Fr (fun z => z = p) w (w.setCell ⟨p, 4, none⟩ (.bool b)) := Fr.setCell (S := fun z => z = p) (p := ⟨p, 4, none⟩) rfl _
  exact ⟨ha.head.set 4 _, ha.calm.fr f (fun k hk e => ha.nc (e ▸ hk)), ha.led.fr f (fun k hk e => ha.nl (e ▸ hk)), ha.nc, ha.nl, ha.cl⟩
theorem front_setIdle {lv : Value} {cp : Nat} {SL SC : Nat → Prop} (ha : FrontAt w p lv cp SL SC s) (b : Bool) : FrontAt (w.setCell ⟨p, 2, none⟩ (.bool b)) p lv cp SL SC { s with idle := b } := by
  have f : Fr (fun z => z = p) w (w.setCell ⟨p, 2, none⟩ (.bool b)) := Fr.setCell (S := fun z => z = p) (p := ⟨p, 2, none⟩) rfl _
  exact ⟨ha.head.set 2 _, ha.calm.fr f (fun k hk e => ha.nc (e ▸ hk)), ha.led.fr f (fun k hk e => ha.nl (e ▸ hk)), ha.nc, ha.nl, ha.cl⟩
theorem front_setAway {lv : Value} {cp : Nat} {SL SC : Nat → Prop} (ha : FrontAt w p lv cp SL SC s) (b : Bool) : FrontAt (w.setCell ⟨p, 3, none⟩ (.bool b)) p lv cp SL SC { s with away := b } := by
  have f : Fr (fun z => z = p) w (w.setCell ⟨p, 3, none⟩ (.bool b)) := Fr.setCell (S := fun z => z = p) (p := ⟨p, 3, none⟩) rfl _
  exact ⟨ha.head.set 3 _, ha.calm.fr f (fun k hk e => ha.nc (e ▸ hk)), ha.led.fr f (fun k hk e => ha.nl (e ▸ hk)), ha.nc, ha.nl, ha.cl⟩

/-- One more text is gathered beside a front. -/
theorem front_gather {w0 wr w7 : World} {lv : Value} {cp : Nat} {SL SC : Nat → Prop} {s : FS} {v v7 : Value} {O : List ByteArray} {x : ByteArray} {o : Obj}
    (ha : FrontAt wr p lv cp SL SC s) (hp : p < w0.heap.size) (hc : ∀ k, SC k → k < w0.heap.size) (hl : ∀ k, SL k → k < w0.heap.size) (hnew : ∀ b, InBlock v b → w0.heap.size ≤ b) (F : Fr (fun b => SL b) w0 wr)
    (o7 : Owns w7 9 1 v7 (O.length + 1) (O.map Value.string ++ [Value.string x])) (f7 : Fr (InBlock v) (wr.alloc o) w7) (n7 : NewOr (wr.alloc o) v v7) :
    Owns w7 9 1 v7 (O ++ [x]).length ((O ++ [x]).map Value.string) ∧ (∀ b, InBlock v7 b → w0.heap.size ≤ b) ∧ FrontAt w7 p lv cp SL SC s ∧ Fr (fun b => SL b) w0 w7 := by
  have f : Fr (InBlock v) wr w7 := (Fr.alloc _ _ _).trans' f7
  refine ⟨by simpa using o7, fun b hb => ?_, ha.fr f (fun h => by have := hnew p h; omega) (fun k hk h => by have := hnew k h; have := hc k hk; omega) (fun k hk h => by have := hnew k h; have := hl k hk; omega), F.trans f (fun b hb h => by have := hnew b h; omega)⟩
  rcases n7 b hb with h1 | h1
  · exact hnew b h1
  · have := F.size
    simp at h1
    omega

set_option maxRecDepth 100000 in
set_option maxHeartbeats 2000000 in
theorem front_assign (l : List ByteArray) (a : Option Addr) (c : Nat) (h : IsFront S w p s) (ht : Txt w a l) (hn : ∀ k, S k → ¬ InBlock (.slice a l.length c) k) (hl : l.length ≤ 1000) (ho : s.over = false) :
    Calls Try.prog 40 #[.pointer (some ⟨p, 0, none⟩), .slice a l.length c] w (FTold S p w (s.told l) (s.err l) (s.given l)) := by
  obtain ⟨i0, hi, hz0, hz1, hz2⟩ := info_parts Try.infoText
  have Hz2 := Lib.hid hz2
  have Hz1 := Lib.hid hz1
  have Hz0 := Lib.hid hz0
  have Hi := Lib.hid hi
  clear hz2 hz1 hz0 hi
  obtain ⟨lv, cp, SL, SC, ha, hS⟩ := h
  have HS := Lib.hid hS
  have Ht := Lib.hid ht
  have Hn := Lib.hid hn
  have hslt : ∀ k, SL k → k < w.heap.size := fun k hk => ha.led.lt hk
  have hsct : ∀ k, SC k → k < w.heap.size := fun k hk => ha.calm.lt hk
  have hpt := ha.head.lt
  have Hsl := Lib.hid hslt
  have Hsc := Lib.hid hsct
  clear hS ht hn hslt hsct
  go_enter Try.func40, Try.ntmps40
  go_wp2_with (fail)
  go_loopg [6, 11] l.length (fun g v i wr => ∃ (k : Nat) (O : List ByteArray), k ≤ l.length ∧ g = l.length - k ∧ i = .int .i64 k ∧ Hid (k ≤ s.room l.length) ∧ Hid (O = if s.away then [] else l.take k) ∧ Owns wr 9 1 v O.length (O.map Value.string) ∧ (∀ b, InBlock v b → w.heap.size ≤ b) ∧
    FrontAt wr p lv cp SL SC (s.part l k) ∧ Fr (fun b => SL b) w wr)
  case atStart => exact ⟨0, [], Nat.zero_le _, rfl, rfl, Nat.zero_le _, (show _ = _ by simp), Owns.nil _ _ _, fun b hb => by simp [InBlock, Value.ownBlock] at hb, by rw [part_zero]; exact ha, Fr.refl _ _⟩
  case round =>
    obtain ⟨k, O, hk, rfl, rfl, Hr, HO, own, hnew, ha', F⟩ := hrel
    have h0 := ha'.head.cell 0 rfl
    have h4 := ha'.head.cell 4 rfl
    have p4 := ha'.head.free 4
    have hled := ha'.led
    have h3 : wr.cell? ⟨p, 3, none⟩ = some (.bool s.away) := ha'.head.cell 3 rfl
    by_cases hlt : k < l.length
    · have hsl : Sl wr a (l.map Value.string) := Sl.fr Ht.out F (fun ad e hs => Hn.out ad.block ((HS.out _).2 (.inr (.inr hs))) (by rw [e]; rfl))
      obtain ⟨b1, o1, rfl, hx1⟩ := Sl.oneCell (j := k) (v := .string l[k]) hsl (by simp [hlt])
      obtain ⟨x, hx⟩ : ∃ x, x = l[k] := ⟨_, rfl⟩
      rw [← hx] at hx1
      have Hx := Lib.hid hx
      have Ha := Lib.hid ha'
      clear hx hsl ha'
      cases hd : s.led with
      | none =>
        have e1 : (s.part l k).led = none := by simp [FS.part, hd]
        have e2 : s.part l (k + 1) = s.part l k := by simp [FS.part, hd]
        rw [e1] at hled
        obtain ⟨rfl, hno⟩ := hled
        have hrm : k + 1 ≤ s.room l.length := by unfold FS.room; rw [hd]; exact hlt
        have Hrm := Lib.hid hrm
        have He2 := Lib.hid e2
        clear hno e1 hd e2 hrm p4 h4
        cases haw : s.away with
        | true =>
          rw [haw] at h3
          have HO' : Hid (O = if s.away then [] else l.take (k + 1)) := (show _ = _ by rw [HO.out, haw]; rfl)
          clear HO haw
          go_wp2_with (fail)
          go_roundg (l.length - (k + 1))
          case measure => omega
          case rel => exact ⟨k + 1, O, by omega, rfl, by go_num, Hrm.out, HO', own, hnew, by rw [He2.out]; exact Ha.out, F⟩
        | false =>
          rw [haw] at h3
          have hOl : O.length ≤ 1000 := by rw [HO.out, haw]; simp; omega
          have hO7 : Hid (O ++ [x] = if s.away then [] else l.take (k + 1)) := (show _ = _ by rw [HO.out, haw]; simp only [Bool.false_eq_true, if_false]; rw [List.take_succ_eq_append_getElem hlt, ← Hx.out])
          clear HO haw
          go_wp2_with (at_builtin; go_must (refine wpList_append_fp rfl (.tmp 38) (.tmp 40) 28 rfl 9 i0 (.string ByteArray.empty) 1 16 Try.underlying28 Hi.out Hz0.out Hz1.out Hz2.out rfl (by decide) _ O.length (O.map Value.string) rfl (own.fr (Fr.alloc Nothing _ _) (fun _ _ h => h)) _ 1 1 [Value.string x] rfl rfl (by simp) (Sl.ofRow (Row.allocNew _ [Value.string x] _)) (by simp [Value.oneCell']) (by unfold maxLen; omega) (by omega) ?_))
          intro v7 w7 o7 f7 n7 s7 _
          obtain ⟨g1, g2, g3, g4⟩ := front_gather Ha.out hpt Hsc.out Hsl.out hnew F o7 f7 n7
          clear own hnew F o7 f7 n7 s7
          go_wp2_with (fail)
          go_roundg (l.length - (k + 1))
          case measure => omega
          case rel => exact ⟨k + 1, O ++ [x], by omega, rfl, by go_num, Hrm.out, hO7, g1, g2, by rw [He2.out]; exact g3, g4⟩
      | some t =>
        have e1 : (s.part l k).led = some (t.1, t.2.1, t.2.2 ++ l.take k) := by simp [FS.part, hd]
        rw [e1] at hled
        obtain ⟨q, rfl, hI⟩ := hled
        have hI : IsLed SL wr q 12 t.1 t.2.1 (t.2.2 ++ l.take k) := hI
        have hln : (t.2.2 ++ l.take k).length = t.2.2.length + k := by rw [List.length_append, List.length_take]; omega
        by_cases hroom : t.2.2.length + k < 12
        · have hrm : k + 1 ≤ s.room l.length := by unfold FS.room; rw [hd]; simp only; omega
          have hsend := led_send_ok x hI (by rw [hln]; exact hroom)
          have hpart : (t.2.2 ++ l.take k) ++ [x] = t.2.2 ++ l.take (k + 1) := by rw [List.take_succ_eq_append_getElem hlt, ← Hx.out, List.append_assoc]
          rw [hpart] at hsend
          have hnx : ∀ w1, IsLed SL w1 q 12 t.1 t.2.1 (t.2.2 ++ l.take (k + 1)) → Fr SL wr w1 → FrontAt w1 p (.pointer (some ⟨q, 0, none⟩)) cp SL SC (s.part l (k + 1)) := fun w1 h1 f1 => front_sent hd Ha.out h1 f1
          have Hnx := Lib.hid hnx
          have Hrm := Lib.hid hrm
          clear e1 hd hrm p4 h4 hI hln hpart hnx hroom
          cases haw : s.away with
          | true =>
            have HO' : Hid (O = if s.away then [] else l.take (k + 1)) := (show _ = _ by rw [HO.out, haw]; rfl)
            clear HO h3
            go_wp2_with (fail)
            refine hsend.mono ?_
            rintro e w1 ⟨rfl, I1, f1⟩
            have ha1 := Hnx.out w1 I1 f1
            have h31 : w1.cell? ⟨p, 3, none⟩ = some (.bool true) := by rw [← haw]; exact ha1.head.cell 3 rfl
            have Ha1 := Lib.hid ha1
            have own1 := own.fr f1 (fun b hb h => by have := hnew b hb; have := Hsl.out b h; omega)
            have F1 : Fr (fun b => SL b) w w1 := F.trans f1 (fun b _ h => h)
            clear ha1 haw own F I1 f1
            go_wp2_with (fail)
            go_roundg (l.length - (k + 1))
            case measure => omega
            case rel => exact ⟨k + 1, O, by omega, rfl, by go_num, Hrm.out, HO', own1, hnew, Ha1.out, F1⟩
          | false =>
            have hOl : O.length ≤ 1000 := by rw [HO.out, haw]; simp; omega
            have hO7 : Hid (O ++ [x] = if s.away then [] else l.take (k + 1)) := (show _ = _ by rw [HO.out, haw]; simp only [Bool.false_eq_true, if_false]; rw [List.take_succ_eq_append_getElem hlt, ← Hx.out])
            clear HO h3
            go_wp2_with (fail)
            refine hsend.mono ?_
            rintro e w1 ⟨rfl, I1, f1⟩
            have ha1 := Hnx.out w1 I1 f1
            have h31 : w1.cell? ⟨p, 3, none⟩ = some (.bool false) := by rw [← haw]; exact ha1.head.cell 3 rfl
            have Ha1 := Lib.hid ha1
            have F1 : Fr (fun b => SL b) w w1 := F.trans f1 (fun b _ h => h)
            replace own := own.fr f1 (fun b hb h => by have := hnew b hb; have := Hsl.out b h; omega)
            clear ha1 haw F I1 f1
            go_wp2_with (at_builtin; go_must (refine wpList_append_fp rfl (.tmp 38) (.tmp 40) 28 rfl 9 i0 (.string ByteArray.empty) 1 16 Try.underlying28 Hi.out Hz0.out Hz1.out Hz2.out rfl (by decide) _ O.length (O.map Value.string) rfl (own.fr (Fr.alloc Nothing _ _) (fun _ _ h => h)) _ 1 1 [Value.string x] rfl rfl (by simp) (Sl.ofRow (Row.allocNew _ [Value.string x] _)) (by simp [Value.oneCell']) (by unfold maxLen; omega) (by omega) ?_))
            intro v7 w7 o7 f7 n7 s7 _
            obtain ⟨g1, g2, g3, g4⟩ := front_gather Ha1.out hpt Hsc.out Hsl.out hnew F1 o7 f7 n7
            clear own hnew F1 o7 f7 n7 s7
            go_wp2_with (fail)
            go_roundg (l.length - (k + 1))
            case measure => omega
            case rel => exact ⟨k + 1, O ++ [x], by omega, rfl, by go_num, Hrm.out, hO7, g1, g2, g3, g4⟩
        · have hrk : s.room l.length = k := by have := Hr.out; unfold FS.room at this ⊢; rw [hd] at this ⊢; simp only at this ⊢; omega
          have hsend := led_send_no x hI (by rw [hln]; omega)
          have Hrk := Lib.hid hrk
          clear e1 hd hI hln hroom hrk h3 h4
          go_wp2_with (fail)
          refine hsend.mono ?_
          rintro e w1 ⟨rfl, m1, rfl⟩
          have hp4 : (wr.drewN m1).cell? ⟨p, 4, none⟩ = some (.bool s.over) := Ha.out.head.cell 4 rfl
          obtain ⟨ao, co, rfl, _, _⟩ := own.shape
          go_wp2_with (fail)
          go_ret2
          have hg : s.given l = { s.part l k with over := true } := by unfold FS.given FS.part; rw [Hrk.out]; simp [hlt]
          have ht' : s.told l = O := by unfold FS.told; rw [Hrk.out, HO.out]
          have he : s.err l = 13 := by unfold FS.err; rw [Hrk.out, if_pos hlt]
          rw [hg, ht', he]
          have fs : Fr (fun z => z = p) (wr.drewN m1) ((wr.drewN m1).setCell ⟨p, 4, none⟩ (.bool true)) := Fr.setCell (S := fun z => z = p) (p := ⟨p, 4, none⟩) rfl _
          refine ⟨ao, co, S, rfl, (Owns.fr (Owns.fr own (Fr.drewN Nothing _ m1) (fun _ _ h => h))) fs (fun b hb e => by have := hnew b hb; omega), hnew, ⟨_, cp, SL, SC, front_setOver (ha := Ha.out.drewN m1) true, HS.out⟩, fun _ h => .inl h, fun b hb h => ?_, ?_⟩
          · have := hnew b h
            rcases (HS.out b).1 hb with rfl | h1 | h1
            · omega
            · have := Hsc.out b h1; omega
            · have := Hsl.out b h1; omega
          · exact ((F.mono fun b _ h => (HS.out b).2 (.inr (.inr h))).trans' (Fr.drewN _ _ _)).trans' (fs.mono fun b _ h => (HS.out b).2 (.inl h))
    · obtain rfl : k = l.length := by omega
      have hrl : s.room l.length = l.length := by
        have := Hr.out
        have h2 : s.room l.length ≤ l.length := by unfold FS.room; split <;> omega
        omega
      have Hrl := Lib.hid hrl
      have Ha := Lib.hid ha'
      obtain ⟨ao, co, rfl, _, _⟩ := own.shape
      clear hrl ha' h0 h3 h4 p4 hled
      go_wp2_with (fail)
      go_ret2
      have hg : s.given l = s.part l l.length := by unfold FS.given FS.part; rw [Hrl.out]; simp
      have ht' : s.told l = O := by unfold FS.told; rw [Hrl.out, HO.out]
      have he : s.err l = 0 := by unfold FS.err; rw [Hrl.out, if_neg (by omega)]
      rw [hg, ht', he]
      refine ⟨ao, co, S, rfl, own, hnew, ⟨_, cp, SL, SC, Ha.out, HS.out⟩, fun _ h => .inl h, fun b hb h => ?_, F.mono fun b _ h => (HS.out b).2 (.inr (.inr h))⟩
      have := hnew b h
      rcases (HS.out b).1 hb with rfl | h1 | h1
      · omega
      · have := Hsc.out b h1; omega
      · have := Hsl.out b h1; omega
end
end Go.Proofs.Ytklpjnjhaodpkaa
