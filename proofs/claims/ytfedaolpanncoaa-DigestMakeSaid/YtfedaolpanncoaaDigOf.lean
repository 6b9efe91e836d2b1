/- The steps that make a list of another one: what Of tells. Condition: both lie as slices of items, of 1000 at most. -/
import Derived.Test.YtfedaolpanncoaaDig
import Derived.WalkMore
import Derived.Laws.StructEq
import Derived.Deep.LoopGhost
namespace Go.Proofs.Ytfedaolpanncoaa
open Go.RowKit

structure DStep where
  user : ByteArray
  item : Item
  gone : Bool
def DStep.cells (s : DStep) : List Value := [.string s.user, .string s.item.user, .string s.item.name, .int .i64 s.item.sub, .bool s.item.asked, .bool s.gone]
theorem DStep.len (s : DStep) : s.cells.length = 6 := rfl
abbrev Steps (w : World) (a : Option Addr) (l : List DStep) : Prop := Recs DStep.cells 6 w a l
theorem Try.infoStep : (Try.prog.info? 37).map (fun i => (i.zero, i.size, i.bytes)) = some (some (.agg #[.string ByteArray.empty, .string ByteArray.empty, .string ByteArray.empty, .int .i64 0, .bool false, .bool false]), 6, 72) := by kernel_rfl

def noItem : Item := ⟨ByteArray.empty, ByteArray.empty, 0, false⟩
def goneS (x : Item) : DStep := ⟨x.user, noItem, true⟩
def putS (x : Item) : DStep := ⟨x.user, x, false⟩
/-- Are two items alike? -/
def sameB (x y : Item) : Bool := decide (x.user = y.user) && decide (x.name = y.name) && decide (x.sub = y.sub) && (x.asked == y.asked)
theorem sameB_iff (x y : Item) : sameB x y = true ↔ x = y := by
  cases x; cases y; simp [sameB, and_assoc]

/-- The steps that make b of a. -/
def ofL : List Item → List Item → List DStep
  | [], b => b.map putS
  | x :: a, [] => goneS x :: ofL a []
  | x :: a, y :: b =>
    if ltB x.user y.user then goneS x :: ofL a (y :: b)
    else if x.user = y.user then (if sameB x y then ofL a b else putS y :: ofL a b)
    else putS y :: ofL (x :: a) b
termination_by a b => a.length + b.length
theorem ofL_len (a b : List Item) : (ofL a b).length ≤ a.length + b.length := by
  induction a, b using ofL.induct <;> (unfold ofL; simp_all; try omega)

theorem items_head {w : World} {a : Option Addr} {x : Item} {l : List Item} (h : Items w a (x :: l)) :
    ∃ b o, a = some ⟨b, o, none⟩ ∧ w.cell? ⟨b, o, none⟩ = some (.string x.user) ∧ w.cell? ⟨b, o + 1, none⟩ = some (.string x.name) ∧ w.cell? ⟨b, o + 2, none⟩ = some (.int .i64 x.sub) ∧ w.cell? ⟨b, o + 3, none⟩ = some (.bool x.asked) := by
  obtain ⟨b, o, ha, hc⟩ := h.at_ (i := 0) (by simp)
  refine ⟨b, o, ha, ?_, ?_, ?_, ?_⟩
  · simpa using hc 0 (.string x.user) rfl
  · simpa using hc 1 (.string x.name) rfl
  · simpa using hc 2 (.int .i64 x.sub) rfl
  · simpa using hc 3 (.bool x.asked) rfl
theorem items_tail {w : World} {b o c : Nat} {x : Item} {l : List Item} (h : Items w (some ⟨b, o, none⟩) (x :: l)) (hc : l.length + 1 ≤ c) :
    Items w (if c = 1 then some ⟨b, o, none⟩ else some ⟨b, o + 4, none⟩) l := by
  obtain ⟨h1, h2, h3⟩ := h
  refine ⟨h1, h2, ?_⟩
  have e : (x :: l).flatMap Item.cells = x.cells ++ l.flatMap Item.cells := by simp
  have d : ((x :: l).flatMap Item.cells).drop 4 = l.flatMap Item.cells := by rw [e, List.drop_append_of_le_length (by simp [Item.cells])]; simp [Item.cells]
  by_cases h0 : c = 1
  · rw [if_pos h0]
    obtain rfl : l = [] := List.eq_nil_of_length_eq_zero (by omega)
    exact Sl.nil _ _
  · rw [if_neg h0, ← d]; exact h3.drop 4

abbrev CollS (w : World) (v : Value) (O : List DStep) (wr : World) : Prop := CollE w 37 6 v O.length (O.flatMap DStep.cells) wr
theorem CollS.one {w wr w0 w7 : World} {v v7 : Value} {O : List DStep} {s : DStep} (h : CollS w v O wr) (F : Fr Nothing wr w0) (o : Owns w7 37 6 v7 (O.length + 1) (O.flatMap DStep.cells ++ s.cells)) (f : Fr (InBlock v) w0 w7) (nn : NewOr w0 v v7) : CollS w v7 (O ++ [s]) w7 := by
  have := CollE.more h F o f nn
  simpa [CollS] using this
theorem step_one (s : DStep) : ∀ u ∈ s.cells, u.oneCell' = true := by
  intro u hu
  simp only [DStep.cells, List.mem_cons, List.not_mem_nil, or_false] at hu
  rcases hu with rfl | rfl | rfl | rfl | rfl | rfl <;> rfl
theorem text_eq {x y : ByteArray} : x.toList = y.toList ↔ x = y := by
  have := same_text x y
  constructor
  · intro h
    rw [h, beq_self_eq_true] at this
    exact of_decide_eq_true this.symm
  · rintro rfl; rfl
theorem ne_branch {x y : Item} (he : x.user = y.user) (h : sameB x y = false) {α : Type} (p q : α) :
    (if x.name.toList = y.name.toList then if x.sub = y.sub then if x.asked = y.asked then p else q else q else q) = q := by
  by_cases h1 : x.name.toList = y.name.toList
  · by_cases h2 : x.sub = y.sub
    · by_cases h3 : x.asked = y.asked
      · have : sameB x y = true := by simp [sameB, he, h2, h3, text_eq.1 h1]
        rw [this] at h; simp at h
      · rw [if_pos h1, if_pos h2, if_neg h3]
    · rw [if_pos h1, if_neg h2]
  · rw [if_neg h1]
theorem ofL_lt {x y : Item} {A B : List Item} (h : ltB x.user y.user = true) : ofL (x :: A) (y :: B) = goneS x :: ofL A (y :: B) := by rw [ofL]; simp [h]
theorem ofL_nil (x : Item) (A : List Item) : ofL (x :: A) [] = goneS x :: ofL A [] := by rw [ofL]
theorem ofL_eq {x y : Item} {A B : List Item} (h : ltB x.user y.user = false) (e : x.user = y.user) (s : sameB x y = true) : ofL (x :: A) (y :: B) = ofL A B := by
  conv => lhs; rw [ofL]
  rw [if_neg (by rw [h]; simp), if_pos e, if_pos s]
theorem ofL_ne {x y : Item} {A B : List Item} (h : ltB x.user y.user = false) (e : x.user = y.user) (s : sameB x y = false) : ofL (x :: A) (y :: B) = putS y :: ofL A B := by
  conv => lhs; rw [ofL]
  rw [if_neg (by rw [h]; simp), if_pos e, if_neg (by rw [s]; simp)]
theorem ofL_put {x y : Item} {A B : List Item} (h : ltB x.user y.user = false) (e : x.user ≠ y.user) : ofL (x :: A) (y :: B) = putS y :: ofL (x :: A) B := by
  conv => lhs; rw [ofL]
  rw [if_neg (by rw [h]; simp), if_neg e]
theorem ofL_add (y : Item) (B : List Item) : ofL [] (y :: B) = putS y :: ofL [] B := by rw [ofL, ofL]; rfl

set_option maxRecDepth 100000 in
set_option maxHeartbeats 4000000 in
theorem dig_of (a b : Option Addr) (ca cb : Nat) (A B : List Item) (w : World) (hA : Items w a A) (hB : Items w b B) (la : A.length ≤ ca) (lb : B.length ≤ cb) (_ : ca ≤ maxLen) (_ : cb ≤ maxLen) (ha1 : A.length ≤ 1000) (hb1 : B.length ≤ 1000) (ra : riseB A = true) (rb : riseB B = true) :
    Calls Try.prog 13 #[.slice a A.length ca, .slice b B.length cb] w fun e w' => ∃ a' c', e = .returned (.slice a' (ofL A B).length c') ∧ CollE w 37 6 (.slice a' (ofL A B).length c') (ofL A B).length ((ofL A B).flatMap DStep.cells) w' := by
  obtain ⟨i0, hi, hz0, hz1, hz2⟩ := info_parts Try.infoStep
  have Hz2 := Lib.hid hz2
  have Hz1 := Lib.hid hz1
  have Hz0 := Lib.hid hz0
  have Hi := Lib.hid hi
  have HA := Lib.hid hA
  have HB := Lib.hid hB
  have hra := dig_right a ca A w hA ha1
  rw [ra] at hra
  have hrb := fun n => dig_right b cb B (w.drewN n) hB hb1
  rw [rb] at hrb
  clear hz2 hz1 hz0 hi hA hB ra rb
  go_enter Try.func13, Try.ntmps13
  go_wp2_with (fail)
  go_step3
  go_wp2_with (fail)
  refine hra.mono ?_
  rintro e w1 ⟨rfl, n1, rfl⟩
  go_wp2_with (fail)
  refine (hrb _).mono ?_
  rintro e w2 ⟨rfl, n2, rfl⟩
  go_wp2_with (fail)
  clear hra hrb
  go_step3
  go_wp2_with (fail)
  go_loopg [0, 1, 5] (A.length + B.length) (fun g va vb vl wr => ∃ (A' B' : List Item) (aa bb : Option Addr) (ca' cb' : Nat) (O : List DStep), g = A'.length + B'.length ∧ va = .slice aa A'.length ca' ∧ vb = .slice bb B'.length cb' ∧ A'.length ≤ ca' ∧ B'.length ≤ cb' ∧ (ca' : Int) ≤ 9223372036854775807 ∧ (cb' : Int) ≤ 9223372036854775807 ∧ A'.length ≤ 1000 ∧ B'.length ≤ 1000 ∧ O.length + A'.length + B'.length ≤ 2000 ∧ Hid (Items w aa A') ∧ Hid (Items w bb B') ∧ Hid (O ++ ofL A' B' = ofL A B) ∧ CollE w 37 6 vl O.length (O.flatMap DStep.cells) wr)
  case atStart => exact ⟨A, B, a, b, ca, cb, [], rfl, rfl, rfl, la, lb, by unfold maxLen at *; omega, by unfold maxLen at *; omega, ha1, hb1, by simp; omega, HA.out, HB.out, rfl, CollE.quiet (CollE.start _ _ _) (Fr.drewN _ _ _)⟩
  case round =>
    clear la lb ha1 hb1 HA HB
    obtain ⟨A', B', aa, bb, ca', cb', O, rfl, rfl, rfl, la, lb, qa, qb, ha1, hb1, ho, HA, HB, HO, co⟩ := hrel
    have fA := HA.out.fr co.fr (fun _ _ h => h)
    have fB := HB.out.fr co.fr (fun _ _ h => h)
    cases A' with
    | nil =>
      cases B' with
      | nil =>
        go_wp2_with (fail)
        rw [Exit.noGoto_ret]
        go_ret
        have hO := HO.out
        simp only [ofL, List.map_nil, List.append_nil] at hO
        subst hO
        obtain ⟨a1, c1, rfl, _, _⟩ := co.own.shape
        exact ⟨a1, c1, rfl, co⟩
      | cons y B1 =>
        obtain ⟨b1, o1, rfl, y0, y1, y2, y3⟩ := items_head fB
        have hO := HO.out
        rw [ofL_add] at hO
        have HN : Hid ((O ++ [putS y]) ++ ofL [] B1 = ofL A B) := (show _ = _ by rw [List.append_assoc]; exact hO)
        have HTB : Hid (Items w (if cb' = 1 then some ⟨b1, o1, none⟩ else some ⟨b1, o1 + 4, none⟩) B1) := items_tail HB.out lb
        clear fA fB hO HO HB
        simp only [List.length_cons, List.length_nil] at la lb ha1 hb1 ho
        have z1 : ((B1.length : Int) + 1 == 0) = false := by rw [beq_eq_false_iff_ne]; omega
        have z2 : decide ((B1.length : Int) + 1 = 0) = false := by rw [decide_eq_false_iff_not]; omega
        go_wp2_with (fail)
        go_quiet (fail)
        go_wp2_with (fail)
        go_quiet (fail)
        go_wp2_with (fail)
        go_region_law
          ((refine step_append_fp (by rfl) (.tmp 22) (.tmp 31) 32 (by rfl) 37 i0 (.agg #[.string ByteArray.empty, .string ByteArray.empty, .string ByteArray.empty, .int .i64 0, .bool false, .bool false]) 6 72 Try.underlying32 Hi.out Hz0.out Hz1.out Hz2.out rfl (by decide) _ O.length (O.flatMap DStep.cells) (by rfl) ((CollE.drewN co _).quiet (Fr.alloc _ _ _)).own _ 1 1 (putS y).cells (by rfl) rfl (by simp) (Sl.ofRow (Row.allocNew _ _ _)) (step_one _) (by unfold maxLen; omega) (by omega) ?_
            intro v7 w7 o7 f7 n7 s7 _
            have co7 := CollS.one co ((Fr.drewN _ _ _).trans' (Fr.alloc _ _ _)) o7 f7 n7
            clear co o7 f7 n7 s7))
        all_goals go_wp2_with (fail)
        all_goals
          go_roundg (0 + B1.length)
          case measure => omega
          case rel => exact ⟨[], B1, _, _, _, _, _, by simp, rfl, rfl, by simp, by omega, by omega, by omega, by simp, by omega, by simp; omega, HA, by (have h1 := HTB.out; simp only [*, if_true, if_false] at h1; exact h1), HN, co7⟩
    | cons x A1 =>
      obtain ⟨b2, o2, rfl, x0, x1, x2, x3⟩ := items_head fA
      cases B' with
      | nil =>
        have hO := HO.out
        rw [ofL_nil] at hO
        have HN : Hid ((O ++ [goneS x]) ++ ofL A1 [] = ofL A B) := (show _ = _ by rw [List.append_assoc]; exact hO)
        have HT : Hid (Items w (if ca' = 1 then some ⟨b2, o2, none⟩ else some ⟨b2, o2 + 4, none⟩) A1) := items_tail HA.out la
        clear hO HO HA fA fB
        simp only [List.length_cons, List.length_nil] at la lb ha1 hb1 ho
        go_wp2_with (fail)
        go_quiet (fail)
        go_wp2_with (at_builtin; go_must (refine wpList_append_fp rfl (.tmp 53) (.tmp 59) 32 rfl 37 i0 (.agg #[.string ByteArray.empty, .string ByteArray.empty, .string ByteArray.empty, .int .i64 0, .bool false, .bool false]) 6 72 Try.underlying32 Hi.out Hz0.out Hz1.out Hz2.out rfl (by decide) _ O.length (O.flatMap DStep.cells) rfl (co.quiet ((Fr.drewN _ _ _).trans' (Fr.alloc _ _ _))).own _ 1 1 (goneS x).cells rfl rfl (by simp) (Sl.ofRow (Row.allocNew _ _ _)) (step_one _) (by unfold maxLen; omega) (by omega) ?_))
        intro v7 w7 o7 f7 n7 s7 _
        have co7 := CollS.one co ((Fr.drewN _ _ _).trans' (Fr.alloc _ _ _)) o7 f7 n7
        clear co o7 f7 n7 s7
        go_wp2_with (fail)
        all_goals
         go_roundg (A1.length + 0)
         case measure => omega
         case rel => exact ⟨A1, [], _, _, _, _, _, rfl, rfl, rfl, by omega, lb, by omega, qb, by omega, by simp, by simp; omega, by (have h1 := HT.out; simp only [*, if_true, if_false] at h1; exact h1), HB, HN, co7⟩
      | cons y B1 =>
        obtain ⟨b1, o1, rfl, y0, y1, y2, y3⟩ := items_head fB
        cases hless : Op.bytesLess x.user.toList y.user.toList with
        | true =>
          have hO := HO.out
          rw [ofL_lt hless] at hO
          have HN : Hid ((O ++ [goneS x]) ++ ofL A1 (y :: B1) = ofL A B) := (show _ = _ by rw [List.append_assoc]; exact hO)
          have HT : Hid (Items w (if ca' = 1 then some ⟨b2, o2, none⟩ else some ⟨b2, o2 + 4, none⟩) A1) := items_tail HA.out la
          clear hO HO HA fA fB
          simp only [List.length_cons] at la lb ha1 hb1 ho
          have z1 : ((B1.length : Int) + 1 == 0) = false := by rw [beq_eq_false_iff_ne]; omega
          have z2 : decide ((B1.length : Int) + 1 = 0) = false := by rw [decide_eq_false_iff_not]; omega
          go_wp2_with (fail)
          go_quiet (fail)
          go_wp2_with (at_builtin; go_must (refine wpList_append_fp rfl (.tmp 53) (.tmp 59) 32 rfl 37 i0 (.agg #[.string ByteArray.empty, .string ByteArray.empty, .string ByteArray.empty, .int .i64 0, .bool false, .bool false]) 6 72 Try.underlying32 Hi.out Hz0.out Hz1.out Hz2.out rfl (by decide) _ O.length (O.flatMap DStep.cells) rfl (co.quiet ((Fr.drewN _ _ _).trans' (Fr.alloc _ _ _))).own _ 1 1 (goneS x).cells rfl rfl (by simp) (Sl.ofRow (Row.allocNew _ _ _)) (step_one _) (by unfold maxLen; omega) (by omega) ?_))
          intro v7 w7 o7 f7 n7 s7 _
          have co7 := CollS.one co ((Fr.drewN _ _ _).trans' (Fr.alloc _ _ _)) o7 f7 n7
          clear co o7 f7 n7 s7
          go_wp2_with (fail)
          all_goals
           go_roundg (A1.length + (B1.length + 1))
           case measure => omega
           case rel => exact ⟨A1, y :: B1, _, _, _, _, _, rfl, rfl, rfl, by omega, by simpa using lb, by omega, qb, by omega, by simpa using hb1, by simp; omega, by (have h1 := HT.out; simp only [*, if_true, if_false] at h1; exact h1), HB, HN, co7⟩
        | false =>
          by_cases he : x.user = y.user
          · cases hsb : sameB x y with
            | true =>
              have hO := HO.out
              rw [ofL_eq hless he hsb] at hO
              have HN : Hid (O ++ ofL A1 B1 = ofL A B) := hO
              obtain rfl := (sameB_iff x y).1 hsb
              have HTA : Hid (Items w (if ca' = 1 then some ⟨b2, o2, none⟩ else some ⟨b2, o2 + 4, none⟩) A1) := items_tail HA.out la
              have HTB : Hid (Items w (if cb' = 1 then some ⟨b1, o1, none⟩ else some ⟨b1, o1 + 4, none⟩) B1) := items_tail HB.out lb
              have hp27 : Try.prog.stoodInHeld 27 = false := by kernel_rfl
              have hg27 : Try.prog.eqGuardType Try.prog.depth 27 = false := by kernel_rfl
              clear fA fB hO HO HA HB hsb he
              simp only [List.length_cons] at la lb ha1 hb1 ho
              have z1 : ((B1.length : Int) + 1 == 0) = false := by rw [beq_eq_false_iff_ne]; omega
              have z2 : decide ((B1.length : Int) + 1 = 0) = false := by rw [decide_eq_false_iff_not]; omega
              go_wp2_with (fail)
              go_quiet (fail)
              go_wp2_with (fail)
              go_quiet (fail)
              go_wp2_with (fail)
              go_quiet (fail)
              go_wp2_with (fail)
              all_goals
                go_roundg (A1.length + B1.length)
                case measure => omega
                case rel => exact ⟨A1, B1, _, _, _, _, _, rfl, rfl, rfl, by omega, by omega, by omega, by omega, by omega, by omega, by omega, by (have h1 := HTA.out; simp only [*, if_true, if_false] at h1; exact h1), by (have h1 := HTB.out; simp only [*, if_true, if_false] at h1; exact h1), HN, CollE.drewN co _⟩
            | false =>
              have hO := HO.out
              rw [ofL_ne hless he hsb] at hO
              have HN : Hid ((O ++ [putS y]) ++ ofL A1 B1 = ofL A B) := (show _ = _ by rw [List.append_assoc]; exact hO)
              have HTA : Hid (Items w (if ca' = 1 then some ⟨b2, o2, none⟩ else some ⟨b2, o2 + 4, none⟩) A1) := items_tail HA.out la
              have HTB : Hid (Items w (if cb' = 1 then some ⟨b1, o1, none⟩ else some ⟨b1, o1 + 4, none⟩) B1) := items_tail HB.out lb
              have hp27 : Try.prog.stoodInHeld 27 = false := by kernel_rfl
              have hg27 : Try.prog.eqGuardType Try.prog.depth 27 = false := by kernel_rfl
              have hq : x.user.toList = y.user.toList := text_eq.2 he
              have hnb := @ne_branch x y he hsb
              have hl2 : Op.bytesLess y.user.toList y.user.toList = false := ltB_irrefl y.user
              clear fA fB hO HO HA HB hsb he
              simp only [List.length_cons] at la lb ha1 hb1 ho
              have z1 : ((B1.length : Int) + 1 == 0) = false := by rw [beq_eq_false_iff_ne]; omega
              have z2 : decide ((B1.length : Int) + 1 = 0) = false := by rw [decide_eq_false_iff_not]; omega
              go_wp2_with (fail)
              go_quiet (fail)
              go_wp2_with (fail)
              go_quiet (fail)
              go_wp2_with (fail)
              go_quiet (fail)
              go_wp2_with (fail)
              go_region_law
                ((refine step_append_fp (by rfl) (.tmp 85) (.tmp 94) 32 (by rfl) 37 i0 (.agg #[.string ByteArray.empty, .string ByteArray.empty, .string ByteArray.empty, .int .i64 0, .bool false, .bool false]) 6 72 Try.underlying32 Hi.out Hz0.out Hz1.out Hz2.out rfl (by decide) _ O.length (O.flatMap DStep.cells) (by rfl) ((CollE.drewN co _).quiet (Fr.alloc _ _ _)).own _ 1 1 (putS y).cells (by rfl) rfl (by simp) (Sl.ofRow (Row.allocNew _ _ _)) (step_one _) (by unfold maxLen; omega) (by omega) ?_
                  intro v7 w7 o7 f7 n7 s7 _
                  have co7 := CollS.one co ((Fr.drewN _ _ _).trans' (Fr.alloc _ _ _)) o7 f7 n7
                  clear co o7 f7 n7 s7))
              all_goals go_wp2_with (fail)
              all_goals
                go_roundg (A1.length + B1.length)
                case measure => omega
                case rel => exact ⟨A1, B1, _, _, _, _, _, rfl, rfl, rfl, by omega, by omega, by omega, by omega, by omega, by omega, by simp; omega, by (have h1 := HTA.out; simp only [*, if_true, if_false] at h1; exact h1), by (have h1 := HTB.out; simp only [*, if_true, if_false] at h1; exact h1), HN, co7⟩
          · have hq : (x.user.toList == y.user.toList) = false := by rw [same_text, decide_eq_false he]
            have hO := HO.out
            rw [ofL_put hless he] at hO
            have HN : Hid ((O ++ [putS y]) ++ ofL (x :: A1) B1 = ofL A B) := (show _ = _ by rw [List.append_assoc]; exact hO)
            have HTB : Hid (Items w (if cb' = 1 then some ⟨b1, o1, none⟩ else some ⟨b1, o1 + 4, none⟩) B1) := items_tail HB.out lb
            have He := Lib.hid he
            clear he fA fB hO HO HB
            simp only [List.length_cons] at la lb ha1 hb1 ho
            have z1 : ((B1.length : Int) + 1 == 0) = false := by rw [beq_eq_false_iff_ne]; omega
            have z2 : decide ((B1.length : Int) + 1 = 0) = false := by rw [decide_eq_false_iff_not]; omega
            go_wp2_with (fail)
            go_quiet (fail)
            go_wp2_with (fail)
            go_quiet (fail)
            go_wp2_with (fail)
            go_region_law
              ((refine step_append_fp (by rfl) (.tmp 22) (.tmp 31) 32 (by rfl) 37 i0 (.agg #[.string ByteArray.empty, .string ByteArray.empty, .string ByteArray.empty, .int .i64 0, .bool false, .bool false]) 6 72 Try.underlying32 Hi.out Hz0.out Hz1.out Hz2.out rfl (by decide) _ O.length (O.flatMap DStep.cells) (by rfl) ((CollE.drewN co _).quiet (Fr.alloc _ _ _)).own _ 1 1 (putS y).cells (by rfl) rfl (by simp) (Sl.ofRow (Row.allocNew _ _ _)) (step_one _) (by unfold maxLen; omega) (by omega) ?_
                intro v7 w7 o7 f7 n7 s7 _
                have co7 := CollS.one co ((Fr.drewN _ _ _).trans' (Fr.alloc _ _ _)) o7 f7 n7
                clear co o7 f7 n7 s7))
            all_goals go_wp2_with (fail)
            all_goals
              go_roundg (A1.length + 1 + B1.length)
              case measure => omega
              case rel => exact ⟨x :: A1, B1, _, _, _, _, _, rfl, rfl, rfl, by simpa using la, by omega, by omega, by omega, by simpa using ha1, by omega, by simp; omega, HA, by (have h1 := HTB.out; simp only [*, if_true, if_false] at h1; exact h1), HN, co7⟩
end Go.Proofs.Ytfedaolpanncoaa
