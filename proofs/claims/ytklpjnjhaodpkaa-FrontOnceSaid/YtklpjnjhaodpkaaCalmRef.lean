/- Contracts of the reference's calm: a list of pairs, and how many there may be. No condition. -/
import Derived.Test.YtklpjnjhaodpkaaCalmOps
namespace Go.Proofs.Ytklpjnjhaodpkaa
open Go.RowKit

theorem Try.infoPair : (Try.prog.info? 79).map (fun i => (i.zero, i.size, i.bytes)) = some (some (.agg #[.string ByteArray.empty, .string ByteArray.empty]), 2, 32) := by kernel_rfl

abbrev pcells : Pair → List Value := Pair.cells
theorem pcells_len (q : Pair) : (pcells q).length = 2 := rfl
theorem pcells_one (L : List (ByteArray × ByteArray)) : ∀ u ∈ L.flatMap pcells, u.oneCell' = true := by
  intro u hu
  obtain ⟨q, _, hq⟩ := List.mem_flatMap.1 hu
  simp [pcells, Pair.cells] at hq
  rcases hq with rfl | rfl <;> rfl
theorem pflat_len (L : List (ByteArray × ByteArray)) : (L.flatMap pcells).length = L.length * 2 := flat_len pcells 2 pcells_len L

structure CRefAt (w : World) (p m : Nat) (v : Value) (L : List (ByteArray × ByteArray)) : Prop where
  head : Row w p [v, .int .i64 m] 77
  own : Owns w 79 2 v L.length (L.flatMap pcells)
  ne : ¬ InBlock v p
  most : m ≤ 64
  le : L.length ≤ m
def IsCRef (S : Nat → Prop) (w : World) (p m : Nat) (L : List (ByteArray × ByteArray)) : Prop := ∃ v, CRefAt w p m v L ∧ ∀ k, S k ↔ k = p ∨ InBlock v k

section
variable {S T : Nat → Prop} {w w' : World} {p m : Nat} {L : List (ByteArray × ByteArray)} {v : Value}
theorem IsCRef.fr (h : IsCRef S w p m L) (F : Fr T w w') (hd : ∀ k, S k → ¬ T k) : IsCRef S w' p m L := by
  obtain ⟨v, hr, hS⟩ := h
  exact ⟨v, ⟨hr.head.fr F (hd _ ((hS _).2 (.inl rfl))), hr.own.fr F (fun k hk => hd _ ((hS _).2 (.inr hk))), hr.ne, hr.most, hr.le⟩, hS⟩
theorem IsCRef.drewN (h : IsCRef S w p m L) (n : Nat) : IsCRef S (w.drewN n) p m L := h.fr (Fr.drewN Nothing _ _) (fun _ _ h => h)
theorem IsCRef.drew (h : IsCRef S w p m L) : IsCRef S w.drew p m L := h.fr (Fr.drew Nothing _) (fun _ _ h => h)
theorem IsCRef.lt (h : IsCRef S w p m L) {k : Nat} (hk : S k) : k < w.heap.size := by
  obtain ⟨v, hr, hS⟩ := h
  rcases (hS k).1 hk with rfl | h1
  · exact hr.head.lt
  · exact hr.own.lt h1
theorem IsCRef.most (h : IsCRef S w p m L) : m ≤ 64 := by obtain ⟨v, hr, hS⟩ := h; exact hr.most
theorem IsCRef.le (h : IsCRef S w p m L) : L.length ≤ m := by obtain ⟨v, hr, hS⟩ := h; exact hr.le

/-- After a call: it has grown into new blocks alone. -/
def CRefGone (S : Nat → Prop) (w : World) (p m : Nat) (L : List (ByteArray × ByteArray)) (w' : World) : Prop :=
  ∃ S', IsCRef S' w' p m L ∧ (∀ k, S' k → S k ∨ w.heap.size ≤ k) ∧ Fr S w w'

def CRefNew (m : Nat) (w : World) (e : Ending) (w' : World) : Prop :=
  ∃ p S, e = .returned (.pointer (some ⟨p, 0, none⟩)) ∧ IsCRef S w' p m [] ∧ (∀ k, S k → w.heap.size ≤ k) ∧ Fr Nothing w w'
set_option maxHeartbeats 400000 in
theorem cref_new (n : Int) (m : Nat) (w : World) (hm : (m : Int) = min (max n 1) 64) :
    Calls Try.prog 35 #[.int .i64 n] w (CRefNew m w) := by
  go_enter Try.func35, Try.ntmps35
  go_wp2_with (fail)
  all_goals
    go_ret
    refine ⟨w.heap.size, _, rfl, ⟨.slice none 0 0, ⟨?_, Owns.nil _ _ _, by simp [InBlock, Value.ownBlock], by omega, by simp⟩, fun k => Iff.rfl⟩, fun k hk => ?_, Fr.alloc _ _ _⟩
    · first
        | (rw [show (m : Int) = 1 from (by omega)]; exact Row.allocNew w [.slice none 0 0, .int .i64 1] 77)
        | (rw [show (m : Int) = 64 from (by omega)]; exact Row.allocNew w [.slice none 0 0, .int .i64 64] 77)
        | (rw [hm]; exact Row.allocNew w [.slice none 0 0, .int .i64 (min (max n 1) 64)] 77)
        | (rw [show (m : Int) = n from (by omega)]; exact Row.allocNew w [.slice none 0 0, .int .i64 n] 77)
    · rcases hk with rfl | hk
      · exact Nat.le_refl _
      · simp [InBlock, Value.ownBlock] at hk

/-- Where a contact's text stands. -/
def AtYes (L : List (ByteArray × ByteArray)) (k : ByteArray) (w : World) (e : Ending) (w' : World) : Prop :=
  ∃ (j : Nat) (h : j < L.length), e = .returned (.int .i64 j) ∧ L[j].1 = k ∧ ∃ n, w' = w.drewN n
theorem CRefAt.recs {a : Option Addr} {n c : Nat} (h : CRefAt w p m (.slice a n c) L) : Recs pcells 2 w a L := ⟨pcells_len, by decide, h.own.sl.2⟩

set_option maxHeartbeats 1000000 in
theorem cref_at_yes (k : ByteArray) (h : IsCRef S w p m L) (hf : (findT L k).isSome) :
    Calls Try.prog 62 #[.pointer (some ⟨p, 0, none⟩), .string k] w (AtYes L k w) := by
  obtain ⟨v, hr, hS⟩ := h
  obtain ⟨a, c, rfl, hlc, hcm⟩ := hr.own.shape
  have h0 := hr.head.cell 0 rfl
  have hle := hr.le
  have hmo := hr.most
  have hrec := hr.recs
  have Hf := Lib.hid hf
  clear hr hS hf hcm
  go_enter Try.func62, Try.ntmps62
  go_wp2_with (fail)
  go_loopw [5] (fun i wr => ∃ j : Nat, j ≤ L.length ∧ i = .int .i64 j ∧ Hid (∀ i (h : i < L.length), i < j → L[i].1 ≠ k) ∧ w = wr) (fun i _ => L.length - (intOf i).toNat)
  case atStart => exact ⟨0, Nat.zero_le _, rfl, fun i h hi => absurd hi (Nat.not_lt_zero _), rfl⟩
  case round =>
    obtain ⟨j, hj, rfl, HA, rfl⟩ := hrel
    by_cases hlt : j < L.length
    · obtain ⟨b, o, rfl, hc⟩ := hrec.at_ hlt
      have c0 := hc 0 _ rfl
      rw [Nat.add_zero] at c0
      by_cases he : L[j].1 = k
      · have hd : (L[j].1.toList == k.toList) = true := by rw [same_text]; simp [he]
        have He := Lib.hid he
        clear hc he
        go_wp2_with (fail)
        go_ret
        exact ⟨j, hlt, rfl, He.out, 0, rfl⟩
      · have hd : (L[j].1.toList == k.toList) = false := by rw [same_text]; simp [he]
        have He := Lib.hid he
        clear hc he
        go_wp2_with (fail)
        go_roundw
        case rel =>
          refine ⟨j + 1, by omega, by go_num, (show ∀ i (h : i < L.length), i < j + 1 → L[i].1 ≠ k from fun i h hi => ?_), trivial⟩
          by_cases e : i = j
          · subst e; exact He.out
          · exact HA.out i h (by omega)
        case measure => simp [intOf]; omega
    · exfalso
      obtain rfl : j = L.length := by omega
      have := Hf.out
      have hn : findT L k = none := find_none.2 fun hm => by
        obtain ⟨q, hq, hqe⟩ := List.mem_map.1 hm
        obtain ⟨i, hi, rfl⟩ := List.mem_iff_getElem.1 hq
        exact HA.out i hi hi hqe
      rw [hn] at this; simp at this

set_option maxHeartbeats 1000000 in
theorem cref_at_no (k : ByteArray) (h : IsCRef S w p m L) (hf : findT L k = none) :
    Calls Try.prog 62 #[.pointer (some ⟨p, 0, none⟩), .string k] w fun e w' => e = .returned (.int .i64 (-1)) ∧ w = w' := by
  obtain ⟨v, hr, hS⟩ := h
  obtain ⟨a, c, rfl, hlc, hcm⟩ := hr.own.shape
  have h0 := hr.head.cell 0 rfl
  have hle := hr.le
  have hmo := hr.most
  have hrec := hr.recs
  have Hf := Lib.hid hf
  clear hr hS hf hcm
  go_enter Try.func62, Try.ntmps62
  go_wp2_with (fail)
  go_loopw [5] (fun i wr => ∃ j : Nat, j ≤ L.length ∧ i = .int .i64 j ∧ w = wr) (fun i _ => L.length - (intOf i).toNat)
  case atStart => exact ⟨0, Nat.zero_le _, rfl, rfl⟩
  case round =>
    obtain ⟨j, hj, rfl, rfl⟩ := hrel
    by_cases hlt : j < L.length
    · obtain ⟨b, o, rfl, hc⟩ := hrec.at_ hlt
      have c0 := hc 0 _ rfl
      rw [Nat.add_zero] at c0
      have he : L[j].1 ≠ k := fun e => find_none.1 Hf.out (e ▸ List.mem_map_of_mem (List.getElem_mem hlt))
      have hd : (L[j].1.toList == k.toList) = false := by rw [same_text]; simp [he]
      clear hc he
      go_wp2_with (fail)
      go_roundw
      case rel => exact ⟨j + 1, by omega, by go_num, trivial⟩
      case measure => simp [intOf]; omega
    · go_wp2_with (fail)
      go_ret
      exact ⟨rfl, rfl⟩

/-- A struck list, as the reference makes it. -/
theorem strike_split {L : List Pair} {j : Nat} (hn : (L.map Prod.fst).Nodup) (hj : j < L.length) : L.take j ++ L.drop (j + 1) = strike L L[j].1 := by
  have e : L = L.take j ++ (L[j] :: L.drop (j + 1)) := by
    rw [← List.drop_eq_getElem_cons hj]; exact (List.take_append_drop j L).symm
  have hn2 := hn
  rw [e, List.map_append, List.map_cons, List.nodup_append] at hn2
  obtain ⟨_, g2, g3⟩ := hn2
  rw [List.nodup_cons] at g2
  have h1 : strike (L.take j) L[j].1 = L.take j := List.filter_eq_self.2 fun x hx => by
    simp only [decide_eq_true_eq]
    exact fun e => g3 _ (List.mem_map_of_mem hx) _ (List.mem_cons_self ..) e
  have h2 : strike (L.drop (j + 1)) L[j].1 = L.drop (j + 1) := List.filter_eq_self.2 fun x hx => by
    simp only [decide_eq_true_eq]
    exact fun e => g2.1 (e ▸ List.mem_map_of_mem hx)
  have h3 : strike L L[j].1 = strike (L.take j) L[j].1 ++ strike (L[j] :: L.drop (j + 1)) L[j].1 := by
    rw [← List.filter_append, ← e]
  rw [h3, h1, show strike (L[j] :: L.drop (j + 1)) L[j].1 = strike (L.drop (j + 1)) L[j].1 from List.filter_cons_of_neg (by simp), h2]

/-- A list of the reference laid anew. -/
theorem CRefAt.relaid {w7 : World} {v7 : Value} {M : List Pair} (hd : Row w7 p [v, .int .i64 m] 77) (o7 : Owns w7 79 2 v7 M.length (M.flatMap pcells)) (hne : ¬ InBlock v7 p) (hm : m ≤ 64) (hl : M.length ≤ m) :
    CRefAt (w7.setCell ⟨p, 0, none⟩ v7) p m v7 M :=
  ⟨hd.set 0 _, o7.fr (Fr.setCell (S := fun k => k = p) (p := ⟨p, 0, none⟩) rfl v7) (fun k hk e => by subst e; exact hne hk), hne, hm, hl⟩

set_option maxHeartbeats 1000000 in
theorem cref_drop_no (k : ByteArray) (h : IsCRef S w p m L) (hf : findT L k = none) :
    Calls Try.prog 49 #[.pointer (some ⟨p, 0, none⟩), .string k] w fun e w' => e = .returned (.bool false) ∧ w = w' := by
  go_enter Try.func49, Try.ntmps49
  go_wp2_with (fail)
  refine (cref_at_no k h hf).mono ?_
  rintro e w1 ⟨rfl, rfl⟩
  go_wp2_with (fail)
  go_ret
  exact ⟨rfl, rfl⟩

set_option maxHeartbeats 2000000 in
theorem cref_drop_yes (k : ByteArray) (h : IsCRef S w p m L) (hn : (L.map Prod.fst).Nodup) (hf : (findT L k).isSome) :
    Calls Try.prog 49 #[.pointer (some ⟨p, 0, none⟩), .string k] w fun e w' => e = .returned (.bool true) ∧ CRefGone S w p m (strike L k) w' := by
  obtain ⟨i0, hi, hz0, hz1, hz2⟩ := info_parts Try.infoPair
  have Hz2 := Lib.hid hz2
  have Hz1 := Lib.hid hz1
  have Hz0 := Lib.hid hz0
  have Hi := Lib.hid hi
  have Hn := Lib.hid hn
  clear hz2 hz1 hz0 hi hn
  go_enter Try.func49, Try.ntmps49
  go_wp2_with (fail)
  refine (cref_at_yes k h hf).mono ?_
  rintro e w1 ⟨j, hj, rfl, hjk, n1, rfl⟩
  have hsp := strike_split Hn.out hj
  rw [hjk] at hsp
  obtain ⟨X, hX⟩ : ∃ X, X = L.take j := ⟨_, rfl⟩
  obtain ⟨Y, hY⟩ : ∃ Y, Y = L.drop (j + 1) := ⟨_, rfl⟩
  have hXl : X.length = j := by rw [hX]; simp; omega
  have hYl : Y.length = L.length - (j + 1) := by rw [hY]; simp
  have HXl := Lib.hid hXl
  have HYl := Lib.hid hYl
  have Hsp : Hid (X ++ Y = strike L k) := (show _ = _ by rw [hX, hY]; exact hsp)
  obtain ⟨v, hr, hS⟩ := h.drewN n1
  obtain ⟨a, c, rfl, hlc, hcm⟩ := hr.own.shape
  have hle := hr.le
  have hmo := hr.most
  have HS := Lib.hid hS
  have Hr := Lib.hid hr
  have hown := hr.own
  have hrec := hr.recs
  obtain ⟨ad, rfl⟩ : ∃ ad, a = some ad := by
    obtain ⟨b, o, hb, _⟩ := hrec.at_ hj
    exact ⟨_, hb⟩
  obtain ⟨b, rfl⟩ : ∃ b, ad = ⟨b, 0, none⟩ := by
    rcases hown.2 with ⟨h1, _⟩ | ⟨g, cap, cur, h1, _⟩
    · simp at h1
    · simp at h1; exact ⟨g, h1.1⟩
  have HX := Lib.hid hX
  have HY := Lib.hid hY
  have Hown := Lib.hid hown
  have Hrec := Lib.hid hrec
  have hj1 : (j : Int) ≤ c := by omega
  have hj2 : (j : Int) + 1 ≤ L.length := by omega
  have hj3 : (L.length : Int) ≤ c := by omega
  clear hr hS hsp hX hY hXl hYl hjk hown hrec hf hcm h
  go_wp2_with (fail)
  have k0 : (w.drewN n1).cell? ⟨p, 0, none⟩ = some (.slice (some ⟨b, 0, none⟩) L.length c) := Hr.out.head.cell 0 rfl
  have kf : Fr Nothing w (w.drewN n1) := Fr.drewN _ _ _
  have kh : Row (w.drewN n1) p [.slice (some ⟨b, 0, none⟩) L.length c, .int .i64 m] 77 := Hr.out.head
  have hpw : p < (w.drewN n1).heap.size := kh.lt
  have Kh := Lib.hid kh
  have ksl : Sl (w.drewN n1) (some ⟨b, 0, none⟩) (L.flatMap pcells) := Hown.out.sl.2
  have kX : Sl (w.drewN n1) (some ⟨b, 0, none⟩) (X.flatMap pcells) := by rw [HX.out]; exact (Hrec.out.take j).2.2
  have kY : Sl (w.drewN n1) (if c = j + 1 then some ⟨b, 0, none⟩ else some ⟨b, (j + 1) * 2, none⟩) (Y.flatMap pcells) := by
    by_cases hcj : c = j + 1
    · rw [if_pos hcj]
      have : Y = [] := List.eq_nil_of_length_eq_zero (by have := HYl.out; omega)
      rw [this]; exact Sl.nil _ _
    · rw [if_neg hcj]
      have h1 := ksl.drop ((j + 1) * 2)
      rw [Nat.zero_add] at h1
      have h2 : (L.flatMap pcells).drop ((j + 1) * 2) = Y.flatMap pcells := by
        have e : L = L.take (j + 1) ++ Y := by rw [HY.out]; exact (List.take_append_drop (j + 1) L).symm
        have hl2 : ((L.take (j + 1)).flatMap pcells).length = (j + 1) * 2 := by rw [pflat_len]; simp; omega
        have e2 : L.flatMap pcells = (L.take (j + 1)).flatMap pcells ++ Y.flatMap pcells := by rw [← List.flatMap_append, ← e]
        rw [e2, List.drop_left' hl2]
      rw [h2] at h1; exact h1
  clear kh ksl
  generalize w.drewN n1 = wq at *
  have kXd : Sl wq.drew (some ⟨b, 0, none⟩) (X.flatMap pcells) := kX
  have KX := Lib.hid kXd
  have KY := Lib.hid kY
  clear kX kXd kY
  clear k0
  have k0 : wq.cell? ⟨p, 0, none⟩ = some (.slice (some ⟨b, 0, none⟩) L.length c) := Kh.out.cell 0 rfl
  have e1 : IntKind.i64.wrap ((j : Int) + 1) = ((j + 1 : Nat) : Int) := by rw [IntWalk.i64_in _ (by omega)]; omega
  have e2 : ((j + 1 : Nat) : Int) ≤ c := by omega
  have e4 : (0 : Int) ≤ (j : Int) + 1 := by omega
  have e3 : ((j + 1 : Nat) : Int) ≤ L.length := by omega
  have hnY : (if c = j + 1 then some (⟨b, 0, none⟩ : Addr) else some ⟨b, (j + 1) * 2, none⟩) = none → L.length - (j + 1) = 0 ∧ c - (j + 1) = 0 := fun h => by by_cases hcj : c = j + 1 <;> simp [hcj] at h
  have HnY := Lib.hid hnY
  clear hnY
  go_region_law
    ((first
      | (refine step_append_fp (by rfl) (.const (.slice none 0 0)) (.tmp 17) 75 (by rfl) 79 i0 (.agg #[.string ByteArray.empty, .string ByteArray.empty]) 2 32 Try.underlying75 Hi.out Hz0.out Hz1.out Hz2.out rfl (by decide) (.slice none 0 0) 0 [] (by rfl) (Owns.nil _ _ _) (some ⟨b, 0, none⟩) j c (X.flatMap pcells) (by rfl) (by rw [pflat_len, HXl.out]) (by simp) KX.out (pcells_one X) (by unfold maxLen; omega) (by omega) ?_
         intro v7 w7 o7 f7 n7 s7 _
         have kY7 : Sl w7 _ (Y.flatMap pcells) := (show Sl wq.drew _ _ from KY.out).fr f7.ofNil (fun _ _ h => h)
         have hd7 : Row w7 p [.slice (some ⟨b, 0, none⟩) L.length c, .int .i64 m] 77 := (show Row wq.drew _ _ _ from Kh.out).fr f7.ofNil (fun h => h)
         have hc7 := hd7.cell 0 rfl
         have Hd7 := Lib.hid hd7
         clear hd7)
      | (refine step_append_fp (by rfl) (.tmp 18) (.tmp 25) 75 (by rfl) 79 i0 (.agg #[.string ByteArray.empty, .string ByteArray.empty]) 2 32 Try.underlying75 Hi.out Hz0.out Hz1.out Hz2.out rfl (by decide) v7 _ _ (by rfl) o7 _ (L.length - (j + 1)) _ (Y.flatMap pcells) (by rfl) (by rw [pflat_len, HYl.out]) HnY.out kY7 (pcells_one Y) (by unfold maxLen; omega) (by omega) ?_
         intro v8 w8 o8 f8 n8 s8 _
         have hn7 : ¬ InBlock v7 p := fun hq => by have := n7.fresh hq; simp at this; omega
         have hd8 := Hd7.out.fr f8 hn7
         have hp8 := hd8.free 0
         have hc8 := hd8.cell 0 rfl
         have Hd8 := Lib.hid hd8
         have o8' : Owns w8 79 2 v8 (strike L k).length ((strike L k).flatMap pcells) := by
           have e1 : (strike L k).length = 0 + j + (L.length - (j + 1)) := by rw [← Hsp.out, List.length_append, HXl.out, HYl.out]; omega
           rw [e1, ← Hsp.out, List.flatMap_append]
           exact o8
         clear hd8 o8
         obtain ⟨a8, c8, rfl, _, _⟩ := o8'.shape)))
  all_goals go_wp2_with (fail)
  all_goals
    go_ret
    have hset : Fr (fun q => q = p) w8 (w8.setCell ⟨p, 0, none⟩ (.slice a8 (strike L k).length c8)) := Fr.setCell (S := fun q => q = p) (p := ⟨p, 0, none⟩) rfl _
    have hn8 : ¬ InBlock (.slice a8 (strike L k).length c8) p := fun hq => by
      rcases n8 p hq with h1 | h1
      · exact hn7 h1
      · have := f7.size; simp at this; omega
    have f78 : Fr Nothing wq.drew w8 := f7.ofNil.trans f8 (fun q hq h7 => by have := n7.fresh h7; omega)
    refine ⟨rfl, _, ⟨_, CRefAt.relaid Hd8.out o8' hn8 hmo (Nat.le_trans (List.length_filter_le _ _) hle), fun q => Iff.rfl⟩, fun q hq => ?_, (((kf.trans' (Fr.drew _ _)).trans' f78).mono fun _ _ h => h.elim).trans' (hset.mono fun q _ hq => (HS.out q).2 (.inl hq))⟩
    rcases hq with rfl | hq
    · exact .inl ((HS.out _).2 (.inl rfl))
    · right
      have h0 := kf.size
      have h7 := f7.size
      simp at h7
      rcases n8 q hq with h1 | h1
      · have := n7.fresh h1; simp at this; omega
      · omega

set_option maxHeartbeats 1000000 in
theorem cref_put_no (k s : ByteArray) (h : IsCRef S w p m L) (hf : findT L k = none) (hl : m ≤ L.length) :
    Calls Try.prog 37 #[.pointer (some ⟨p, 0, none⟩), .string k, .string s] w fun e w' => e = .returned (.bool false) ∧ ∃ n, w' = w.drewN n := by
  obtain ⟨v, hr, hS⟩ := h
  obtain ⟨a, c, rfl, _, _⟩ := hr.own.shape
  have h0 := hr.head.cell 0 rfl
  have h1 := hr.head.cell 1 rfl
  have hle := hr.le
  have hmo := hr.most
  have hI : IsCRef S w p m L := ⟨_, hr, hS⟩
  clear hr hS
  go_enter Try.func37, Try.ntmps37
  go_wp2_with (fail)
  go_quiet ((go_at_call 49; exact Calls.quiet_of_same ((cref_drop_no k (hI.drewN _) hf).mono fun e w' ⟨h1, h2⟩ => ⟨h1, h2.symm⟩)))
  go_wp2_with (fail)
  go_ret
  exact ⟨rfl, nq, rfl⟩

set_option maxHeartbeats 2000000 in
theorem cref_put_ok (k s : ByteArray) (h : IsCRef S w p m L) (hn : (L.map Prod.fst).Nodup) (hroom : (findT L k).isSome ∨ L.length < m) :
    Calls Try.prog 37 #[.pointer (some ⟨p, 0, none⟩), .string k, .string s] w fun e w' => e = .returned (.bool true) ∧ CRefGone S w p m (strike L k ++ [(k, s)]) w' := by
  obtain ⟨i0, hi, hz0, hz1, hz2⟩ := info_parts Try.infoPair
  have Hz2 := Lib.hid hz2
  have Hz1 := Lib.hid hz1
  have Hz0 := Lib.hid hz0
  have Hi := Lib.hid hi
  have Hroom := Lib.hid hroom
  have Hn := Lib.hid hn
  clear hz2 hz1 hz0 hi hroom hn
  go_enter Try.func37, Try.ntmps37
  go_upto_region 1 with (fail)
  go_cut [22] (fun t wx => t = .bool false ∧ ∃ S1, IsCRef S1 wx p m (strike L k) ∧ (strike L k).length < m ∧ (∀ q, S1 q → S q ∨ w.heap.size ≤ q) ∧ Fr S w wx)
  case first =>
    by_cases hf : (findT L k).isSome
    · have Hf := Lib.hid hf
      clear hf
      refine wp_region_any (by kernel_rfl) ?_
      change wpAny _ _ _ _ _ _ _ (World.drew _)
      refine wpAny_take (i := 0) (v := .pointer (some ⟨p, 0, none⟩)) rfl (by kernel_rfl) (by kernel_rfl) (by kernel_rfl) (fun _ _ _ h => h) (Or.inl ⟨by rfl, (by intro w; go_simp)⟩) ?_
      simp only [Act.put, List.setIfInBounds_toArray]
      refine wpAny_take (i := 1) (v := .string k) rfl (by kernel_rfl) (by kernel_rfl) (by kernel_rfl) (fun _ _ _ h => h) (Or.inl ⟨by rfl, (by intro w; go_simp)⟩) ?_
      simp only [Act.put]
      refine wpAny_ready (rs := [2]) (by kernel_rfl) (by simp) ?_
      refine AllReady.cons rfl (fun K hK => ?_) AllReady.nil
      go_simp
      go_wp2_with (go_at_call 49; refine (cref_drop_yes k h.drew Hn.out Hf.out).mono ?_; rintro e w1 ⟨rfl, g1⟩)
      refine wpAny_take (i := 3) (v := .bool false) rfl (by kernel_rfl) (by kernel_rfl) (by kernel_rfl) (fun _ _ _ h => h) (Or.inl ⟨by rfl, (by intro w; go_simp)⟩) ?_
      simp only [Act.put, List.setIfInBounds_toArray]
      refine wpAny_take (i := 4) (v := .bool false) rfl (by kernel_rfl) (by kernel_rfl) (by kernel_rfl) (fun _ _ _ h => h) (Or.inl ⟨by rfl, (by intro w; go_simp)⟩) ?_
      simp only [Act.put]
      refine wpAny_take (i := 5) (v := undef) rfl (by kernel_rfl) (by kernel_rfl) (by kernel_rfl) (fun _ _ _ h => h) (Or.inr ⟨(by kernel_rfl), rfl⟩) ?_
      simp only [Act.put]
      refine wpAny_take (i := 6) (v := undef) rfl (by kernel_rfl) (by kernel_rfl) (by kernel_rfl) (fun _ _ _ h => h) (Or.inr ⟨(by kernel_rfl), rfl⟩) ?_
      simp only [Act.put]
      refine wpAny_take (i := 7) (v := undef) rfl (by kernel_rfl) (by kernel_rfl) (by kernel_rfl) (fun _ _ _ h => h) (Or.inr ⟨(by kernel_rfl), rfl⟩) ?_
      simp only [Act.put]
      refine wpAny_take (i := 8) (v := undef) rfl (by kernel_rfl) (by kernel_rfl) (by kernel_rfl) (fun _ _ _ h => h) (Or.inr ⟨(by kernel_rfl), rfl⟩) ?_
      simp only [Act.put]
      refine wpAny_take (i := 9) (v := undef) rfl (by kernel_rfl) (by kernel_rfl) (by kernel_rfl) (fun _ _ _ h => h) (Or.inr ⟨(by kernel_rfl), rfl⟩) ?_
      simp only [Act.put]
      refine wpAny_take (i := 10) (v := undef) rfl (by kernel_rfl) (by kernel_rfl) (by kernel_rfl) (fun _ _ _ h => h) (Or.inr ⟨(by kernel_rfl), rfl⟩) ?_
      simp only [Act.put]
      refine wpAny_take (i := 11) (v := undef) rfl (by kernel_rfl) (by kernel_rfl) (by kernel_rfl) (fun _ _ _ h => h) (Or.inr ⟨(by kernel_rfl), rfl⟩) ?_
      simp only [Act.put]
      refine wpAny_take (i := 12) (v := undef) rfl (by kernel_rfl) (by kernel_rfl) (by kernel_rfl) (fun _ _ _ h => h) (Or.inr ⟨(by kernel_rfl), rfl⟩) ?_
      simp only [Act.put]
      refine wpAny_take (i := 13) (v := undef) rfl (by kernel_rfl) (by kernel_rfl) (by kernel_rfl) (fun _ _ _ h => h) (Or.inr ⟨(by kernel_rfl), rfl⟩) ?_
      simp only [Act.put]
      refine wpAny_take (i := 14) (v := undef) rfl (by kernel_rfl) (by kernel_rfl) (by kernel_rfl) (fun _ _ _ h => h) (Or.inr ⟨(by kernel_rfl), rfl⟩) ?_
      simp only [Act.put]
      refine wpAny_take (i := 15) (v := .bool false) rfl (by kernel_rfl) (by kernel_rfl) (by kernel_rfl) (fun _ _ _ h => h) (Or.inl ⟨by rfl, (by intro w; go_simp)⟩) ?_
      simp only [Act.put]
      refine wpAny_done (by kernel_rfl) ?_ _
      go_simp
      go_wp2_with (fail)
      go_meet
      case rel =>
        obtain ⟨S1, r1, hs1, f1⟩ := g1
        exact ⟨rfl, S1, r1, by have := strike_lt Hf.out; have := h.le; omega, hs1, (Fr.drew S w).trans' f1⟩
    · have hf' : findT L k = none := by simpa using hf
      have Hf := Lib.hid hf'
      have hlt : L.length < m := by rcases Hroom.out with h1 | h1
                                    · exact absurd h1 hf
                                    · exact h1
      have hst := strike_none hf'
      have Hst := Lib.hid hst
      clear hf hf' hst
      obtain ⟨v, hr, hS⟩ := h
      obtain ⟨a, c, rfl, _, _⟩ := hr.own.shape
      have h0 := hr.head.cell 0 rfl
      have h1 := hr.head.cell 1 rfl
      have hle := hr.le
      have hmo := hr.most
      have hI : IsCRef S w p m L := ⟨_, hr, hS⟩
      clear hr hS
      have hdec : decide (m ≤ L.length) = false := by simp; omega
      go_quiet ((go_at_call 49; exact Calls.quiet_of_same ((cref_drop_no k (hI.drewN _) Hf.out).mono fun e w' ⟨h1, h2⟩ => ⟨h1, h2.symm⟩)))
      go_wp2_with (fail)
      go_meet
      case rel => exact ⟨rfl, S, by rw [Hst.out]; exact hI.drewN nq, by rw [Hst.out]; exact hlt, fun q hq => .inl hq, Fr.drewN _ _ _⟩
  case rest =>
    obtain ⟨rfl, S1, h1, hlt, hs1, f1⟩ := hcut
    obtain ⟨M, hM⟩ : ∃ M, M = strike L k := ⟨_, rfl⟩
    rw [← hM] at h1 hlt
    have HM := Lib.hid hM
    have hSp : S p := by obtain ⟨v, hr, hS⟩ := h; exact (hS p).2 (.inl rfl)
    clear hM h
    obtain ⟨v, hr, hS⟩ := h1
    obtain ⟨av, cv, rfl, _, _⟩ := hr.own.shape
    have HS := Lib.hid hS
    have Hr := Lib.hid hr
    have h0 := hr.head.cell 0 rfl
    have hmo := hr.most
    have hrow : Row (wc.alloc (.cells #[Value.string k, Value.string s] 79)) wc.heap.size [Value.string k, Value.string s] 79 := Row.allocNew wc [Value.string k, Value.string s] 79
    have hsl1 : Sl (wc.alloc (.cells #[Value.string k, Value.string s] 79)) (some ⟨wc.heap.size, 0, none⟩) [Value.string k, Value.string s] := Sl.ofRow hrow
    have fa := Fr.alloc Nothing wc (.cells #[Value.string k, Value.string s] 79)
    have own3 := hr.own.fr fa (fun _ _ h => h)
    have hd3 := hr.head.fr fa (fun h => h)
    have Hd3 := Lib.hid hd3
    clear hr hS hd3 hrow
    go_wp2_with (at_builtin; go_must (refine wpList_append_fp rfl (.tmp 27) (.tmp 31) 75 rfl 79 i0 (.agg #[.string ByteArray.empty, .string ByteArray.empty]) 2 32 Try.underlying75 Hi.out Hz0.out Hz1.out Hz2.out rfl (by decide) _ _ _ rfl own3 _ 1 1 [Value.string k, Value.string s] rfl rfl (by simp) hsl1 (by simp [Value.oneCell']) (by unfold maxLen; omega) (by omega) ?_))
    intro v7 w7 o7 f7 n7 s7 _
    have hd7 := Hd3.out.fr f7 Hr.out.ne
    have p7 := hd7.free 0
    have p7' := hd7.cell 0 rfl
    have Hd7 := Lib.hid hd7
    obtain ⟨a7, c7, rfl, _, _⟩ := o7.shape
    clear hd7 own3 hsl1 h0
    go_wp2_with (fail)
    go_ret
    rw [← HM.out]
    have hr := Hr.out
    have hplt := hr.head.lt
    have hnp : ¬ InBlock (.slice a7 (M.length + 1) c7) p := fun hq => by
      rcases n7 p hq with h1 | h1
      · exact hr.ne h1
      · simp at h1; omega
    have fset : Fr (fun q => q = p) w7 (w7.setCell ⟨p, 0, none⟩ (.slice a7 (M.length + 1) c7)) := Fr.setCell (S := fun q => q = p) (p := ⟨p, 0, none⟩) rfl _
    have o8 : Owns w7 79 2 (.slice a7 (M.length + 1) c7) (M ++ [(k, s)]).length ((M ++ [(k, s)]).flatMap pcells) := by
      have e1 : (M ++ [(k, s)]).flatMap pcells = M.flatMap pcells ++ [Value.string k, Value.string s] := by simp [Pair.cells]
      rw [e1, List.length_append]
      exact o7
    refine ⟨rfl, _, ⟨_, CRefAt.relaid Hd7.out o8 hnp hmo (by simp; omega), fun q => Iff.rfl⟩, fun q hq => ?_, ?_⟩
    · rcases hq with rfl | hq
      · exact .inl hSp
      · rcases n7 q hq with h1 | h1
        · exact hs1 q ((HS.out _).2 (.inr h1))
        · right; have := f1.size; simp at h1; omega
    · have f17 : Fr S1 wc (w7.setCell ⟨p, 0, none⟩ (.slice a7 (M.length + 1) c7)) := ((fa.mono fun _ _ h => h.elim).trans' (f7.mono fun q _ hq => (HS.out q).2 (.inr hq))).trans' (fset.mono fun q _ hq => (HS.out q).2 (.inl hq))
      exact f1.trans f17 fun q hq h1 => by
        rcases hs1 q h1 with h2 | h2
        · exact h2
        · omega

set_option maxHeartbeats 1000000 in
theorem cref_texts (z : Nat) (f : Pair → ByteArray) (hz : z ≤ 1) (hf : ∀ q : Pair, (Pair.cells q)[z]? = some (.string (f q))) (h : IsCRef S w p m L) :
    Calls Try.prog 47 #[.pointer (some ⟨p, 0, none⟩), .int .i64 z] w (Told (L.map f) w) := by
  obtain ⟨i0, hi, hz0, hz1, hz2⟩ := info_parts Try.infoText
  have Hz2 := Lib.hid hz2
  have Hz1 := Lib.hid hz1
  have Hz0 := Lib.hid hz0
  have Hi := Lib.hid hi
  have Hf := Lib.hid hf
  clear hz2 hz1 hz0 hi hf
  obtain ⟨v, hr, hS⟩ := h
  obtain ⟨a, c, rfl, hlc, hcm⟩ := hr.own.shape
  have hh := hr.head
  have hrec := hr.recs
  have hle := hr.le
  have hmo := hr.most
  have Hh := Lib.hid hh
  have Hrec := Lib.hid hrec
  have hz2 : (z : Int) < 2 := by omega
  clear hr hS hcm hh hrec
  go_enter Try.func47, Try.ntmps47
  go_wp2_with (fail)
  go_loopg [5, 6] L.length (fun g v i wr => ∃ (k : Nat) (O : List ByteArray), k ≤ L.length ∧ g = L.length - k ∧ i = .int .i64 k ∧ Hid (O = (L.take k).map f) ∧ Coll w v O wr)
  case atStart => exact ⟨0, [], Nat.zero_le _, rfl, rfl, rfl, CollE.start _ _ _⟩
  case round =>
    obtain ⟨k, O, hk, rfl, rfl, HO, co⟩ := hrel
    have e0 := (Hh.out.fr co.fr (fun h => h)).cell 0 rfl
    have hln : O.length ≤ 64 := by rw [HO.out]; simp; omega
    by_cases hlt : k < L.length
    · obtain ⟨b1, o1, rfl, hc1⟩ := (Hrec.out.fr co.fr (fun _ _ h => h)).at_ hlt
      have c1 := hc1 z _ (Hf.out _)
      obtain ⟨y, hy⟩ : ∃ y, y = f L[k] := ⟨_, rfl⟩
      rw [← hy] at c1
      have Hy := Lib.hid hy
      have hrow : Row (wr.alloc (.cells #[Value.string y] 9)) wr.heap.size [Value.string y] 9 := Row.allocNew wr [Value.string y] 9
      have hsl1 : Sl (wr.alloc (.cells #[Value.string y] 9)) (some ⟨wr.heap.size, 0, none⟩) [Value.string y] := Sl.ofRow hrow
      have own1 := (co.quiet (Fr.alloc Nothing wr (.cells #[Value.string y] 9))).own
      clear hy hrow hc1
      go_wp2_with (at_builtin; go_must (refine wpList_append_fp rfl (.tmp 16) (.tmp 26) 28 rfl 9 i0 (.string ByteArray.empty) 1 16 Try.underlying28 Hi.out Hz0.out Hz1.out Hz2.out rfl (by decide) _ _ _ rfl own1 _ 1 1 [Value.string y] rfl rfl (by simp) hsl1 (by simp [Value.oneCell']) (by unfold maxLen; omega) (by omega) ?_))
      intro v7 w7 o7 f7 n7 s7 _
      have co7 := Coll.one co (Fr.alloc Nothing wr _) o7 f7 n7
      have HO7 : Hid (O ++ [y] = (L.take (k + 1)).map f) := (show _ = _ by rw [List.take_succ_eq_append_getElem hlt, List.map_append, List.map_cons, List.map_nil, ← Hy.out, HO.out])
      clear co c1 hsl1 own1 o7 f7 n7 s7 e0
      go_wp2_with (fail)
      go_roundg (L.length - (k + 1))
      case measure => omega
      case rel => exact ⟨k + 1, _, by omega, rfl, by go_num, HO7, co7⟩
    · obtain rfl : k = L.length := by omega
      have hO := HO.out
      rw [List.take_length] at hO
      have Hco := Lib.hid (hO ▸ co)
      clear co
      go_wp2_with (fail)
      go_ret
      exact Hco.out.told
end

end Go.Proofs.Ytklpjnjhaodpkaa
