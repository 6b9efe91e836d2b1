/- The Replacer that escapes: what it builds. No condition. -/
import Derived.Test.YtbpbghmhenilcaaDoorOnceB
import Derived.Test.YtbpbghmhenilcaaDoorBytes
import Derived.Deep.WholeRow
namespace Go.Proofs.YtbpbghmhenilcaaDoor
open Go.RowKit

/-- The five signs, and what stands for them. -/
def keyB : Nat → UInt8
  | 0 => 38 | 1 => 60 | 2 => 62 | 3 => 34 | _ => 39
def txtB : Nat → ByteArray
  | 0 => ⟨#[38, 97, 109, 112, 59]⟩ | 1 => ⟨#[38, 108, 116, 59]⟩ | 2 => ⟨#[38, 103, 116, 59]⟩ | 3 => ⟨#[38, 113, 117, 111, 116, 59]⟩ | _ => ⟨#[38, 97, 112, 111, 115, 59]⟩
def oldnew : List ByteArray := [⟨#[38]⟩, txtB 0, ⟨#[60]⟩, txtB 1, ⟨#[62]⟩, txtB 2, ⟨#[34]⟩, txtB 3, ⟨#[39]⟩, txtB 4]
theorem old_at {j : Nat} (h : j < 5) : oldnew[2 * j]? = some ⟨#[keyB j]⟩ ∧ oldnew[2 * j + 1]? = some (txtB j) := by
  match j, h with
  | 0, _ => exact ⟨rfl, rfl⟩
  | 1, _ => exact ⟨rfl, rfl⟩
  | 2, _ => exact ⟨rfl, rfl⟩
  | 3, _ => exact ⟨rfl, rfl⟩
  | 4, _ => exact ⟨rfl, rfl⟩
theorem txt_size {j : Nat} (h : j < 5) : 4 ≤ (txtB j).size ∧ (txtB j).size ≤ 6 := by
  match j, h with
  | 0, _ => decide
  | 1, _ => decide
  | 2, _ => decide
  | 3, _ => decide
  | 4, _ => decide
theorem key_ne {i j : Nat} (hi : i < 5) (hj : j < 5) (h : i ≠ j) : (keyB i).toNat ≠ (keyB j).toNat := by
  have : ∀ i : Fin 5, ∀ j : Fin 5, i ≠ j → (keyB i.1).toNat ≠ (keyB j.1).toNat := by decide
  exact this ⟨i, hi⟩ ⟨j, hj⟩ (fun e => h (by simpa using congrArg Fin.val e))
/-- The table's cells: of each byte what stands for it, and the list of those that are replaced. -/
def tabCells (v : Nat → Value) (tv : Value) : List Value := ((List.range 256).map v) ++ [tv]
theorem tab_len (v : Nat → Value) (tv : Value) : (tabCells v tv).length = 257 := by unfold tabCells; simp
theorem tab_get (v : Nat → Value) (tv : Value) {c : Nat} (h : c < 256) : (tabCells v tv)[c]? = some (v c) := by
  unfold tabCells
  rw [List.getElem?_append_left (by simpa using h), List.getElem?_map, List.getElem?_range h]; rfl
theorem tab_last (v : Nat → Value) (tv : Value) : (tabCells v tv)[256]? = some tv := by
  unfold tabCells
  rw [List.getElem?_append_right (by simp)]; simp
theorem tab_set (v : Nat → Value) (tv x : Value) {c : Nat} (h : c < 256) : (tabCells v tv).set c x = tabCells (fun i => if i = c then x else v i) tv := by
  apply List.ext_getElem?
  intro i
  by_cases hi : i = c
  · subst hi
    rw [List.getElem?_set_self (by rw [tab_len]; omega), tab_get _ _ h, if_pos rfl]
  · rw [List.getElem?_set_ne (fun e => hi e.symm)]
    by_cases h2 : i < 256
    · rw [tab_get _ _ h2, tab_get _ _ h2, if_neg hi]
    · by_cases h3 : i = 256
      · subst h3; rw [tab_last, tab_last]
      · rw [List.getElem?_eq_none (by rw [tab_len]; omega), List.getElem?_eq_none (by rw [tab_len]; omega)]
theorem tab_put (v : Nat → Value) (tv x : Value) : (tabCells v tv).set 256 x = tabCells v x := by
  unfold tabCells
  rw [List.set_append_right _ _ (by simp)]; simp
/-- The keys, from the last back. -/
def keysR (r : Nat) : List ByteArray := (List.range r).map fun i => ⟨#[keyB (4 - i)]⟩
theorem keysR_succ (r : Nat) : keysR (r + 1) = keysR r ++ [⟨#[keyB (4 - r)]⟩] := by simp [keysR, List.range_succ]
/-- What the table holds behind so many rounds, from the last pair back. -/
structure TabAt (w0 : World) (t r : Nat) (w : World) : Prop where
  row : ∃ (v : Nat → Value) (tv : Value), Row w t (tabCells v tv) 99 ∧
    (∀ c, (∀ j, 5 - r ≤ j → j < 5 → (keyB j).toNat ≠ c) → v c = .slice none 0 0) ∧
    (∀ j, 5 - r ≤ j → j < 5 → ∃ g cap, v (keyB j).toNat = .slice (some ⟨g, 0, none⟩) (txtB j).size cap ∧ w0.heap.size ≤ g ∧ g ≠ t ∧ ¬ InBlock tv g ∧ Sl w (some ⟨g, 0, none⟩) (byteCells (strB (txtB j)))) ∧
    (∃ O : List ByteArray, O = keysR r ∧ Owns w 9 1 tv r (O.map Value.string) ∧ (∀ k, InBlock tv k → w0.heap.size ≤ k ∧ k ≠ t))
  fr : Fr Nothing w0 w
  new : w0.heap.size ≤ t
theorem infoTx : ∃ i0, Tryd.prog.info? 9 = some i0 ∧ i0.zero = some (.string ByteArray.empty) ∧ i0.size = 1 ∧ i0.bytes = 16 := by
  have hi := Tryd.infoText
  cases h0 : Tryd.prog.info? 9 with
  | none => rw [h0] at hi; simp at hi
  | some i0 =>
    rw [h0] at hi
    simp only [Option.map_some, Option.some.injEq, Prod.mk.injEq] at hi
    exact ⟨i0, rfl, hi.1, hi.2.1, hi.2.2⟩
theorem zero_tab : Tryd.zeroCells99.toList = tabCells (fun _ => .slice none 0 0) (.slice none 0 0) := by kernel_rfl
theorem store_tab (w : World) (tv : Value) (h1 : tv.oneCell' = true) :
    (storeCells ⟨w.heap.size, 0, none⟩ (Tryd.zeroCells99.toList.set 256 tv)).run Tryd.prog (w.alloc (.cells Tryd.zeroCells99 99)) = .ok () (w.alloc (.cells (tabCells (fun _ => .slice none 0 0) tv).toArray 99)) := by
  have e : Tryd.zeroCells99.toList.set 256 tv = (tabCells (fun _ => .slice none 0 0) tv).toArray.toList := by rw [zero_tab, tab_put]
  rw [e]
  have hz : Tryd.zeroCells99.size = 257 := by rw [← Array.length_toList, zero_tab, tab_len]
  have hs : (tabCells (fun _ => .slice none 0 0) tv).toArray.size = 257 := by rw [List.size_toArray, tab_len]
  refine run_storeCells_new w _ _ _ ?_ (by rw [hz, hs]) ?_
  · rw [hs]; kernel_rfl
  · rw [Array.all_eq_true]
    intro i hi
    have hm : (tabCells (fun _ => .slice none 0 0) tv).toArray[i] ∈ tabCells (fun _ => .slice none 0 0) tv := by simp
    unfold tabCells at hm
    rcases List.mem_append.1 hm with h | h
    · obtain ⟨j, _, hj⟩ := List.mem_map.1 h
      unfold tabCells
      rw [← hj]; rfl
    · rw [List.mem_singleton] at h
      unfold tabCells
      rw [h]; exact h1
theorem eq_nils (w : World) : (binOp .eql 37 (.slice none 0 0) (.slice none 0 0)).run Tryd.prog w = .ok (.bool true) w := by kernel_rfl
set_option maxHeartbeats 8000000 in
set_option maxRecDepth 100000 in
theorem build_f (b : Nat) (v3 : Value) (a : Option Addr) (c : Nat) (w : World) (hR : RepRow w b 0 1 v3 (.slice a 10 c)) (hT : Txt w a oldnew) :
    Calls Tryd.prog 44 #[.pointer (some ⟨b, 0, none⟩)] w fun e w' => ∃ t, e = .returned (.iface 100 (.pointer (some ⟨t, 0, none⟩))) ∧ TabAt w t 5 w' := by
  obtain ⟨i0, hi, hz0, hz1, hz2⟩ := infoTx
  have Hi := Lib.hid hi
  have Hz0 := Lib.hid hz0
  have Hz1 := Lib.hid hz1
  have Hz2 := Lib.hid hz2
  have hby : i0.bytes * 5 ≤ 281474976710656 := by rw [hz2]; omega
  have c4 := Row.cell hR 4 rfl
  have HT := Lib.hid hT
  clear hi hz0 hz1 hz2 hT
  go_enter Tryd.func44, Tryd.ntmps44
  go_wp2_with (fail)
  clear c4
  go_loopg [4, 5] 5 (fun gg vn vi wr => ∃ r, r ≤ 5 ∧ gg = 5 - r ∧ vi = .int .i64 (2 * (r : Nat) : Int) ∧ vn = .bool (decide (r = 0)) ∧ wr = w)
  case atStart => exact ⟨0, by omega, rfl, rfl, rfl, rfl⟩
  case round =>
    obtain ⟨r, hr, rfl, rfl, rfl, rfl⟩ := hrel
    by_cases hlt : r < 5
    · have hltI : (2 * (r : Nat) : Int) < 10 := by omega
      obtain ⟨o1, o2⟩ := old_at hlt
      obtain ⟨s1, s2⟩ := txt_size hlt
      obtain ⟨k, hk⟩ : ∃ k : ByteArray, k = ⟨#[keyB r]⟩ := ⟨_, rfl⟩
      obtain ⟨x, hx⟩ : ∃ x : ByteArray, x = txtB r := ⟨_, rfl⟩
      have hks : (k.size : Int) = 1 := by rw [hk]; rfl
      rw [← hx] at o2 s1 s2
      rw [← hk] at o1
      obtain ⟨b1, p1, hb1, e1⟩ := Sl.oneCell HT.out (j := 2 * r) (v := .string k) (by rw [List.getElem?_map, o1]; rfl)
      obtain ⟨b2, p2, hb2, e2⟩ := Sl.oneCell HT.out (j := 2 * r + 1) (v := .string x) (by rw [List.getElem?_map, o2]; rfl)
      subst hb1
      cases hb2
      have hkn : ((k.size : Int) != 1) = false := by rw [hks]; rfl
      have hxn : ((x.size : Int) != 1) = true := by rw [bne_iff_ne]; omega
      have hr1 : (2 * (r : Nat) : Int) + 1 < 10 := by omega
      have hr0 : (0 : Int) ≤ 2 * (r : Nat) := by omega
      have hi1 : ((2 * (r : Nat) : Int)).toNat = 2 * r := by omega
      have hi2 : ((2 * (r : Nat) : Int) + 1).toNat = 2 * r + 1 := by omega
      clear o1 o2 hk hx hks
      go_wp2_with (fail)
      go_roundg (5 - (r + 1))
      case measure => omega
      case rel => exact ⟨r + 1, by omega, rfl, by go_num, by simp, rfl⟩
    · obtain rfl : r = 5 := by omega
      go_wp2_with (at_make; go_must (refine wpList_make_own _ rfl _ _ 76 rfl 0 9 i0 (.string ByteArray.empty) 1 Tryd.underlying76 Hi.out Hz0.out Hz1.out .i64 .i64 _ 5 rfl rfl rfl hby (by unfold maxLen; omega) (by omega) ?_))
      intro w1 own1 gr1
      have F1 : Fr Nothing wr w1 := Fr.grown gr1 (fun k h _ => by cases h)
      have hst := store_tab w1 (.slice (some ⟨wr.heap.size, 0, none⟩) 0 5) rfl
      clear gr1
      go_wp2_with (fail)
      obtain ⟨t, ht⟩ : ∃ t, t = w1.heap.size := ⟨_, rfl⟩
      have hqt : wr.heap.size < t := by
        have := Owns.lt own1 (k := wr.heap.size) (by simp [Value.ownBlock])
        omega
      have HTT := Lib.hid ht
      have HT0 : Hid (TabAt wr t 0 (w1.alloc (.cells (tabCells (fun _ => .slice none 0 0) (.slice (some ⟨wr.heap.size, 0, none⟩) 0 5)).toArray 99))) := Lib.hid (by
        refine ⟨⟨fun _ => .slice none 0 0, .slice (some ⟨wr.heap.size, 0, none⟩) 0 5, ?_, fun _ _ => rfl, fun j h1 h2 => by omega, [], rfl, ?_, ?_⟩, F1.trans' (Fr.alloc Nothing _ _), by omega⟩
        · rw [ht]; exact Row.allocNew w1 _ _
        · exact Owns.fr own1 (Fr.alloc Nothing _ _) (fun _ _ h => h)
        · intro k hk
          simp [InBlock, Value.ownBlock] at hk
          omega)
      rw [← ht]
      clear own1 F1 hst hR ht
      go_loopg [12] 5 (fun gg vi wz => ∃ r, r ≤ 5 ∧ gg = 5 - r ∧ vi = .int .i64 (8 - 2 * (r : Nat) : Int) ∧ Hid (TabAt wr t r wz))
      case atStart => exact ⟨0, by omega, rfl, rfl, HT0⟩
      case round =>
        obtain ⟨wz, rfl⟩ : ∃ wz, wz = wr := ⟨_, rfl⟩
        clear HT0
        obtain ⟨r, hr, rfl, rfl, HA⟩ := hrel
        by_cases hlt : r < 5
        · obtain ⟨j, hj⟩ : ∃ j, j = 4 - r := ⟨_, rfl⟩
          have hj5 : j < 5 := by omega
          have hvi : (8 - 2 * (r : Nat) : Int) = 2 * (j : Nat) := by omega
          rw [hvi]
          obtain ⟨o1, o2⟩ := old_at hj5
          obtain ⟨s1, s2⟩ := txt_size hj5
          obtain ⟨u, hu⟩ : ∃ u, u = keyB j := ⟨_, rfl⟩
          obtain ⟨x, hx⟩ : ∃ x : ByteArray, x = txtB j := ⟨_, rfl⟩
          rw [← hx] at o2 s1 s2
          rw [← hu] at o1
          have HT2 : Txt wz a oldnew := Sl.fr HT.out HA.out.fr (fun _ _ h => h)
          obtain ⟨b1, p1, hb1, e1⟩ := Sl.oneCell HT2 (j := 2 * j) (v := .string ⟨#[u]⟩) (by rw [List.getElem?_map, o1]; rfl)
          obtain ⟨b2, p2, hb2, e2⟩ := Sl.oneCell HT2 (j := 2 * j + 1) (v := .string x) (by rw [List.getElem?_map, o2]; rfl)
          subst hb1
          cases hb2
          have hji : (2 * (j : Nat) : Int) + 1 < 10 := by omega
          have hj0 : (0 : Int) ≤ 2 * (j : Nat) := by omega
          have hi1 : ((2 * (j : Nat) : Int)).toNat = 2 * j := by omega
          have hi2 : ((2 * (j : Nat) : Int) + 1).toNat = 2 * j + 1 := by omega
          obtain ⟨v, tv, hrow, hnil, hset, O, hOl, hOw, hOb⟩ := HA.out.row
          have hu256 : u.toNat < 256 := u.toNat_lt
          have hvn : v u.toNat = .slice none 0 0 := hnil _ (fun i h1 h2 => by rw [hu]; exact key_ne h2 hj5 (by omega))
          have ct := Row.cell hrow u.toNat (tab_get v tv hu256)
          rw [hvn] at ct
          have cl := Row.cell hrow 256 (tab_last v tv)
          have hub : (u.toNat : Int) < 256 := by omega
          have hcmp := eq_nils
          have hix : (({ data := #[u] } : ByteArray)[0]'(Nat.zero_lt_one)) = u := rfl
          have HROW := Lib.hid hrow
          have HOL := Lib.hid hOl
          have HNIL := Lib.hid hnil
          have HSET := Lib.hid hset
          have HOW := Lib.hid hOw
          have HOB := Lib.hid hOb
          have HU := Lib.hid hu
          have HX := Lib.hid hx
          have HJ := Lib.hid hj
          clear o1 o2 hu hx hj hrow hnil hset hOw hOb hvn hvi HT2 hOl
          obtain ⟨wa, hwa⟩ : ∃ wa, wa = wz.alloc (.cells #[.int .u8 (u.toNat : Int)] 5) := ⟨_, rfl⟩
          have Fa : Fr Nothing wz wa := by rw [hwa]; exact Fr.alloc Nothing _ _
          have hra : Row wa wz.heap.size [.int .u8 (u.toNat : Int)] 5 := by rw [hwa]; exact Row.allocNew wz [.int .u8 (u.toNat : Int)] _
          have hcv := run_convert_bytes_back (P := Tryd.prog) wa 37 9 5 ⟨wz.heap.size, 0, none⟩ 1 [u] Tryd.underlying37 Tryd.underlying5 Tryd.underlying9 (fun i hi => by
            obtain rfl : i = 0 := by simpa using hi
            exact hra.cell 0 rfl)
          have hcv' : (convert 37 9 (.slice (some ⟨wz.heap.size, 0, none⟩) 1 1)).run Tryd.prog (wz.alloc (.cells #[.int .u8 (u.toNat : Int)] 5)) = .ok (.string ⟨#[u]⟩) (wz.alloc (.cells #[.int .u8 (u.toNat : Int)] 5)) := by rw [← hwa]; exact hcv
          clear hcv
          have hrs : Row ((wz.alloc (.cells #[.int .u8 (u.toNat : Int)] 5)).alloc (.cells #[Value.string ⟨#[u]⟩] 9)) (wz.heap.size + 1) [Value.string ⟨#[u]⟩] 9 := by
            have h := Row.allocNew (wz.alloc (.cells #[.int .u8 (u.toNat : Int)] 5)) [Value.string ⟨#[u]⟩] 9
            have e : (wz.alloc (.cells #[.int .u8 (u.toNat : Int)] 5)).heap.size = wz.heap.size + 1 := by simp
            rw [e] at h; exact h
          have HRS := Lib.hid hrs
          clear hrs
          go_upto_region 33 with (fail)
          have hwa2 := hwa.symm
          clear hwa
          subst hwa2
          go_wp2_with (at_builtin; go_must (refine wpList_append_fp rfl (.tmp 119) (.tmp 123) 76 rfl 9 i0 (.string ByteArray.empty) 1 16 Tryd.underlying76 Hi.out Hz0.out Hz1.out Hz2.out rfl (by decide) _ _ _ rfl ((HOW.out.fr (Fr.alloc Nothing wz (.cells #[.int .u8 (u.toNat : Int)] 5)) (fun _ _ h => h)).fr (Fr.alloc Nothing (wz.alloc (.cells #[.int .u8 (u.toNat : Int)] 5)) (.cells #[Value.string ⟨#[u]⟩] 9)) (fun _ _ h => h)) _ 1 1 [Value.string ⟨#[u]⟩] rfl rfl (by simp) (Sl.ofRow HRS.out) (by simp [Value.oneCell']) (by unfold maxLen; omega) (by omega) ?_))
          intro v7 w7 o7 f7 n7 s7 _
          have Fb : Fr Nothing wz ((wz.alloc (.cells #[.int .u8 (u.toNat : Int)] 5)).alloc (.cells #[Value.string ⟨#[u]⟩] 9)) := (Fr.alloc Nothing _ _).trans' (Fr.alloc Nothing _ _)
          have htz : t < wz.heap.size := (Row.lt HROW.out)
          have hbz : ((wz.alloc (.cells #[.int .u8 (u.toNat : Int)] 5)).alloc (.cells #[Value.string ⟨#[u]⟩] 9)).heap.size = wz.heap.size + 2 := by simp
          have hnt : ¬ InBlock tv t := fun h => (HOB.out t h).2 rfl
          have hrow7 : Row w7 t (tabCells v tv) 99 := (HROW.out.fr Fb (fun h => h)).fr f7 hnt
          have hn7t : ∀ k, InBlock v7 k → wr.heap.size ≤ k ∧ k ≠ t := fun k hk => by
            rcases n7 k hk with h | h
            · exact HOB.out k h
            · omega
          have cl7 := Row.cell hrow7 256 (tab_last v tv)
          have fl7 := Row.free hrow7 256
          have hs7 : wz.heap.size ≤ w7.heap.size := by have := f7.size; omega
          obtain ⟨a7, c7, rfl, _, _⟩ := o7.shape
          obtain ⟨w8, hw8⟩ : ∃ w8, w8 = w7.setCell ⟨t, 256, none⟩ (.slice a7 (r + 1) c7) := ⟨_, rfl⟩
          have hrow8 : Row w8 t (tabCells v (.slice a7 (r + 1) c7)) 99 := by
            have := Row.set hrow7 256 (.slice a7 (r + 1) c7)
            rw [tab_put, ← hw8] at this; exact this
          have F8 : Fr (fun q => q = t) w7 w8 := by rw [hw8]; exact Fr.setCell (S := fun q => q = t) (p := ⟨t, 256, none⟩) rfl _
          have HO7 := Lib.hid o7
          have HN7 := Lib.hid n7
          have HF7 := Lib.hid f7
          have HFB := Lib.hid Fb
          have HR8 := Lib.hid hrow8
          have HF8 := Lib.hid F8
          have HW8 := Lib.hid hw8
          have HN7T := Lib.hid hn7t
          clear o7 f7 n7 s7 hrow7 hrow8 F8 hw8 hn7t hnt Fb ct cl hcv' hcmp
          go_wp2_with (first | (with_reducible refine wpList_bytes_of rfl 9 37 (.tmp 127) rfl 5 Tryd.underlying9 Tryd.underlying37 Tryd.underlying5 x rfl ?_))
          intro cx w9 hs9 F9
          rw [← HW8.out] at F9
          obtain ⟨g9, hg9⟩ : ∃ g, g = w7.heap.size := ⟨_, rfl⟩
          rw [← hg9] at hs9 ⊢
          have hvn : v u.toNat = .slice none 0 0 := HNIL.out _ (fun i h1 h2 => by rw [HU.out]; exact key_ne h2 hj5 (by have := HJ.out; omega))
          have hrow9 := Row.fr HR8.out F9 (fun h => h)
          have cu9 := Row.cell hrow9 u.toNat (tab_get v _ hu256)
          rw [hvn] at cu9
          have fu9 := Row.free hrow9 u.toNat
          have hs87 : w7.heap.size ≤ w8.heap.size := HF8.out.size
          obtain ⟨w10, hw10⟩ : ∃ w10, w10 = w9.setCell ⟨t, u.toNat, none⟩ (.slice (some ⟨g9, 0, none⟩) x.size cx) := ⟨_, rfl⟩
          have F10 : Fr (fun q => q = t) w9 w10 := by rw [hw10]; exact Fr.setCell (S := fun q => q = t) (p := ⟨t, u.toNat, none⟩) rfl _
          have hrow10 : Row w10 t (tabCells (fun i => if i = u.toNat then .slice (some ⟨g9, 0, none⟩) x.size cx else v i) (.slice a7 (r + 1) c7)) 99 := by
            have := Row.set hrow9 u.toNat (.slice (some ⟨g9, 0, none⟩) x.size cx)
            rw [tab_set _ _ _ hu256, ← hw10] at this; exact this
          have HTN : Hid (TabAt wr t (r + 1) w10) := Lib.hid (by
            have hku := HU.out
            have hjr := HJ.out
            have htw : wr.heap.size ≤ t := HA.out.new
            refine ⟨⟨_, _, hrow10, fun c hc => ?_, fun i h1 h2 => ?_, O ++ [⟨#[u]⟩], by rw [HOL.out, hku, hjr, keysR_succ], ?_, HN7T.out⟩, ?_, htw⟩
            · rw [if_neg (fun e => hc j (by omega) hj5 (by rw [← hku]; exact e.symm))]
              exact HNIL.out c (fun i g1 g2 => hc i (by omega) g2)
            · by_cases hij : i = j
              · subst hij
                refine ⟨g9, cx, by rw [← hku, if_pos rfl, ← HX.out], by omega, by omega, fun h => ?_, ?_⟩
                · have := Owns.lt HO7.out h; omega
                · rw [← HX.out]
                  exact Sl.fr hs9 F10 (fun ad h e => by cases h; simp only at e; omega)
              · obtain ⟨g, cap, e1', e2', e3', e4', e5'⟩ := HSET.out i (by omega) h2
                have hgz : g < wz.heap.size := by
                  rcases e5' with h | ⟨b', o', hb', hc'⟩
                  · have hl : (byteCells (strB (txtB i))).length = 0 := by rw [h]; rfl
                    rw [byte_len, strB_len] at hl
                    have := (txt_size h2).1
                    omega
                  · have hl : 0 < (byteCells (strB (txtB i))).length := by
                      rw [byte_len, strB_len]; have := (txt_size h2).1; omega
                    have hcell := hc' 0 hl
                    rw [List.getElem?_eq_getElem hl] at hcell
                    have := World.block_lt_of_cell? wz _ hcell
                    simp only [Option.some.injEq, Addr.mk.injEq] at hb'
                    obtain ⟨rfl, _, _⟩ := hb'
                    exact this
                have hg7 : ¬ InBlock (.slice a7 (r + 1) c7) g := fun h => by
                  rcases HN7.out g h with h3 | h3
                  · exact e4' h3
                  · omega
                refine ⟨g, cap, by rw [if_neg (fun e => key_ne h2 hj5 hij (by rw [← hku]; exact e)), e1'], e2', e3', hg7, ?_⟩
                have q1 := Sl.fr e5' HFB.out (fun _ _ h => h)
                have q2 := Sl.fr q1 HF7.out (fun ad h e => by cases h; exact e4' e)
                have q3 := Sl.fr q2 HF8.out (fun ad h e => by cases h; exact e3' e)
                have q4 := Sl.fr q3 F9 (fun _ _ h => h)
                exact Sl.fr q4 F10 (fun ad h e => by cases h; exact e3' e)
            · have q2 := HO7.out.fr HF8.out (fun k hk e => (HN7T.out k hk).2 e)
              have q3 := q2.fr F9 (fun _ _ h => h)
              have q4 := q3.fr F10 (fun k hk e => (HN7T.out k hk).2 e)
              rw [List.map_append]
              exact q4
            · have q1 : Fr Nothing wr w7 := (HA.out.fr.trans' HFB.out).trans HF7.out (fun k hk h => by have := (HOB.out k h).1; omega)
              have q2 : Fr Nothing wr w8 := q1.trans HF8.out (fun k hk h => by omega)
              exact (q2.trans' F9).trans F10 (fun k hk h => by omega))
          have HW10 := Lib.hid hw10
          clear hs9 hrow9 hrow10 F9 F10 hvn hw10 hg9
          go_wp2_with (fail)
          rw [← HW10.out]
          go_roundg (5 - (r + 1))
          case measure => omega
          case rel => exact ⟨r + 1, by omega, rfl, by show Value.int .i64 _ = Value.int .i64 _; congr 1; have := HJ.out; omega, HTN⟩
        · obtain rfl : r = 5 := by omega
          go_wp2_with (fail)
          go_ret
          exact ⟨t, by rw [HTT.out]; rfl, HA.out⟩
end Go.Proofs.YtbpbghmhenilcaaDoor
