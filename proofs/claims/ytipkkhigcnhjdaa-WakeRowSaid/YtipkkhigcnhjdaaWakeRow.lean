/- WakeRow answers true for every input and changes no memory that was there. No condition. -/
import Derived.Test.YtipkkhigcnhjdaaWakeLives
namespace Go.Proofs.Ytipkkhigcnhjdaa
open Go.RowKit

/-- How often a name is among these. -/
def cnt (X : List ByteArray) (k : ByteArray) : Nat := (X.filter fun y => decide (y = k)).length
theorem cnt_snoc (X : List ByteArray) (y k : ByteArray) : cnt (X ++ [y]) k = cnt X k + if y = k then 1 else 0 := by
  unfold cnt
  rw [List.filter_append]
  by_cases h : y = k <;> simp [h]
theorem cnt_not {X : List ByteArray} {k : ByteArray} (h : k ∉ X) : cnt X k = 0 := by
  unfold cnt
  rw [List.length_eq_zero_iff, List.filter_eq_nil_iff]
  exact fun y hy e => h (by obtain rfl : y = k := by simpa using e
                            exact hy)

/-- Devices that were never called, behind hints at X. -/
structure RowLogic (X : List ByteArray) (L : List Dev) (R : List ByteArray) : Prop where
  names : R = L.map Dev.name
  dev : ∀ d ∈ L, d.called = false ∧ d.rowed = true ∧ d.waits = (cnt X d.name : Int) ∧ d.name ≠ ByteArray.empty ∧ d.name ∈ X
  all : ∀ x ∈ X, x ≠ ByteArray.empty → x ∈ R
  le : L.length ≤ X.length
theorem RowLogic.start : RowLogic [] [] [] := ⟨rfl, fun d hd => by simp at hd, fun x hx => by simp at hx, Nat.le_refl _⟩
theorem RowLogic.empty {X : List ByteArray} {L : List Dev} {R : List ByteArray} (h : RowLogic X L R) : RowLogic (X ++ [ByteArray.empty]) L R := by
  refine ⟨h.names, fun d hd => ?_, fun x hx hne => ?_, by have := h.le; simp; omega⟩
  · obtain ⟨h1, h2, h3, h4, h5⟩ := h.dev d hd
    exact ⟨h1, h2, by rw [cnt_snoc, if_neg (fun e => h4 e.symm)]; simpa using h3, h4, List.mem_append.2 (.inl h5)⟩
  · rcases List.mem_append.1 hx with h1 | h1
    · exact h.all x h1 hne
    · exact absurd (by simpa using h1) hne
theorem RowLogic.known {X : List ByteArray} {L : List Dev} {R : List ByteArray} (h : RowLogic X L R) (hn : (L.map Dev.name).Nodup) {j : Nat} (hj : j < L.length) (now qt : Int) :
    callL (incL L j) j now qt = L.set j { L[j] with waits := L[j].waits + 1 } ∧ callR (incL L j) R j now qt = R ∧ RowLogic (X ++ [L[j].name]) (L.set j { L[j] with waits := L[j].waits + 1 }) R := by
  have hj' : L[j]? = some L[j] := by simp [hj]
  obtain ⟨h1, h2, h3, h4, h5⟩ := h.dev L[j] (List.getElem_mem hj)
  have hinc : incL L j = L.set j { L[j] with waits := L[j].waits + 1 } := by simp only [incL, hj']
  have hget : (L.set j { L[j] with waits := L[j].waits + 1 })[j]? = some { L[j] with waits := L[j].waits + 1 } := by simp [hj]
  have hcb : callsB { L[j] with waits := L[j].waits + 1 } now qt = false := by simp [callsB, h2]
  have hnm : (L.set j { L[j] with waits := L[j].waits + 1 }).map Dev.name = L.map Dev.name := map_set_same _ hj rfl
  refine ⟨by rw [hinc]; simp only [callL, hget, hcb]; rfl, by rw [hinc]; simp only [callR, hget, hcb]; rfl, ⟨by rw [hnm]; exact h.names, fun d hd => ?_, fun x hx hne => ?_, by have := h.le; simp; omega⟩⟩
  · obtain ⟨i, hi, rfl⟩ := List.mem_iff_getElem.1 hd
    have hi' : i < L.length := by simpa using hi
    rw [List.getElem_set]
    split
    · refine ⟨h1, h2, ?_, h4, List.mem_append.2 (.inl h5)⟩
      show L[j].waits + 1 = ((cnt (X ++ [L[j].name]) L[j].name : Nat) : Int)
      rw [cnt_snoc, if_pos rfl, h3]; omega
    · rename_i hne
      obtain ⟨g1, g2, g3, g4, g5⟩ := h.dev L[i] (List.getElem_mem hi')
      have hn2 : ¬ L[j].name = L[i].name := fun e => hne (names_inj hn hj hi' e)
      exact ⟨g1, g2, by rw [cnt_snoc, if_neg hn2]; simpa using g3, g4, List.mem_append.2 (.inl g5)⟩
  · rcases List.mem_append.1 hx with h1 | h1
    · exact h.all x h1 hne
    · obtain rfl : x = L[j].name := by simpa using h1
      rw [h.names]; exact List.mem_map_of_mem (List.getElem_mem hj)
theorem RowLogic.new {X : List ByteArray} {L : List Dev} {R : List ByteArray} (h : RowLogic X L R) {x : ByteArray} (hx : x ∉ L.map Dev.name) (hx0 : x ≠ ByteArray.empty) (B : Nat) (now qt : Int) :
    ∃ d : Dev, callL (L ++ [newDev x B]) L.length now qt = L ++ [d] ∧ callR (L ++ [newDev x B]) R L.length now qt = R ++ [x] ∧ RowLogic (X ++ [x]) (L ++ [d]) (R ++ [x]) := by
  have hget : (L ++ [newDev x B])[L.length]? = some (newDev x B) := by simp
  have hcb : callsB (newDev x B) now qt = true := by simp [callsB, loudB, newDev]
  have hxX : x ∉ X := fun e => hx (h.names ▸ h.all x e hx0)
  refine ⟨{ newDev x B with rowed := true }, by simp only [callL, hget, hcb, if_true]; simp, by simp only [callR, hget, hcb, if_true]; rfl, ?_, fun d hd => ?_, fun y hy hne => ?_, by have := h.le; simp; omega⟩
  · rw [h.names, List.map_append]; rfl
  · rcases List.mem_append.1 hd with h1 | h1
    · obtain ⟨g1, g2, g3, g4, g5⟩ := h.dev d h1
      have hn2 : ¬ x = d.name := fun e => hx (e ▸ List.mem_map_of_mem h1)
      exact ⟨g1, g2, by rw [cnt_snoc, if_neg hn2]; simpa using g3, g4, List.mem_append.2 (.inl g5)⟩
    · obtain rfl : d = _ := by simpa using h1
      refine ⟨rfl, rfl, ?_, hx0, List.mem_append.2 (.inr (by simp [newDev]))⟩
      show (1 : Int) = _
      rw [show ({ newDev x B with rowed := true } : Dev).name = x from rfl, cnt_snoc, if_pos rfl, cnt_not hxX]; rfl
  · rcases List.mem_append.1 hy with h1 | h1
    · exact List.mem_append.2 (.inl (h.all y h1 hne))
    · exact List.mem_append.2 (.inr h1)

/-- The box, and the order of first hints aside. -/
structure RInv (S : Nat → Prop) (p M : Nat) (w : World) (v : Value) (O : List ByteArray) (L : List Dev) (R : List ByteArray) (wr : World) : Prop where
  inv : WInv S p 100 M w L R wr
  own : Owns wr 9 1 v O.length (O.map Value.string)
  newv : ∀ k, InBlock v k → w.heap.size ≤ k
  apart : ∀ k, InBlock v k → ¬ S k
section
variable {S T : Nat → Prop} {w wr w0 w' : World} {p M M' : Nat} {v v' : Value} {L L' : List Dev} {O O' R R' : List ByteArray}
theorem RInv.quiet (h : RInv S p M w v O L R wr) (F : Fr Nothing wr w') : RInv S p M w v O L R w' := ⟨h.inv.quiet F, h.own.fr F (fun _ _ h => h), h.newv, h.apart⟩
theorem RInv.drewN (h : RInv S p M w v O L R wr) (n : Nat) : RInv S p M w v O L R (wr.drewN n) := h.quiet (Fr.drewN _ _ _)
theorem RInv.gone (h : RInv S p M w v O L R wr) (g : BoxGone S wr p 100 M' L' R' w') : ∃ S', RInv S' p M' w v O L' R' w' := by
  obtain ⟨S', h1, h2⟩ := h.inv.gone g
  obtain ⟨_, _, _, f⟩ := g
  refine ⟨S', h1, h.own.fr f (fun k hk => h.apart k hk), h.newv, fun k hk hS => ?_⟩
  rcases h2 k hS with h3 | h3
  · exact h.apart k hk h3
  · have := h.own.lt hk; omega
theorem RInv.more (h : RInv S p M w v O L R wr) (hM : M ≤ M') : RInv S p M' w v O L R wr := ⟨⟨h.inv.box.more hM, h.inv.new, h.inv.fr⟩, h.own, h.newv, h.apart⟩
theorem RInv.append (h : RInv S p M w v O L R wr) (F : Fr Nothing wr w0) (o : Owns w' 9 1 v' O'.length (O'.map Value.string)) (f : Fr (InBlock v) w0 w') (n : NewOr w0 v v') : RInv S p M w v' O' L R w' := by
  have h0 := h.quiet F
  refine ⟨⟨h0.inv.box.fr f (fun k hk hv => h.apart k hv hk), h.inv.new, h0.inv.fr.trans' (f.from_ h.newv)⟩, o, fun k hk => ?_, fun k hk hS => ?_⟩
  · rcases n k hk with h1 | h1
    · exact h.newv k h1
    · exact Nat.le_trans h0.inv.fr.size h1
  · rcases n k hk with h1 | h1
    · exact h.apart k h1 hS
    · have := h0.inv.box.lt hS; omega
end
theorem inR_take {R : List ByteArray} {j : Nat} (hj : j < R.length) (k : ByteArray) : inR (R.take (j + 1)) k = (inR (R.take j) k || decide (R[j] = k)) := by
  unfold inR
  rw [List.take_succ_eq_append_getElem hj, List.any_append]
  simp only [List.any_cons, List.any_nil, Bool.or_false]
theorem inR_false {R : List ByteArray} {k : ByteArray} (h : k ∉ R) : inR R k = false := by
  cases hc : inR R k with
  | false => rfl
  | true => exact absurd (inR_iff.1 hc) h

set_option maxRecDepth 100000 in
set_option maxHeartbeats 8000000 in
theorem wakerow_any (a : Option Addr) (X : List ByteArray) (c : Nat) (w : World) (hlc : X.length ≤ c) (hcm : c ≤ maxLen) (ht : Txt w a X) (hs : ∀ s ∈ X, s.size ≤ maxLen) :
    Calls Try.prog 3 #[.slice a X.length c] w fun e w' => e = .returned (.bool true) ∧ Below w.heap.size w w' := by
  obtain ⟨i0, hi, hz0, hz1, hz2⟩ := info_parts Try.infoText
  have Hz2 := Lib.hid hz2
  have Hz1 := Lib.hid hz1
  have Hz0 := Lib.hid hz0
  have Hi := Lib.hid hi
  clear hz2 hz1 hz0 hi
  have hl9 : (X.length : Int) ≤ 9223372036854775807 := by unfold maxLen at hcm; omega
  have Hs := Lib.hid hs
  clear hcm hlc hs
  go_enter Try.func3, Try.ntmps3
  go_wp2_with (fail)
  refine (wake_lives _).mono ?_
  rintro e w1 ⟨rfl, f0⟩
  go_wp2_with (fail)
  refine (box_new 100 100 _ (by decide)).mono ?_
  rintro e w2 ⟨p, S, rfl, h1, hS, f1⟩
  have inv : RInv S p 0 w (.slice none 0 0) [] [] [] w2 := ⟨⟨h1, fun k hk => Nat.le_trans f0.size (hS k hk), f0.fromN.trans' f1.fromN⟩, Owns.nil _ _ _, fun k hk => by simp [InBlock, Value.ownBlock] at hk, fun k hk => by simp [InBlock, Value.ownBlock] at hk⟩
  clear h1 hS f0 f1
  go_wp2_with (fail)
  go_loopg [4, 5] X.length (fun g v i wr => ∃ (k : Nat) (L : List Dev) (R : List ByteArray) (S : Nat → Prop), k ≤ X.length ∧ k ≤ 64 ∧ g = X.length - k ∧ i = .int .i64 k ∧ RInv S p (2 * k) w v R L R wr ∧ Hid (RowLogic (X.take k) L R))
  case atStart => exact ⟨0, [], [], S, Nat.zero_le _, Nat.zero_le _, rfl, rfl, inv, RowLogic.start⟩
  case round =>
    clear inv S
    obtain ⟨k, L, R, S, hk, hk64, rfl, rfl, inv, HL⟩ := hrel
    by_cases hlt : k < X.length ∧ k < 64
    · obtain ⟨hlt, h64⟩ := hlt
      have h64i : (k : Int) < 64 := by omega
      obtain ⟨b, o, rfl, hc⟩ := (ht.kept inv.inv.fr).at_ hlt
      have hblt : b < w.heap.size := by
        obtain ⟨b', o', hbo, hc'⟩ := ht.at_ hlt
        obtain ⟨rfl, rfl⟩ : b = b' ∧ o = o' := by simpa using hbo
        exact World.block_lt_of_cell? w _ hc'
      have hsz := Hs.out X[k] (List.getElem_mem hlt)
      have htk : X.take (k + 1) = X.take k ++ [X[k]] := List.take_succ_eq_append_getElem hlt
      obtain ⟨x, hx⟩ : ∃ x, x = X[k] := ⟨_, rfl⟩
      rw [← hx] at hc hsz htk
      have Hx := Lib.hid hx
      have Htk := Lib.hid htk
      clear hx htk
      have hnn := (box_room inv.inv.box).2.2
      have hRL := HL.out.names
      have hLk : L.length ≤ k := by have := HL.out.le; simp at this; omega
      have hRl : R.length = L.length := by rw [hRL]; simp
      have hk0 : (0 : Int) ≤ k := by omega
      have hk9 : (k : Int) ≤ 9223372036854775807 := by omega
      have HRL := Lib.hid hRL
      have Hnn := Lib.hid hnn
      have hRk : R.length ≤ k := by omega
      clear hRL hnn hRl
      go_upto_region 8 with (fail)
      go_cut [6] (fun t wx => ∃ (L' : List Dev) (R' : List ByteArray) (S' : Nat → Prop), ((t = .int .i64 1 ∧ x = ByteArray.empty) ∨ (t = .int .i64 0 ∧ x ≠ ByteArray.empty)) ∧ RInv S' p (2 * (k + 1)) w u4 R L' R' wx ∧ Hid (RowLogic (X.take (k + 1)) L' R') ∧ Hid (((decide (x = ByteArray.empty) || inR R x) = true → R' = R) ∧ ((decide (x = ByteArray.empty) || inR R x) = false → R' = R ++ [x])))
      case first =>
        by_cases hx0 : x = ByteArray.empty
        · subst hx0
          go_wp2_with (fail)
          refine (box_hint_empty k p _).mono ?_
          rintro e w3 ⟨rfl, rfl⟩
          go_wp2_with (fail)
          go_meet
          case rel => exact ⟨L, R, S, .inl (by simp), inv.more (by omega), (show RowLogic _ _ _ by rw [Htk.out]; exact HL.out.empty), (show _ ∧ _ from ⟨fun _ => rfl, fun h => by simp at h⟩)⟩
        · by_cases hxL : x ∈ L.map Dev.name
          · obtain ⟨d0, hd0, hdn⟩ := List.mem_map.1 hxL
            obtain ⟨j, hj, rfl⟩ := List.mem_iff_getElem.1 hd0
            obtain ⟨k1, k2, k3⟩ := HL.out.known Hnn.out hj (k : Int) 100
            have hh := box_hint_known j hj (k : Int) (by rw [hdn]; exact hx0) hk0 hk9 inv.inv.box (by omega)
            rw [k1, k2, hdn] at hh
            rw [hdn] at k3
            have Hx0 := Lib.hid hx0
            have K3 := Lib.hid k3
            have HxR : Hid (x ∈ R) := (show x ∈ R by rw [HRL.out]; exact hxL)
            have Hh := Lib.hid hh
            clear k1 k2 k3 hh hd0 hdn hxL hx0
            go_wp2_with (fail)
            refine Hh.out.mono ?_
            rintro e w3 ⟨rfl, g3⟩
            obtain ⟨S3, i3⟩ := inv.gone g3
            go_wp2_with (fail)
            go_meet
            case rel => exact ⟨_, R, S3, .inr ⟨rfl, Hx0.out⟩, i3.more (by omega), (show RowLogic _ _ _ by rw [Htk.out]; exact K3.out), (show _ ∧ _ from ⟨fun _ => rfl, fun h => by rw [inR_iff.2 HxR.out] at h; simp at h⟩)⟩
          · have hh := box_hint_new x (k : Int) hsz hx0 hk0 hk9 inv.inv.box (by omega) hxL (by omega)
            have Hx0 := Lib.hid hx0
            have HxL := Lib.hid hxL
            clear hx0 hxL
            go_wp2_with (fail)
            refine hh.mono ?_
            rintro e w3 ⟨B, hB, rfl, g3⟩
            obtain ⟨d, k1, k2, k3⟩ := HL.out.new HxL.out Hx0.out B (k : Int) 100
            rw [k1, k2] at g3
            obtain ⟨S3, i3⟩ := inv.gone g3
            have K3 := Lib.hid k3
            clear k1 k2 k3 g3 hh inv
            go_wp2_with (fail)
            go_meet
            case rel => exact ⟨_, _, S3, .inr ⟨rfl, Hx0.out⟩, i3.more (by omega), (show RowLogic _ _ _ by rw [Htk.out]; exact K3.out), (show _ ∧ _ from ⟨fun h => by rw [inR_false (fun e => HxL.out (HRL.out ▸ e)), decide_eq_false Hx0.out] at h; simp at h, fun _ => rfl⟩)⟩
      case rest =>
        clear inv HL Hnn HRL hLk S L
        obtain ⟨L', R', S', hcase, inv, HL, HR⟩ := hcut
        have cx : wc.cell? ⟨b, o + k, none⟩ = some (.string x) := by
          obtain ⟨b', o', hbo, hc'⟩ := (ht.kept inv.inv.fr).at_ hlt
          obtain ⟨rfl, rfl⟩ : b = b' ∧ o = o' := by simpa using hbo
          rw [Hx.out]; exact hc'
        clear hc
        obtain ⟨e0, he0⟩ : ∃ e0, e0 = decide (x = ByteArray.empty) := ⟨_, rfl⟩
        rw [← he0] at HR
        have hem : x.toList.isEmpty = e0 := by
          rcases hcase with ⟨_, h⟩ | ⟨_, h⟩
          · subst h; rw [he0, decide_eq_true rfl, ByteArray.toList_eq]; rfl
          · rw [he0, decide_eq_false h]; exact text_cons h
        have hz : (u6 = .int .i64 1 ∧ e0 = true) ∨ (u6 = .int .i64 0 ∧ e0 = false) := by
          rcases hcase with ⟨h1, h⟩ | ⟨h1, h⟩
          · exact .inl ⟨h1, by rw [he0, decide_eq_true h]⟩
          · exact .inr ⟨h1, by rw [he0, decide_eq_false h]⟩
        clear hcase he0
        obtain ⟨av, cv, rfl, _, _⟩ := inv.own.shape
        rcases hz with ⟨rfl, rfl⟩ | ⟨rfl, rfl⟩
        · go_wp2_with (fail)
          go_loopg [7, 8] R.length (fun g s i wr => ∃ (j : Nat) (bb : Bool), j ≤ R.length ∧ g = R.length - j ∧ i = .int .i64 j ∧ s = .bool bb ∧ Hid (bb = (true || inR (R.take j) x)) ∧ RInv S' p (2 * (k + 1)) w (.slice av R.length cv) R L' R' wr)
          case atStart => exact ⟨0, _, Nat.zero_le _, rfl, rfl, rfl, rfl, inv⟩
          case round =>
            clear inv cx
            obtain ⟨j, bb, hj, rfl, rfl, rfl, HB, inv⟩ := hrel
            have cx : wr.cell? ⟨b, o + k, none⟩ = some (.string x) := by
              obtain ⟨b', o', hbo, hc'⟩ := (ht.kept inv.inv.fr).at_ hlt
              obtain ⟨rfl, rfl⟩ : b = b' ∧ o = o' := by simpa using hbo
              rw [Hx.out]; exact hc'
            by_cases hlj : j < R.length
            · obtain ⟨b2, o2, rfl, hc2⟩ := Txt.at_ inv.own.sl.2 hlj
              have hst := inR_take hlj x
              have Hst : Hid (inR (R.take (j + 1)) x = (inR (R.take j) x || decide (R[j] = x))) := hst
              clear hst
              cases bb with
              | true =>
                go_wp2_with (fail)
                go_quiet (fail)
                go_wp2_with (fail)
                go_roundg (R.length - (j + 1))
                case measure => omega
                case rel => exact ⟨j + 1, true, by omega, rfl, by go_num, rfl, (show true = _ by rw [Hst.out, ← Bool.or_assoc, ← HB.out]; rfl), inv.drewN _⟩
              | false =>
                by_cases he : R[j] = x
                · have hd : (R[j].toList == x.toList) = true := by rw [same_text, decide_eq_true he]
                  have He := Lib.hid he
                  clear he
                  go_wp2_with (fail)
                  go_quiet (fail)
                  go_wp2_with (fail)
                  go_roundg (R.length - (j + 1))
                  case measure => omega
                  case rel => exact ⟨j + 1, true, by omega, rfl, by go_num, rfl, (show true = _ by rw [Hst.out, ← Bool.or_assoc, ← HB.out, decide_eq_true He.out]; rfl), inv.drewN _⟩
                · have hd : (R[j].toList == x.toList) = false := by rw [same_text, decide_eq_false he]
                  have He := Lib.hid he
                  clear he
                  go_wp2_with (fail)
                  go_quiet (fail)
                  go_wp2_with (fail)
                  go_roundg (R.length - (j + 1))
                  case measure => omega
                  case rel => exact ⟨j + 1, false, by omega, rfl, by go_num, rfl, (show false = _ by rw [Hst.out, ← Bool.or_assoc, ← HB.out, decide_eq_false He.out]; rfl), inv.drewN _⟩
            · obtain rfl : j = R.length := by omega
              have hB := HB.out
              rw [List.take_length] at hB
              cases bb with
              | true =>
                have hR := HR.out.1 hB.symm
                subst hR
                clear hB cx
                go_wp2_with (fail)
                go_roundg (X.length - (k + 1))
                case measure => omega
                case rel => exact ⟨k + 1, L', R', S', by omega, by omega, rfl, by go_num, inv, HL⟩
              | false =>
                have hR := HR.out.2 hB.symm
                have HR2 := Lib.hid hR
                have fa := Fr.alloc Nothing wr (.cells #[Value.string x] 9)
                have hrow : Row (wr.alloc (.cells #[Value.string x] 9)) wr.heap.size [Value.string x] 9 := Row.allocNew wr [Value.string x] 9
                have hsl1 : Sl (wr.alloc (.cells #[Value.string x] 9)) (some ⟨wr.heap.size, 0, none⟩) [Value.string x] := Sl.ofRow hrow
                have own1 := inv.own.fr fa (fun _ _ h => h)
                clear hB hR hrow
                go_wp2_with (at_builtin; go_must (refine wpList_append_fp rfl (.tmp 66) (.tmp 71) 22 rfl 9 i0 (.string ByteArray.empty) 1 16 Try.underlying22 Hi.out Hz0.out Hz1.out Hz2.out rfl (by decide) _ _ _ rfl own1 _ 1 1 [Value.string x] rfl rfl (by simp) hsl1 (by simp [Value.oneCell']) (by unfold maxLen; omega) (by omega) ?_))
                intro v7 w7 o7 f7 n7 s7 _
                have o8 : Owns w7 9 1 v7 R'.length (R'.map Value.string) := by rw [HR2.out]; simpa using o7
                have inv8 := inv.append fa o8 f7 n7
                clear inv own1 hsl1 o7 o8 f7 n7 s7 cx
                go_wp2_with (fail)
                go_roundg (X.length - (k + 1))
                case measure => omega
                case rel => exact ⟨k + 1, L', R', S', by omega, by omega, rfl, by go_num, inv8, HL⟩
        · go_wp2_with (fail)
          go_loopg [7, 8] R.length (fun g s i wr => ∃ (j : Nat) (bb : Bool), j ≤ R.length ∧ g = R.length - j ∧ i = .int .i64 j ∧ s = .bool bb ∧ Hid (bb = (false || inR (R.take j) x)) ∧ RInv S' p (2 * (k + 1)) w (.slice av R.length cv) R L' R' wr)
          case atStart => exact ⟨0, _, Nat.zero_le _, rfl, rfl, rfl, rfl, inv⟩
          case round =>
            clear inv cx
            obtain ⟨j, bb, hj, rfl, rfl, rfl, HB, inv⟩ := hrel
            have cx : wr.cell? ⟨b, o + k, none⟩ = some (.string x) := by
              obtain ⟨b', o', hbo, hc'⟩ := (ht.kept inv.inv.fr).at_ hlt
              obtain ⟨rfl, rfl⟩ : b = b' ∧ o = o' := by simpa using hbo
              rw [Hx.out]; exact hc'
            by_cases hlj : j < R.length
            · obtain ⟨b2, o2, rfl, hc2⟩ := Txt.at_ inv.own.sl.2 hlj
              have hst := inR_take hlj x
              have Hst : Hid (inR (R.take (j + 1)) x = (inR (R.take j) x || decide (R[j] = x))) := hst
              clear hst
              cases bb with
              | true =>
                go_wp2_with (fail)
                go_quiet (fail)
                go_wp2_with (fail)
                go_roundg (R.length - (j + 1))
                case measure => omega
                case rel => exact ⟨j + 1, true, by omega, rfl, by go_num, rfl, (show true = _ by rw [Hst.out, ← Bool.or_assoc, ← HB.out]; rfl), inv.drewN _⟩
              | false =>
                by_cases he : R[j] = x
                · have hd : (R[j].toList == x.toList) = true := by rw [same_text, decide_eq_true he]
                  have He := Lib.hid he
                  clear he
                  go_wp2_with (fail)
                  go_quiet (fail)
                  go_wp2_with (fail)
                  go_roundg (R.length - (j + 1))
                  case measure => omega
                  case rel => exact ⟨j + 1, true, by omega, rfl, by go_num, rfl, (show true = _ by rw [Hst.out, ← Bool.or_assoc, ← HB.out, decide_eq_true He.out]; rfl), inv.drewN _⟩
                · have hd : (R[j].toList == x.toList) = false := by rw [same_text, decide_eq_false he]
                  have He := Lib.hid he
                  clear he
                  go_wp2_with (fail)
                  go_quiet (fail)
                  go_wp2_with (fail)
                  go_roundg (R.length - (j + 1))
                  case measure => omega
                  case rel => exact ⟨j + 1, false, by omega, rfl, by go_num, rfl, (show false = _ by rw [Hst.out, ← Bool.or_assoc, ← HB.out, decide_eq_false He.out]; rfl), inv.drewN _⟩
            · obtain rfl : j = R.length := by omega
              have hB := HB.out
              rw [List.take_length] at hB
              cases bb with
              | true =>
                have hR := HR.out.1 hB.symm
                subst hR
                clear hB cx
                go_wp2_with (fail)
                go_roundg (X.length - (k + 1))
                case measure => omega
                case rel => exact ⟨k + 1, L', R', S', by omega, by omega, rfl, by go_num, inv, HL⟩
              | false =>
                have hR := HR.out.2 hB.symm
                have HR2 := Lib.hid hR
                have fa := Fr.alloc Nothing wr (.cells #[Value.string x] 9)
                have hrow : Row (wr.alloc (.cells #[Value.string x] 9)) wr.heap.size [Value.string x] 9 := Row.allocNew wr [Value.string x] 9
                have hsl1 : Sl (wr.alloc (.cells #[Value.string x] 9)) (some ⟨wr.heap.size, 0, none⟩) [Value.string x] := Sl.ofRow hrow
                have own1 := inv.own.fr fa (fun _ _ h => h)
                clear hB hR hrow
                go_wp2_with (at_builtin; go_must (refine wpList_append_fp rfl (.tmp 66) (.tmp 71) 22 rfl 9 i0 (.string ByteArray.empty) 1 16 Try.underlying22 Hi.out Hz0.out Hz1.out Hz2.out rfl (by decide) _ _ _ rfl own1 _ 1 1 [Value.string x] rfl rfl (by simp) hsl1 (by simp [Value.oneCell']) (by unfold maxLen; omega) (by omega) ?_))
                intro v7 w7 o7 f7 n7 s7 _
                have o8 : Owns w7 9 1 v7 R'.length (R'.map Value.string) := by rw [HR2.out]; simpa using o7
                have inv8 := inv.append fa o8 f7 n7
                clear inv own1 hsl1 o7 o8 f7 n7 s7 cx
                go_wp2_with (fail)
                go_roundg (X.length - (k + 1))
                case measure => omega
                case rel => exact ⟨k + 1, L', R', S', by omega, by omega, rfl, by go_num, inv8, HL⟩
    · have hc2 : k = X.length ∨ (k < X.length ∧ k = 64) := by omega
      clear hlt
      obtain ⟨Y, hY⟩ : ∃ Y, Y = X.take k := ⟨_, rfl⟩
      rw [← hY] at HL
      have Hend : Hid (∀ q, q ≤ X.length → q ≤ 64 → ¬ (q < X.length ∧ q < 64) → X.take q = Y) := (show ∀ q, q ≤ X.length → q ≤ 64 → ¬ (q < X.length ∧ q < 64) → X.take q = Y from fun q h1 h2 h3 => by rw [hY]; congr 1; omega)
      have inv2 := inv.more (M' := 128) (by omega)
      clear inv
      have hRL := HL.out.names
      have hRn : R.Nodup := by rw [hRL]; exact (box_room inv2.inv.box).2.2
      have hRs : ∀ r ∈ R, r ∈ L.map Dev.name := fun r hr => hRL ▸ hr
      have hwt : ∀ j (hj : j < R.length), waitsOf L R[j] = (cnt Y R[j] : Int) := fun j hj => by
        have hj' : j < L.length := by rw [hRL] at hj; simpa using hj
        have e1 : R[j] = L[j].name := by simp only [hRL, List.getElem_map]
        rw [e1, waitsOf_at (box_room inv2.inv.box).2.2 hj']
        exact (HL.out.dev _ (List.getElem_mem hj')).2.2.1
      have hRl : R.length ≤ 64 := by rw [hRL]; simpa using (box_room inv2.inv.box).1
      have HRn := Lib.hid hRn
      have HRs := Lib.hid hRs
      have Hwt := Lib.hid hwt
      have htw := ht.kept inv2.inv.fr
      obtain ⟨av, cv, rfl, _, _⟩ := inv2.own.shape
      clear hY HL hRL hRn hRs hwt
      rcases hc2 with rfl | ⟨h2, rfl⟩
      all_goals
        go_wp2_with (fail)
        refine (box_fetch 100 (by decide) inv2.inv.box (by decide) HRn.out HRs.out).mono ?_
        rintro e w5 ⟨a5, c5, rfl, t5, b5, S5, x5, hs5, f5⟩
        have i5 := inv2.inv.fetched x5 hs5 f5
        have own5 := inv2.own.fr f5 inv2.apart
        have T5 := Lib.hid t5
        have tO := own5.sl.2
        clear x5 hs5 f5 inv2 b5 t5 htw
        go_wp2_with (fail)
        go_loopg [10] R.length (fun g i wr => ∃ (j n : Nat), j ≤ R.length ∧ g = R.length - j ∧ i = .int .i64 j ∧ wr = w5.drewN n)
        case atStart => exact ⟨0, 0, Nat.zero_le _, rfl, rfl, rfl⟩
        case round =>
          obtain ⟨j, n5, hj, rfl, rfl, rfl⟩ := hrel
          by_cases hlj : j < R.length
          · obtain ⟨b2, o2, rfl, hcO⟩ := Txt.at_ tO hlj
            have hlt5 : j < (toldOf L R).length := by simp [toldOf]; exact hlj
            obtain ⟨b3, o3, rfl, hcT⟩ := T5.out.at_ hlt5
            have hw0 := Hwt.out j hlj
            have c0 := hcT 0 _ rfl
            rw [Nat.add_zero] at c0
            have c1 := hcT 1 _ rfl
            have e0 : (toldOf L R)[j].name = R[j] := by simp [toldOf]
            have e1 : (toldOf L R)[j].count = (cnt Y R[j] : Int) := by simp only [toldOf, List.getElem_map]; exact hw0
            rw [e0] at c0
            rw [e1] at c1
            obtain ⟨r, hr⟩ : ∃ r, r = R[j] := ⟨_, rfl⟩
            rw [← hr] at hcO c0 c1
            clear hcT hw0 e0 e1 hr hlt5
            go_wp2_with (fail)
            go_loopg [11, 12] X.length (fun g n i wr => ∃ (q m : Nat), q ≤ X.length ∧ q ≤ 64 ∧ g = X.length - q ∧ i = .int .i64 q ∧ n = .int .i64 (cnt (X.take q) r) ∧ wr = w5.drewN m)
            case atStart => exact ⟨0, n5, Nat.zero_le _, Nat.zero_le _, rfl, rfl, rfl, rfl⟩
            case round =>
              obtain ⟨q, m5, hq, hq64, rfl, rfl, rfl, rfl⟩ := hrel
              by_cases hlq : q < X.length ∧ q < 64
              · obtain ⟨hlq, h64⟩ := hlq
                have h64i : (q : Int) < 64 := by omega
                obtain ⟨b4, o4, rfl, hcX⟩ := (ht.kept i5.fr).at_ hlq
                have hst := cnt_snoc (X.take q) X[q] r
                rw [← List.take_succ_eq_append_getElem hlq] at hst
                have hcl : cnt (X.take q) r ≤ q := by unfold cnt; refine Nat.le_trans (List.length_filter_le _ _) ?_; simp; omega
                obtain ⟨C, hC⟩ : ∃ C, C = cnt (X.take q) r := ⟨_, rfl⟩
                rw [← hC] at hst hcl
                rw [← hC]
                by_cases he : X[q] = r
                · have hd : (X[q].toList == r.toList) = true := by rw [same_text, decide_eq_true he]
                  rw [if_pos he] at hst
                  have Hst := Lib.hid hst
                  clear hst he hC
                  go_wp2_with (fail)
                  go_quiet (fail)
                  go_wp2_with (fail)
                  go_roundg (X.length - (q + 1))
                  case measure => omega
                  case rel => exact ⟨q + 1, _, by omega, by omega, rfl, by go_num, by rw [Hst.out]; go_num, rfl⟩
                · have hd : (X[q].toList == r.toList) = false := by rw [same_text, decide_eq_false he]
                  rw [if_neg he] at hst
                  have Hst := Lib.hid hst
                  clear hst he hC
                  go_wp2_with (fail)
                  go_quiet (fail)
                  go_wp2_with (fail)
                  go_roundg (X.length - (q + 1))
                  case measure => omega
                  case rel => exact ⟨q + 1, _, by omega, by omega, rfl, by go_num, by rw [Hst.out, Nat.add_zero], rfl⟩
              · have hYq := Hend.out q hq hq64 hlq
                rw [hYq]
                have hc3 : q = X.length ∨ (q < X.length ∧ (64 : Int) ≤ q) := by omega
                clear hlq hYq
                rcases hc3 with rfl | ⟨h3, h4⟩
                all_goals
                  first
                    | (exfalso; omega)
                    | (go_wp2_with (fail)
                       go_quiet (fail)
                       go_wp2_with (fail)
                       go_roundg (R.length - (j + 1))
                       case measure => omega
                       case rel => exact ⟨j + 1, _, by omega, rfl, by go_num, rfl⟩)
          · obtain rfl : j = R.length := by omega
            go_wp2_with (fail)
            refine (box_len (by exact (i5.drewN _).box)).mono ?_
            rintro e w8 ⟨rfl, rfl⟩
            go_wp2_with (fail)
            go_ret
            exact ⟨rfl, (i5.drewN _).fr.belowB⟩

end Go.Proofs.Ytipkkhigcnhjdaa
