/- A list with steps, as the program makes it; two rows of steps as one. Condition: the texts' lengths, as the form says them. -/
import Derived.Test.YtfedaolpanncoaaSrtI
import Derived.Test.YtfedaolpanncoaaSrtS
import Derived.Test.YtfedaolpanncoaaDigOdd
namespace Go.Proofs.Ytfedaolpanncoaa
open Go.RowKit

def putF (f : ByteArray → Option Item) (x : Item) : ByteArray → Option Item := fun j => if j = x.user then some x else f j
def stepF (f : ByteArray → Option Item) (s : DStep) : ByteArray → Option Item := fun j => if j = s.user then (if s.gone then none else some s.item) else f j
def makeF (l : List Item) (s : List DStep) : ByteArray → Option Item := s.foldl stepF (l.foldl putF fun _ => none)
def DStep.Fit (s : DStep) : Prop := s.user.size ≤ maxLen
theorem putF_key {f : ByteArray → Option Item} (h : ∀ k x, f k = some x → x.user = k) (y : Item) : ∀ k x, putF f y k = some x → x.user = k := by
  intro k x hx
  unfold putF at hx
  split at hx
  · rename_i e; cases hx; exact e.symm
  · exact h k x hx
theorem stepF_key {f : ByteArray → Option Item} (h : ∀ k x, f k = some x → x.user = k) {s : DStep} (hs : oddB s = false) : ∀ k x, stepF f s k = some x → x.user = k := by
  intro k x hx
  unfold stepF at hx
  split at hx
  · rename_i e
    split at hx
    · cases hx
    · rename_i hg
      cases hx
      unfold oddB at hs
      rw [if_neg hg] at hs
      have : s.item.user = s.user := by simpa using hs
      rw [this, e]
  · exact h k x hx
theorem makeF_key (l : List Item) {s : List DStep} (hs : s.any oddB = false) : ∀ k x, makeF l s k = some x → x.user = k := by
  unfold makeF
  have h0 : ∀ k x, (l.foldl putF fun _ => none) k = some x → x.user = k := by
    have : ∀ (l : List Item) (f : ByteArray → Option Item), (∀ k x, f k = some x → x.user = k) → ∀ k x, (l.foldl putF f) k = some x → x.user = k := by
      intro l
      induction l with
      | nil => intro f h; exact h
      | cons y l ih => intro f h; exact ih _ (putF_key h y)
    exact this l _ (fun k x h => by cases h)
  generalize (l.foldl putF fun _ => none) = f at h0
  induction s generalizing f with
  | nil => exact h0
  | cons y s ih =>
    rw [List.any_cons, Bool.or_eq_false_iff] at hs
    exact ih hs.2 _ (stepF_key h0 hs.1)
/-- The map under way. -/
structure MapW (w wr : World) (f : ByteArray → Option Item) (n : Nat) : Prop where
  map : IsMapV itemE wr w.heap.size f n
  fr : Fr Nothing w wr
theorem MapW.step {w wr w' : World} {f f' : ByteArray → Option Item} {n n' : Nat} (h : MapW w wr f n) (m : IsMapV itemE w' w.heap.size f' n') (F : Fr (fun x => x = w.heap.size) wr w') : MapW w w' f' n' :=
  ⟨m, h.fr.trans F (fun k hk e => by omega)⟩
theorem MapW.cast {w wr : World} {f f' : ByteArray → Option Item} {n : Nat} (h : MapW w wr f n) (e : f = f') : MapW w wr f' n := e ▸ h
theorem MapW.quiet {w wr w' : World} {f : ByteArray → Option Item} {n : Nat} (h : MapW w wr f n) (F : Fr Nothing wr w') : MapW w w' f n := ⟨h.map.fr F (fun h => h), h.fr.trans' F⟩
set_option maxRecDepth 100000 in
set_option maxHeartbeats 8000000 in
theorem dig_make (a b : Option Addr) (ca cb : Nat) (l : List Item) (s : List DStep) (w : World) (hA : Items w a l) (hB : Steps w b s) (la : l.length ≤ 1000) (lb : s.length ≤ 1000) (hr : riseB l = true) (ho : s.any oddB = false)
    (hga : ∀ x ∈ l, x.user.size ≤ maxLen) (hgb : ∀ x ∈ s, x.user.size ≤ maxLen) :
    Calls Try.prog 15 #[.slice a l.length ca, .slice b s.length cb] w fun e w' => ∃ v xs, e = .returned v ∧ ListedI (makeF l s) xs ∧ CollE w 27 4 v xs.length (xs.flatMap Item.cells) w' := by
  have HA := Lib.hid hA
  have HB := Lib.hid hB
  have HGA := Lib.hid hga
  have HGB := Lib.hid hgb
  have hkey := Lib.hid (makeF_key l ho)
  have HO := Lib.hid ho
  clear hA hB hga hgb ho
  go_enter Try.func15, Try.ntmps15
  go_wp2_with (fail)
  refine (dig_right a ca l _ HA.out la).mono ?_
  rintro e w1 ⟨rfl, n1, rfl⟩
  rw [hr]
  go_wp2_with (fail)
  refine (dig_contains b cb s _ (HB.out.fr (Fr.drewN Nothing w n1) (fun _ _ h => h)) lb).mono ?_
  rintro e wm ⟨rfl, F2⟩
  rw [HO.out]
  have Fm : Fr Nothing w wm := (Fr.drewN Nothing w n1).trans' F2
  have HA2 := Lib.hid (HA.out.fr Fm (fun _ _ h => h))
  have HB2 := Lib.hid (HB.out.fr Fm (fun _ _ h => h))
  have M0 : MapW wm (wm.alloc (.map #[] 0)) (([] : List Item).foldl putF fun _ => none) 0 := ⟨IsMapV.made wm, Fr.alloc Nothing _ _⟩
  have hmk := @run_makeMap Try.prog
  go_wp2_with (fail)
  go_loopg [20] l.length (fun g i wr => ∃ (k n : Nat), k ≤ l.length ∧ g = l.length - k ∧ i = .int .i64 k ∧ n ≤ k ∧ MapW wm wr ((l.take k).foldl putF fun _ => none) n)
  case atStart => exact ⟨0, 0, Nat.zero_le _, rfl, rfl, Nat.le_refl _, M0⟩
  case round =>
    clear M0
    obtain ⟨k, n, hk, rfl, rfl, hnk, M⟩ := hrel
    by_cases hlt : k < l.length
    · obtain ⟨b1, o1, rfl, hc⟩ := (HA2.out.fr M.fr (fun _ _ h => h)).at_ hlt
      obtain ⟨x, hx⟩ : ∃ x, x = l[k] := ⟨_, rfl⟩
      have hxs := HGA.out l[k] (List.getElem_mem hlt)
      rw [← hx] at hc hxs
      have HX := Lib.hid hx
      have c0 : wr.cell? ⟨b1, o1 + k * 4, none⟩ = some (.string x.user) := hc 0 _ rfl
      have c1 : wr.cell? ⟨b1, o1 + k * 4 + 1, none⟩ = some (.string x.name) := hc 1 _ rfl
      have c2 : wr.cell? ⟨b1, o1 + k * 4 + 2, none⟩ = some (.int .i64 x.sub) := hc 2 _ rfl
      have c3 : wr.cell? ⟨b1, o1 + k * 4 + 3, none⟩ = some (.bool x.asked) := hc 3 _ rfl
      have M1 := M.quiet (Fr.alloc Nothing wr (.cells x.cells.toArray 27))
      unfold Item.cells at M1
      have HXS := Lib.hid hxs
      clear hc hx hxs
      go_wp2_with (at_mapUpdate; refine wpList_mapV_store (E := itemE) (v := x) rfl _ _ _ rfl Try.underlying52 M1.map (by unfold maxLen; omega) rfl rfl rfl HXS.out ?_; intro w3 m3 F3; obtain ⟨n3, hn3, M3⟩ : ∃ n3, n3 ≤ n + 1 ∧ MapW wm w3 (putF ((l.take k).foldl putF fun _ => none) x) n3 := ⟨_, by split <;> omega, M1.step m3 F3⟩)
      go_roundg (l.length - (k + 1))
      case measure => omega
      case rel =>
        refine ⟨k + 1, n3, by omega, rfl, by go_num, by omega, ?_⟩
        rw [List.take_succ_eq_append_getElem hlt, List.foldl_append, ← HX.out]
        exact M3
    · obtain rfl : k = l.length := by omega
      rw [List.take_length] at M
      have Mz : MapW wm wr (([] : List DStep).foldl stepF (l.foldl putF fun _ => none)) n := M
      clear M
      obtain ⟨f0, hf0⟩ : ∃ f0, f0 = (l.foldl putF fun _ => none) := ⟨_, rfl⟩
      rw [← hf0] at Mz
      have HF0 := Lib.hid hf0
      have hn1 : n ≤ 1000 := by omega
      clear hf0 hlt hk
      go_wp2_with (fail)
      go_loopg [31] s.length (fun g i wr => ∃ (k m : Nat), k ≤ s.length ∧ g = s.length - k ∧ i = .int .i64 k ∧ m ≤ n + k ∧ MapW wm wr ((s.take k).foldl stepF f0) m)
      case atStart => exact ⟨0, n, Nat.zero_le _, rfl, rfl, Nat.le_refl _, Mz⟩
      case round =>
        clear Mz
        obtain ⟨k, m, hk, rfl, rfl, hmk', M⟩ := hrel
        by_cases hlt : k < s.length
        · obtain ⟨b1, o1, rfl, hc⟩ := (HB2.out.fr M.fr (fun _ _ h => h)).at_ hlt
          obtain ⟨x, hx⟩ : ∃ x, x = s[k] := ⟨_, rfl⟩
          have hxs := HGB.out s[k] (List.getElem_mem hlt)
          rw [← hx] at hc hxs
          have HX := Lib.hid hx
          have hwr : ¬ (fun x : Nat => x = wm.heap.size) wr.heap.size := fun e => by have := M.map.lt; simp only at e; omega
          obtain ⟨f1, hf1⟩ : ∃ f1, f1 = (s.take k).foldl stepF f0 := ⟨_, rfl⟩
          rw [← hf1] at M
          have HF1 := Lib.hid hf1
          obtain ⟨u, it, g⟩ := x
          have c0 : wr.cell? ⟨b1, o1 + k * 6, none⟩ = some (.string u) := hc 0 _ rfl
          have c1 : wr.cell? ⟨b1, o1 + k * 6 + 1, none⟩ = some (.string it.user) := hc 1 _ rfl
          have c2 : wr.cell? ⟨b1, o1 + k * 6 + 2, none⟩ = some (.string it.name) := hc 2 _ rfl
          have c3 : wr.cell? ⟨b1, o1 + k * 6 + 3, none⟩ = some (.int .i64 it.sub) := hc 3 _ rfl
          have c4 : wr.cell? ⟨b1, o1 + k * 6 + 4, none⟩ = some (.bool it.asked) := hc 4 _ rfl
          have c5 : wr.cell? ⟨b1, o1 + k * 6 + 5, none⟩ = some (.bool g) := hc 5 _ rfl
          have HXS : Hid (u.size ≤ maxLen) := Lib.hid hxs
          have M1 := M.quiet (Fr.alloc Nothing wr (.cells #[.string u, .string it.user, .string it.name, .int .i64 it.sub, .bool it.asked, .bool g] 37))
          have R1 := Lib.hid (Row.allocNew wr [.string u, .string it.user, .string it.name, .int .i64 it.sub, .bool it.asked, .bool g] 37)
          clear hc hx hxs hf1
          cases g with
          | false =>
            go_wp2_with (at_mapUpdate; refine wpList_mapV_store (E := itemE) (v := it) rfl _ _ _ rfl Try.underlying52 M1.map (by unfold maxLen; omega) rfl rfl rfl HXS.out ?_; intro w3 m3 F3; obtain ⟨n3, hn3, M3⟩ : ∃ n3, n3 ≤ m + 1 ∧ MapW wm w3 (stepF f1 ⟨u, it, false⟩) n3 := ⟨_, by split <;> omega, M1.step (f' := stepF f1 ⟨u, it, false⟩) m3 F3⟩; have e5 := (R1.out.fr (S := fun x => x = wm.heap.size) F3 hwr).cell 5 rfl)
            go_roundg (s.length - (k + 1))
            case measure => omega
            case rel =>
              refine ⟨k + 1, n3, by omega, rfl, by go_num, by omega, ?_⟩
              rw [List.take_succ_eq_append_getElem hlt, List.foldl_append, ← HX.out, ← HF1.out]
              exact M3
          | true =>
            go_wp2_with (at_mapUpdate; refine wpList_mapV_store (E := itemE) (v := it) rfl _ _ _ rfl Try.underlying52 M1.map (by unfold maxLen; omega) rfl rfl rfl HXS.out ?_; intro w3 m3 F3; obtain ⟨w4, hr4, m4, F4⟩ := m3.drop Try.underlying52 HXS.out 0; have e5 := (R1.out.fr (S := fun x => x = wm.heap.size) F3 hwr).cell 5 rfl; have e0 := (R1.out.fr (S := fun x => x = wm.heap.size) F3 hwr).cell 0 rfl)
            have hstep : (fun j => if j = u then none else (fun j => if j = u then some it else f1 j) j) = stepF f1 ⟨u, it, true⟩ := by
              funext j
              unfold stepF
              by_cases e : j = u
              · simp [e]
              · simp [e]
            obtain ⟨n4, hn4, M4⟩ : ∃ n4, n4 ≤ m + 1 ∧ MapW wm w4 (stepF f1 ⟨u, it, true⟩) n4 := ⟨_, by have h3 : (if (f1 u).isSome = true then m else m + 1) ≤ m + 1 := (by split <;> omega); have h4 : ∀ (c : Bool) (q : Nat), q ≤ m + 1 → (if c = true then q - 1 else q) ≤ m + 1 := (fun c q h => by cases c <;> simp <;> omega); exact h4 _ _ h3, ((M1.step m3 F3).step m4 F4).cast hstep⟩
            go_roundg (s.length - (k + 1))
            case measure => omega
            case rel =>
              refine ⟨k + 1, n4, by omega, rfl, by go_num, by omega, ?_⟩
              rw [List.take_succ_eq_append_getElem hlt, List.foldl_append, ← HX.out, ← HF1.out]
              exact M4
        · obtain rfl : k = s.length := by omega
          rw [List.take_length, HF0.out] at M
          go_wp2_with (first
            | (go_at_call 26; refine (mapvals_makeI _ _ wm.heap.size rfl).mono ?_; rintro e w5 ⟨rfl, rfl⟩)
            | (go_at_call 25; refine (sorted_callI (makeF l s) hkey.out wm.heap.size m wr.heap.size _ (by omega) (by simp) ((Row.allocNew wr [.map (some wm.heap.size)] _).cell 0 rfl) (M.map.fr (Fr.alloc Nothing _ _) (fun h => h))).mono ?_; rintro e w6 ⟨v, xs, rfl, hL, co⟩))
          go_ret
          exact ⟨v, xs, rfl, hL, co.over (Fm.trans' (M.fr.trans' (Fr.alloc _ _ _)))⟩
set_option maxRecDepth 100000 in
set_option maxHeartbeats 4000000 in
/-- Of a list that may not be, or with a step that may not be: nothing. -/
theorem dig_make_bad (a b : Option Addr) (ca cb : Nat) (l : List Item) (s : List DStep) (w : World) (hA : Items w a l) (hB : Steps w b s) (la : l.length ≤ 1000) (lb : s.length ≤ 1000) (hbad : riseB l = false ∨ s.any oddB = true) :
    Calls Try.prog 15 #[.slice a l.length ca, .slice b s.length cb] w fun e w' => e = .returned (.slice none 0 0) ∧ Fr Nothing w w' := by
  have HA := Lib.hid hA
  have HB := Lib.hid hB
  clear hA hB
  go_enter Try.func15, Try.ntmps15
  go_wp2_with (fail)
  refine (dig_right a ca l _ HA.out la).mono ?_
  rintro e w1 ⟨rfl, n1, rfl⟩
  cases hr : riseB l with
  | false =>
    clear hbad
    go_wp2_with (fail)
    go_ret
    exact ⟨rfl, Fr.drewN _ _ _⟩
  | true =>
    have HO : Hid (s.any oddB = true) := Lib.hid (by rcases hbad with h | h; rw [hr] at h; cases h; exact h)
    clear hbad
    go_wp2_with (fail)
    refine (dig_contains b cb s _ (HB.out.fr (Fr.drewN Nothing w n1) (fun _ _ h => h)) lb).mono ?_
    rintro e wm ⟨rfl, F2⟩
    rw [HO.out]
    go_wp2_with (fail)
    go_ret
    exact ⟨rfl, (Fr.drewN Nothing w n1).trans' F2⟩
def joinF (s : List DStep) : ByteArray → Option DStep := s.foldl (fun f x j => if j = x.user then some x else f j) fun _ => none
theorem joinF_snoc (s : List DStep) (x : DStep) : joinF (s ++ [x]) = fun j => if j = x.user then some x else joinF s j := by unfold joinF; rw [List.foldl_append]; rfl
theorem joinF_key (s : List DStep) : ∀ k x, joinF s k = some x → x.user = k := by
  unfold joinF
  have : ∀ (l : List DStep) (f : ByteArray → Option DStep), (∀ k x, f k = some x → x.user = k) → ∀ k x, (l.foldl (fun f x j => if j = x.user then some x else f j) f) k = some x → x.user = k := by
    intro l
    induction l with
    | nil => intro f h; exact h
    | cons y l ih =>
      intro f h
      refine ih _ fun k x hx => ?_
      simp only at hx
      split at hx
      · rename_i e; cases hx; exact e.symm
      · exact h k x hx
  exact this s _ (fun k x h => by cases h)
end Go.Proofs.Ytfedaolpanncoaa
