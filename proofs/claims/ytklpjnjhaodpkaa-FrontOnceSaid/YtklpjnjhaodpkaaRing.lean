/- Contracts of package ring: each call of a ring does to its list of texts what the document says. Condition: the ring lies in memory as New makes it. -/
import Derived.Test.YtklpjnjhaodpkaaRows
import Derived.Test.YtklpjnjhaodpkaaBase
namespace Go.Proofs.Ytklpjnjhaodpkaa
open Go.RowKit

/-- A ring at block p, its texts in block g; of the texts L those lie where they should whose places P names. -/
structure RingP (P : Nat → Prop) (w : World) (p g f : Nat) (ss : List ByteArray) (L : List ByteArray) : Prop where
  ne : p ≠ g
  head : Row w p [.slice (some ⟨g, 0, none⟩) ss.length ss.length, .int .i64 f, .int .i64 L.length] 72
  body : Row w g (ss.map Value.string) 9
  n1 : 1 ≤ ss.length
  n64 : ss.length ≤ 64
  fn : f < ss.length
  ln : L.length ≤ ss.length
  at_ : ∀ i, P i → i < L.length → ss[(f + i) % ss.length]? = L[i]?

abbrev RingAt (w : World) (p g f : Nat) (ss : List ByteArray) (L : List ByteArray) : Prop := RingP (fun _ => True) w p g f ss L

section
variable {P : Nat → Prop} {w : World} {p g f : Nat} {ss L : List ByteArray}
theorem RingP.places (h : RingP P w p g f ss L) : w.cell? ⟨p, 0, none⟩ = some (.slice (some ⟨g, 0, none⟩) ss.length ss.length) := h.head.cell 0 rfl
theorem RingP.first (h : RingP P w p g f ss L) : w.cell? ⟨p, 1, none⟩ = some (.int .i64 f) := h.head.cell 1 rfl
theorem RingP.count (h : RingP P w p g f ss L) : w.cell? ⟨p, 2, none⟩ = some (.int .i64 L.length) := h.head.cell 2 rfl
theorem RingP.fr {S : Nat → Prop} {w' : World} (h : RingP P w p g f ss L) (F : Fr S w w') (hp : ¬ S p) (hg : ¬ S g) : RingP P w' p g f ss L :=
  ⟨h.ne, h.head.fr F hp, h.body.fr F hg, h.n1, h.n64, h.fn, h.ln, h.at_⟩
theorem RingP.drewN (h : RingP P w p g f ss L) (n : Nat) : RingP P (w.drewN n) p g f ss L := ⟨h.ne, h.head, h.body, h.n1, h.n64, h.fn, h.ln, h.at_⟩
theorem RingP.drew (h : RingP P w p g f ss L) : RingP P w.drew p g f ss L := ⟨h.ne, h.head, h.body, h.n1, h.n64, h.fn, h.ln, h.at_⟩
theorem mod_two {f i n : Nat} (hf : f < n) (hi : i ≤ n) : (f + i) % n = if f + i < n then f + i else f + i - n := by
  split
  · exact Nat.mod_eq_of_lt (by omega)
  · rename_i h
    rw [Nat.mod_eq_sub_mod (by omega)]; exact Nat.mod_eq_of_lt (by omega)
theorem mod_ne {f i j n : Nat} (hf : f < n) (hi : i ≤ n) (hj : j ≤ n) (hij : i ≠ j) (h : ¬ (i = 0 ∧ j = n)) (h' : ¬ (j = 0 ∧ i = n)) : (f + i) % n ≠ (f + j) % n := by
  rw [mod_two hf hi, mod_two hf hj]
  split <;> split <;> omega
theorem RingP.push {s : ByteArray} (h : RingP (fun _ => True) w p g f ss L) (hl : L.length < ss.length) :
    RingP (fun _ => True) ((w.setCell ⟨g, (f + L.length) % ss.length, none⟩ (.string s)).setCell ⟨p, 2, none⟩ (.int .i64 ((L.length : Int) + 1))) p g f (ss.set ((f + L.length) % ss.length) s) (L ++ [s]) := by
  have hne := h.ne
  refine ⟨h.ne, ?_, ?_, by simpa using h.n1, by simpa using h.n64, by simpa using h.fn, by simp; omega, fun i _ hi => ?_⟩
  · have := (h.head.setOther (a := ⟨g, (f + L.length) % ss.length, none⟩) hne (.string s)).set 2 (.int .i64 ((L.length : Int) + 1))
    simpa using this
  · have := (h.body.set ((f + L.length) % ss.length) (.string s)).setOther (a := ⟨p, 2, none⟩) (fun e => hne e.symm) (.int .i64 ((L.length : Int) + 1))
    rw [List.map_set]; exact this
  · simp only [List.length_append, List.length_singleton, List.length_set] at hi ⊢
    rw [List.getElem?_set]
    have hlen : (f + L.length) % ss.length < ss.length := Nat.mod_lt _ (by have := h.n1; omega)
    by_cases he : i = L.length
    · subst he; simp [hlen]
    · rw [if_neg (mod_ne h.fn (by omega) (by omega) (fun e => he e.symm) (by omega) (by omega)), h.at_ i trivial (by omega), List.getElem?_append_left (by omega)]
theorem RingP.clear {i : Nat} (h : RingP P w p g f ss L) (hi : i < L.length) (s : ByteArray) :
    RingP (fun j => P j ∧ j ≠ i) (w.setCell ⟨g, (f + i) % ss.length, none⟩ (.string s)) p g f (ss.set ((f + i) % ss.length) s) L := by
  have hne := h.ne
  have hln := h.ln
  refine ⟨h.ne, ?_, ?_, by simpa using h.n1, by simpa using h.n64, by simpa using h.fn, by simpa using h.ln, fun j hj hjl => ?_⟩
  · have := (h.head.setOther (a := ⟨g, (f + i) % ss.length, none⟩) hne (.string s))
    simpa using this
  · have := (h.body.set ((f + i) % ss.length) (.string s))
    rw [List.map_set]; exact this
  · simp only [List.length_set]
    rw [List.getElem?_set, if_neg (mod_ne h.fn (by omega) (by omega) (fun e => hj.2 e.symm) (by omega) (by omega))]
    exact h.at_ j hj.1 hjl
theorem RingP.dropped {k : Nat} (h : RingP (fun j => k ≤ j) w p g f ss L) (hk : k ≤ L.length) :
    RingP (fun _ => True) ((w.setCell ⟨p, 1, none⟩ (.int .i64 (((f : Int) + k) % (ss.length : Int)))).setCell ⟨p, 2, none⟩ (.int .i64 ((L.length : Int) - k))) p g ((f + k) % ss.length) ss (L.drop k) := by
  have hne := h.ne
  have hln := h.ln
  have hlt : (f + k) % ss.length < ss.length := Nat.mod_lt _ (by have := h.n1; omega)
  refine ⟨h.ne, ?_, (h.body.setOther (a := ⟨p, 1, none⟩) (fun e => hne e.symm) _).setOther (a := ⟨p, 2, none⟩) (fun e => hne e.symm) _, h.n1, h.n64, hlt, by simp; omega, fun i _ hi => ?_⟩
  · have e : (((L.drop k).length : Nat) : Int) = (L.length : Int) - k := by simp; omega
    rw [e]
    exact (h.head.set 1 (.int .i64 (((f : Int) + k) % (ss.length : Int)))).set 2 (.int .i64 ((L.length : Int) - k))
  · simp only [List.length_drop] at hi
    rw [Nat.mod_add_mod, Nat.add_assoc, h.at_ (k + i) (by omega) (by omega), List.getElem?_drop]
theorem RingP.cutted {n : Nat} (h : RingP (fun j => j < n) w p g f ss L) (hk : n ≤ L.length) :
    RingP (fun _ => True) (w.setCell ⟨p, 2, none⟩ (.int .i64 n)) p g f ss (L.take n) := by
  have hne := h.ne
  have hln := h.ln
  refine ⟨h.ne, ?_, h.body.setOther (a := ⟨p, 2, none⟩) (fun e => hne e.symm) _, h.n1, h.n64, h.fn, by simp; omega, fun i _ hi => ?_⟩
  · have e : (((L.take n).length : Nat) : Int) = (n : Int) := by simp; omega
    rw [e]
    exact h.head.set 2 (.int .i64 n)
  · simp only [List.length_take] at hi
    rw [h.at_ i (by omega) (by omega), List.getElem?_take_of_lt (by omega)]
theorem RingP.weak {P' : Nat → Prop} (h : RingP P w p g f ss L) (hP : ∀ i, i < L.length → P' i → P i) : RingP P' w p g f ss L :=
  ⟨h.ne, h.head, h.body, h.n1, h.n64, h.fn, h.ln, fun i hi hl => h.at_ i (hP i hl hi) hl⟩
end

set_option maxHeartbeats 400000 in
theorem place_any (p g n f i : Nat) (w : World)
    (h0 : w.cell? ⟨p, 0, none⟩ = some (.slice (some ⟨g, 0, none⟩) n n))
    (h1 : w.cell? ⟨p, 1, none⟩ = some (.int .i64 f))
    (hn : 1 ≤ n) (hn' : n ≤ 64) (hf : f < n) (hi : i ≤ n) :
    Calls Try.prog 65 #[.pointer (some ⟨p, 0, none⟩), .int .i64 i] w fun e w' => e = .returned (.pointer (some ⟨g, (f + i) % n, none⟩)) ∧ ∃ m, w' = w.drewN m := by
  have e1 : IntKind.i64.wrap ((f : Int) + i) = (f : Int) + i := IntWalk.i64_in _ (by omega)
  have e4 : ((f : Int) + i) % n < n := Int.emod_lt_of_pos _ (by omega)
  have hz : n ≠ 0 := by omega
  have e5 : 0 ≤ ((f : Int) + i) % n := Int.emod_nonneg _ (by omega)
  go_enter Try.func65, Try.ntmps65
  go_wp2
  go_quiet (fail)
  go_wp2
  go_ret
  exact ⟨rfl, nq, rfl⟩

set_option maxHeartbeats 400000 in
theorem len_any (p g f : Nat) (ss L : List ByteArray) (w : World) {P : Nat → Prop} (h : RingP P w p g f ss L) :
    Calls Try.prog 33 #[.pointer (some ⟨p, 0, none⟩)] w fun e w' => e = .returned (.int .i64 L.length) ∧ w = w' := by
  have h2 := h.count
  clear h
  go_enter Try.func33, Try.ntmps33
  go_wp2
  go_ret
  exact ⟨rfl, rfl⟩

set_option maxHeartbeats 400000 in
theorem push_full (p g f : Nat) (ss L : List ByteArray) (s : ByteArray) (w : World) (h : RingAt w p g f ss L) (hl : L.length = ss.length) :
    Calls Try.prog 66 #[.pointer (some ⟨p, 0, none⟩), .string s] w fun e w' => e = .returned (.bool false) ∧ ∃ m, w' = w.drewN m := by
  have h0 := h.places
  have h2 := h.count
  rw [hl] at h2
  clear h hl
  go_enter Try.func66, Try.ntmps66
  go_wp2
  go_quiet (fail)
  go_wp2
  go_ret
  exact ⟨rfl, nq, rfl⟩

set_option maxHeartbeats 400000 in
theorem push_room (p g f : Nat) (ss L : List ByteArray) (s : ByteArray) (w : World) (h : RingAt w p g f ss L) (hl : L.length < ss.length) :
    Calls Try.prog 66 #[.pointer (some ⟨p, 0, none⟩), .string s] w fun e w' => e = .returned (.bool true) ∧
      RingAt w' p g f (ss.set ((f + L.length) % ss.length) s) (L ++ [s]) ∧ Fr (fun k => k = p ∨ k = g) w w' := by
  have h0 := h.places
  have h1 := h.first
  have h2 := h.count
  have hc : ((L.length : Int) == (ss.length : Int)) = false := by rw [beq_eq_false_iff_ne]; omega
  go_enter Try.func66, Try.ntmps66
  go_wp2
  go_quiet (fail)
  clear hc
  have hj : (f + L.length) % ss.length < ss.length := Nat.mod_lt _ (by have := h.n1; omega)
  have hb := h.body.cell ((f + L.length) % ss.length) (v := .string ss[(f + L.length) % ss.length]) (by simp [hj])
  have hbf := h.body.free ((f + L.length) % ss.length)
  have hpf := h.head.free 2
  have hne : ¬ g = p := fun e => h.ne e.symm
  have hn1 := h.n1
  have hn64 := h.n64
  have hfn := h.fn
  have H := Lib.hid h
  clear h
  go_wp2_with (go_at_call 65; go_must (refine (place_any p g ss.length f L.length _ (by exact h0) (by exact h1) hn1 hn64 hfn (by omega)).mono ?_); rintro e w' ⟨rfl, m, rfl⟩)
  go_ret
  exact ⟨rfl, (H.out.drewN (nq + m)).push hl, ((Fr.drewN _ w (nq + m)).trans' (Fr.setCell (.inr rfl) _)).trans' (Fr.setCell (.inl rfl) _)⟩

set_option maxHeartbeats 400000 in
theorem drop_no (p g f : Nat) (ss L : List ByteArray) (n : Int) (w : World) (h : RingAt w p g f ss L) (hn : n < 0 ∨ L.length < n) :
    Calls Try.prog 54 #[.pointer (some ⟨p, 0, none⟩), .int .i64 n] w fun e w' => e = .returned (.bool false) ∧ w = w' := by
  have h2 := h.count
  clear h
  by_cases h0 : n < 0
  · clear hn
    go_enter Try.func54, Try.ntmps54
    go_wp2
    go_ret
    exact ⟨rfl, rfl⟩
  · have h1 : (L.length : Int) < n := by omega
    clear hn
    go_enter Try.func54, Try.ntmps54
    go_wp2
    go_ret
    exact ⟨rfl, rfl⟩

set_option maxHeartbeats 400000 in
theorem drop_yes (p g f : Nat) (ss L : List ByteArray) (n : Nat) (w : World) (h : RingAt w p g f ss L) (hn : n ≤ L.length) :
    Calls Try.prog 54 #[.pointer (some ⟨p, 0, none⟩), .int .i64 n] w fun e w' => e = .returned (.bool true) ∧
      (∃ ss', ss'.length = ss.length ∧ RingAt w' p g ((f + n) % ss.length) ss' (L.drop n)) ∧ Fr (fun k => k = p ∨ k = g) w w' := by
  have h2 := h.count
  have h64 := h.n64
  have hln := h.ln
  have H := Lib.hid h
  clear h
  have d1 : decide ((n : Int) < 0) = false := by simp
  have d2 : decide (L.length < n) = false := by simp; omega
  go_enter Try.func54, Try.ntmps54
  go_wp2
  go_loopw [21] (fun i wr => ∃ k : Nat, k ≤ n ∧ i = .int .i64 k ∧ (∃ ss', ss'.length = ss.length ∧ RingP (fun j => k ≤ j) wr p g f ss' L) ∧ Fr (fun k => k = p ∨ k = g) w wr) (fun i _ => n - (intOf i).toNat)
  case atStart => exact ⟨0, Nat.zero_le _, rfl, ⟨ss, rfl, H.out.weak (fun _ _ _ => trivial)⟩, Fr.refl _ _⟩
  case round =>
    clear d1 d2
    obtain ⟨k, hk, rfl, ⟨ss', hss, hr⟩, hf⟩ := hrel
    have h0 := hr.places
    have h1 := hr.first
    have h2 := hr.count
    have hn1 := hr.n1
    have hn64 := hr.n64
    have hfn := hr.fn
    have hln := hr.ln
    have hne : ¬ g = p := fun e => hr.ne e.symm
    by_cases hlt : k < n
    · have hj : (f + k) % ss'.length < ss'.length := Nat.mod_lt _ (by omega)
      have hb := hr.body.cell ((f + k) % ss'.length) (v := .string ss'[(f + k) % ss'.length]) (by simp [hj])
      have hbf := hr.body.free ((f + k) % ss'.length)
      have HR := Lib.hid hr
      have Hss := Lib.hid hss
      clear hr hss
      go_wp2_with (go_at_call 65; go_must (refine (place_any p g ss'.length f k _ (by exact h0) (by exact h1) hn1 hn64 hfn (by omega)).mono ?_); rintro e w' ⟨rfl, m, rfl⟩)
      go_roundw
      case rel => exact ⟨k + 1, by omega, by go_num, ⟨_, by simpa using Hss.out, ((HR.out.drewN m).clear (by omega) ByteArray.empty).weak (fun i hi hi' => ⟨by omega, by omega⟩)⟩, (hf.trans' (Fr.drewN _ wr m)).trans' (Fr.setCell (.inr rfl) _)⟩
      case measure => simp [intOf]; omega
    · obtain rfl : k = n := by omega
      have hz : ss'.length ≠ 0 := by omega
      have e1 : IntKind.i64.wrap ((f : Int) + k) = (f : Int) + k := IntWalk.i64_in _ (by omega)
      have e4 : ((f : Int) + k) % ss'.length < ss'.length := Int.emod_lt_of_pos _ (by omega)
      have e5 : 0 ≤ ((f : Int) + k) % ss'.length := Int.emod_nonneg _ (by omega)
      have hpf := hr.head.free 1
      have hpf2 := hr.head.free 2
      have HR := Lib.hid hr
      have Hss := Lib.hid hss
      clear hr hss
      go_wp2_with (fail)
      go_still_tail 15, (by kernel_rfl)
      go_wp2_with (fail)
      go_ret
      exact ⟨rfl, ⟨ss', Hss.out, Hss.out ▸ (HR.out.drew).dropped hn⟩, ((hf.trans' (Fr.drew _ wr)).trans' (Fr.setCell (.inl rfl) _)).trans' (Fr.setCell (.inl rfl) _)⟩

end Go.Proofs.Ytklpjnjhaodpkaa
