/- Contracts of package ring, continued: List, Cut, New. Condition: the ring lies in memory as New makes it. -/
import Derived.Test.YtklpjnjhaodpkaaRing
namespace Go.Proofs.Ytklpjnjhaodpkaa
open Go.RowKit

theorem splice_none {α : Type} (L : List α) (k : Nat) : splice L k [] = L := by simp [splice]
theorem splice_all {α : Type} (L cs : List α) (h : cs.length = L.length) : splice L 0 cs = cs := by simp [splice, h]
theorem splice_two {α : Type} (L cs ds : List α) (h : cs.length + ds.length = L.length) : splice (splice L 0 cs) cs.length ds = cs ++ ds := by
  simp only [splice, List.take_zero, List.nil_append, Nat.zero_add]
  rw [List.take_left, ← List.append_assoc, List.drop_eq_nil_of_le (by simp; omega), List.append_nil]
theorem window_one {w : World} {p g f : Nat} {ss L : List ByteArray} (h : RingAt w p g f ss L) (hw : f + L.length ≤ ss.length) :
    ((ss.map Value.string).drop f).take L.length = L.map Value.string := by
  apply List.ext_getElem?
  intro i
  by_cases hi : i < L.length
  · have := h.at_ i trivial hi
    rw [Nat.mod_eq_of_lt (by omega)] at this
    rw [List.getElem?_take_of_lt hi, List.getElem?_drop, List.getElem?_map, List.getElem?_map, this]
  · rw [List.getElem?_eq_none (by simp; omega), List.getElem?_eq_none (by simp; omega)]
theorem window_two {w : World} {p g f : Nat} {ss L : List ByteArray} (h : RingAt w p g f ss L) (hw : ss.length < f + L.length) :
    (ss.map Value.string).drop f ++ (ss.map Value.string).take (L.length - (ss.length - f)) = L.map Value.string := by
  have hf := h.fn
  have hl := h.ln
  apply List.ext_getElem?
  intro i
  by_cases hi : i < L.length
  · have := h.at_ i trivial hi
    rw [mod_two h.fn (by omega)] at this
    by_cases h1 : f + i < ss.length
    · rw [if_pos h1] at this
      rw [List.getElem?_append_left (by simp; omega), List.getElem?_drop, List.getElem?_map, List.getElem?_map, this]
    · rw [if_neg h1] at this
      rw [List.getElem?_append_right (by simp; omega)]
      simp only [List.length_drop, List.length_map]
      rw [List.getElem?_take_of_lt (by omega), List.getElem?_map, List.getElem?_map, ← this]
      congr 2
      omega
  · rw [List.getElem?_eq_none (by simp; omega), List.getElem?_eq_none (by simp; omega)]

theorem Try.infoString : (Try.prog.info? 9).map (fun i => (i.zero, i.size, i.bytes)) = some (some (.string ByteArray.empty), 1, 16) := by kernel_rfl

set_option maxHeartbeats 400000 in
theorem list_nil (p g f : Nat) (ss : List ByteArray) (w : World) (h : RingAt w p g f ss []) :
    Calls Try.prog 60 #[.pointer (some ⟨p, 0, none⟩)] w fun e w' => e = .returned (.slice none 0 0) ∧ w = w' := by
  go_enter Try.func60, Try.ntmps60
  go_wp2_with (go_at_call 33; refine (len_any p g f ss [] _ h).mono ?_; rintro e w' ⟨rfl, rfl⟩)
  go_ret
  exact ⟨rfl, rfl⟩

set_option maxHeartbeats 400000 in
theorem list_some (p g f : Nat) (ss L : List ByteArray) (w : World) (h : RingAt w p g f ss L) (hL : 0 < L.length) :
    Calls Try.prog 60 #[.pointer (some ⟨p, 0, none⟩)] w fun e w' => e = .returned (.slice (some ⟨w.heap.size, 0, none⟩) L.length L.length) ∧
      Row w' w.heap.size (L.map Value.string) 9 ∧ Fr Nothing w w' := by
  obtain ⟨i0, hi, hz0, hz1, hz2⟩ := info_parts Try.infoString
  have hn1 := h.n1
  have hn64 := h.n64
  have hfn := h.fn
  have hln := h.ln
  have hz : ((L.length : Int) == 0) = false := by rw [beq_eq_false_iff_ne]; omega
  have hby : i0.bytes * L.length ≤ 281474976710656 := by rw [hz2]; omega
  have hml : L.length ≤ maxLen := by unfold maxLen; omega
  have Hz2 := Lib.hid hz2
  have Hz1 := Lib.hid hz1
  have Hz0 := Lib.hid hz0
  have Hi := Lib.hid hi
  clear hz2 hz1 hz0 hi
  go_enter Try.func60, Try.ntmps60
  go_wp2_with (first | (go_at_call 33; refine (len_any p g f ss L _ h).mono ?_; rintro e w' ⟨rfl, rfl⟩; have H := Lib.hid h; clear h) | (at_make; go_must (refine wpList_make_row _ rfl _ _ 28 rfl 9 i0 (.string ByteArray.empty) Try.underlying28 Hi.out Hz0.out Hz1.out rfl .i64 .i64 _ _ L.length rfl rfl rfl rfl hby hml ?_); intro w1 hr1 hf1 hlt1))
  have hr := H.out.fr hf1 id id
  have H0 := H
  have h0 := hr.places
  have h1 := hr.first
  have HR := Lib.hid hr
  have Hr1 := Lib.hid hr1
  have e1 : IntKind.i64.wrap ((f : Int) + L.length) = (f : Int) + L.length := IntWalk.i64_in _ (by omega)
  clear hr hr1 H hz hby hml
  have nf : ¬ ss.length = f := by omega
  have p0 : (0 : Int) ≤ (f : Int) + L.length := by omega
  have tn : ((f : Int) + L.length).toNat = f + L.length := by omega
  have fl : f ≤ ss.length := by omega
  by_cases hw : f + L.length ≤ ss.length
  · have a1 : ¬ ((ss.length : Int) < (f : Int) + L.length) := by omega
    have a2 : (f : Int) + L.length ≤ (ss.length : Int) := by omega
    obtain ⟨cs, hcs⟩ : ∃ cs, cs = ((ss.map Value.string).drop f).take L.length := ⟨_, rfl⟩
    have hcl : cs.length = L.length := by rw [hcs]; simp; omega
    have hsl : Sl w1.drew (some ⟨g, f, none⟩) cs := by
      rw [hcs]
      have := ((Sl.ofRow HR.out.body).drop f).take L.length
      exact (show Sl w1 _ _ by simpa using this)
    have ho : ∀ v ∈ cs, v.oneCell' = true := by
      intro v hv; rw [hcs] at hv
      obtain ⟨x, _, rfl⟩ := List.mem_map.1 (List.mem_of_mem_drop (List.mem_of_mem_take hv)); rfl
    have Hcl := Lib.hid hcl
    have Hcs := Lib.hid hcs
    have Ho := Lib.hid ho
    have Hw := Lib.hid hw
    clear hw hcl hcs ho
    go_still_tail 22, (by kernel_rfl)
    refine wpList_copy_row rfl (.tmp 12) (.tmp 33) 28 28 rfl 9 Try.underlying28 (by kernel_rfl) _ _ _ _ _ _ rfl rfl w.heap.size 0 _ _ Hr1.out.drew cs ?_ (fun _ => rfl) hsl ?_ Ho.out ?_
    · rw [Hcl.out]; simp
    · rw [Hcl.out]; simp
    intro w2 hr2 hf2
    have hcl := Hcl.out
    have h0' := (HR.out.drew.fr hf2 (fun e => by have := H0.out.head.lt; simp only [OnlyB] at e; omega) (fun e => by have := H0.out.body.lt; simp only [OnlyB] at e; omega)).places
    have Hr2 := Lib.hid hr2
    clear hr2 hsl h0 h1
    go_wp2_with (fail)
    go_still_tail 7, (by kernel_rfl)
    refine wpList_copy_row rfl (.tmp 37) (.tmp 41) 28 28 rfl 9 Try.underlying28 (by kernel_rfl) _ _ _ _ _ _ rfl rfl w.heap.size 0 _ _ Hr2.out.drew [] ?_ (fun h => absurd h (by simp)) (Sl.nil _ _) ?_ (by simp) ?_
    · simp
    · simp
    intro w3 hr3 hf3
    go_wp2_with (fail)
    go_ret
    refine ⟨rfl, ?_, ?_⟩
    · rw [splice_none, splice_all _ _ (by rw [Hcl.out]; simp), Hcs.out, window_one H0.out Hw.out] at hr3; exact hr3
    · exact (((hf1.trans' (Fr.drew _ _)).trans hf2 (fun k hk e => by simp only [OnlyB] at e; omega)).trans' (Fr.drew _ _)).trans hf3 (fun k hk e => by simp only [OnlyB] at e; omega)
  · have b1 : (ss.length : Int) < (f : Int) + L.length := by omega
    obtain ⟨k1, hk1⟩ : ∃ k1, k1 = ss.length - f := ⟨_, rfl⟩
    obtain ⟨cs, hcs⟩ : ∃ cs, cs = (ss.map Value.string).drop f := ⟨_, rfl⟩
    obtain ⟨ds, hds⟩ : ∃ ds, ds = (ss.map Value.string).take (L.length - (ss.length - f)) := ⟨_, rfl⟩
    have hcl : cs.length = k1 := by rw [hcs]; simp; omega
    have hdl : ds.length = L.length - k1 := by rw [hds]; simp; omega
    have k1l : k1 < L.length := by omega
    have k1n : ¬ L.length = k1 := by omega
    have k1i : (k1 : Int) ≤ L.length := by omega
    have hsl : Sl w1.drew (some ⟨g, f, none⟩) cs := by
      rw [hcs]
      have := ((Sl.ofRow HR.out.body).drop f)
      exact (show Sl w1 _ _ by simpa using this)
    have ho : ∀ v ∈ cs, v.oneCell' = true := by
      intro v hv; rw [hcs] at hv
      obtain ⟨x, _, rfl⟩ := List.mem_map.1 (List.mem_of_mem_drop hv); rfl
    have ho2 : ∀ v ∈ ds, v.oneCell' = true := by
      intro v hv; rw [hds] at hv
      obtain ⟨x, _, rfl⟩ := List.mem_map.1 (List.mem_of_mem_take hv); rfl
    have Hcl := Lib.hid hcl
    have Hdl := Lib.hid hdl
    have Hcs := Lib.hid hcs
    have Hds := Lib.hid hds
    have Hk1 := Lib.hid hk1
    have Ho := Lib.hid ho
    have Ho2 := Lib.hid ho2
    have Hw := Lib.hid hw
    clear hw hcl hcs ho ho2 hdl hds hk1
    go_still_tail 22, (by kernel_rfl)
    refine wpList_copy_row rfl (.tmp 12) (.tmp 33) 28 28 rfl 9 Try.underlying28 (by kernel_rfl) _ _ _ _ _ _ rfl rfl w.heap.size 0 _ _ Hr1.out.drew cs ?_ (fun _ => rfl) hsl ?_ Ho.out ?_
    · rw [Hcl.out, Hk1.out]; exact (Nat.min_eq_left (by omega)).symm
    · rw [Hcl.out]; simp; omega
    intro w2 hr2 hf2
    have hcl := Hcl.out
    have hR2 := HR.out.drew.fr hf2 (fun e => by have := H0.out.head.lt; simp only [OnlyB] at e; omega) (fun e => by have := H0.out.body.lt; simp only [OnlyB] at e; omega)
    have h0' := hR2.places
    have hsl2 : Sl w2.drew (some ⟨g, 0, none⟩) ds := by
      rw [Hds.out]
      exact (show Sl w2 _ _ from (Sl.ofRow hR2.body).take _)
    have Hr2 := Lib.hid hr2
    clear hr2 hsl h0 h1 hR2
    go_wp2_with (fail)
    go_still_tail 7, (by kernel_rfl)
    refine wpList_copy_row rfl (.tmp 37) (.tmp 41) 28 28 rfl 9 Try.underlying28 (by kernel_rfl) _ _ _ _ _ _ rfl rfl w.heap.size k1 _ _ Hr2.out.drew ds ?_ (fun _ => rfl) hsl2 ?_ Ho2.out ?_
    · rw [Hdl.out]; exact (Nat.min_eq_right (by omega)).symm
    · rw [Hdl.out, length_splice _ _ _ (by rw [Hcl.out]; simp; omega)]; simp; omega
    intro w3 hr3 hf3
    go_wp2_with (fail)
    go_ret
    refine ⟨rfl, ?_, ?_⟩
    · have e := splice_two (List.replicate L.length (Value.string ByteArray.empty)) cs ds (by rw [Hcl.out, Hdl.out]; simp; omega)
      rw [Hcl.out] at e
      rw [e, Hcs.out, Hds.out, window_two H0.out (by have := Hw.out; omega)] at hr3; exact hr3
    · exact (((hf1.trans' (Fr.drew _ _)).trans hf2 (fun k hk e => by simp only [OnlyB] at e; omega)).trans' (Fr.drew _ _)).trans hf3 (fun k hk e => by simp only [OnlyB] at e; omega)

end Go.Proofs.Ytklpjnjhaodpkaa
