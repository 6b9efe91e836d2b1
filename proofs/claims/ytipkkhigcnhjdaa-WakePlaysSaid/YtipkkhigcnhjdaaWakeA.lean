/- wake.Box: a device that is awake. No condition. -/
import Derived.Test.YtipkkhigcnhjdaaWakeT
import Derived.Test.YtipkkhigcnhjdaaDel
namespace Go.Proofs.Ytipkkhigcnhjdaa
open Go.RowKit

/-- The devices, and the row, without one. -/
abbrev wakeL (L : List Dev) (k : ByteArray) : List Dev := L.filter fun d => decide (d.name ≠ k)
abbrev wakeR (R : List ByteArray) (k : ByteArray) : List ByteArray := R.filter fun x => !decide (x = k)

section
variable {S T : Nat → Prop} {w w' : World} {p M b : Nat} {qt : Int} {v : Value} {L : List Dev} {R : List ByteArray}
theorem wakeL_keys (L : List Dev) (k : ByteArray) : (wakeL L k).map Dev.key = (L.map Dev.key).filter fun q => decide (q.1 ≠ k) := by
  rw [List.filter_map]; rfl
theorem wakeL_len {L : List Dev} (hn : (L.map Dev.name).Nodup) (k : ByteArray) : (wakeL L k).length + (if (findP (L.map Dev.key) k).isSome then 1 else 0) = L.length := by
  induction L with
  | nil => rfl
  | cons d L ih =>
    simp only [List.map_cons, List.nodup_cons] at hn
    have h := ih hn.2
    by_cases e : d.name = k
    · have hf : findP ((d :: L).map Dev.key) k = some d.blk := by simp [findP, Dev.key, e]
      have hn2 : findP (L.map Dev.key) k = none := findP_none.2 (by rw [List.map_map]; exact fun hm => hn.1 (e ▸ hm))
      rw [hn2] at h
      rw [hf, show wakeL (d :: L) k = wakeL L k from List.filter_cons_of_neg (by simp [e])]
      simp at h ⊢; omega
    · have hf : findP ((d :: L).map Dev.key) k = findP (L.map Dev.key) k := by simp [findP, Dev.key, e]
      rw [hf, show wakeL (d :: L) k = d :: wakeL L k from List.filter_cons_of_pos (by simp [e])]
      simp only [List.length_cons]; omega

theorem nodup_filter_map {β : Type} (f : Dev → β) (q : Dev → Bool) {L : List Dev} (h : (L.map f).Nodup) : ((L.filter q).map f).Nodup := by
  have hs : (L.filter q).Sublist L := List.filter_sublist
  exact (hs.map f).nodup h
theorem mem_filter_map {β : Type} (f : Dev → β) (q : Dev → Bool) {L : List Dev} {y : β} (h : y ∈ (L.filter q).map f) : y ∈ L.map f := by
  obtain ⟨d, hd, e⟩ := List.mem_map.1 h
  exact List.mem_map.2 ⟨d, (List.mem_filter.1 hd).1, e⟩

set_option maxHeartbeats 2000000 in
theorem box_awake (k : ByteArray) (hk : k.size ≤ maxLen) (h : IsBox S w p qt M L R) (hM : R.length ≤ 4000) :
    Calls Try.prog 23 #[.pointer (some ⟨p, 0, none⟩), .string k] w fun e w' => e = .returned (.tuple #[]) ∧ BoxGone S w p qt M (wakeL L k) (wakeR R k) w' := by
  have h1 : IsBox S (w.alloc (.cells #[.string k] 9)) p qt M L R := h.fr (Fr.alloc Nothing _ _) (fun _ _ h => h)
  have hnB : ¬ S w.heap.size := fun hs => by have := h.lt hs; omega
  have hbox := (Row.allocNew w [.string k] 9).cell 0 rfl
  have F1 : Fr Nothing w (w.alloc (.cells #[.string k] 9)) := Fr.alloc _ _ _
  go_enter Try.func23, Try.ntmps23
  go_wp2_with (fail)
  obtain ⟨B, hB⟩ : ∃ B, B = w.heap.size := ⟨_, rfl⟩
  rw [← hB] at hbox hnB
  rw [← hB]
  clear h hB
  generalize w.alloc (.cells #[.string k] 9) = w1 at *
  obtain ⟨b, v, hr, hS⟩ := h1
  have h0 := hr.head.cell 0 rfl
  have HS := Lib.hid hS
  have Hr := Lib.hid hr
  clear hr hS
  go_still_tail 5, (by kernel_rfl)
  refine wpList_mapP_delete rfl (.tmp 9) (.tmp 10) rfl Try.underlying55 (Hr.out.map.fr (Fr.drew Nothing w1) (fun h => h)) rfl rfl hk (by rw [← wakeL_keys, List.length_map, List.length_map]; exact wakeL_len Hr.out.nn k) ?_
  intro w2 m2 f2'
  rw [← wakeL_keys] at m2
  have f2 : Fr (fun x => x = b) w1 w2 := (Fr.drew _ w1).trans' f2'
  have hd2 := Hr.out.head.fr f2 (fun e => Hr.out.neb e.symm)
  have e1 := hd2.cell 1 rfl
  have own2 := Hr.out.own.fr f2 (fun q hq e => Hr.out.nevb (e ▸ hq))
  have box2 := cell_fr hbox f2 (fun e => hnB ((HS.out B).2 (.inr (.inl e))))
  have hnv : ¬ InBlock v B := fun hq => hnB ((HS.out B).2 (.inr (.inr (.inl hq))))
  have Hd2 := Lib.hid hd2
  clear hd2 h0 hbox f2'
  go_wp2_with (fail)
  refine (delete_texts v R k B own2 hM box2 hnv).mono ?_
  rintro e w3 ⟨v3, rfl, o3, f3, hb3⟩
  have hd3 := Hd2.out.fr f3 Hr.out.nev
  have p3 := hd3.free 1
  have p3' := hd3.cell 1 rfl
  have m3 := m2.fr f3 Hr.out.nevb
  have Hd3 := Lib.hid hd3
  have hnv3 : ¬ InBlock v3 p := fun hq => Hr.out.nev ((hb3 p).1 hq)
  have hnv3b : ¬ InBlock v3 b := fun hq => Hr.out.nevb ((hb3 b).1 hq)
  clear hd3 own2 box2 e1
  obtain ⟨a3, c3, rfl, _, _⟩ := o3.shape
  go_wp2_with (fail)
  go_end0
  have hr := Hr.out
  have fset : Fr (fun q => q = p) w3 (w3.setCell ⟨p, 1, none⟩ (.slice a3 (wakeR R k).length c3)) := Fr.setCell (S := fun q => q = p) (p := ⟨p, 1, none⟩) rfl _
  have hsub : ∀ {d : Dev}, d ∈ wakeL L k → d ∈ L := fun hd => (List.mem_filter.1 hd).1
  have Fall : Fr S w (w3.setCell ⟨p, 1, none⟩ (.slice a3 (wakeR R k).length c3)) := (((F1.mono fun _ _ h => h.elim).trans' (f2.mono fun q _ hq => (HS.out q).2 (.inr (.inl hq)))).trans' (f3.mono fun q _ hq => (HS.out q).2 (.inr (.inr (.inl hq))))).trans' (fset.mono fun q _ hq => (HS.out q).2 (.inl hq))
  have a8 : BoxAt (w3.setCell ⟨p, 1, none⟩ (.slice a3 (wakeR R k).length c3)) p qt M b (.slice a3 (wakeR R k).length c3) (wakeL L k) (wakeR R k) := by
    refine ⟨Hd3.out.set 1 _, m3.fr fset hr.neb, o3.fr fset (fun q hq e => hnv3 (e ▸ hq)), fun j hj => ?_, hr.neb, hnv3, hnv3b, fun q hq => ?_, nodup_filter_map _ _ hr.dd, nodup_filter_map _ _ hr.nn, fun j hj => ?_, Nat.le_trans (List.length_filter_le _ _) hr.lr, Nat.le_trans (List.length_filter_le _ _) hr.ll, hr.q0, hr.q1⟩
    · obtain ⟨i, hi, he⟩ := List.mem_iff_getElem.1 (hsub (List.getElem_mem hj))
      rw [← he]
      have hm : L[i].blk ∈ L.map Dev.blk := List.mem_map_of_mem (List.getElem_mem hi)
      obtain ⟨g1, g2, g3⟩ := hr.dp _ hm
      exact (((hr.devs i hi).fr f2 g2).fr f3 g3).fr fset g1
    · obtain ⟨g1, g2, g3⟩ := hr.dp q (mem_filter_map _ _ hq)
      exact ⟨g1, g2, fun hv => g3 ((hb3 q).1 hv)⟩
    · obtain ⟨i, hi, he⟩ := List.mem_iff_getElem.1 (hsub (List.getElem_mem hj))
      rw [← he]; exact hr.fits i hi
  refine ⟨rfl, _, ⟨b, _, a8, fun q => Iff.rfl⟩, fun q hq => .inl ?_, Fall⟩
  rcases hq with rfl | rfl | hq | hq
  · exact (HS.out _).2 (.inl rfl)
  · exact (HS.out _).2 (.inr (.inl rfl))
  · exact (HS.out _).2 (.inr (.inr (.inl ((hb3 q).1 hq))))
  · exact (HS.out _).2 (.inr (.inr (.inr (mem_filter_map _ _ hq))))
end

end Go.Proofs.Ytipkkhigcnhjdaa
