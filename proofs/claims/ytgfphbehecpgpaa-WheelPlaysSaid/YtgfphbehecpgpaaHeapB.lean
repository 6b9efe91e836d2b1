import Derived.Test.YtgfphbehecpgpaaHeap
namespace Go.Proofs.Ytgfphbehecpgpaa
open Go.RowKit
/-- A wheel at block p: its dues H in a row of its own, as it holds them in v; its map, and its time. -/
structure WhA (w : World) (p : Nat) (v : Value) (mb : Nat) (now : Int) (H : List Due) : Prop where
  head : Row w p [v, .map (some mb), .int .i64 now] 56
  hp : Hp w v H
  ne : ∀ k, InBlock v k → k ≠ p
/-- What a call on the dues may change. -/
abbrev WS (p : Nat) (v : Value) : Nat → Prop := fun k => k = p ∨ InBlock v k
abbrev dval (d : Due) : Value := .agg #[.int .i64 d.1, .int .i64 d.2]

theorem infoDue : (Try.prog.info? 60).map (fun i => (i.zero, i.size, i.bytes)) = some (some (.agg #[.int .i64 0, .int .i64 0]), 2, 16) := by kernel_rfl
theorem assert_due (d : Due) (w : World) : (Instr.typeAssert (.iface 60 (dval d)) 20 60 false).run Try.prog w = .ok (dval d) w := by kernel_rfl

set_option maxHeartbeats 2000000 in
theorem dues_push {w : World} {p mb : Nat} {v : Value} {now : Int} {H : List Due} (h : WhA w p v mb now H) (d : Due) (hl : H.length < 10000) :
    Calls Try.prog 54 #[.pointer (some ⟨p, 0, none⟩), .iface 60 (dval d)] w fun e w' => e = .returned (.tuple #[]) ∧ ∃ v', WhA w' p v' mb now (H ++ [d]) ∧ NewOr w v v' ∧ Fr (WS p v) w w' := by
  obtain ⟨hh, ho, hne⟩ := h
  obtain ⟨a, c, rfl, hc1, hc2⟩ := Owns.shape ho
  obtain ⟨i0, hi, hz0, hz1, hz2⟩ := info_parts infoDue
  have h0 := hh.cell 0 rfl
  have h0' := (Row.allocOld hh (.cells #[.int .i64 d.1, .int .i64 d.2] 60)).cell 0 rfl
  have hA := assert_due d w.drew
  have HH := Lib.hid hh
  have HO := Lib.hid ho
  have Hi := Lib.hid hi
  have Hz0 := Lib.hid hz0
  have Hz1 := Lib.hid hz1
  have Hz2 := Lib.hid hz2
  have HN := Lib.hid hne
  clear hh ho hi hz0 hz1 hz2 hne
  go_enter Try.func54, Try.ntmps54
  go_wp2_with (fail)
  go_region_law
    ((refine step_append_fp (by rfl) (.tmp 7) (.tmp 10) 54 (by rfl) 60 i0 (.agg #[.int .i64 0, .int .i64 0]) 2 16 Try.underlying54 Hi.out Hz0.out Hz1.out Hz2.out rfl (by decide) _ H.length (H.flatMap dcells) (by rfl) (HO.out.fr ((Fr.drew Nothing _).trans' (Fr.alloc _ _ _)) (fun _ _ h => h)) _ 1 1 (dcells d) (by rfl) rfl (by simp) (Sl.ofRow (Row.allocNew _ _ _)) (by intro u hu; exact dcells_one [d] u (by simpa using hu)) (by unfold maxLen; omega) (by omega) ?_
      intro v7 w7 o7 f7 n7 s7 _
      obtain ⟨a7, c7, rfl, hc71, hc72⟩ := o7.shape
      have hd7 : Row w7 p [.slice a H.length c, .map (some mb), .int .i64 now] 56 := (HH.out.fr ((Fr.drew Nothing _).trans' (Fr.alloc _ _ _)) (fun h => h)).fr f7 (fun hk => HN.out _ hk rfl)
      have hc7 := hd7.cell 0 rfl
      have hz7 := hd7.free 0
      have Hd7 := Lib.hid hd7
      clear hd7))
  all_goals go_wp2_with (fail)
  all_goals
    have hplt := HH.out.lt
    have fa : Fr Nothing w (w.alloc (.cells #[.int .i64 d.1, .int .i64 d.2] 60)).drew := (Fr.alloc Nothing _ _).trans' (Fr.drew _ _)
    have n0 : NewOr w (.slice a H.length c) (.slice a7 (H.length + 1) c7) := fun k hk => (n7 k hk).imp id (fun h => Nat.le_trans fa.size h)
    have ne7 : ∀ k, InBlock (.slice a7 (H.length + 1) c7) k → k ≠ p := fun k hk => by
      rcases n0 k hk with h | h
      · exact HN.out k h
      · omega
    have e1 : (H ++ [d]).flatMap dcells = H.flatMap dcells ++ dcells d := by simp
    have ow : Hp w7 (.slice a7 (H.length + 1) c7) (H ++ [d]) := by unfold Hp; rw [e1, List.length_append]; exact o7
    have fs : Fr (fun k => k = p) w7 (w7.setCell ⟨p, 0, none⟩ (.slice a7 (H.length + 1) c7)) := Fr.setCell (S := fun k => k = p) (w := w7) (p := ⟨p, 0, none⟩) rfl _
    refine bodyPost_end (results_none rfl _ _ _) rfl ⟨rfl, _, ⟨Hd7.out.set 0 _, ow.fr fs (fun k hk he => ne7 k (by exact hk) he), ne7⟩, n0, ?_⟩
    exact (fa.mono (fun _ _ h => h.elim)).trans' ((f7.mono (fun _ _ h => .inr h)).trans' (fs.mono (fun _ _ h => .inl h)))

/-- The heap without its last. -/
theorem Hp.pop {w : World} {a : Option Addr} {c : Nat} {H : List Due} {d : Due} (h : Hp w (.slice a (H ++ [d]).length c) (H ++ [d])) : Hp w (.slice a H.length c) H := by
  obtain ⟨h1, h2⟩ := h
  refine ⟨dflat_len H, ?_⟩
  rcases h2 with ⟨h3, h4⟩ | ⟨g, cap, cur, h3, h4, h5, h6, h7, h8, h9⟩
  · simp at h4
  · simp only [Value.slice.injEq] at h3
    obtain ⟨rfl, -, rfl⟩ := h3
    refine .inr ⟨g, _, cur, rfl, h4, h5, by simp at h6; omega, h7, h8, ?_⟩
    have e1 : (H ++ [d]).flatMap dcells = H.flatMap dcells ++ dcells d := by simp
    rw [e1] at h9
    have := congrArg (List.take (H.length * 2)) h9
    rw [List.take_take, List.take_left' (dflat_len H)] at this
    rw [← this]
    congr 1
    simp
set_option maxHeartbeats 2000000 in
theorem dues_pop {w : World} {p mb : Nat} {v : Value} {now : Int} {H : List Due} {d : Due} (h : WhA w p v mb now (H ++ [d])) (hl : H.length < 10000) :
    Calls Try.prog 53 #[.pointer (some ⟨p, 0, none⟩)] w fun e w' => e = .returned (.iface 60 (dval d)) ∧ ∃ v', WhA w' p v' mb now H ∧ (∀ k, InBlock v' k → InBlock v k) ∧ Fr (WS p v) w w' := by
  obtain ⟨hh, ho, hne⟩ := h
  obtain ⟨a, c, rfl, hc1, hc2⟩ := Owns.shape ho
  have hp := Hp.pop ho
  have hd := ho.dues.2
  obtain ⟨b, o, rfl, hcd⟩ := hd.at_ (i := H.length) (by simp)
  have e0 : (H ++ [d])[H.length]'(by simp) = d := by simp
  rw [e0] at hcd
  have c0 : w.cell? ⟨b, o + H.length * 2, none⟩ = some (.int .i64 d.1) := hcd 0 _ rfl
  have c1 : w.cell? ⟨b, o + H.length * 2 + 1, none⟩ = some (.int .i64 d.2) := hcd 1 _ rfl
  have elen : (H ++ [d]).length = H.length + 1 := by simp
  rw [elen] at hh hc1 hne
  have h0 := hh.cell 0 rfl
  have hz := hh.free 0
  have ha0 := (Row.allocOld hh (.cells #[.int .i64 d.1, .int .i64 d.2] 60)).cell 0 rfl
  have haz := (Row.allocOld hh (.cells #[.int .i64 d.1, .int .i64 d.2] 60)).free 0
  have fs : ∀ u, Fr (fun k => k = p) (w.alloc (.cells #[.int .i64 d.1, .int .i64 d.2] 60)) ((w.alloc (.cells #[.int .i64 d.1, .int .i64 d.2] 60)).setCell ⟨p, 0, none⟩ u) := fun u => Fr.setCell (S := fun k => k = p) (p := ⟨p, 0, none⟩) rfl _
  have hn := (Row.allocNew w [.int .i64 d.1, .int .i64 d.2] 60).fr (fs (.slice (some ⟨b, o, none⟩) H.length c)) (fun h => by have := hh.lt; omega)
  have hn0 := hn.cell 0 rfl
  have hn1 := hn.cell 1 rfl
  clear hn fs
  have HH := Lib.hid hh
  have HO := Lib.hid hp
  have HN := Lib.hid hne
  clear hh ho hne hd hcd e0 elen hp
  go_enter Try.func53, Try.ntmps53
  go_wp2_with (fail)
  go_ret
  have fa : Fr Nothing w (w.alloc (.cells #[.int .i64 d.1, .int .i64 d.2] 60)) := Fr.alloc Nothing _ _
  have fs : ∀ u, Fr (fun k => k = p) (w.alloc (.cells #[.int .i64 d.1, .int .i64 d.2] 60)) ((w.alloc (.cells #[.int .i64 d.1, .int .i64 d.2] 60)).setCell ⟨p, 0, none⟩ u) := fun u => Fr.setCell (S := fun k => k = p) (p := ⟨p, 0, none⟩) rfl _
  refine ⟨rfl, _, ⟨(Row.allocOld HH.out _).set 0 (.slice (some ⟨b, o, none⟩) H.length c), (HO.out.fr fa (fun _ _ h => h)).fr (fs _) (fun k hk he => HN.out k (by exact hk) he), fun k hk => HN.out k (by exact hk)⟩, fun k hk => by exact hk, (fa.mono (fun _ _ h => h.elim)).trans' ((fs _).mono (fun _ _ h => .inl h))⟩
end Go.Proofs.Ytgfphbehecpgpaa
