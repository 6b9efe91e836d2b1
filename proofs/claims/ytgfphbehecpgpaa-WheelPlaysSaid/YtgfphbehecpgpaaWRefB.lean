/- The document's wheel: Drop. Condition: IsRefW. -/
import Derived.Test.YtgfphbehecpgpaaWRef
import Derived.Deep.RegionLaw
namespace Go.Proofs.Ytgfphbehecpgpaa
open Go.RowKit
theorem infoRDue : (Try.prog.info? 48).map (fun i => (i.zero, i.size, i.bytes)) = some (some (.agg #[.int .i64 0, .int .i64 0]), 2, 16) := by kernel_rfl
section
variable {S : Nat → Prop} {w w1 w2 w8 : World} {q : Nat} {T : Int} {L M : List Due} {v v8 : Value}
theorem grow_step (F : Fr Nothing w w1) (N : ∀ k, InBlock v k → w.heap.size ≤ k) (f : Fr (InBlock v) w1 w2) (n : NewOr w1 v v8) : Fr Nothing w w2 ∧ ∀ k, InBlock v8 k → w.heap.size ≤ k :=
  ⟨F.trans f (fun k hk hb => by have := N k hb; omega), fun k hk => (n k hk).elim (N k) (fun h => Nat.le_trans F.size h)⟩
theorem wref_gone (h : IsRefW S w q T L) (F : Fr Nothing w w8) (N : ∀ k, InBlock v8 k → w.heap.size ≤ k) (o8 : Owns w8 48 2 v8 M.length (M.flatMap rcells)) : RefGone S w q T M (w8.setCell ⟨q, 0, none⟩ v8) := by
  obtain ⟨a, c, hr, hS⟩ := h
  have hq := hr.head.lt
  have hset : Fr (fun k => k = q) w8 (w8.setCell ⟨q, 0, none⟩ v8) := Fr.setCell (S := fun k => k = q) (p := ⟨q, 0, none⟩) rfl _
  have hne : ¬ InBlock v8 q := fun hb => by have := N q hb; omega
  have o9 := o8.fr hset (fun k hk e => by subst e; exact hne hk)
  have hsh := o8.2
  obtain ⟨a8, c8, rfl, h1, h2⟩ := o8.shape
  refine ⟨RB q a8, ⟨a8, c8, ⟨(hr.head.fr F (fun h => h)).set 0 _, ⟨rcells_len, by omega, o9.sl.2⟩, h1, h2, ?_⟩, fun k => Iff.rfl⟩, fun k hk => ?_, (F.mono (fun _ _ h => h.elim)).trans' (hset.mono (fun k _ e => (hS k).2 (.inl e)))⟩
  · rcases hsh with ⟨h3, _⟩ | ⟨g, cap, cur, h3, _, hg, _⟩
    · simp only [Value.slice.injEq] at h3
      exact .inl ⟨h3.1, h3.2.2⟩
    · simp only [Value.slice.injEq] at h3
      refine .inr ⟨g, 0, h3.1, fun e => hne (by subst e; rw [h3.1]; rfl), ?_⟩
      exact Nat.lt_of_lt_of_le (o8.lt (by rw [h3.1]; rfl)) hset.size
  · rcases hk with rfl | ⟨ad, rfl, rfl⟩
    · exact .inl ((hS _).2 (.inl rfl))
    · exact .inr (N _ rfl)
theorem less_split {k : Nat} (hn : (L.map Prod.fst).Nodup) (hk : k < L.length) : L.take k ++ L.drop (k + 1) = less L L[k].1 := by
  have e : L = L.take k ++ (L[k] :: L.drop (k + 1)) := by
    rw [← List.drop_eq_getElem_cons hk]; exact (List.take_append_drop k L).symm
  have hn2 := hn
  rw [e, List.map_append, List.map_cons, List.nodup_append] at hn2
  obtain ⟨_, g2, g3⟩ := hn2
  rw [List.nodup_cons] at g2
  have h1 : less (L.take k) L[k].1 = L.take k := less_none (fun h => g3 _ h _ (List.mem_cons_self ..) rfl)
  have h2 : less (L.drop (k + 1)) L[k].1 = L.drop (k + 1) := less_none g2.1
  have h3 : less L L[k].1 = less (L.take k) L[k].1 ++ less (L[k] :: L.drop (k + 1)) L[k].1 := by
    unfold less
    rw [← List.filter_append, ← e]
  rw [h3, h1, show less (L[k] :: L.drop (k + 1)) L[k].1 = less (L.drop (k + 1)) L[k].1 from List.filter_cons_of_neg (by simp), h2]
/-- What lies behind the first n, as a slice of it reads. -/
theorem sl_rest {b o c n : Nat} (h : Recs rcells 2 w (some ⟨b, o, none⟩) L) (hn : n ≤ L.length) (hl : L.length ≤ c) : Sl w (if c = n then some ⟨b, o, none⟩ else some ⟨b, o + n * 2, none⟩) ((L.drop n).flatMap rcells) := by
  by_cases hc : c = n
  · rw [if_pos hc]
    have : L.drop n = [] := List.drop_eq_nil_of_le (by omega)
    rw [this]; exact Sl.nil _ _
  · rw [if_neg hc]
    have h1 := h.2.2.drop (n * 2)
    have h2 : (L.flatMap rcells).drop (n * 2) = (L.drop n).flatMap rcells := by
      have e : L = L.take n ++ L.drop n := (List.take_append_drop n L).symm
      have hl2 : ((L.take n).flatMap rcells).length = n * 2 := by rw [rflat_len, List.length_take, Nat.min_eq_left hn]
      have e2 : L.flatMap rcells = (L.take n).flatMap rcells ++ (L.drop n).flatMap rcells := by rw [← List.flatMap_append, ← e]
      rw [e2, List.drop_left' hl2]
    rw [h2] at h1; exact h1
theorem wref_drop_no (id : Int) (h : IsRefW S w q T L) (hf : id ∉ L.map Prod.fst) :
    Calls Try.prog 19 #[.pointer (some ⟨q, 0, none⟩), .int .i64 id] w fun e w' => e = .returned (.bool false) ∧ w = w' := by
  go_enter Try.func19, Try.ntmps19
  go_wp2_with (fail)
  refine (wref_at_no id h hf).mono ?_
  rintro e w1 ⟨rfl, rfl⟩
  go_wp2_with (fail)
  go_ret
  exact ⟨rfl, rfl⟩
set_option maxHeartbeats 2000000 in
theorem wref_drop_yes (id : Int) (h : IsRefW S w q T L) (hn : (L.map Prod.fst).Nodup) (hf : id ∈ L.map Prod.fst) (hl : L.length ≤ 256) :
    Calls Try.prog 19 #[.pointer (some ⟨q, 0, none⟩), .int .i64 id] w fun e w' => e = .returned (.bool true) ∧ RefGone S w q T (less L id) w' := by
  obtain ⟨i0, hi, hz0, hz1, hz2⟩ := info_parts infoRDue
  have Hz2 := Lib.hid hz2
  have Hz1 := Lib.hid hz1
  have Hz0 := Lib.hid hz0
  have Hi := Lib.hid hi
  have Hn := Lib.hid hn
  have HI := Lib.hid h
  clear hz2 hz1 hz0 hi hn
  go_enter Try.func19, Try.ntmps19
  go_wp2_with (fail)
  refine (wref_at_yes id h hf).mono ?_
  rintro e w1 ⟨k, hk, rfl, hkid, rfl⟩
  have hsp := less_split Hn.out hk
  rw [hkid] at hsp
  have Hsp := Lib.hid hsp
  obtain ⟨a, c, hr, hS⟩ := h
  obtain ⟨b, o, rfl, _⟩ := hr.recs.at_ hk
  have hcm := hr.cap
  have hle := hr.le
  have hc9 : (c : Int) ≤ 9223372036854775807 := by unfold maxLen at hcm; omega
  have Hr := Lib.hid hr
  have k0 : w.cell? ⟨q, 0, none⟩ = some (.slice (some ⟨b, o, none⟩) L.length c) := hr.head.cell 0 rfl
  have KX : Hid (Sl w.drew (some ⟨b, o, none⟩) ((L.take k).flatMap rcells)) := Lib.hid (hr.recs.take k).2.2
  have KY : Hid (Sl w.drew _ ((L.drop (k + 1)).flatMap rcells)) := Lib.hid (sl_rest hr.recs (n := k + 1) hk hle)
  have hXl : Hid ((L.take k).length = k) := Lib.hid (by rw [List.length_take]; omega)
  have hYl : Hid ((L.drop (k + 1)).length = L.length - (k + 1)) := Lib.hid (by rw [List.length_drop])
  have HnY : Hid ((if c = k + 1 then some (⟨b, o, none⟩ : Addr) else some ⟨b, o + (k + 1) * 2, none⟩) = none → L.length - (k + 1) = 0 ∧ c - (k + 1) = 0) := Lib.hid (fun h => by by_cases hcj : c = k + 1 <;> simp [hcj] at h)
  have e1 : IntKind.i64.wrap ((k : Int) + 1) = ((k + 1 : Nat) : Int) := by rw [IntWalk.i64_in _ (by omega)]; omega
  have e2 : ((k + 1 : Nat) : Int) ≤ c := by omega
  have e3 : ((k + 1 : Nat) : Int) ≤ L.length := by omega
  have e4 : (0 : Int) ≤ (k : Int) + 1 := by omega
  have e5 : (k : Int) ≤ c := by omega
  have e7 : (k : Int) + 1 ≤ L.length := by omega
  have e6 : (L.length : Int) ≤ c := by omega
  clear hsp hkid hr hS hf
  go_wp2_with (fail)
  go_region_law
    ((first
      | (refine step_append_fp (by rfl) (.const (.slice none 0 0)) (.tmp 17) 40 (by rfl) 48 i0 (.agg #[.int .i64 0, .int .i64 0]) 2 16 Try.underlying40 Hi.out Hz0.out Hz1.out Hz2.out rfl (by decide) (.slice none 0 0) 0 [] (by rfl) (Owns.nil _ _ _) (some ⟨b, o, none⟩) k c ((L.take k).flatMap rcells) (by rfl) (by rw [rflat_len, hXl.out]) (by simp) KX.out (rcells_one _) (by unfold maxLen; omega) (by omega) ?_
         intro v7 w7 o7 f7 n7 s7 _
         have G7 := Lib.hid (grow_step (Fr.drew Nothing w) (fun k hk => by simp [InBlock, Value.ownBlock] at hk) f7 n7)
         have kY7 := Lib.hid (KY.out.fr f7.ofNil (fun _ _ h => h))
         have hc7 := (Hr.out.head.fr G7.out.1 (fun h => h)).cell 0 rfl)
      | (refine step_append_fp (by rfl) (.tmp 18) (.tmp 25) 40 (by rfl) 48 i0 (.agg #[.int .i64 0, .int .i64 0]) 2 16 Try.underlying40 Hi.out Hz0.out Hz1.out Hz2.out rfl (by decide) v7 _ _ (by rfl) o7 _ (L.length - (k + 1)) _ ((L.drop (k + 1)).flatMap rcells) (by rfl) (by rw [rflat_len, hYl.out]) HnY.out kY7.out (rcells_one _) (by unfold maxLen; omega) (by omega) ?_
         intro v8 w8 o8 f8 n8 s8 _
         have G8 := Lib.hid (grow_step G7.out.1 G7.out.2 f8 n8)
         have hd8 := Hr.out.head.fr G8.out.1 (fun h => h)
         have hp8 := hd8.free 0
         have hc8 := hd8.cell 0 rfl
         clear hd8
         have o8' : Owns w8 48 2 v8 (less L id).length ((less L id).flatMap rcells) := by
           have e1 : (less L id).length = 0 + k + (L.length - (k + 1)) := by rw [← Hsp.out, List.length_append, hXl.out, hYl.out]; omega
           rw [e1, ← Hsp.out, List.flatMap_append]
           exact o8
         clear o8
         obtain ⟨a8, c8, rfl, _, _⟩ := o8'.shape)))
  all_goals go_wp2_with (fail)
  all_goals
    go_ret
    exact ⟨rfl, wref_gone HI.out G8.out.1 G8.out.2 o8'⟩
end
end Go.Proofs.Ytgfphbehecpgpaa
