/- slices.Concat of slices of steps (and slices.Grow at nil, that it calls). Condition: all together are fewer than 2^48 bytes. -/
import Derived.Test.YtfedaolpanncoaaConc
import Derived.Test.YtfedaolpanncoaaDigOf
namespace Go.Proofs.Ytfedaolpanncoaa
open Go.RowKit

/-- One of the slices of steps that are joined. -/
structure PartS where
  a : Option Addr
  c : Nat
  xs : List DStep
def PartS.val (p : PartS) : Value := .slice p.a p.xs.length p.c
structure PartS.Ok (w : World) (p : PartS) : Prop where
  none : p.a = none → p.xs.length = 0 ∧ p.c = 0
  sl : Sl w p.a (p.xs.flatMap DStep.cells)
theorem PartS.Ok.fr {S : Nat → Prop} {w w' : World} {p : PartS} (h : p.Ok w) (F : Fr S w w') (hn : ∀ k, ¬ S k) : p.Ok w' := ⟨h.none, h.sl.fr F (fun _ _ => hn _)⟩
theorem steps_one {l : List DStep} : ∀ u ∈ l.flatMap DStep.cells, u.oneCell' = true := by
  intro u hu
  obtain ⟨x, _, hx⟩ := List.mem_flatMap.1 hu
  exact step_one x u hx
def totalS (ps : List PartS) : Nat := (ps.flatMap PartS.xs).length
def totalToS (ps : List PartS) (k : Nat) : Nat := ((ps.take k).flatMap PartS.xs).length
theorem totalToS_all (ps : List PartS) : totalToS ps ps.length = totalS ps := by unfold totalToS totalS; rw [List.take_length]
theorem totalToS_succ (ps : List PartS) {k : Nat} (hk : k < ps.length) : totalToS ps (k + 1) = totalToS ps k + ps[k].xs.length := by
  unfold totalToS; rw [List.take_succ_eq_append_getElem hk, List.flatMap_append, List.length_append]; simp
theorem totalToS_le (ps : List PartS) (k : Nat) : totalToS ps k ≤ totalS ps := by
  unfold totalToS totalS
  have h : ps.flatMap PartS.xs = (ps.take k).flatMap PartS.xs ++ (ps.drop k).flatMap PartS.xs := by rw [← List.flatMap_append, List.take_append_drop]
  rw [h, List.length_append]; omega
theorem flatS_succ (ps : List PartS) {k : Nat} (hk : k < ps.length) : (ps.take (k + 1)).flatMap PartS.xs = (ps.take k).flatMap PartS.xs ++ ps[k].xs := by
  rw [List.take_succ_eq_append_getElem hk, List.flatMap_append]; simp
/-- A new slice that reads as xs. -/
def JoinedS (xs : List DStep) (w : World) (x : Ending) (w' : World) : Prop :=
  ∃ a c, x = .returned (.slice a xs.length c) ∧ CollE w 37 6 (.slice a xs.length c) xs.length (xs.flatMap DStep.cells) w'
set_option maxRecDepth 100000 in
set_option maxHeartbeats 1000000 in
theorem growS (n : Nat) (w : World) (hn : n * 72 ≤ 281474976710656) : Calls Try.prog 42 #[.slice none 0 0, .int .i64 n] w (Grown 37 6 n w) := by
  obtain ⟨i0, hi, hz0, hz1, hz2⟩ := info_parts Try.infoStep
  have Hz2 := Lib.hid hz2
  have Hz1 := Lib.hid hz1
  have Hz0 := Lib.hid hz0
  have Hi := Lib.hid hi
  clear hz2 hz1 hz0 hi
  by_cases h0 : n = 0
  · subst h0
    go_enter Try.func42, Try.ntmps42
    go_wp2_with (fail)
    go_ret
    exact ⟨_, _, rfl, Nat.le_refl _, CollE.start _ _ _⟩
  · have hpos : 0 < n := by omega
    have Hn := Lib.hid hn
    have hn9 : (n : Int) ≤ 9223372036854775807 := by omega
    clear h0 hn
    go_enter Try.func42, Try.ntmps42
    go_wp2_with (at_builtin; go_must (refine wpList_append_zr rfl (.tmp 20) (.tmp 21) 32 3 rfl .i64 Try.underlying3 37 i0 (.agg #[.string ByteArray.empty, .string ByteArray.empty, .string ByteArray.empty, .int .i64 0, .bool false, .bool false]) 6 72 Try.underlying32 Hi.out Hz0.out Hz1.out Hz2.out rfl (by decide) rfl .i64 n rfl hpos (by unfold maxLen; omega) Hn.out ?_))
    intro b cap w2 hcap own2 new2 f2
    go_wp2_with (fail)
    go_ret
    exact ⟨_, _, rfl, hcap, own2, new2, f2⟩

set_option maxRecDepth 100000 in
set_option maxHeartbeats 1000000 in
theorem concatS (ps : List PartS) (b : Option Addr) (c : Nat) (w : World) (hs : Sl w b (ps.map PartS.val)) (hok : ∀ p ∈ ps, p.Ok w) (hlen : ps.length ≤ 1000) (hn : totalS ps * 72 ≤ 281474976710656) :
    Calls Try.prog 31 #[.slice b ps.length c] w (JoinedS (ps.flatMap PartS.xs) w) := by
  obtain ⟨i0, hi, hz0, hz1, hz2⟩ := info_parts Try.infoStep
  have Hz2 := Lib.hid hz2
  have Hz1 := Lib.hid hz1
  have Hz0 := Lib.hid hz0
  have Hi := Lib.hid hi
  have Hs := Lib.hid hs
  have Hok := Lib.hid hok
  have Hn := Lib.hid hn
  clear hz2 hz1 hz0 hi hs hok hn
  go_enter Try.func31, Try.ntmps31
  go_wp2_with (fail)
  go_loop [3, 11] (fun s i => ∃ k : Nat, k ≤ ps.length ∧ i = .int .i64 k ∧ s = .int .i64 (totalToS ps k)) (fun _ i => ps.length - (intOf i).toNat)
  case atStart => exact ⟨0, Nat.zero_le _, rfl, rfl⟩
  case round =>
    obtain ⟨k, hk, rfl, rfl⟩ := hrel
    have htk := totalToS_le ps k
    have hn9 : ((totalS ps : Nat) : Int) ≤ 9223372036854775807 := by have := Hn.out; omega
    by_cases hlt : k < ps.length
    · obtain ⟨b1, o1, rfl, h1⟩ := Sl.oneCell (j := k) (v := ps[k].val) Hs.out (by simp [hlt])
      obtain ⟨p, hp⟩ : ∃ p, p = ps[k] := ⟨_, rfl⟩
      have hts := totalToS_succ ps hlt
      have htl := totalToS_le ps (k + 1)
      have hpl : (totalToS ps k : Int) + (p.xs.length : Int) ≤ 9223372036854775807 := by rw [hp]; omega
      rw [← hp] at h1 hts
      unfold PartS.val at h1
      have Hts := Lib.hid hts
      clear hts hp htl
      go_wp2_with (fail)
      go_round
      case rel => exact ⟨k + 1, by omega, by go_num, by rw [Hts.out]; go_num⟩
      case measure => simp [intOf]; omega
    · obtain rfl : k = ps.length := by omega
      have hall := totalToS_all ps
      obtain ⟨n, hnn⟩ : ∃ n, n = totalToS ps ps.length := ⟨_, rfl⟩
      rw [← hnn] at hall htk ⊢
      have Hnn := Lib.hid hnn
      have Hall := Lib.hid hall
      clear hnn hall
      go_wp2_with (fail)
      refine (growS n w (by rw [Hall.out]; exact Hn.out)).mono ?_
      intro e w1 hg
      obtain ⟨a, c, rfl, hroom, co⟩ := hg
      have hroom' : totalS ps ≤ c := by rw [← Hall.out]; exact hroom
      clear hroom htk
      go_wp2_with (fail)
      go_loopw [6, 27] (fun s i wr => ∃ (k m : Nat) (xs : List DStep), k ≤ ps.length ∧ i = .int .i64 k ∧ Hid (m = totalToS ps k) ∧ Hid (xs = (ps.take k).flatMap PartS.xs) ∧ s = .slice a m c ∧ CollE w 37 6 (.slice a m c) m (xs.flatMap DStep.cells) wr) (fun _ i _ => ps.length - (intOf i).toNat)
      case atStart => exact ⟨0, 0, [], Nat.zero_le _, rfl, rfl, rfl, rfl, co⟩
      case round =>
        clear co
        obtain ⟨k, m, xs, hk, rfl, Hm, Hxs, rfl, co⟩ := hrel
        by_cases hlt : k < ps.length
        · have hsr := Hs.out.fr co.fr (fun _ _ h => h)
          obtain ⟨b1, o1, rfl, h1⟩ := Sl.oneCell (j := k) (v := ps[k].val) hsr (by simp [hlt])
          have hpo := (Hok.out ps[k] (List.getElem_mem hlt)).fr co.fr (fun _ h => h)
          have hts := totalToS_succ ps hlt
          have htl := totalToS_le ps (k + 1)
          have hfs := flatS_succ ps hlt
          obtain ⟨p, hp⟩ : ∃ p, p = ps[k] := ⟨_, rfl⟩
          rw [← hp] at h1 hpo hts hfs
          unfold PartS.val at h1
          have hmr : m + p.xs.length ≤ c := by rw [Hm.out]; omega
          have Hts := Lib.hid hts
          have Hfs := Lib.hid hfs
          have Hpo := Lib.hid hpo
          clear hsr hpo hts htl hfs hp
          go_wp2_with (at_builtin; go_must (refine wpList_append_rm rfl (.tmp 31) (.tmp 32) 32 rfl 37 i0 6 Try.underlying32 Hi.out Hz1.out (by decide) a m c (xs.flatMap DStep.cells) rfl co.own p.a p.xs.length p.c (p.xs.flatMap DStep.cells) rfl (by rw [flat_len _ _ DStep.len]) Hpo.out.none Hpo.out.sl steps_one hmr ?_))
          intro w7 o7 f7
          have co7 : CollE w 37 6 (.slice a (m + p.xs.length) c) (m + p.xs.length) ((xs ++ p.xs).flatMap DStep.cells) w7 := by
            rw [List.flatMap_append]
            exact CollE.more co (Fr.refl _ _) o7 f7 (fun k hk => .inl ((ownBlock_any _ _ _ _ _).trans hk))
          have HM : Hid (m + p.xs.length = totalToS ps (k + 1)) := (show _ = _ by rw [Hts.out, Hm.out])
          have HX : Hid (xs ++ p.xs = (ps.take (k + 1)).flatMap PartS.xs) := (show _ = _ by rw [Hfs.out, Hxs.out])
          clear co o7 f7 h1 hmr
          go_wp2_with (fail)
          go_roundw
          case rel => exact ⟨k + 1, _, _, by omega, by go_num, HM, HX, rfl, co7⟩
          case measure => simp [intOf]; omega
        · obtain rfl : k = ps.length := by omega
          have hx := Hxs.out
          rw [List.take_length] at hx
          subst hx
          have hm : m = (ps.flatMap PartS.xs).length := by rw [Hm.out, totalToS_all]; rfl
          have Hm' := Lib.hid hm
          clear hm Hm
          go_wp2_with (fail)
          go_ret
          have hm := Hm'.out
          subst hm
          exact ⟨a, c, rfl, co⟩
end Go.Proofs.Ytfedaolpanncoaa
