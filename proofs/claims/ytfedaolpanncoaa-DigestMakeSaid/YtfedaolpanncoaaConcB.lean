/- slices.Concat of slices of uint8 (and slices.Grow at nil, that it calls): a new slice that reads as all of them, one behind the other. Condition: all together are fewer than 2^48 bytes. -/
import Derived.Test.YtfedaolpanncoaaConc
namespace Go.Proofs.Ytfedaolpanncoaa
open Go.RowKit

theorem Try.infoB : (Try.prog.info? 5).map (fun i => (i.zero, i.size, i.bytes)) = some (some (.int .u8 0), 1, 1) := by kernel_rfl

set_option maxRecDepth 100000 in
set_option maxHeartbeats 1000000 in
theorem growB (n : Nat) (w : World) (hn : n * 1 ≤ 281474976710656) : Calls Try.prog 46 #[.slice none 0 0, .int .i64 n] w (Grown 5 1 n w) := by
  obtain ⟨i0, hi, hz0, hz1, hz2⟩ := info_parts Try.infoB
  have Hz2 := Lib.hid hz2
  have Hz1 := Lib.hid hz1
  have Hz0 := Lib.hid hz0
  have Hi := Lib.hid hi
  clear hz2 hz1 hz0 hi
  by_cases h0 : n = 0
  · subst h0
    go_enter Try.func46, Try.ntmps46
    go_wp2_with (fail)
    go_ret
    exact ⟨_, _, rfl, Nat.le_refl _, CollE.start _ _ _⟩
  · have hpos : 0 < n := by omega
    have Hn := Lib.hid hn
    have hn9 : (n : Int) ≤ 9223372036854775807 := by omega
    clear h0 hn
    go_enter Try.func46, Try.ntmps46
    go_wp2_with (at_builtin; go_must (refine wpList_append_zr rfl (.tmp 20) (.tmp 21) 48 3 rfl .i64 Try.underlying3 5 i0 (.int .u8 0) 1 1 Try.underlying48 Hi.out Hz0.out Hz1.out Hz2.out rfl (by decide) rfl .i64 n rfl hpos (by unfold maxLen; omega) Hn.out ?_))
    intro b cap w2 hcap own2 new2 f2
    go_wp2_with (fail)
    go_ret
    exact ⟨_, _, rfl, hcap, own2, new2, f2⟩

set_option maxRecDepth 100000 in
set_option maxHeartbeats 1000000 in
theorem concatB (ps : List Part) (b : Option Addr) (c : Nat) (w : World) (hs : Sl w b (ps.map Part.val)) (hok : ∀ p ∈ ps, p.Ok w) (hlen : ps.length ≤ 1000) (hn : total ps * 1 ≤ 281474976710656) :
    Calls Try.prog 36 #[.slice b ps.length c] w (Joined 5 (ps.flatMap Part.xs) w) := by
  obtain ⟨i0, hi, hz0, hz1, hz2⟩ := info_parts Try.infoB
  have Hz2 := Lib.hid hz2
  have Hz1 := Lib.hid hz1
  have Hz0 := Lib.hid hz0
  have Hi := Lib.hid hi
  have Hs := Lib.hid hs
  have Hok := Lib.hid hok
  have Hn := Lib.hid hn
  clear hz2 hz1 hz0 hi hs hok hn
  go_enter Try.func36, Try.ntmps36
  go_wp2_with (fail)
  go_loop [3, 11] (fun s i => ∃ k : Nat, k ≤ ps.length ∧ i = .int .i64 k ∧ s = .int .i64 (totalTo ps k)) (fun _ i => ps.length - (intOf i).toNat)
  case atStart => exact ⟨0, Nat.zero_le _, rfl, rfl⟩
  case round =>
    obtain ⟨k, hk, rfl, rfl⟩ := hrel
    have htk := totalTo_le ps k
    have hn9 : ((total ps : Nat) : Int) ≤ 9223372036854775807 := by have := Hn.out; omega
    by_cases hlt : k < ps.length
    · obtain ⟨b1, o1, rfl, h1⟩ := Sl.oneCell (j := k) (v := ps[k].val) Hs.out (by simp [hlt])
      obtain ⟨p, hp⟩ : ∃ p, p = ps[k] := ⟨_, rfl⟩
      have hts := totalTo_succ ps hlt
      have htl := totalTo_le ps (k + 1)
      have hpl : (totalTo ps k : Int) + (p.xs.length : Int) ≤ 9223372036854775807 := by rw [hp]; omega
      rw [← hp] at h1 hts
      unfold Part.val at h1
      have Hts := Lib.hid hts
      clear hts hp htl
      go_wp2_with (fail)
      go_round
      case rel => exact ⟨k + 1, by omega, by go_num, by rw [Hts.out]; go_num⟩
      case measure => simp [intOf]; omega
    · obtain rfl : k = ps.length := by omega
      have hall := totalTo_all ps
      obtain ⟨n, hnn⟩ : ∃ n, n = totalTo ps ps.length := ⟨_, rfl⟩
      rw [← hnn] at hall htk ⊢
      have Hnn := Lib.hid hnn
      have Hall := Lib.hid hall
      clear hnn hall
      go_wp2_with (fail)
      refine (growB n w (by rw [Hall.out]; exact Hn.out)).mono ?_
      intro e w1 hg
      obtain ⟨a, c, rfl, hroom, co⟩ := hg
      have hroom' : total ps ≤ c := by rw [← Hall.out]; exact hroom
      clear hroom htk
      go_wp2_with (fail)
      go_loopw [6, 27] (fun s i wr => ∃ (k m : Nat) (xs : List Value), k ≤ ps.length ∧ i = .int .i64 k ∧ Hid (m = totalTo ps k) ∧ Hid (xs = (ps.take k).flatMap Part.xs) ∧ s = .slice a m c ∧ CollE w 5 1 (.slice a m c) m xs wr) (fun _ i _ => ps.length - (intOf i).toNat)
      case atStart => exact ⟨0, 0, [], Nat.zero_le _, rfl, rfl, rfl, rfl, co⟩
      case round =>
        clear co
        obtain ⟨k, m, xs, hk, rfl, Hm, Hxs, rfl, co⟩ := hrel
        by_cases hlt : k < ps.length
        · have hsr := Hs.out.fr co.fr (fun _ _ h => h)
          obtain ⟨b1, o1, rfl, h1⟩ := Sl.oneCell (j := k) (v := ps[k].val) hsr (by simp [hlt])
          have hpo := (Hok.out ps[k] (List.getElem_mem hlt)).fr co.fr (fun _ h => h)
          have hts := totalTo_succ ps hlt
          have htl := totalTo_le ps (k + 1)
          have hfs := flat_succ ps hlt
          obtain ⟨p, hp⟩ : ∃ p, p = ps[k] := ⟨_, rfl⟩
          rw [← hp] at h1 hpo hts hfs
          unfold Part.val at h1
          have hmr : m + p.xs.length ≤ c := by rw [Hm.out]; omega
          have Hts := Lib.hid hts
          have Hfs := Lib.hid hfs
          have Hpo := Lib.hid hpo
          clear hsr hpo hts htl hfs hp
          go_wp2_with (at_builtin; go_must (refine wpList_append_rm rfl (.tmp 31) (.tmp 32) 48 rfl 5 i0 1 Try.underlying48 Hi.out Hz1.out (by decide) a m c xs rfl co.own p.a p.xs.length p.c p.xs rfl (by simp) Hpo.out.none Hpo.out.sl Hpo.out.one hmr ?_))
          intro w7 o7 f7
          have co7 : CollE w 5 1 (.slice a (m + p.xs.length) c) (m + p.xs.length) (xs ++ p.xs) w7 := CollE.more co (Fr.refl _ _) o7 f7 (fun k hk => .inl ((ownBlock_any _ _ _ _ _).trans hk))
          have HM : Hid (m + p.xs.length = totalTo ps (k + 1)) := (show _ = _ by rw [Hts.out, Hm.out])
          have HX : Hid (xs ++ p.xs = (ps.take (k + 1)).flatMap Part.xs) := (show _ = _ by rw [Hfs.out, Hxs.out])
          clear co o7 f7 h1 hmr
          go_wp2_with (fail)
          go_roundw
          case rel => exact ⟨k + 1, _, _, by omega, by go_num, HM, HX, rfl, co7⟩
          case measure => simp [intOf]; omega
        · obtain rfl : k = ps.length := by omega
          have hx := Hxs.out
          rw [List.take_length] at hx
          subst hx
          have hm : m = (ps.flatMap Part.xs).length := by rw [Hm.out, totalTo_all]; rfl
          have Hm' := Lib.hid hm
          clear hm Hm
          go_wp2_with (fail)
          go_ret
          have hm := Hm'.out
          subst hm
          exact ⟨a, c, rfl, co⟩
end Go.Proofs.Ytfedaolpanncoaa
