/- Two rows of steps as one, as the program joins them. Condition: the texts' lengths, as the form says them. -/
import Derived.Test.YtfedaolpanncoaaDigMake
import Derived.Test.YtfedaolpanncoaaConcS
namespace Go.Proofs.Ytfedaolpanncoaa
open Go.RowKit

/-- The map of steps under way, made in block b. -/
structure MapX (w wr : World) (b : Nat) (f : ByteArray → Option DStep) (n : Nat) : Prop where
  map : IsMapV stepE wr b f n
  new : w.heap.size ≤ b
  fr : Fr Nothing w wr
theorem MapX.step {w wr w' : World} {b : Nat} {f f' : ByteArray → Option DStep} {n n' : Nat} (h : MapX w wr b f n) (m : IsMapV stepE w' b f' n') (F : Fr (fun x => x = b) wr w') : MapX w w' b f' n' :=
  ⟨m, h.new, h.fr.trans F (fun k hk e => by have := h.new; omega)⟩
theorem MapX.quiet {w wr w' : World} {b : Nat} {f : ByteArray → Option DStep} {n : Nat} (h : MapX w wr b f n) (F : Fr Nothing wr w') : MapX w w' b f n := ⟨h.map.fr F (fun h => h), h.new, h.fr.trans' F⟩
theorem MapX.cast {w wr : World} {b : Nat} {f f' : ByteArray → Option DStep} {n : Nat} (h : MapX w wr b f n) (e : f = f') : MapX w wr b f' n := e ▸ h
set_option maxRecDepth 100000 in
set_option maxHeartbeats 8000000 in
theorem dig_join (a b : Option Addr) (ca cb : Nat) (s t : List DStep) (w : World) (hA : Steps w a s) (hB : Steps w b t) (la : s.length ≤ 1000) (lb : t.length ≤ 1000) (na : a = none → s.length = 0 ∧ ca = 0) (nb : b = none → t.length = 0 ∧ cb = 0)
    (hga : ∀ x ∈ s, x.user.size ≤ maxLen) (hgb : ∀ x ∈ t, x.user.size ≤ maxLen) :
    Calls Try.prog 20 #[.slice a s.length ca, .slice b t.length cb] w fun e w' => ∃ v xs, e = .returned v ∧ ListedS (joinF (s ++ t)) xs ∧ CollE w 37 6 v xs.length (xs.flatMap DStep.cells) w' := by
  have HA := Lib.hid hA
  have HB := Lib.hid hB
  have hg : ∀ x ∈ s ++ t, x.user.size ≤ maxLen := fun x hx => (List.mem_append.1 hx).elim (hga x) (hgb x)
  have HG := Lib.hid hg
  have NA := Lib.hid na
  have NB := Lib.hid nb
  clear hA hB hga hgb hg na nb
  have hmk := @run_makeMap Try.prog
  have M0 : MapX w (w.alloc (.map #[] 0)) w.heap.size (fun _ => none) 0 := ⟨IsMapV.made w, Nat.le_refl _, Fr.alloc Nothing _ _⟩
  obtain ⟨w1, hw1⟩ : ∃ w1, w1 = w.alloc (.map #[] 0) := ⟨_, rfl⟩
  have hrow : Row (w1.alloc (.cells #[.slice a s.length ca, .slice b t.length cb] 32)) w1.heap.size ([PartS.val ⟨a, ca, s⟩, PartS.val ⟨b, cb, t⟩]) 32 := Row.allocNew w1 [PartS.val ⟨a, ca, s⟩, PartS.val ⟨b, cb, t⟩] _
  rw [← hw1] at M0
  have M1 := M0.quiet (Fr.alloc Nothing w1 (.cells #[.slice a s.length ca, .slice b t.length cb] 32))
  have hcon := concatS [⟨a, ca, s⟩, ⟨b, cb, t⟩] (some ⟨w1.heap.size, 0, none⟩) 2 _ (Sl.ofRow hrow)
    (fun p hp => by
      simp only [List.mem_cons, List.not_mem_nil, or_false] at hp
      rcases hp with rfl | rfl
      · exact ⟨NA.out, HA.out.2.2.fr M1.fr (fun _ _ h => h)⟩
      · exact ⟨NB.out, HB.out.2.2.fr M1.fr (fun _ _ h => h)⟩) (by simp) (by simp [totalS]; omega)
  simp only [List.flatMap_cons, List.flatMap_nil, List.append_nil, List.length_cons, List.length_nil, Nat.zero_add, Nat.reduceAdd] at hcon
  have hs1 : w1.heap.size = w.heap.size + 1 := by rw [hw1]; simp
  rw [hs1] at hcon
  have HC := Lib.hid hcon
  have HW1 := Lib.hid hw1
  clear hcon hrow M0 hs1 hw1
  go_enter Try.func20, Try.ntmps20
  go_wp2_with (fail)
  rw [← HW1.out]
  refine HC.out.mono ?_
  rintro e w2 ⟨a2, c2, rfl, co⟩
  obtain ⟨q, hq⟩ : ∃ q, q = s ++ t := ⟨_, rfl⟩
  rw [← hq] at co HG ⊢
  have hql : q.length ≤ 2000 := by rw [hq]; simp; omega
  have M2 := M1.quiet co.fr
  have hkey := Lib.hid (joinF_key q)
  have hst : Steps w2 a2 q := ⟨DStep.len, by decide, co.own.sl.2⟩
  have HST := Lib.hid hst
  have Hq := Lib.hid hq
  have ha2 : ∀ ad, a2 = some ad → ¬ (fun x : Nat => x = w.heap.size) ad.block := by
    rintro ad rfl e
    have h5 := co.new ad.block rfl
    have h6 : w1.heap.size = w.heap.size + 1 := by rw [HW1.out]; simp
    have h7 := (Fr.alloc Nothing w1 (.cells #[.slice a s.length ca, .slice b t.length cb] 32)).size
    have e' : ad.block = w.heap.size := e
    omega
  have HA2 := Lib.hid ha2
  clear co M1 hst HC hq ha2
  go_wp2_with (fail)
  go_loopg [14] q.length (fun g i wr => ∃ (k n : Nat), k ≤ q.length ∧ g = q.length - k ∧ i = .int .i64 k ∧ n ≤ k ∧ MapX w wr w.heap.size (joinF (q.take k)) n ∧ Fr (fun x => x = w.heap.size) w2 wr)
  case atStart => exact ⟨0, 0, Nat.zero_le _, rfl, rfl, Nat.le_refl _, M2, Fr.refl _ _⟩
  case round =>
    clear M2
    obtain ⟨k, n, hk, rfl, rfl, hnk, M, F2⟩ := hrel
    by_cases hlt : k < q.length
    · obtain ⟨b1, o1, rfl, hc⟩ := (HST.out.fr F2 HA2.out).at_ hlt
      obtain ⟨x, hx⟩ : ∃ x, x = q[k] := ⟨_, rfl⟩
      have hxs := HG.out q[k] (List.getElem_mem hlt)
      rw [← hx] at hc hxs
      have HX := Lib.hid hx
      have c0 : wr.cell? ⟨b1, o1 + k * 6, none⟩ = some (.string x.user) := hc 0 _ rfl
      have c1 : wr.cell? ⟨b1, o1 + k * 6 + 1, none⟩ = some (.string x.item.user) := hc 1 _ rfl
      have c2 : wr.cell? ⟨b1, o1 + k * 6 + 2, none⟩ = some (.string x.item.name) := hc 2 _ rfl
      have c3 : wr.cell? ⟨b1, o1 + k * 6 + 3, none⟩ = some (.int .i64 x.item.sub) := hc 3 _ rfl
      have c4 : wr.cell? ⟨b1, o1 + k * 6 + 4, none⟩ = some (.bool x.item.asked) := hc 4 _ rfl
      have c5 : wr.cell? ⟨b1, o1 + k * 6 + 5, none⟩ = some (.bool x.gone) := hc 5 _ rfl
      have HXS := Lib.hid hxs
      have M1 := M.quiet (Fr.alloc Nothing wr (.cells #[.string x.user, .string x.item.user, .string x.item.name, .int .i64 x.item.sub, .bool x.item.asked, .bool x.gone] 37))
      have F1 : Fr (fun x => x = w.heap.size) w2 (wr.alloc (.cells #[.string x.user, .string x.item.user, .string x.item.name, .int .i64 x.item.sub, .bool x.item.asked, .bool x.gone] 37)) := F2.trans' (Fr.alloc _ _ _)
      have hsn := joinF_snoc (q.take k) x
      have HSN := Lib.hid hsn
      clear hc hx hxs hsn
      go_wp2_with (at_mapUpdate; refine wpList_mapV_store (E := stepE) (v := x) rfl _ _ _ rfl Try.underlying61 M1.map (by unfold maxLen; omega) rfl rfl rfl HXS.out ?_; intro w3 m3 F3; obtain ⟨n3, hn3, M3⟩ : ∃ n3, n3 ≤ n + 1 ∧ MapX w w3 w.heap.size (joinF (q.take k ++ [x])) n3 := ⟨_, by split <;> omega, (M1.step m3 F3).cast HSN.out.symm⟩; have F4 := F1.trans' F3)
      go_roundg (q.length - (k + 1))
      case measure => omega
      case rel =>
        refine ⟨k + 1, n3, by omega, rfl, by go_num, by omega, ?_, F4⟩
        rw [List.take_succ_eq_append_getElem hlt, ← HX.out]
        exact M3
    · obtain rfl : k = q.length := by omega
      rw [List.take_length] at M
      go_wp2_with (first
        | (go_at_call 33; refine (mapvals_makeS _ _ w.heap.size rfl).mono ?_; rintro e w5 ⟨rfl, rfl⟩)
        | (go_at_call 32; refine (sorted_callS (joinF q) hkey.out w.heap.size n wr.heap.size _ (by omega) (by simp) ((Row.allocNew wr [.map (some w.heap.size)] _).cell 0 rfl) (M.map.fr (Fr.alloc Nothing _ _) (fun h => h))).mono ?_; rintro e w6 ⟨v, xs, rfl, hL, co⟩))
      go_ret
      exact ⟨v, xs, rfl, by rw [← Hq.out]; exact hL, co.over (M.fr.trans' (Fr.alloc _ _ _))⟩
end Go.Proofs.Ytfedaolpanncoaa
