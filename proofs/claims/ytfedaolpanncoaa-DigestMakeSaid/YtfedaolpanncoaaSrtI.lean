/- slices.SortedFunc over maps.Values at a struct type. No condition. -/
import Derived.Test.YtfedaolpanncoaaValI
import Derived.Test.YtfedaolpanncoaaSortK
import Derived.Test.YtfedaolpanncoaaSortL
import Derived.Test.YtfedaolpanncoaaDigCmp
import Derived.Test.YtfedaolpanncoaaSrt
namespace Go.Proofs.Ytfedaolpanncoaa
open Go.RowKit Go.Sort

/-- A list that holds just what f says, its users rising. -/
structure ListedI (f : ByteArray → Option Item) (xs : List Item) : Prop where
  rise : xs.Pairwise fun a b => ltB a.user b.user = true
  mem : ∀ x, x ∈ xs ↔ f x.user = some x
theorem listed_eqI {f : ByteArray → Option Item} {xs ys : List Item} (h : ListedI f xs) (h' : ListedI f ys) : xs = ys :=
  rise_eq (fun a b => ltB a.user b.user = true) (fun a h => by rw [ltB_irrefl] at h; cases h) (fun a b h1 h2 => by rw [ltB_asym h1] at h2; cases h2) h.rise h'.rise (fun x => by rw [h.mem, h'.mem])
theorem listed_ofI {f : ByteArray → Option Item} (hkey : ∀ k x, f k = some x → x.user = k) {zs ys : List Item} (h : AllI f zs) (hp : ys.Perm zs) (hs : ys.Pairwise fun a b => ltB b.user a.user = false) : ListedI f ys := by
  obtain ⟨ks, hn, hm, rfl⟩ := h
  have hu : (ks.filterMap f).map Item.user = ks.filter (fun k => (f k).isSome) := by
    clear hn hm hp
    induction ks with
    | nil => rfl
    | cons k ks ih =>
      cases hf : f k with
      | none => rw [List.filterMap_cons_none hf, List.filter_cons_of_neg (by simp [hf]), ih]
      | some x => rw [List.filterMap_cons_some hf, List.filter_cons_of_pos (by simp [hf]), List.map_cons, ih, hkey k x hf]
  have hnu : (ys.map Item.user).Nodup := by
    rw [(hp.map Item.user).nodup_iff, hu]
    exact hn.sublist List.filter_sublist
  refine ⟨?_, fun x => ?_⟩
  · rw [List.nodup_iff_pairwise_ne, List.pairwise_map] at hnu
    refine (hs.and hnu).imp fun {a b} hab => ?_
    cases h1 : ltB a.user b.user with
    | true => rfl
    | false => exact absurd (ltB_total h1 hab.1) hab.2
  · rw [hp.mem_iff, List.mem_filterMap]
    constructor
    · rintro ⟨k, _, hf⟩
      rw [hkey k x hf]; exact hf
    · intro hf
      exact ⟨x.user, (hm _).2 (by rw [hf]; rfl), hf⟩
instance inhI : Inhabited Item := ⟨itemE.zero⟩
theorem ltOf_cmpI (x y : Item) : ltOf (fun x y : Item => cmpI x.user y.user) x y = ltB x.user y.user := by
  show decide ((if ltB x.user y.user = true then (-1 : Int) else if ltB y.user x.user = true then 1 else 0) < 0) = _
  cases ltB x.user y.user <;> cases ltB y.user x.user <;> rfl
theorem swoI : SWO (ltOf fun x y : Item => cmpI x.user y.user) where
  irrefl x := by rw [ltOf_cmpI, ltB_irrefl]
  trans x y z h1 h2 := by rw [ltOf_cmpI] at *; exact ltB_trans h1 h2
  ntrans x y z h1 h2 := by rw [ltOf_cmpI] at *; exact ltB_ntrans h1 h2
/-- slices.SortFunc, of a slice that the call has made. -/
theorem sort_callI (v : Value) (xs : List Item) (base : Nat) (w : World) (ho : w.ownsRow base 27 4 v xs.length (xs.flatMap Item.cells)) (hnil : v = .slice none 0 0 ↔ xs = []) (hl : xs.length ≤ 100000) :
    Calls Try.prog 39 #[v, .func (.func 27) #[] #[]] w fun e w' => e = .returned (.tuple #[]) ∧ ∃ ys : List Item, ys.Perm xs ∧ (ys.Pairwise fun a b => ltB b.user a.user = false) ∧ w'.ownsRow base 27 4 v ys.length (ys.flatMap Item.cells) ∧ Fr (InBlock v) w w' := by
  by_cases h0 : xs = []
  · subst h0
    obtain rfl := hnil.2 rfl
    exact (Try.sort_noneI none 0 _ w).mono fun e w' ⟨h1, h2⟩ => ⟨h1, [], List.Perm.refl _, List.Pairwise.nil, by rw [h2]; exact ho, by rw [h2]; exact Fr.refl _ _⟩
  · rcases ho.2 with ⟨rfl, hz⟩ | ⟨g, cap, cur, rfl, hb, hg, hn, hc, hz, ht⟩
    · exact absurd (hnil.1 rfl) h0
    · have hlen : (xs.flatMap Item.cells).length = xs.length * 4 := flat_len _ _ Item.len xs
      have hF : flatK Item.cells 4 xs.toArray = (xs.flatMap Item.cells).toArray := flatK_eq _ _ (by decide) Item.len xs
      have hH : HoldsK Item.cells 4 w g 0 xs.toArray := by
        unfold HoldsK
        rw [hF]
        exact holdsV hg (by rw [hlen]; exact ht)
      have hone : ∀ x : Item, ∀ u ∈ x.cells, u.oneCell' = true := by intro x u hu; simp only [Item.cells, List.mem_cons, List.not_mem_nil, or_false] at hu; rcases hu with rfl | rfl | rfl | rfl <;> rfl
      have hcmp : CmpLays Try.prog 27 #[] Item.cells 4 (fun x y : Item => cmpI x.user y.user) g 0 xs.toArray.size w := by
        intro m os dk _ x y
        refine (cmp_items x y _).mono fun e w' ⟨h1, h2⟩ => ⟨h1, 0, #[.cells x.cells.toArray 27, .cells y.cells.toArray 27], ?_⟩
        rw [h2]
        exact alloc_two _ _ _
      have h := Try.sort_wholeI 4 (fun w => by kernel_rfl) (fun w => by kernel_rfl) Item.cells Item.len hone (fun x y => cmpI x.user y.user) swoI 27 #[] g 0 cap xs.toArray w
        (enters_of Try.func27 (by kernel_rfl) rfl) hcmp hH (Array.getElem?_eq_some_iff.1 hg).1 (by simp; omega)
      rw [List.size_toArray] at h
      refine h.mono ?_
      rintro e w' ⟨h1, d', n, os, hp, hs, rfl⟩
      have hsz : d'.size = xs.length := by simpa using hp.1
      have hpl : d'.toList.Perm xs := by
        have := hp.2.2
        rw [List.extract_toArray] at this
        simp only [List.extract_eq_take_drop, List.drop_zero, Nat.sub_zero, Array.toList_extract] at this
        rw [List.take_of_length_le (by simp [hsz]), List.take_of_length_le (by simp)] at this
        exact this
      have hF' : flatK Item.cells 4 d' = (d'.toList.flatMap Item.cells).toArray := by
        have := flatK_eq Item.cells 4 (by decide) Item.len d'.toList
        simpa using this
      refine ⟨h1, d'.toList, hpl, ?_, ?_, ?_⟩
      · rw [List.pairwise_iff_getElem]
        intro i j hi hj hij
        have hj' : j < d'.size := by simpa using hj
        have := hs i j (Nat.zero_le _) hij (by omega)
        rw [ltOf_cmpI, getElem!_pos _ i (by omega), getElem!_pos _ j (by omega)] at this
        simpa using this
      · have hlen' : (d'.toList.flatMap Item.cells).length = xs.length * 4 := by rw [flat_len _ _ Item.len]; simp [hsz]
        unfold sortWorldK putRowK
        rw [hF', show d'.toList.length = xs.length by simp [hsz]]
        exact ownsV hlen' hb hg hn hc hz
      · unfold sortWorldK putRowK
        exact (frV _).mono fun k _ hk => by subst hk; rfl
/-- slices.SortedFunc over maps.Values. -/
theorem sorted_callI (f : ByteArray → Option Item) (hkey : ∀ k x, f k = some x → x.user = k) (b nn Bs : Nat) (w : World) (hnn : nn ≤ 100000) (hBs : Bs < w.heap.size) (hc : w.cell? ⟨Bs, 0, none⟩ = some (.map (some b))) (hM : IsMapV itemE w b f nn) :
    Calls Try.prog 25 #[.func (.func 40) #[] #[.pointer (some ⟨Bs, 0, none⟩)], .func (.func 27) #[] #[]] w fun e W' =>
      ∃ v xs, e = .returned v ∧ ListedI f xs ∧ CollE w 27 4 v xs.length (xs.flatMap Item.cells) W' := by
  have fin : ∀ v (xs ys : List Item) (w1 w2 : World), w1.ownsRow w.heap.size 27 4 v xs.length (xs.flatMap Item.cells) → Below w.heap.size w w1 → w2.ownsRow w.heap.size 27 4 v ys.length (ys.flatMap Item.cells) → Fr (InBlock v) w1 w2 → CollE w 27 4 v ys.length (ys.flatMap Item.cells) w2 := by
    intro v xs ys w1 w2 h1 hb h2 hf
    have hnew : ∀ k, InBlock v k → w.heap.size ≤ k := fun k hk => (h2.lt k hk).1
    refine ⟨owns_zero h2, hnew, ?_⟩
    exact ((Fr.of_below hb).mono (fun k hk h => absurd h (by omega))).trans hf (fun k hk h => absurd (hnew k h) (by omega))
  go_enter Try.func25, Try.ntmps25
  go_wp2_with (first
    | (go_at_call 38; refine (mapcollectI f b nn Bs _ hnn hBs hc hM).mono ?_; rintro e w1 ⟨v, xs, rfl, ⟨hA, hLen⟩, hO, hN, hB⟩)
    | (go_at_call 39; refine (sort_callI v xs _ _ hO hN (by omega)).mono ?_; rintro e w2 ⟨rfl, ys, hp, hs, hO2, hF⟩))
  go_ret
  exact ⟨v, ys, rfl, listed_ofI hkey hA hp hs, fin v xs ys _ _ hO hB hO2 hF⟩
end Go.Proofs.Ytfedaolpanncoaa
