/- The contracts of slices.Sorted over maps.Keys at this program, written by a tool of the kit. No condition. -/
import Derived.Shelf.SlIter.Nil
import Derived.Shelf.SortM.Plain
import Derived.Shelf.SortM.SortNone
import Derived.Ground.GgzProg
import Derived.Ground.SlgmProg
import Derived.Test.YtipkkhigcnhjdaaProg
namespace Go.Proofs.Ytipkkhigcnhjdaa
open Go.Shelf
def Try.keys28_ren : Go.Shelf.Ren := ⟨fun | 7 => 28 | 10 => 35 | n => n, fun | 23 => 55 | 26 => 9 | 3 => 58 | 28 => 64 | 0 => 0 | 27 => 63 | 33 => 70 | 4 => 4 | n => n, fun | n => n⟩
theorem Try.keys28 : Go.Proofs.SlLaysZ.n7 Try.prog Try.keys28_ren := {
  mixed := by kernel_rfl
  f7 := ⟨Try.f28.name, by decide, Try.func28.trans (congrArg some (by kernel_rfl))⟩
  f10 := ⟨Try.f35.name, by decide, Try.func35.trans (congrArg some (by kernel_rfl))⟩
  t0 := Try.underlying0
  a0 := Try.isAgg0
  z0 := Try.sizeOf0
  v0 := Try.zeroValue0
  t4 := Try.underlying4
  a4 := Try.isAgg4
  z4 := Try.sizeOf4
  v4 := Try.zeroValue4
  t23 := Try.underlying55
  a23 := Try.isAgg55
  z23 := Try.sizeOf55
  v23 := Try.zeroValue55
  t26 := Try.underlying9
  a26 := Try.isAgg9
  z26 := Try.sizeOf9
  v26 := Try.zeroValue9
  t27 := Try.underlying63
  a27 := Try.isAgg63
  z27 := Try.sizeOf63
  v27 := Try.zeroValue63
  t28 := Try.underlying64
  a28 := Try.isAgg64
  z28 := Try.sizeOf64
  v28 := Try.zeroValue64
  t33 := Try.underlying70
  a33 := Try.isAgg70
  z33 := Try.sizeOf70
  v33 := Try.zeroValue70 }
def Try.sorted27_ren : Go.Shelf.Ren := ⟨fun | 6 => 27 | 8 => 33 | 9 => 34 | 11 => 38 | 13 => 40 | 12 => 39 | 23 => 50 | 24 => 51 | 14 => 41 | 15 => 42 | 16 => 43 | 17 => 44 | 18 => 45 | 19 => 46 | 20 => 47 | 21 => 48 | 22 => 49 | 25 => 52 | 26 => 53 | 27 => 54 | 28 => 55 | 29 => 56 | 30 => 57 | 31 => 58 | n => n, fun | 26 => 9 | 28 => 64 | 24 => 22 | 0 => 0 | 3 => 3 | 37 => 38 | 48 => 85 | 50 => 87 | 4 => 4 | 40 => 78 | 39 => 77 | 45 => 82 | 5 => 5 | 9 => 9 | 51 => 88 | 55 => 92 | 57 => 94 | 58 => 95 | 33 => 70 | n => n, fun | n => n⟩
theorem Try.sorted27 : Go.Proofs.SlLaysZ.n6 Try.prog Try.sorted27_ren := {
  mixed := by kernel_rfl
  f6 := ⟨Try.f27.name, by decide, Try.func27.trans (congrArg some (by kernel_rfl))⟩
  f8 := ⟨Try.f33.name, by decide, Try.func33.trans (congrArg some (by kernel_rfl))⟩
  f11 := ⟨Try.f38.name, by decide, Try.func38.trans (congrArg some (by kernel_rfl))⟩
  t0 := Try.underlying0
  a0 := Try.isAgg0
  z0 := Try.sizeOf0
  v0 := Try.zeroValue0
  t24 := Try.underlying22
  a24 := Try.isAgg22
  z24 := Try.sizeOf22
  v24 := Try.zeroValue22
  t26 := Try.underlying9
  a26 := Try.isAgg9
  z26 := Try.sizeOf9
  v26 := Try.zeroValue9
  t28 := Try.underlying64
  a28 := Try.isAgg64
  z28 := Try.sizeOf64
  v28 := Try.zeroValue64
  i26 := by kernel_rfl }
def Try.sort34_ren : Go.Shelf.Ren := ⟨fun | 6 => 34 | 8 => 40 | 9 => 39 | 19 => 50 | 20 => 51 | 21 => 41 | 22 => 42 | 23 => 43 | 24 => 44 | 25 => 45 | 26 => 46 | 27 => 47 | 28 => 48 | 29 => 49 | 36 => 52 | 31 => 53 | 32 => 54 | 37 => 55 | 38 => 56 | 39 => 57 | 41 => 58 | n => n, fun | 27 => 22 | 29 => 9 | 3 => 3 | 32 => 38 | 26 => 22 | 0 => 0 | 44 => 85 | 46 => 87 | 4 => 4 | 36 => 78 | 35 => 77 | 41 => 82 | 5 => 5 | 9 => 9 | 53 => 88 | 57 => 92 | 63 => 94 | 64 => 95 | n => n, fun | n => n⟩
theorem Try.sort34 : Go.Proofs.SlLaysM.n6 Try.prog Try.sort34_ren := {
  mixed := by kernel_rfl
  f6 := ⟨Try.f34.name, by decide, Try.func34.trans (congrArg some (by kernel_rfl))⟩
  f8 := Try.func40.trans (congrArg some (by kernel_rfl))
  f9 := ⟨Try.f39.name, by decide, Try.func39.trans (congrArg some (by kernel_rfl))⟩
  f19 := Try.func50.trans (congrArg some (by kernel_rfl))
  f20 := Try.func51.trans (congrArg some (by kernel_rfl))
  f21 := ⟨Try.f41.name, by decide, Try.func41.trans (congrArg some (by kernel_rfl))⟩
  f22 := ⟨Try.f42.name, by decide, Try.func42.trans (congrArg some (by kernel_rfl))⟩
  f23 := ⟨Try.f43.name, by decide, Try.func43.trans (congrArg some (by kernel_rfl))⟩
  f24 := ⟨Try.f44.name, by decide, Try.func44.trans (congrArg some (by kernel_rfl))⟩
  f25 := ⟨Try.f45.name, by decide, Try.func45.trans (congrArg some (by kernel_rfl))⟩
  f26 := ⟨Try.f46.name, by decide, Try.func46.trans (congrArg some (by kernel_rfl))⟩
  f27 := ⟨Try.f47.name, by decide, Try.func47.trans (congrArg some (by kernel_rfl))⟩
  f28 := ⟨Try.f48.name, by decide, Try.func48.trans (congrArg some (by kernel_rfl))⟩
  f29 := ⟨Try.f49.name, by decide, Try.func49.trans (congrArg some (by kernel_rfl))⟩
  f31 := Try.func53.trans (congrArg some (by kernel_rfl))
  f32 := Try.func54.trans (congrArg some (by kernel_rfl))
  f36 := ⟨Try.f52.name, by decide, Try.func52.trans (congrArg some (by kernel_rfl))⟩
  f37 := ⟨Try.f55.name, by decide, Try.func55.trans (congrArg some (by kernel_rfl))⟩
  f38 := ⟨Try.f56.name, by decide, Try.func56.trans (congrArg some (by kernel_rfl))⟩
  f39 := ⟨Try.f57.name, by decide, Try.func57.trans (congrArg some (by kernel_rfl))⟩
  f41 := ⟨Try.f58.name, by decide, Try.func58.trans (congrArg some (by kernel_rfl))⟩
  t0 := Try.underlying0
  a0 := Try.isAgg0
  z0 := Try.sizeOf0
  v0 := Try.zeroValue0
  t3 := Try.underlying3
  a3 := Try.isAgg3
  z3 := Try.sizeOf3
  v3 := Try.zeroValue3
  t4 := Try.underlying4
  a4 := Try.isAgg4
  z4 := Try.sizeOf4
  v4 := Try.zeroValue4
  t5 := Try.underlying5
  a5 := Try.isAgg5
  z5 := Try.sizeOf5
  v5 := Try.zeroValue5
  t9 := Try.underlying9
  a9 := Try.isAgg9
  z9 := Try.sizeOf9
  v9 := Try.zeroValue9
  t26 := Try.underlying22
  a26 := Try.isAgg22
  z26 := Try.sizeOf22
  v26 := Try.zeroValue22
  t27 := Try.underlying22
  a27 := Try.isAgg22
  z27 := Try.sizeOf22
  v27 := Try.zeroValue22
  t29 := Try.underlying9
  a29 := Try.isAgg9
  z29 := Try.sizeOf9
  v29 := Try.zeroValue9
  t32 := Try.underlying38
  a32 := Try.isAgg38
  z32 := Try.sizeOf38
  v32 := Try.zeroValue38
  t35 := Try.underlying77
  a35 := Try.isAgg77
  z35 := Try.sizeOf77
  v35 := Try.zeroValue77
  t36 := Try.underlying78
  a36 := Try.isAgg78
  z36 := Try.sizeOf78
  v36 := Try.zeroValue78
  t41 := Try.underlying82
  a41 := Try.isAgg82
  z41 := Try.sizeOf82
  v41 := Try.zeroValue82
  t44 := Try.underlying85
  a44 := Try.isAgg85
  z44 := Try.sizeOf85
  v44 := Try.zeroValue85
  t46 := Try.underlying87
  a46 := Try.isAgg87
  z46 := Try.sizeOf87
  v46 := Try.zeroValue87
  t53 := Try.underlying88
  a53 := Try.isAgg88
  z53 := Try.sizeOf88
  v53 := Try.zeroValue88
  t57 := Try.underlying92
  a57 := Try.isAgg92
  z57 := Try.sizeOf92
  v57 := Try.zeroValue92
  t63 := Try.underlying94
  a63 := Try.isAgg94
  z63 := Try.sizeOf94
  v63 := Try.zeroValue94
  t64 := Try.underlying95
  a64 := Try.isAgg95
  z64 := Try.sizeOf95
  v64 := Try.zeroValue95 }
open Go.RowKit Go.Maps Go.Sort Go.Shelf in
theorem Try.sorts27 (m : Nat) : AnyZ.SortsIn Try.prog Try.sorted27_ren Fence.wide m :=
  ⟨fun blk off cap ss W hH hblk hsz => callsIn_wide.2 (AnyM.slices_Sort_string Try.sort34 blk off cap ss W hH hblk hsz),
   fun p cap W => callsIn_wide.2 (AnyM.slices_Sort_string_none Try.sort34 p cap W)⟩
open Go.RowKit Go.Maps Go.Sort Go.Shelf in
theorem Try.maps_Keys_28 (mb : Option Nat) (W : World) : CallsIn Fence.wide 5 Try.prog 28 #[.map mb] W fun e w' => e = .returned (.func (.func 35) #[] #[.pointer (some ⟨W.heap.size, 0, none⟩)]) ∧ w' = W.alloc (.cells #[.map mb] 55) :=
  AnyZ.keys_in Try.keys28 Fence.wide 5 trivial rfl mb W
open Go.RowKit Go.Maps Go.Sort Go.Shelf in
set_option maxHeartbeats 1000000 in
theorem Try.slices_Sorted_keys_27_28 {H : Type} (b nn : Nat) (D0 : DataW H) (R : Value → Option (DataW H × List MemPlace)) (w : World) (hown : w.ownsMap Try.prog 9 R b nn D0) (hmax : Maps.size D0 ≤ maxLen) (hbytes : Maps.size D0 * 16 ≤ 140737488355328) :
    CallsIn Fence.wide 5 Try.prog 27 #[.func (.func 35) #[] #[.pointer (some ⟨w.heap.size, 0, none⟩)]] (w.alloc (.cells #[.map (some b)] 55)) fun e w' => ∃ (v : Value) (ss : List (List UInt8)), e = .returned v ∧ ss.Perm (strKeys D0) ∧
      w'.ownsRow (w.alloc (.cells #[.map (some b)] 55)).heap.size 9 1 v ss.length ((ss.mergeSort (fun x y => decide (x ≤ y))).map encStr) ∧ (v = .slice none 0 0 ↔ ss = []) ∧ Below (w.alloc (.cells #[.map (some b)] 55)).heap.size (w.alloc (.cells #[.map (some b)] 55)) w' := by
  have hbl := hown.lt
  have hseq : SeqGives Fence.wide 2 Try.prog 35 #[.pointer (some ⟨w.heap.size, 0, none⟩)] encStr (fun ss => ss.Perm (strKeys D0)) (Maps.size D0) (w.alloc (.cells #[.map (some b)] 55)) :=
    AnyZ.keys_gives (ρ := Try.keys28_ren) { Try.keys28 with } Fence.wide _ trivial rfl (by omega) w.heap.size b nn D0 _ (by simp) (by simp) (by
      obtain ⟨es, clock, hb, Ft, hs, hD⟩ := hown
      exact ⟨es, clock, (Below.heap_alloc _ _ b hbl).trans hb, Ft, hs, hD⟩)
  exact AnyZ.sorted_in Try.sorted27 Fence.wide 5 trivial trivial trivial trivial rfl (by omega) (Try.sorts27 _) (enters_of Try.func34 (by kernel_rfl) rfl) 35 #[.pointer (some ⟨w.heap.size, 0, none⟩)] trivial (enters_of Try.func35 (by kernel_rfl) rfl) _ _ hmax hbytes _ hseq
open Go.RowKit Go.Maps Go.Sort Go.Shelf in
set_option maxHeartbeats 1000000 in
theorem Try.slices_Sorted_keys_nil_27_28 (w : World) :
    CallsIn Fence.wide 5 Try.prog 27 #[.func (.func 35) #[] #[.pointer (some ⟨w.heap.size, 0, none⟩)]] (w.alloc (.cells #[.map none] 55)) fun e w' => ∃ (v : Value) (ss : List (List UInt8)), e = .returned v ∧ ss = [] ∧
      w'.ownsRow (w.alloc (.cells #[.map none] 55)).heap.size 9 1 v ss.length ((ss.mergeSort (fun x y => decide (x ≤ y))).map encStr) ∧ (v = .slice none 0 0 ↔ ss = []) ∧ Below (w.alloc (.cells #[.map none] 55)).heap.size (w.alloc (.cells #[.map none] 55)) w' := by
  have hseq : SeqGives Fence.wide 2 Try.prog 35 #[.pointer (some ⟨w.heap.size, 0, none⟩)] encStr (fun ss : List (List UInt8) => ss = []) 0 (w.alloc (.cells #[.map none] 55)) :=
    AnyZ.keys_gives_nil (ρ := Try.keys28_ren) { Try.keys28 with } Fence.wide _ trivial rfl w.heap.size _ (by simp) (by simp)
  exact AnyZ.sorted_in Try.sorted27 Fence.wide 5 trivial trivial trivial trivial rfl (by omega) (Try.sorts27 _) (enters_of Try.func34 (by kernel_rfl) rfl) 35 #[.pointer (some ⟨w.heap.size, 0, none⟩)] trivial (enters_of Try.func35 (by kernel_rfl) rfl) _ 0 (Nat.zero_le _) (by omega) _ hseq
end Go.Proofs.Ytipkkhigcnhjdaa
