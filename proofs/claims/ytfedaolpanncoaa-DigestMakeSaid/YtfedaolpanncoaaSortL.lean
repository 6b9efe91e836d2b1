/- The contracts of slices.SortFunc at this program, written by a tool of the kit. No condition. -/
import Derived.Shelf.SlGeneric
import Derived.Ground.SlsfProg
import Derived.Shelf.SlSortCmp.WholeK
import Derived.Shelf.SlSortCmp.NoneTotal
import Derived.Test.YtfedaolpanncoaaProg
namespace Go.Proofs.Ytfedaolpanncoaa
open Go.Shelf
def Try.sortLI_ren : Go.Shelf.Ren := ⟨fun | 6 => 39 | 15 => 49 | 14 => 48 | 28 => 60 | 29 => 61 | 20 => 52 | 21 => 53 | 22 => 54 | 23 => 55 | 24 => 56 | 25 => 57 | 26 => 58 | 27 => 59 | 46 => 70 | 47 => 71 | 48 => 72 | 49 => 73 | 50 => 74 | 57 => 78 | n => n, fun | 22 => 22 | 24 => 27 | 25 => 58 | 3 => 3 | 39 => 25 | 0 => 0 | 53 => 28 | 55 => 96 | 4 => 4 | 46 => 88 | 45 => 87 | 50 => 92 | 5 => 5 | 9 => 9 | 66 => 102 | 70 => 106 | 76 => 110 | 77 => 111 | n => n, fun | n => n⟩
theorem Try.sortLI : Go.Proofs.SlLaysF0.n6 Try.prog Try.sortLI_ren := {
  mixed := by kernel_rfl
  f6 := ⟨Try.f39.name, by decide, Try.func39.trans (congrArg some (by kernel_rfl))⟩
  f14 := ⟨Try.f48.name, by decide, Try.func48.trans (congrArg some (by kernel_rfl))⟩
  f15 := Try.func49.trans (congrArg some (by kernel_rfl))
  f20 := ⟨Try.f52.name, by decide, Try.func52.trans (congrArg some (by kernel_rfl))⟩
  f21 := ⟨Try.f53.name, by decide, Try.func53.trans (congrArg some (by kernel_rfl))⟩
  f22 := ⟨Try.f54.name, by decide, Try.func54.trans (congrArg some (by kernel_rfl))⟩
  f23 := ⟨Try.f55.name, by decide, Try.func55.trans (congrArg some (by kernel_rfl))⟩
  f24 := ⟨Try.f56.name, by decide, Try.func56.trans (congrArg some (by kernel_rfl))⟩
  f25 := ⟨Try.f57.name, by decide, Try.func57.trans (congrArg some (by kernel_rfl))⟩
  f26 := ⟨Try.f58.name, by decide, Try.func58.trans (congrArg some (by kernel_rfl))⟩
  f27 := ⟨Try.f59.name, by decide, Try.func59.trans (congrArg some (by kernel_rfl))⟩
  f28 := Try.func60.trans (congrArg some (by kernel_rfl))
  f29 := Try.func61.trans (congrArg some (by kernel_rfl))
  f46 := ⟨Try.f70.name, by decide, Try.func70.trans (congrArg some (by kernel_rfl))⟩
  f47 := Try.func71.trans (congrArg some (by kernel_rfl))
  f48 := Try.func72.trans (congrArg some (by kernel_rfl))
  f49 := ⟨Try.f73.name, by decide, Try.func73.trans (congrArg some (by kernel_rfl))⟩
  f50 := ⟨Try.f74.name, by decide, Try.func74.trans (congrArg some (by kernel_rfl))⟩
  f57 := ⟨Try.f78.name, by decide, Try.func78.trans (congrArg some (by kernel_rfl))⟩
  t0 := Try.underlying0
  a0 := Try.isAgg0
  z0 := Try.sizeOf0
  v0 := Try.zeroValue0
  t3 := Try.underlying3
  a3 := Try.isAgg3
  z3 := Try.sizeOf3
  v3 := Try.zeroValue3
  t4 := Try.underlying4
  a4 := Try.isAgg4
  z4 := Try.sizeOf4
  v4 := Try.zeroValue4
  t5 := Try.underlying5
  a5 := Try.isAgg5
  z5 := Try.sizeOf5
  v5 := Try.zeroValue5
  t9 := Try.underlying9
  a9 := Try.isAgg9
  z9 := Try.sizeOf9
  v9 := Try.zeroValue9
  t22 := Try.underlying22
  a22 := Try.isAgg22
  z22 := Try.sizeOf22
  v22 := Try.zeroValue22
  t25 := Try.underlying58
  a25 := Try.isAgg58
  z25 := Try.sizeOf58
  v25 := Try.zeroValue58
  t39 := Try.underlying25
  a39 := Try.isAgg25
  z39 := Try.sizeOf25
  v39 := Try.zeroValue25
  t45 := Try.underlying87
  a45 := Try.isAgg87
  z45 := Try.sizeOf87
  v45 := Try.zeroValue87
  t46 := Try.underlying88
  a46 := Try.isAgg88
  z46 := Try.sizeOf88
  v46 := Try.zeroValue88
  t50 := Try.underlying92
  a50 := Try.isAgg92
  z50 := Try.sizeOf92
  v50 := Try.zeroValue92
  t53 := Try.underlying28
  a53 := Try.isAgg28
  z53 := Try.sizeOf28
  v53 := Try.zeroValue28
  t55 := Try.underlying96
  a55 := Try.isAgg96
  z55 := Try.sizeOf96
  v55 := Try.zeroValue96
  t66 := Try.underlying102
  a66 := Try.isAgg102
  z66 := Try.sizeOf102
  v66 := Try.zeroValue102
  t70 := Try.underlying106
  a70 := Try.isAgg106
  z70 := Try.sizeOf106
  v70 := Try.zeroValue106
  t76 := Try.underlying110
  a76 := Try.isAgg110
  z76 := Try.sizeOf110
  v76 := Try.zeroValue110
  t77 := Try.underlying111
  a77 := Try.isAgg111
  z77 := Try.sizeOf111
  v77 := Try.zeroValue111 }
open Go.RowKit Go.Lib Go.Sort Go.Shelf in
theorem Try.sort_noneI (p : Option Addr) (cap : Nat) (fv : Value) (w : World) :
    Calls Try.prog 39 #[.slice p 0 cap, fv] w fun e w' => e = .returned (.tuple #[]) ∧ w' = w := AnyF.slices_SortFunc_none Try.sortLI p cap fv w
open Go.RowKit Go.Lib Go.Sort Go.Shelf in
theorem Try.sort_wholeI {α : Type} [Inhabited α] (k : Nat) (aE : ∀ w, (isAgg (Try.sortLI_ren.t 24)).run Try.prog w = .ok true w) (zE : ∀ w, (Go.sizeOf (Try.sortLI_ren.t 24)).run Try.prog w = .ok k w) (enc : α → List Value) (hk : ∀ x, (enc x).length = k) (h1 : ∀ x, ∀ v ∈ enc x, v.oneCell' = true) (cf : α → α → Int) (hO : SWO (ltOf cf)) (g : Nat) (cb : Array Value) (blk off cap : Nat) (d : Array α) (w : World)
    (eg : ∀ args w, (callFunc g args).run Try.prog w = .ok (.enter g args) w) (hcmp : CmpLays Try.prog g cb enc k cf blk off d.size w) (hH : HoldsK enc k w blk off d) (hblk : blk < w.heap.size) (hsz : d.size < 4611686018427387904) :
    Calls Try.prog 39 #[.slice (some ⟨blk, off, none⟩) d.size cap, .func (.func g) #[] cb] w fun e w' => e = .returned (.tuple #[]) ∧ ∃ d' n os, PermIn 0 d.size d d' ∧ SortedIn (ltOf cf) 0 d.size d' ∧ w' = sortWorldK enc k w blk off n d' os := AnyQ.slices_SortFunc Try.sortLI k aE zE enc hk h1 cf hO g cb blk off cap d w eg hcmp hH hblk hsz
def Try.sortLS_ren : Go.Shelf.Ren := ⟨fun | 6 => 44 | 15 => 49 | 14 => 51 | 28 => 60 | 29 => 61 | 20 => 62 | 21 => 63 | 22 => 64 | 23 => 65 | 24 => 66 | 25 => 67 | 26 => 68 | 27 => 69 | 46 => 75 | 47 => 71 | 48 => 72 | 49 => 76 | 50 => 77 | 57 => 79 | n => n, fun | 22 => 32 | 24 => 37 | 25 => 67 | 3 => 3 | 39 => 25 | 0 => 0 | 53 => 28 | 55 => 96 | 4 => 4 | 46 => 88 | 45 => 87 | 50 => 92 | 5 => 5 | 9 => 9 | 66 => 102 | 70 => 106 | 76 => 110 | 77 => 111 | n => n, fun | n => n⟩
theorem Try.sortLS : Go.Proofs.SlLaysF0.n6 Try.prog Try.sortLS_ren := {
  mixed := by kernel_rfl
  f6 := ⟨Try.f44.name, by decide, Try.func44.trans (congrArg some (by kernel_rfl))⟩
  f14 := ⟨Try.f51.name, by decide, Try.func51.trans (congrArg some (by kernel_rfl))⟩
  f15 := Try.func49.trans (congrArg some (by kernel_rfl))
  f20 := ⟨Try.f62.name, by decide, Try.func62.trans (congrArg some (by kernel_rfl))⟩
  f21 := ⟨Try.f63.name, by decide, Try.func63.trans (congrArg some (by kernel_rfl))⟩
  f22 := ⟨Try.f64.name, by decide, Try.func64.trans (congrArg some (by kernel_rfl))⟩
  f23 := ⟨Try.f65.name, by decide, Try.func65.trans (congrArg some (by kernel_rfl))⟩
  f24 := ⟨Try.f66.name, by decide, Try.func66.trans (congrArg some (by kernel_rfl))⟩
  f25 := ⟨Try.f67.name, by decide, Try.func67.trans (congrArg some (by kernel_rfl))⟩
  f26 := ⟨Try.f68.name, by decide, Try.func68.trans (congrArg some (by kernel_rfl))⟩
  f27 := ⟨Try.f69.name, by decide, Try.func69.trans (congrArg some (by kernel_rfl))⟩
  f28 := Try.func60.trans (congrArg some (by kernel_rfl))
  f29 := Try.func61.trans (congrArg some (by kernel_rfl))
  f46 := ⟨Try.f75.name, by decide, Try.func75.trans (congrArg some (by kernel_rfl))⟩
  f47 := Try.func71.trans (congrArg some (by kernel_rfl))
  f48 := Try.func72.trans (congrArg some (by kernel_rfl))
  f49 := ⟨Try.f76.name, by decide, Try.func76.trans (congrArg some (by kernel_rfl))⟩
  f50 := ⟨Try.f77.name, by decide, Try.func77.trans (congrArg some (by kernel_rfl))⟩
  f57 := ⟨Try.f79.name, by decide, Try.func79.trans (congrArg some (by kernel_rfl))⟩
  t0 := Try.underlying0
  a0 := Try.isAgg0
  z0 := Try.sizeOf0
  v0 := Try.zeroValue0
  t3 := Try.underlying3
  a3 := Try.isAgg3
  z3 := Try.sizeOf3
  v3 := Try.zeroValue3
  t4 := Try.underlying4
  a4 := Try.isAgg4
  z4 := Try.sizeOf4
  v4 := Try.zeroValue4
  t5 := Try.underlying5
  a5 := Try.isAgg5
  z5 := Try.sizeOf5
  v5 := Try.zeroValue5
  t9 := Try.underlying9
  a9 := Try.isAgg9
  z9 := Try.sizeOf9
  v9 := Try.zeroValue9
  t22 := Try.underlying32
  a22 := Try.isAgg32
  z22 := Try.sizeOf32
  v22 := Try.zeroValue32
  t25 := Try.underlying67
  a25 := Try.isAgg67
  z25 := Try.sizeOf67
  v25 := Try.zeroValue67
  t39 := Try.underlying25
  a39 := Try.isAgg25
  z39 := Try.sizeOf25
  v39 := Try.zeroValue25
  t45 := Try.underlying87
  a45 := Try.isAgg87
  z45 := Try.sizeOf87
  v45 := Try.zeroValue87
  t46 := Try.underlying88
  a46 := Try.isAgg88
  z46 := Try.sizeOf88
  v46 := Try.zeroValue88
  t50 := Try.underlying92
  a50 := Try.isAgg92
  z50 := Try.sizeOf92
  v50 := Try.zeroValue92
  t53 := Try.underlying28
  a53 := Try.isAgg28
  z53 := Try.sizeOf28
  v53 := Try.zeroValue28
  t55 := Try.underlying96
  a55 := Try.isAgg96
  z55 := Try.sizeOf96
  v55 := Try.zeroValue96
  t66 := Try.underlying102
  a66 := Try.isAgg102
  z66 := Try.sizeOf102
  v66 := Try.zeroValue102
  t70 := Try.underlying106
  a70 := Try.isAgg106
  z70 := Try.sizeOf106
  v70 := Try.zeroValue106
  t76 := Try.underlying110
  a76 := Try.isAgg110
  z76 := Try.sizeOf110
  v76 := Try.zeroValue110
  t77 := Try.underlying111
  a77 := Try.isAgg111
  z77 := Try.sizeOf111
  v77 := Try.zeroValue111 }
open Go.RowKit Go.Lib Go.Sort Go.Shelf in
theorem Try.sort_noneS (p : Option Addr) (cap : Nat) (fv : Value) (w : World) :
    Calls Try.prog 44 #[.slice p 0 cap, fv] w fun e w' => e = .returned (.tuple #[]) ∧ w' = w := AnyF.slices_SortFunc_none Try.sortLS p cap fv w
open Go.RowKit Go.Lib Go.Sort Go.Shelf in
theorem Try.sort_wholeS {α : Type} [Inhabited α] (k : Nat) (aE : ∀ w, (isAgg (Try.sortLS_ren.t 24)).run Try.prog w = .ok true w) (zE : ∀ w, (Go.sizeOf (Try.sortLS_ren.t 24)).run Try.prog w = .ok k w) (enc : α → List Value) (hk : ∀ x, (enc x).length = k) (h1 : ∀ x, ∀ v ∈ enc x, v.oneCell' = true) (cf : α → α → Int) (hO : SWO (ltOf cf)) (g : Nat) (cb : Array Value) (blk off cap : Nat) (d : Array α) (w : World)
    (eg : ∀ args w, (callFunc g args).run Try.prog w = .ok (.enter g args) w) (hcmp : CmpLays Try.prog g cb enc k cf blk off d.size w) (hH : HoldsK enc k w blk off d) (hblk : blk < w.heap.size) (hsz : d.size < 4611686018427387904) :
    Calls Try.prog 44 #[.slice (some ⟨blk, off, none⟩) d.size cap, .func (.func g) #[] cb] w fun e w' => e = .returned (.tuple #[]) ∧ ∃ d' n os, PermIn 0 d.size d d' ∧ SortedIn (ltOf cf) 0 d.size d' ∧ w' = sortWorldK enc k w blk off n d' os := AnyQ.slices_SortFunc Try.sortLS k aE zE enc hk h1 cf hO g cb blk off cap d w eg hcmp hH hblk hsz
end Go.Proofs.Ytfedaolpanncoaa
