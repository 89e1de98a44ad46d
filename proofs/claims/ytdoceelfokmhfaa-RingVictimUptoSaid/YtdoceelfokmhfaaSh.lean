/- The kit's contracts on maps.Keys, slices.Sorted and slices.Sort at this program, in plain words (by the kit's own tool), and what the walk asks of them. -/
import Derived.Test.YtdoceelfokmhfaaStMk
import Derived.Shelf.SlIterI.Nil
import Derived.Shelf.SortM.Plain
import Derived.Shelf.SortM.SortNone
import Derived.Ground.GgzProg
import Derived.Ground.SlgmProg
import Derived.Test.YtdoceelfokmhfaaProg
namespace Go.Proofs
open Go.Shelf
def Try.sortA47_ren : Go.Shelf.Ren := ⟨fun | 5 => 47 | 8 => 80 | 7 => 79 | 19 => 98 | 20 => 99 | 10 => 89 | 11 => 90 | 12 => 91 | 13 => 92 | 14 => 93 | 15 => 94 | 16 => 95 | 17 => 96 | 18 => 97 | 30 => 102 | 31 => 103 | 32 => 104 | 33 => 105 | 34 => 106 | 35 => 107 | 40 => 108 | n => n, fun | 23 => 29 | 25 => 3 | 3 => 3 | 32 => 97 | 22 => 29 | 0 => 0 | 44 => 111 | 46 => 49 | 4 => 4 | 36 => 104 | 35 => 103 | 41 => 31 | 5 => 5 | 9 => 9 | 53 => 114 | 57 => 118 | 63 => 120 | 64 => 121 | n => n, fun | n => n⟩
theorem Try.sortA47 : Go.Proofs.SlLaysM.n5 Try.prog Try.sortA47_ren := {
  mixed := by kernel_rfl
  f5 := ⟨Try.f47.name, by decide, Try.func47.trans (congrArg some (by kernel_rfl))⟩
  f7 := ⟨Try.f79.name, by decide, Try.func79.trans (congrArg some (by kernel_rfl))⟩
  f8 := Try.func80.trans (congrArg some (by kernel_rfl))
  f10 := ⟨Try.f89.name, by decide, Try.func89.trans (congrArg some (by kernel_rfl))⟩
  f11 := ⟨Try.f90.name, by decide, Try.func90.trans (congrArg some (by kernel_rfl))⟩
  f12 := ⟨Try.f91.name, by decide, Try.func91.trans (congrArg some (by kernel_rfl))⟩
  f13 := ⟨Try.f92.name, by decide, Try.func92.trans (congrArg some (by kernel_rfl))⟩
  f14 := ⟨Try.f93.name, by decide, Try.func93.trans (congrArg some (by kernel_rfl))⟩
  f15 := ⟨Try.f94.name, by decide, Try.func94.trans (congrArg some (by kernel_rfl))⟩
  f16 := ⟨Try.f95.name, by decide, Try.func95.trans (congrArg some (by kernel_rfl))⟩
  f17 := ⟨Try.f96.name, by decide, Try.func96.trans (congrArg some (by kernel_rfl))⟩
  f18 := ⟨Try.f97.name, by decide, Try.func97.trans (congrArg some (by kernel_rfl))⟩
  f19 := Try.func98.trans (congrArg some (by kernel_rfl))
  f20 := Try.func99.trans (congrArg some (by kernel_rfl))
  f30 := ⟨Try.f102.name, by decide, Try.func102.trans (congrArg some (by kernel_rfl))⟩
  f31 := Try.func103.trans (congrArg some (by kernel_rfl))
  f32 := Try.func104.trans (congrArg some (by kernel_rfl))
  f33 := ⟨Try.f105.name, by decide, Try.func105.trans (congrArg some (by kernel_rfl))⟩
  f34 := ⟨Try.f106.name, by decide, Try.func106.trans (congrArg some (by kernel_rfl))⟩
  f35 := ⟨Try.f107.name, by decide, Try.func107.trans (congrArg some (by kernel_rfl))⟩
  f40 := ⟨Try.f108.name, by decide, Try.func108.trans (congrArg some (by kernel_rfl))⟩
  t0 := Try.underlying0
  a0 := Try.isAgg0
  z0 := Try.sizeOf0
  v0 := Try.zeroValue0
  t3 := Try.underlying3
  a3 := Try.isAgg3
  z3 := Try.sizeOf3
  v3 := Try.zeroValue3
  t4 := Try.underlying4
  a4 := Try.isAgg4
  z4 := Try.sizeOf4
  v4 := Try.zeroValue4
  t5 := Try.underlying5
  a5 := Try.isAgg5
  z5 := Try.sizeOf5
  v5 := Try.zeroValue5
  t9 := Try.underlying9
  a9 := Try.isAgg9
  z9 := Try.sizeOf9
  v9 := Try.zeroValue9
  t22 := Try.underlying29
  a22 := Try.isAgg29
  z22 := Try.sizeOf29
  v22 := Try.zeroValue29
  t23 := Try.underlying29
  a23 := Try.isAgg29
  z23 := Try.sizeOf29
  v23 := Try.zeroValue29
  t25 := Try.underlying3
  a25 := Try.isAgg3
  z25 := Try.sizeOf3
  v25 := Try.zeroValue3
  t32 := Try.underlying97
  a32 := Try.isAgg97
  z32 := Try.sizeOf97
  v32 := Try.zeroValue97
  t35 := Try.underlying103
  a35 := Try.isAgg103
  z35 := Try.sizeOf103
  v35 := Try.zeroValue103
  t36 := Try.underlying104
  a36 := Try.isAgg104
  z36 := Try.sizeOf104
  v36 := Try.zeroValue104
  t41 := Try.underlying31
  a41 := Try.isAgg31
  z41 := Try.sizeOf31
  v41 := Try.zeroValue31
  t44 := Try.underlying111
  a44 := Try.isAgg111
  z44 := Try.sizeOf111
  v44 := Try.zeroValue111
  t46 := Try.underlying49
  a46 := Try.isAgg49
  z46 := Try.sizeOf49
  v46 := Try.zeroValue49
  t53 := Try.underlying114
  a53 := Try.isAgg114
  z53 := Try.sizeOf114
  v53 := Try.zeroValue114
  t57 := Try.underlying118
  a57 := Try.isAgg118
  z57 := Try.sizeOf118
  v57 := Try.zeroValue118
  t63 := Try.underlying120
  a63 := Try.isAgg120
  z63 := Try.sizeOf120
  v63 := Try.zeroValue120
  t64 := Try.underlying121
  a64 := Try.isAgg121
  z64 := Try.sizeOf121
  v64 := Try.zeroValue121 }
def Try.keysA52_ren : Go.Shelf.Ren := ⟨fun | 7 => 52 | 10 => 82 | n => n, fun | 23 => 70 | 26 => 3 | 3 => 4 | 28 => 74 | 0 => 0 | 27 => 73 | 33 => 77 | 4 => 4 | n => n, fun | n => n⟩
theorem Try.keysA52 : Go.Proofs.SlLaysZI.n7 Try.prog Try.keysA52_ren := {
  mixed := by kernel_rfl
  f7 := ⟨Try.f52.name, by decide, Try.func52.trans (congrArg some (by kernel_rfl))⟩
  f10 := ⟨Try.f82.name, by decide, Try.func82.trans (congrArg some (by kernel_rfl))⟩
  t0 := Try.underlying0
  a0 := Try.isAgg0
  z0 := Try.sizeOf0
  v0 := Try.zeroValue0
  t4 := Try.underlying4
  a4 := Try.isAgg4
  z4 := Try.sizeOf4
  v4 := Try.zeroValue4
  t23 := Try.underlying70
  a23 := Try.isAgg70
  z23 := Try.sizeOf70
  v23 := Try.zeroValue70
  t26 := Try.underlying3
  a26 := Try.isAgg3
  z26 := Try.sizeOf3
  v26 := Try.zeroValue3
  t27 := Try.underlying73
  a27 := Try.isAgg73
  z27 := Try.sizeOf73
  v27 := Try.zeroValue73
  t28 := Try.underlying74
  a28 := Try.isAgg74
  z28 := Try.sizeOf74
  v28 := Try.zeroValue74
  t33 := Try.underlying77
  a33 := Try.isAgg77
  z33 := Try.sizeOf77
  v33 := Try.zeroValue77 }
def Try.sortedA51_ren : Go.Shelf.Ren := ⟨fun | 6 => 51 | 8 => 81 | 9 => 47 | 11 => 100 | 13 => 80 | 12 => 79 | 23 => 98 | 24 => 99 | 14 => 89 | 15 => 90 | 16 => 91 | 17 => 92 | 18 => 93 | 19 => 94 | 20 => 95 | 21 => 96 | 22 => 97 | 25 => 102 | 26 => 103 | 27 => 104 | 28 => 105 | 29 => 106 | 30 => 107 | 31 => 108 | n => n, fun | 26 => 3 | 28 => 74 | 24 => 29 | 0 => 0 | 3 => 3 | 37 => 97 | 48 => 111 | 50 => 49 | 4 => 4 | 40 => 104 | 39 => 103 | 45 => 31 | 5 => 5 | 9 => 9 | 51 => 114 | 55 => 118 | 57 => 120 | 58 => 121 | 33 => 77 | n => n, fun | n => n⟩
theorem Try.sortedA51 : Go.Proofs.SlLaysZI.n6 Try.prog Try.sortedA51_ren := {
  mixed := by kernel_rfl
  f6 := ⟨Try.f51.name, by decide, Try.func51.trans (congrArg some (by kernel_rfl))⟩
  f8 := ⟨Try.f81.name, by decide, Try.func81.trans (congrArg some (by kernel_rfl))⟩
  f11 := ⟨Try.f100.name, by decide, Try.func100.trans (congrArg some (by kernel_rfl))⟩
  t0 := Try.underlying0
  a0 := Try.isAgg0
  z0 := Try.sizeOf0
  v0 := Try.zeroValue0
  t24 := Try.underlying29
  a24 := Try.isAgg29
  z24 := Try.sizeOf29
  v24 := Try.zeroValue29
  t26 := Try.underlying3
  a26 := Try.isAgg3
  z26 := Try.sizeOf3
  v26 := Try.zeroValue3
  t28 := Try.underlying74
  a28 := Try.isAgg74
  z28 := Try.sizeOf74
  v28 := Try.zeroValue74
  i26 := by kernel_rfl }
end Go.Proofs
namespace Go.Ab
open Go.Proofs Go.RowKit Go.Maps Go.Sort
set_option linter.unusedVariables false
theorem sortC_47 : (∀ (blk off cap : Nat) (zs : List Int) (w : World), Holds (Value.int .i64) w blk off zs.toArray → blk < w.heap.size → zs.length < 4611686018427387904 →
      Calls Try.prog 47 #[.slice (some ⟨blk, off, none⟩) zs.length cap] w fun e w' => e = .returned (.tuple #[]) ∧ ∃ n os, w' = grow (putRow (Value.int .i64) (Sort.ahead w n) blk off (zs.mergeSort fun x y => decide (x ≤ y)).toArray) os) ∧
      ∀ (p : Option Addr) (cap : Nat) (w : World), Calls Try.prog 47 #[.slice p 0 cap] w fun e w' => e = .returned (.tuple #[]) ∧ w' = w :=
  ⟨fun blk off cap zs w h1 h2 h3 => AnyM.slices_Sort_int Try.sortA47 blk off cap zs w h1 h2 h3, fun p cap w => AnyM.slices_Sort_int_none Try.sortA47 p cap w⟩
theorem sort_47 {H : List Ob} {K : AV → List Ob → Prop} {o el n : Nat} {zs : List Int} (ho : H[o]? = some (.row el 1 (zs.map intAV))) (hn : n = zs.length) (hl : zs.length < 1073741824)
    (hK : K (.tup []) (H.set o (.row el 1 ((zs.mergeSort leI).map intAV)))) : CallP Try.prog 47 H [.row o n] K := callP_sort (callable_of Try.func47 rfl (by kernel_rfl)) sortC_47 ho hn hl hK
theorem keysC_52 : ∀ (mb : Option Nat) (W : World), CallsIn Fence.wide 5 Try.prog 52 #[.map mb] W fun e w' => e = .returned (.func (.func 82) #[] #[.pointer (some ⟨W.heap.size, 0, none⟩)]) ∧ w' = W.alloc (.cells #[.map mb] 70) := fun mb W => AnyZI.keys_in Try.keysA52 Fence.wide 5 trivial rfl mb W
theorem keys_52 {H : List Ob} {K : AV → List Ob → Prop} {o : Nat} (hk : K (.fn (.func 82) [] [.ptr H.length 0]) (H ++ [.var 70 [.mp o]])) : CallP Try.prog 52 H [.mp o] K := callP_keys (callable_of Try.func52 rfl (by kernel_rfl)) keysC_52 hk
theorem seqC_82 : ∀ (Bm b nn : Nat) (D0 : DataW Unit) (w : World) (_ : Bm < w.heap.size) (_ : w.cell? ⟨Bm, 0, none⟩ = some (.map (some b))) (_ : w.ownsMap Try.prog 3 (plainElem Try.prog 4) b nn D0), SeqGives Fence.wide 2 Try.prog 82 #[.pointer (some ⟨Bm, 0, none⟩)] encZ (fun ss => ss.Perm (intKeys D0)) (Maps.size D0) w :=
  fun Bm b nn D0 w h1 h2 h3 => AnyZI.keys_gives (ρ := Try.keysA52_ren) { Try.keysA52 with } Fence.wide _ trivial rfl (by omega) Bm b nn D0 w h1 h2 h3
theorem sortsA_51 (m : Nat) : AnyZI.SortsIn Try.prog Try.sortedA51_ren Fence.wide m :=
  ⟨fun blk off cap ss W hH hblk hsz => callsIn_wide.2 (sortC_47.1 blk off cap ss W hH hblk hsz), fun p cap W => callsIn_wide.2 (sortC_47.2 p cap W)⟩
theorem sortedC_51 : ∀ (lb : Array Value) (S : List Int → Prop) (N : Nat) (_ : N ≤ maxLen) (_ : N * 8 ≤ 140737488355328) (w : World) (_ : SeqGives Fence.wide 2 Try.prog 82 lb encZ S N w), CallsIn Fence.wide 5 Try.prog 51 #[.func (.func 82) #[] lb] w fun e w' => ∃ (v : Value) (ss : List Int), e = .returned v ∧ S ss ∧
      w'.ownsRow w.heap.size 3 1 v ss.length ((ss.mergeSort (fun x y => decide (x ≤ y))).map encZ) ∧ (v = .slice none 0 0 ↔ ss = []) ∧ Below w.heap.size w w' :=
  fun lb S N hN hNb w hseq => AnyZI.sorted_in Try.sortedA51 Fence.wide 5 trivial trivial trivial trivial rfl (by omega) (sortsA_51 _) (enters_of Try.func47 (by kernel_rfl) rfl) 82 lb trivial (enters_of Try.func82 (by kernel_rfl) rfl) S N hN hNb w hseq
theorem sorted_51 {H : List Ob} {K : AV → List Ob → Prop} {ov oe T : Nat} {ks : List Int} (h1 : H[ov]? = some (.var T [.mp oe])) (h2 : H[oe]? = some (.ext (mapI Try.prog 3 4 ks))) (hl : ks.length < 1073741824)
    (hK : K (.row H.length (ks.mergeSort leI).length) (H ++ [.row 3 1 ((ks.mergeSort leI).map intAV)])) : CallP Try.prog 51 H [.fn (.func 82) [] [.ptr ov 0]] K :=
  callP_sorted (callable_of Try.func51 rfl (by kernel_rfl)) sortedC_51 seqC_82 Try.underlying3 h1 h2 hl hK
end Go.Ab
