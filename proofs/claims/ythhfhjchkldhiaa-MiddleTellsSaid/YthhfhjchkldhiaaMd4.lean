/- slices.Sort at []int64: the contract of the kit's shelf at this program. Own work; no condition. -/
import Derived.Test.YthhfhjchkldhiaaProg
import Derived.Shelf.SortM.Plain
import Derived.Shelf.SortM.SortNone
namespace Go.Proofs.Ythhfhjchkldhiaa
open Go Go.RowKit Go.Shelf Go.Sort
set_option maxRecDepth 100000
def laySort_ren : Ren where
  f := fun x => match x with
    | 5 => 17
    | 7 => 19
    | 8 => 20
    | 10 => 22
    | 11 => 23
    | 12 => 24
    | 13 => 25
    | 14 => 26
    | 15 => 27
    | 16 => 28
    | 17 => 29
    | 18 => 30
    | 19 => 31
    | 20 => 32
    | 30 => 33
    | 31 => 34
    | 32 => 35
    | 33 => 36
    | 34 => 37
    | 35 => 21
    | 40 => 38
    | n => n
  t := fun x => match x with
    | 0 => 0
    | 3 => 3
    | 4 => 4
    | 5 => 5
    | 9 => 9
    | 22 => 23
    | 23 => 23
    | 25 => 2
    | 32 => 54
    | 35 => 57
    | 36 => 58
    | 41 => 63
    | 44 => 66
    | 46 => 68
    | 53 => 69
    | 57 => 73
    | 63 => 75
    | 64 => 76
    | n => n
  g := fun x => x
theorem laySort : SlLaysM.n5 Try.prog laySort_ren where
  mixed := by kernel_rfl
  f5 := ⟨"slices.Sort[[]int64,int64]", by kernel_rfl, by kernel_rfl⟩
  f7 := ⟨"slices.pdqsortOrdered[int64]", by kernel_rfl, by kernel_rfl⟩
  f8 := by kernel_rfl
  f10 := ⟨"slices.insertionSortOrdered[int64]", by kernel_rfl, by kernel_rfl⟩
  f11 := ⟨"slices.heapSortOrdered[int64]", by kernel_rfl, by kernel_rfl⟩
  f12 := ⟨"slices.breakPatternsOrdered[int64]", by kernel_rfl, by kernel_rfl⟩
  f13 := ⟨"slices.choosePivotOrdered[int64]", by kernel_rfl, by kernel_rfl⟩
  f14 := ⟨"slices.reverseRangeOrdered[int64]", by kernel_rfl, by kernel_rfl⟩
  f15 := ⟨"slices.partialInsertionSortOrdered[int64]", by kernel_rfl, by kernel_rfl⟩
  f16 := ⟨"cmp.Less[int64]", by kernel_rfl, by kernel_rfl⟩
  f17 := ⟨"slices.partitionEqualOrdered[int64]", by kernel_rfl, by kernel_rfl⟩
  f18 := ⟨"slices.partitionOrdered[int64]", by kernel_rfl, by kernel_rfl⟩
  f19 := by kernel_rfl
  f20 := by kernel_rfl
  f30 := ⟨"slices.siftDownOrdered[int64]", by kernel_rfl, by kernel_rfl⟩
  f31 := by kernel_rfl
  f32 := by kernel_rfl
  f33 := ⟨"slices.medianAdjacentOrdered[int64]", by kernel_rfl, by kernel_rfl⟩
  f34 := ⟨"slices.medianOrdered[int64]", by kernel_rfl, by kernel_rfl⟩
  f35 := ⟨"cmp.isNaN[int64]", by kernel_rfl, by kernel_rfl⟩
  f40 := ⟨"slices.order2Ordered[int64]", by kernel_rfl, by kernel_rfl⟩
  t0 := Try.underlying0
  a0 := Try.isAgg0
  z0 := Try.sizeOf0
  v0 := Try.zeroValue0
  t3 := Try.underlying3
  a3 := Try.isAgg3
  z3 := Try.sizeOf3
  v3 := Try.zeroValue3
  t4 := Try.underlying4
  a4 := Try.isAgg4
  z4 := Try.sizeOf4
  v4 := Try.zeroValue4
  t5 := Try.underlying5
  a5 := Try.isAgg5
  z5 := Try.sizeOf5
  v5 := Try.zeroValue5
  t9 := Try.underlying9
  a9 := Try.isAgg9
  z9 := Try.sizeOf9
  v9 := Try.zeroValue9
  t22 := Try.underlying23
  a22 := Try.isAgg23
  z22 := Try.sizeOf23
  v22 := Try.zeroValue23
  t23 := Try.underlying23
  a23 := Try.isAgg23
  z23 := Try.sizeOf23
  v23 := Try.zeroValue23
  t25 := Try.underlying2
  a25 := Try.isAgg2
  z25 := Try.sizeOf2
  v25 := Try.zeroValue2
  t32 := Try.underlying54
  a32 := Try.isAgg54
  z32 := Try.sizeOf54
  v32 := Try.zeroValue54
  t35 := Try.underlying57
  a35 := Try.isAgg57
  z35 := Try.sizeOf57
  v35 := Try.zeroValue57
  t36 := Try.underlying58
  a36 := Try.isAgg58
  z36 := Try.sizeOf58
  v36 := Try.zeroValue58
  t41 := Try.underlying63
  a41 := Try.isAgg63
  z41 := Try.sizeOf63
  v41 := Try.zeroValue63
  t44 := Try.underlying66
  a44 := Try.isAgg66
  z44 := Try.sizeOf66
  v44 := Try.zeroValue66
  t46 := Try.underlying68
  a46 := Try.isAgg68
  z46 := Try.sizeOf68
  v46 := Try.zeroValue68
  t53 := Try.underlying69
  a53 := Try.isAgg69
  z53 := Try.sizeOf69
  v53 := Try.zeroValue69
  t57 := Try.underlying73
  a57 := Try.isAgg73
  z57 := Try.sizeOf73
  v57 := Try.zeroValue73
  t63 := Try.underlying75
  a63 := Try.isAgg75
  z63 := Try.sizeOf75
  v63 := Try.zeroValue75
  t64 := Try.underlying76
  a64 := Try.isAgg76
  z64 := Try.sizeOf76
  v64 := Try.zeroValue76
theorem sort_w (blk off cap : Nat) (zs : List Int) (w : World) (hH : Holds (Value.int .i64) w blk off zs.toArray) (hblk : blk < w.heap.size) (hsz : zs.length < 4611686018427387904) :
    Calls Try.prog 17 #[.slice (some ⟨blk, off, none⟩) zs.length cap] w fun e w' =>
      e = .returned (.tuple #[]) ∧ ∃ n os, w' = grow (putRow (Value.int .i64) (Sort.ahead w n) blk off (zs.mergeSort fun x y => decide (x ≤ y)).toArray) os :=
  AnyM.slices_Sort_int laySort blk off cap zs w hH hblk hsz
end Go.Proofs.Ythhfhjchkldhiaa
