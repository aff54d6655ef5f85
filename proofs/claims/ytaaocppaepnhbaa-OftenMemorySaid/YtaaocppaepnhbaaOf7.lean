/- slices.Sort at []int64: the contract of the kit's shelf at this program. Own work; no condition. -/
import Derived.Test.YtaaocppaepnhbaaProg
import Derived.Shelf.SortM.Plain
import Derived.Shelf.SortM.SortNone
namespace Go.Proofs.Ytaaocppaepnhbaa
open Go Go.RowKit Go.Shelf Go.Sort
set_option maxRecDepth 100000
def laySort_ren : Ren where
  f := fun x => match x with
    | 5 => 28
    | 7 => 42
    | 8 => 23
    | 10 => 49
    | 11 => 50
    | 12 => 51
    | 13 => 52
    | 14 => 53
    | 15 => 54
    | 16 => 55
    | 17 => 56
    | 18 => 57
    | 19 => 37
    | 20 => 38
    | 30 => 59
    | 31 => 44
    | 32 => 45
    | 33 => 60
    | 34 => 61
    | 35 => 40
    | 40 => 62
    | n => n
  t := fun x => match x with
    | 0 => 0
    | 3 => 3
    | 4 => 4
    | 5 => 5
    | 9 => 9
    | 22 => 65
    | 23 => 65
    | 25 => 2
    | 32 => 61
    | 35 => 68
    | 36 => 69
    | 41 => 73
    | 44 => 76
    | 46 => 78
    | 53 => 83
    | 57 => 87
    | 63 => 95
    | 64 => 96
    | n => n
  g := fun x => x
theorem laySort : SlLaysM.n5 Try.prog laySort_ren where
  mixed := by kernel_rfl
  f5 := ⟨"slices.Sort[[]int64,int64]", by kernel_rfl, by kernel_rfl⟩
  f7 := ⟨"slices.pdqsortOrdered[int64]", by kernel_rfl, by kernel_rfl⟩
  f8 := by kernel_rfl
  f10 := ⟨"slices.insertionSortOrdered[int64]", by kernel_rfl, by kernel_rfl⟩
  f11 := ⟨"slices.heapSortOrdered[int64]", by kernel_rfl, by kernel_rfl⟩
  f12 := ⟨"slices.breakPatternsOrdered[int64]", by kernel_rfl, by kernel_rfl⟩
  f13 := ⟨"slices.choosePivotOrdered[int64]", by kernel_rfl, by kernel_rfl⟩
  f14 := ⟨"slices.reverseRangeOrdered[int64]", by kernel_rfl, by kernel_rfl⟩
  f15 := ⟨"slices.partialInsertionSortOrdered[int64]", by kernel_rfl, by kernel_rfl⟩
  f16 := ⟨"cmp.Less[int64]", by kernel_rfl, by kernel_rfl⟩
  f17 := ⟨"slices.partitionEqualOrdered[int64]", by kernel_rfl, by kernel_rfl⟩
  f18 := ⟨"slices.partitionOrdered[int64]", by kernel_rfl, by kernel_rfl⟩
  f19 := by kernel_rfl
  f20 := by kernel_rfl
  f30 := ⟨"slices.siftDownOrdered[int64]", by kernel_rfl, by kernel_rfl⟩
  f31 := by kernel_rfl
  f32 := by kernel_rfl
  f33 := ⟨"slices.medianAdjacentOrdered[int64]", by kernel_rfl, by kernel_rfl⟩
  f34 := ⟨"slices.medianOrdered[int64]", by kernel_rfl, by kernel_rfl⟩
  f35 := ⟨"cmp.isNaN[int64]", by kernel_rfl, by kernel_rfl⟩
  f40 := ⟨"slices.order2Ordered[int64]", by kernel_rfl, by kernel_rfl⟩
  t0 := Try.underlying0
  a0 := Try.isAgg0
  z0 := Try.sizeOf0
  v0 := Try.zeroValue0
  t3 := Try.underlying3
  a3 := Try.isAgg3
  z3 := Try.sizeOf3
  v3 := Try.zeroValue3
  t4 := Try.underlying4
  a4 := Try.isAgg4
  z4 := Try.sizeOf4
  v4 := Try.zeroValue4
  t5 := Try.underlying5
  a5 := Try.isAgg5
  z5 := Try.sizeOf5
  v5 := Try.zeroValue5
  t9 := Try.underlying9
  a9 := Try.isAgg9
  z9 := Try.sizeOf9
  v9 := Try.zeroValue9
  t22 := Try.underlying65
  a22 := Try.isAgg65
  z22 := Try.sizeOf65
  v22 := Try.zeroValue65
  t23 := Try.underlying65
  a23 := Try.isAgg65
  z23 := Try.sizeOf65
  v23 := Try.zeroValue65
  t25 := Try.underlying2
  a25 := Try.isAgg2
  z25 := Try.sizeOf2
  v25 := Try.zeroValue2
  t32 := Try.underlying61
  a32 := Try.isAgg61
  z32 := Try.sizeOf61
  v32 := Try.zeroValue61
  t35 := Try.underlying68
  a35 := Try.isAgg68
  z35 := Try.sizeOf68
  v35 := Try.zeroValue68
  t36 := Try.underlying69
  a36 := Try.isAgg69
  z36 := Try.sizeOf69
  v36 := Try.zeroValue69
  t41 := Try.underlying73
  a41 := Try.isAgg73
  z41 := Try.sizeOf73
  v41 := Try.zeroValue73
  t44 := Try.underlying76
  a44 := Try.isAgg76
  z44 := Try.sizeOf76
  v44 := Try.zeroValue76
  t46 := Try.underlying78
  a46 := Try.isAgg78
  z46 := Try.sizeOf78
  v46 := Try.zeroValue78
  t53 := Try.underlying83
  a53 := Try.isAgg83
  z53 := Try.sizeOf83
  v53 := Try.zeroValue83
  t57 := Try.underlying87
  a57 := Try.isAgg87
  z57 := Try.sizeOf87
  v57 := Try.zeroValue87
  t63 := Try.underlying95
  a63 := Try.isAgg95
  z63 := Try.sizeOf95
  v63 := Try.zeroValue95
  t64 := Try.underlying96
  a64 := Try.isAgg96
  z64 := Try.sizeOf96
  v64 := Try.zeroValue96
theorem sort_w (blk off cap : Nat) (zs : List Int) (w : World) (hH : Holds (Value.int .i64) w blk off zs.toArray) (hblk : blk < w.heap.size) (hsz : zs.length < 4611686018427387904) :
    Calls Try.prog 28 #[.slice (some ⟨blk, off, none⟩) zs.length cap] w fun e w' =>
      e = .returned (.tuple #[]) ∧ ∃ n os, w' = grow (putRow (Value.int .i64) (Sort.ahead w n) blk off (zs.mergeSort fun x y => decide (x ≤ y)).toArray) os :=
  AnyM.slices_Sort_int laySort blk off cap zs w hH hblk hsz
end Go.Proofs.Ytaaocppaepnhbaa
