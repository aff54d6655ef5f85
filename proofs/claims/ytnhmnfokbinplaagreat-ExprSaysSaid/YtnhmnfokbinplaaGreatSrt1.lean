/- slices.Sort and slices.Compact at []int: the contracts of the kit's shelf at this program. Own work; no condition. -/
import Derived.Test.YtnhmnfokbinplaaGreatProg
import Derived.Shelf.Sort.AssemblyIn
import Derived.Shelf.Slices.CompactI
import Derived.Shelf.Slices.In.SortNone
import Derived.Sort.EveryDepth
namespace Go.Proofs.YtnhmnfokbinplaaGreat
open Go Go.RowKit Go.Shelf Go.Sort
set_option maxRecDepth 100000
def laySort_ren : Ren where
  f := fun x => match x with
    | 189 => 38
    | 125 => 90
    | 257 => 89
    | 128 => 118
    | 129 => 119
    | 294 => 109
    | 295 => 110
    | 296 => 111
    | 297 => 112
    | 298 => 113
    | 299 => 114
    | 216 => 115
    | 300 => 116
    | 301 => 117
    | 328 => 129
    | 329 => 130
    | 330 => 131
    | 331 => 132
    | 332 => 133
    | 215 => 134
    | 343 => 137
    | n => n
  t := fun x => match x with
    | 28 => 28
    | 3 => 3
    | 46 => 85
    | 0 => 0
    | 51 => 113
    | 53 => 115
    | 4 => 4
    | 183 => 106
    | 182 => 105
    | 131 => 57
    | 5 => 5
    | 9 => 9
    | 218 => 125
    | 222 => 129
    | 228 => 133
    | 229 => 29
    | n => n
  g := fun x => x
theorem laySort : Lays.n189 Tryz.prog laySort_ren where
  mixed := by kernel_rfl
  f125 := by kernel_rfl
  f128 := by kernel_rfl
  f129 := by kernel_rfl
  f189 := by kernel_rfl
  f215 := by kernel_rfl
  f216 := by kernel_rfl
  f257 := by kernel_rfl
  f294 := by kernel_rfl
  f295 := by kernel_rfl
  f296 := by kernel_rfl
  f297 := by kernel_rfl
  f298 := by kernel_rfl
  f299 := by kernel_rfl
  f300 := by kernel_rfl
  f301 := by kernel_rfl
  f328 := by kernel_rfl
  f329 := by kernel_rfl
  f330 := by kernel_rfl
  f331 := by kernel_rfl
  f332 := by kernel_rfl
  f343 := by kernel_rfl
  t0 := Tryz.underlying0
  a0 := Tryz.isAgg0
  z0 := Tryz.sizeOf0
  v0 := Tryz.zeroValue0
  t3 := Tryz.underlying3
  a3 := Tryz.isAgg3
  z3 := Tryz.sizeOf3
  v3 := Tryz.zeroValue3
  t4 := Tryz.underlying4
  a4 := Tryz.isAgg4
  z4 := Tryz.sizeOf4
  v4 := Tryz.zeroValue4
  t5 := Tryz.underlying5
  a5 := Tryz.isAgg5
  z5 := Tryz.sizeOf5
  v5 := Tryz.zeroValue5
  t9 := Tryz.underlying9
  a9 := Tryz.isAgg9
  z9 := Tryz.sizeOf9
  v9 := Tryz.zeroValue9
  t28 := Tryz.underlying28
  a28 := Tryz.isAgg28
  z28 := Tryz.sizeOf28
  v28 := Tryz.zeroValue28
  t46 := Tryz.underlying85
  a46 := Tryz.isAgg85
  z46 := Tryz.sizeOf85
  v46 := Tryz.zeroValue85
  t51 := Tryz.underlying113
  a51 := Tryz.isAgg113
  z51 := Tryz.sizeOf113
  v51 := Tryz.zeroValue113
  t53 := Tryz.underlying115
  a53 := Tryz.isAgg115
  z53 := Tryz.sizeOf115
  v53 := Tryz.zeroValue115
  t131 := Tryz.underlying57
  a131 := Tryz.isAgg57
  z131 := Tryz.sizeOf57
  v131 := Tryz.zeroValue57
  t182 := Tryz.underlying105
  a182 := Tryz.isAgg105
  z182 := Tryz.sizeOf105
  v182 := Tryz.zeroValue105
  t183 := Tryz.underlying106
  a183 := Tryz.isAgg106
  z183 := Tryz.sizeOf106
  v183 := Tryz.zeroValue106
  t218 := Tryz.underlying125
  a218 := Tryz.isAgg125
  z218 := Tryz.sizeOf125
  v218 := Tryz.zeroValue125
  t222 := Tryz.underlying129
  a222 := Tryz.isAgg129
  z222 := Tryz.sizeOf129
  v222 := Tryz.zeroValue129
  t228 := Tryz.underlying133
  a228 := Tryz.isAgg133
  z228 := Tryz.sizeOf133
  v228 := Tryz.zeroValue133
  t229 := Tryz.underlying29
  a229 := Tryz.isAgg29
  z229 := Tryz.sizeOf29
  v229 := Tryz.zeroValue29
def layCompact_ren : Ren where
  f := fun x => match x with
    | 20 => 39
    | n => n
  t := fun x => match x with
    | 0 => 0
    | 3 => 3
    | 4 => 4
    | 22 => 28
    | n => n
  g := fun x => x
theorem layCompact : Lays2.n20 Tryz.prog layCompact_ren where
  mixed := by kernel_rfl
  f20 := by kernel_rfl
  t0 := Tryz.underlying0
  a0 := Tryz.isAgg0
  z0 := Tryz.sizeOf0
  v0 := Tryz.zeroValue0
  t3 := Tryz.underlying3
  a3 := Tryz.isAgg3
  z3 := Tryz.sizeOf3
  v3 := Tryz.zeroValue3
  t4 := Tryz.underlying4
  a4 := Tryz.isAgg4
  z4 := Tryz.sizeOf4
  v4 := Tryz.zeroValue4
  t22 := Tryz.underlying28
  a22 := Tryz.isAgg28
  z22 := Tryz.sizeOf28
  v22 := Tryz.zeroValue28
  i3 := by kernel_rfl
theorem sort_w (blk off cap : Nat) (zs : List Int) (w : World) (hH : Holds (Value.int .i64) w blk off zs.toArray) (hblk : blk < w.heap.size) (hsz : zs.length < 4611686018427387904) :
    Calls Tryz.prog 38 #[.slice (some ⟨blk, off, none⟩) zs.length cap] w fun e w' =>
      e = .returned (.tuple #[]) ∧ ∃ n os, w' = grow (putRow (Value.int .i64) (Sort.ahead w n) blk off (zs.mergeSort fun x y => decide (x ≤ y)).toArray) os :=
  calls_of_every_depth fun D => AnyS.slices_Sort_int_in laySort D blk off cap zs w hH hblk hsz
theorem sort_none (p : Option Addr) (cap : Nat) (w : World) : Calls Tryz.prog 38 #[.slice p 0 cap] w fun e w' => e = .returned (.tuple #[]) ∧ w' = w := Any.slices_Sort_int_none laySort p cap w
theorem compact_w (blk off cap : Nat) (zs : List Int) (w : World) (hH : Holds (Value.int .i64) w blk off zs.toArray) (hsz : zs.length ≤ 9223372036854775807) (hcap : zs.length ≤ cap) :
    Calls Tryz.prog 39 #[.slice (some ⟨blk, off, none⟩) zs.length cap] w fun e w' => e = .returned (.slice (some ⟨blk, off, none⟩) (Lib.compact zs).length cap) ∧ ∃ q, w' = putRow (Value.int .i64) (Sort.ahead w q) blk off (Lib.compact zs ++ List.replicate (zs.length - (Lib.compact zs).length) 0).toArray :=
  Any.slices_Compact_int layCompact blk off cap zs w hH hsz hcap
theorem compact_none (a : Option Addr) (cap : Nat) (w : World) : Calls Tryz.prog 39 #[.slice a 0 cap] w fun e w' => e = .returned (.slice a 0 cap) ∧ w' = w :=
  Any.slices_Compact_int_empty layCompact a cap w
end Go.Proofs.YtnhmnfokbinplaaGreat
