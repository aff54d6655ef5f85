/- slices. Own work; no condition. -/
import Derived.Test.YtlabphnonlicdaaGreatProg
import Derived.Shelf.Sort.AssemblyIn
import Derived.Shelf.Slices.CompactI
import Derived.Shelf.Slices.In.SortNone
import Derived.Sort.EveryDepth
namespace Go.Proofs.YtlabphnonlicdaaGreat
open Go Go.RowKit Go.Shelf Go.Sort
set_option maxRecDepth 100000
def laySort_ren : Ren where
 f := fun x => match x with
   | 189 => 82
   | 125 => 90
   | 257 => 89
   | 128 => 100
   | 129 => 101
   | 294 => 91
   | 295 => 92
   | 296 => 93
   | 297 => 94
   | 298 => 95
   | 299 => 96
   | 216 => 97
   | 300 => 98
   | 301 => 99
   | 328 => 102
   | 329 => 103
   | 330 => 104
   | 331 => 105
   | 332 => 106
   | 215 => 107
   | 343 => 108
   | n => n
 t := fun x => match x with
   | 28 => 23
   | 3 => 3
   | 46 => 122
   | 0 => 0
   | 51 => 131
   | 53 => 133
   | 4 => 4
   | 183 => 125
   | 182 => 124
   | 131 => 58
   | 5 => 5
   | 9 => 9
   | 218 => 134
   | 222 => 138
   | 228 => 140
   | 229 => 79
   | n => n
 g := fun x => x
theorem laySort : Lays.n189 Tryz.prog laySort_ren where
 mixed := by kernel_rfl
 f125 := by kernel_rfl
 f128 := by kernel_rfl
 f129 := by kernel_rfl
 f189 := by kernel_rfl
 f215 := by kernel_rfl
 f216 := by kernel_rfl
 f257 := by kernel_rfl
 f294 := by kernel_rfl
 f295 := by kernel_rfl
 f296 := by kernel_rfl
 f297 := by kernel_rfl
 f298 := by kernel_rfl
 f299 := by kernel_rfl
 f300 := by kernel_rfl
 f301 := by kernel_rfl
 f328 := by kernel_rfl
 f329 := by kernel_rfl
 f330 := by kernel_rfl
 f331 := by kernel_rfl
 f332 := by kernel_rfl
 f343 := by kernel_rfl
 t0 := Tryz.underlying0
 a0 := Tryz.isAgg0
 z0 := Tryz.sizeOf0
 v0 := Tryz.zeroValue0
 t3 := Tryz.underlying3
 a3 := Tryz.isAgg3
 z3 := Tryz.sizeOf3
 v3 := Tryz.zeroValue3
 t4 := Tryz.underlying4
 a4 := Tryz.isAgg4
 z4 := Tryz.sizeOf4
 v4 := Tryz.zeroValue4
 t5 := Tryz.underlying5
 a5 := Tryz.isAgg5
 z5 := Tryz.sizeOf5
 v5 := Tryz.zeroValue5
 t9 := Tryz.underlying9
 a9 := Tryz.isAgg9
 z9 := Tryz.sizeOf9
 v9 := Tryz.zeroValue9
 t28 := Tryz.underlying23
 a28 := Tryz.isAgg23
 z28 := Tryz.sizeOf23
 v28 := Tryz.zeroValue23
 t46 := Tryz.underlying122
 a46 := Tryz.isAgg122
 z46 := Tryz.sizeOf122
 v46 := Tryz.zeroValue122
 t51 := Tryz.underlying131
 a51 := Tryz.isAgg131
 z51 := Tryz.sizeOf131
 v51 := Tryz.zeroValue131
 t53 := Tryz.underlying133
 a53 := Tryz.isAgg133
 z53 := Tryz.sizeOf133
 v53 := Tryz.zeroValue133
 t131 := Tryz.underlying58
 a131 := Tryz.isAgg58
 z131 := Tryz.sizeOf58
 v131 := Tryz.zeroValue58
 t182 := Tryz.underlying124
 a182 := Tryz.isAgg124
 z182 := Tryz.sizeOf124
 v182 := Tryz.zeroValue124
 t183 := Tryz.underlying125
 a183 := Tryz.isAgg125
 z183 := Tryz.sizeOf125
 v183 := Tryz.zeroValue125
 t218 := Tryz.underlying134
 a218 := Tryz.isAgg134
 z218 := Tryz.sizeOf134
 v218 := Tryz.zeroValue134
 t222 := Tryz.underlying138
 a222 := Tryz.isAgg138
 z222 := Tryz.sizeOf138
 v222 := Tryz.zeroValue138
 t228 := Tryz.underlying140
 a228 := Tryz.isAgg140
 z228 := Tryz.sizeOf140
 v228 := Tryz.zeroValue140
 t229 := Tryz.underlying79
 a229 := Tryz.isAgg79
 z229 := Tryz.sizeOf79
 v229 := Tryz.zeroValue79
def layCompact_ren : Ren where
 f := fun x => match x with
   | 20 => 83
   | n => n
 t := fun x => match x with
   | 0 => 0
   | 3 => 3
   | 4 => 4
   | 22 => 23
   | n => n
 g := fun x => x
theorem layCompact : Lays2.n20 Tryz.prog layCompact_ren where
 mixed := by kernel_rfl
 f20 := by kernel_rfl
 t0 := Tryz.underlying0
 a0 := Tryz.isAgg0
 z0 := Tryz.sizeOf0
 v0 := Tryz.zeroValue0
 t3 := Tryz.underlying3
 a3 := Tryz.isAgg3
 z3 := Tryz.sizeOf3
 v3 := Tryz.zeroValue3
 t4 := Tryz.underlying4
 a4 := Tryz.isAgg4
 z4 := Tryz.sizeOf4
 v4 := Tryz.zeroValue4
 t22 := Tryz.underlying23
 a22 := Tryz.isAgg23
 z22 := Tryz.sizeOf23
 v22 := Tryz.zeroValue23
 i3 := by kernel_rfl
theorem sort_w (blk off cap : Nat) (zs : List Int) (w : World) (hH : Holds (Value.int .i64) w blk off zs.toArray) (hblk : blk < w.heap.size) (hsz : zs.length < 4611686018427387904) :
   Calls Tryz.prog 82 #[.slice (some ⟨blk, off, none⟩) zs.length cap] w fun e w' =>
     e = .returned (.tuple #[]) ∧ ∃ n os, w' = grow (putRow (Value.int .i64) (Sort.ahead w n) blk off (zs.mergeSort fun x y => decide (x ≤ y)).toArray) os :=
 calls_of_every_depth fun D => AnyS.slices_Sort_int_in laySort D blk off cap zs w hH hblk hsz
theorem sort_none (p : Option Addr) (cap : Nat) (w : World) : Calls Tryz.prog 82 #[.slice p 0 cap] w fun e w' => e = .returned (.tuple #[]) ∧ w' = w := Any.slices_Sort_int_none laySort p cap w
theorem compact_w (blk off cap : Nat) (zs : List Int) (w : World) (hH : Holds (Value.int .i64) w blk off zs.toArray) (hsz : zs.length ≤ 9223372036854775807) (hcap : zs.length ≤ cap) :
   Calls Tryz.prog 83 #[.slice (some ⟨blk, off, none⟩) zs.length cap] w fun e w' => e = .returned (.slice (some ⟨blk, off, none⟩) (Lib.compact zs).length cap) ∧ ∃ q, w' = putRow (Value.int .i64) (Sort.ahead w q) blk off (Lib.compact zs ++ List.replicate (zs.length - (Lib.compact zs).length) 0).toArray :=
 Any.slices_Compact_int layCompact blk off cap zs w hH hsz hcap
theorem compact_none (a : Option Addr) (cap : Nat) (w : World) : Calls Tryz.prog 83 #[.slice a 0 cap] w fun e w' => e = .returned (.slice a 0 cap) ∧ w' = w :=
 Any.slices_Compact_int_empty layCompact a cap w
end Go.Proofs.YtlabphnonlicdaaGreat
