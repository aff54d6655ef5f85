/- slices.Sort and slices.Compact at []int: the contracts of the kit's shelf at this program. Own work; no condition. -/
import Derived.Test.YtnhmnfokbinplaaProg
import Derived.Shelf.Sort.AssemblyIn
import Derived.Shelf.Slices.CompactI
import Derived.Shelf.Slices.In.SortNone
import Derived.Sort.EveryDepth
namespace Go.Proofs.Ytnhmnfokbinplaa
open Go Go.RowKit Go.Shelf Go.Sort
set_option maxRecDepth 100000
def laySort_ren : Ren where
  f := fun x => match x with
    | 189 => 144
    | 125 => 185
    | 257 => 184
    | 128 => 201
    | 129 => 202
    | 294 => 192
    | 295 => 193
    | 296 => 194
    | 297 => 195
    | 298 => 196
    | 299 => 197
    | 216 => 198
    | 300 => 199
    | 301 => 200
    | 328 => 206
    | 329 => 207
    | 330 => 208
    | 331 => 209
    | 332 => 210
    | 215 => 153
    | 343 => 211
    | n => n
  t := fun x => match x with
    | 28 => 22
    | 3 => 3
    | 46 => 168
    | 0 => 0
    | 51 => 181
    | 53 => 120
    | 4 => 4
    | 183 => 206
    | 182 => 205
    | 131 => 186
    | 5 => 5
    | 9 => 9
    | 218 => 216
    | 222 => 220
    | 228 => 222
    | 229 => 92
    | n => n
  g := fun x => x
theorem laySort : Lays.n189 Try.prog laySort_ren where
  mixed := by kernel_rfl
  f125 := by kernel_rfl
  f128 := by kernel_rfl
  f129 := by kernel_rfl
  f189 := by kernel_rfl
  f215 := by kernel_rfl
  f216 := by kernel_rfl
  f257 := by kernel_rfl
  f294 := by kernel_rfl
  f295 := by kernel_rfl
  f296 := by kernel_rfl
  f297 := by kernel_rfl
  f298 := by kernel_rfl
  f299 := by kernel_rfl
  f300 := by kernel_rfl
  f301 := by kernel_rfl
  f328 := by kernel_rfl
  f329 := by kernel_rfl
  f330 := by kernel_rfl
  f331 := by kernel_rfl
  f332 := by kernel_rfl
  f343 := by kernel_rfl
  t0 := Try.underlying0
  a0 := Try.isAgg0
  z0 := Try.sizeOf0
  v0 := Try.zeroValue0
  t3 := Try.underlying3
  a3 := Try.isAgg3
  z3 := Try.sizeOf3
  v3 := Try.zeroValue3
  t4 := Try.underlying4
  a4 := Try.isAgg4
  z4 := Try.sizeOf4
  v4 := Try.zeroValue4
  t5 := Try.underlying5
  a5 := Try.isAgg5
  z5 := Try.sizeOf5
  v5 := Try.zeroValue5
  t9 := Try.underlying9
  a9 := Try.isAgg9
  z9 := Try.sizeOf9
  v9 := Try.zeroValue9
  t28 := Try.underlying22
  a28 := Try.isAgg22
  z28 := Try.sizeOf22
  v28 := Try.zeroValue22
  t46 := Try.underlying168
  a46 := Try.isAgg168
  z46 := Try.sizeOf168
  v46 := Try.zeroValue168
  t51 := Try.underlying181
  a51 := Try.isAgg181
  z51 := Try.sizeOf181
  v51 := Try.zeroValue181
  t53 := Try.underlying120
  a53 := Try.isAgg120
  z53 := Try.sizeOf120
  v53 := Try.zeroValue120
  t131 := Try.underlying186
  a131 := Try.isAgg186
  z131 := Try.sizeOf186
  v131 := Try.zeroValue186
  t182 := Try.underlying205
  a182 := Try.isAgg205
  z182 := Try.sizeOf205
  v182 := Try.zeroValue205
  t183 := Try.underlying206
  a183 := Try.isAgg206
  z183 := Try.sizeOf206
  v183 := Try.zeroValue206
  t218 := Try.underlying216
  a218 := Try.isAgg216
  z218 := Try.sizeOf216
  v218 := Try.zeroValue216
  t222 := Try.underlying220
  a222 := Try.isAgg220
  z222 := Try.sizeOf220
  v222 := Try.zeroValue220
  t228 := Try.underlying222
  a228 := Try.isAgg222
  z228 := Try.sizeOf222
  v228 := Try.zeroValue222
  t229 := Try.underlying92
  a229 := Try.isAgg92
  z229 := Try.sizeOf92
  v229 := Try.zeroValue92
def layCompact_ren : Ren where
  f := fun x => match x with
    | 20 => 145
    | n => n
  t := fun x => match x with
    | 0 => 0
    | 3 => 3
    | 4 => 4
    | 22 => 22
    | n => n
  g := fun x => x
theorem layCompact : Lays2.n20 Try.prog layCompact_ren where
  mixed := by kernel_rfl
  f20 := by kernel_rfl
  t0 := Try.underlying0
  a0 := Try.isAgg0
  z0 := Try.sizeOf0
  v0 := Try.zeroValue0
  t3 := Try.underlying3
  a3 := Try.isAgg3
  z3 := Try.sizeOf3
  v3 := Try.zeroValue3
  t4 := Try.underlying4
  a4 := Try.isAgg4
  z4 := Try.sizeOf4
  v4 := Try.zeroValue4
  t22 := Try.underlying22
  a22 := Try.isAgg22
  z22 := Try.sizeOf22
  v22 := Try.zeroValue22
  i3 := by kernel_rfl
theorem sort_w (blk off cap : Nat) (zs : List Int) (w : World) (hH : Holds (Value.int .i64) w blk off zs.toArray) (hblk : blk < w.heap.size) (hsz : zs.length < 4611686018427387904) :
    Calls Try.prog 144 #[.slice (some ⟨blk, off, none⟩) zs.length cap] w fun e w' =>
      e = .returned (.tuple #[]) ∧ ∃ n os, w' = grow (putRow (Value.int .i64) (Sort.ahead w n) blk off (zs.mergeSort fun x y => decide (x ≤ y)).toArray) os :=
  calls_of_every_depth fun D => AnyS.slices_Sort_int_in laySort D blk off cap zs w hH hblk hsz
theorem sort_none (p : Option Addr) (cap : Nat) (w : World) : Calls Try.prog 144 #[.slice p 0 cap] w fun e w' => e = .returned (.tuple #[]) ∧ w' = w := Any.slices_Sort_int_none laySort p cap w
theorem compact_w (blk off cap : Nat) (zs : List Int) (w : World) (hH : Holds (Value.int .i64) w blk off zs.toArray) (hsz : zs.length ≤ 9223372036854775807) (hcap : zs.length ≤ cap) :
    Calls Try.prog 145 #[.slice (some ⟨blk, off, none⟩) zs.length cap] w fun e w' => e = .returned (.slice (some ⟨blk, off, none⟩) (Lib.compact zs).length cap) ∧ ∃ q, w' = putRow (Value.int .i64) (Sort.ahead w q) blk off (Lib.compact zs ++ List.replicate (zs.length - (Lib.compact zs).length) 0).toArray :=
  Any.slices_Compact_int layCompact blk off cap zs w hH hsz hcap
theorem compact_none (a : Option Addr) (cap : Nat) (w : World) : Calls Try.prog 145 #[.slice a 0 cap] w fun e w' => e = .returned (.slice a 0 cap) ∧ w' = w :=
  Any.slices_Compact_int_empty layCompact a cap w
end Go.Proofs.Ytnhmnfokbinplaa
