/- What is asked of the types of the translation, and which functions have a body. Own work; no condition. -/
import Derived.Test.YtlabphnonlicdaaGreatPa3
import Derived.Test.YtlabphnonlicdaaGreatChecked
namespace Go.Proofs.YtlabphnonlicdaaGreat
open Go Go.RowKit
def tt : TypeId → Option TI
  | 2 => some { size := 1, bytes := 8, kind := .num .i64, zero := [.p (.int .i64 0)], eqs := none }
  | 3 => some { size := 1, bytes := 8, kind := .num .i64, zero := [.p (.int .i64 0)], eqs := none }
  | 4 => some { size := 1, bytes := 1, kind := .bool, zero := [.p (.bool false)], eqs := none }
  | 5 => some { size := 1, bytes := 1, kind := .num .u8, zero := [.p (.int .u8 0)], eqs := none }
  | 9 => some { size := 1, bytes := 16, kind := .str, zero := [.p (.str ⟨#[]⟩)], eqs := none }
  | 22 => some { size := 1, bytes := 24, kind := .slice 70 6 72, zero := [.full []], eqs := none }
  | 23 => some { size := 1, bytes := 24, kind := .slice 3 1 8, zero := [.full []], eqs := none }
  | 24 => some { size := 1, bytes := 24, kind := .slice 99 2 16, zero := [.full []], eqs := none }
  | 25 => some { size := 1, bytes := 24, kind := .slice 96 2 16, zero := [.full []], eqs := none }
  | 26 => some { size := 1, bytes := 24, kind := .slice 28 11 176, zero := [.full []], eqs := none }
  | 28 => some { size := 11, bytes := 176, kind := .fields [(0, 1, false), (1, 1, false), (2, 1, false), (3, 1, false), (4, 1, false), (5, 1, false), (6, 1, false), (7, 1, false), (8, 1, false), (9, 1, false), (10, 1, false)], zero := [.p (.int .i64 0), .p (.str ⟨#[]⟩), .full [], .full [], .full [], .full [], .p (.int .i64 0), .p (.int .i64 0), .p (.int .i64 0), .p (.int .i64 0), .full []], eqs := none }
  | 29 => some { size := 1, bytes := 24, kind := .slice 45 3 64, zero := [.full []], eqs := none }
  | 31 => some { size := 1, bytes := 8, kind := .num .i64, zero := [.p (.int .i64 0)], eqs := none }
  | 42 => some { size := 1, bytes := 24, kind := .slice 55 2 24, zero := [.full []], eqs := none }
  | 43 => some { size := 1, bytes := 24, kind := .slice 46 1 24, zero := [.full []], eqs := none }
  | 45 => some { size := 3, bytes := 64, kind := .fields [(0, 1, false), (1, 1, false), (2, 1, false)], zero := [.p (.str ⟨#[]⟩), .full [], .full []], eqs := none }
  | 46 => some { size := 1, bytes := 24, kind := .slice 52 3 32, zero := [.full []], eqs := none }
  | 50 => some { size := 1, bytes := 8, kind := .one, zero := [.p .nilp], eqs := none }
  | 52 => some { size := 3, bytes := 32, kind := .fields [(0, 1, false), (1, 1, false), (2, 1, false)], zero := [.p (.int .i64 0), .p (.int .i64 0), .p (.str ⟨#[]⟩)], eqs := some [(0, .num .i64), (1, .num .i64), (2, .str)] }
  | 55 => some { size := 2, bytes := 24, kind := .fields [(0, 1, false), (1, 1, false)], zero := [.p (.str ⟨#[]⟩), .p (.int .i64 0)], eqs := some [(0, .str), (1, .num .i64)] }
  | 60 => some { size := 1, bytes := 8, kind := .map 9 3, zero := [.p .nilm], eqs := none }
  | 63 => some { size := 1, bytes := 8, kind := .one, zero := [.p .nilf], eqs := none }
  | 64 => some { size := 1, bytes := 24, kind := .slice 23 1 24, zero := [.full []], eqs := none }
  | 66 => some { size := 1, bytes := 8, kind := .one, zero := [.p .nilf], eqs := none }
  | 70 => some { size := 6, bytes := 72, kind := .fields [(0, 1, false), (1, 1, false), (2, 3, true), (5, 1, false)], zero := [.p (.int .i64 0), .p (.int .i64 0), .p (.int .i64 0), .p (.int .i64 0), .p (.str ⟨#[]⟩), .full []], eqs := none }
  | 78 => some { size := 1, bytes := 8, kind := .one, zero := [.p .nilf], eqs := none }
  | 82 => some { size := 8, bytes := 24, kind := .fields [(0, 1, false), (1, 1, false), (2, 1, false), (3, 1, false), (4, 1, false), (5, 1, false), (6, 1, false), (7, 1, false)], zero := [.p (.int .i64 0), .p (.int .i64 0), .p (.bool false), .p (.bool false), .p (.bool false), .p (.bool false), .p (.bool false), .p (.bool false)], eqs := some [(0, .num .i64), (1, .num .i64), (2, .bool), (3, .bool), (4, .bool), (5, .bool), (6, .bool), (7, .bool)] }
  | 86 => some { size := 1, bytes := 8, kind := .one, zero := [.p .nilf], eqs := none }
  | 91 => some { size := 1, bytes := 24, kind := .slice 5 1 1, zero := [.full []], eqs := none }
  | 96 => some { size := 2, bytes := 16, kind := .fields [(0, 1, false), (1, 1, false)], zero := [.p (.int .i64 0), .p (.int .i64 0)], eqs := some [(0, .num .i64), (1, .num .i64)] }
  | 99 => some { size := 2, bytes := 16, kind := .fields [(0, 1, false), (1, 1, false)], zero := [.p (.int .i64 0), .p (.bool false)], eqs := some [(0, .num .i64), (1, .bool)] }
  | 101 => some { size := 1, bytes := 8, kind := .one, zero := [.p .nilf], eqs := none }
  | 102 => some { size := 1, bytes := 8, kind := .one, zero := [.p .nilp], eqs := none }
  | 109 => some { size := 1, bytes := 8, kind := .one, zero := [.p .nilf], eqs := none }
  | 110 => some { size := 1, bytes := 8, kind := .one, zero := [.p .nilf], eqs := none }
  | 111 => some { size := 1, bytes := 8, kind := .one, zero := [.p .nilf], eqs := none }
  | 112 => some { size := 3, bytes := 24, kind := .array 3 1 false, zero := [.p (.int .i64 0), .p (.int .i64 0), .p (.int .i64 0)], eqs := none }
  | 122 => some { size := 1, bytes := 8, kind := .num .u64, zero := [.p (.int .u64 0)], eqs := none }
  | 124 => some { size := 1, bytes := 8, kind := .num .i64, zero := [.p (.int .i64 0)], eqs := none }
  | 131 => some { size := 1, bytes := 4, kind := .num .u32, zero := [.p (.int .u32 0)], eqs := none }
  | 133 => some { size := 1, bytes := 8, kind := .num .u64, zero := [.p (.int .u64 0)], eqs := none }
  | 134 => some { size := 1, bytes := 8, kind := .num .u64, zero := [.p (.int .u64 0)], eqs := none }
  | 138 => some { size := 1, bytes := 8, kind := .one, zero := [.p .nilp], eqs := none }
  | _ => none
theorem ti2 : tinfo Tryz.prog 2 = some { size := 1, bytes := 8, kind := .num .i64, zero := [.p (.int .i64 0)], eqs := none } := by kernel_rfl
theorem ti3 : tinfo Tryz.prog 3 = some { size := 1, bytes := 8, kind := .num .i64, zero := [.p (.int .i64 0)], eqs := none } := by kernel_rfl
theorem ti4 : tinfo Tryz.prog 4 = some { size := 1, bytes := 1, kind := .bool, zero := [.p (.bool false)], eqs := none } := by kernel_rfl
theorem ti5 : tinfo Tryz.prog 5 = some { size := 1, bytes := 1, kind := .num .u8, zero := [.p (.int .u8 0)], eqs := none } := by kernel_rfl
theorem ti9 : tinfo Tryz.prog 9 = some { size := 1, bytes := 16, kind := .str, zero := [.p (.str ⟨#[]⟩)], eqs := none } := by kernel_rfl
theorem ti22 : tinfo Tryz.prog 22 = some { size := 1, bytes := 24, kind := .slice 70 6 72, zero := [.full []], eqs := none } := by kernel_rfl
theorem ti23 : tinfo Tryz.prog 23 = some { size := 1, bytes := 24, kind := .slice 3 1 8, zero := [.full []], eqs := none } := by kernel_rfl
theorem ti24 : tinfo Tryz.prog 24 = some { size := 1, bytes := 24, kind := .slice 99 2 16, zero := [.full []], eqs := none } := by kernel_rfl
theorem ti25 : tinfo Tryz.prog 25 = some { size := 1, bytes := 24, kind := .slice 96 2 16, zero := [.full []], eqs := none } := by kernel_rfl
theorem ti26 : tinfo Tryz.prog 26 = some { size := 1, bytes := 24, kind := .slice 28 11 176, zero := [.full []], eqs := none } := by kernel_rfl
theorem ti28 : tinfo Tryz.prog 28 = some { size := 11, bytes := 176, kind := .fields [(0, 1, false), (1, 1, false), (2, 1, false), (3, 1, false), (4, 1, false), (5, 1, false), (6, 1, false), (7, 1, false), (8, 1, false), (9, 1, false), (10, 1, false)], zero := [.p (.int .i64 0), .p (.str ⟨#[]⟩), .full [], .full [], .full [], .full [], .p (.int .i64 0), .p (.int .i64 0), .p (.int .i64 0), .p (.int .i64 0), .full []], eqs := none } := by kernel_rfl
theorem ti29 : tinfo Tryz.prog 29 = some { size := 1, bytes := 24, kind := .slice 45 3 64, zero := [.full []], eqs := none } := by kernel_rfl
theorem ti31 : tinfo Tryz.prog 31 = some { size := 1, bytes := 8, kind := .num .i64, zero := [.p (.int .i64 0)], eqs := none } := by kernel_rfl
theorem ti42 : tinfo Tryz.prog 42 = some { size := 1, bytes := 24, kind := .slice 55 2 24, zero := [.full []], eqs := none } := by kernel_rfl
theorem ti43 : tinfo Tryz.prog 43 = some { size := 1, bytes := 24, kind := .slice 46 1 24, zero := [.full []], eqs := none } := by kernel_rfl
theorem ti45 : tinfo Tryz.prog 45 = some { size := 3, bytes := 64, kind := .fields [(0, 1, false), (1, 1, false), (2, 1, false)], zero := [.p (.str ⟨#[]⟩), .full [], .full []], eqs := none } := by kernel_rfl
theorem ti46 : tinfo Tryz.prog 46 = some { size := 1, bytes := 24, kind := .slice 52 3 32, zero := [.full []], eqs := none } := by kernel_rfl
theorem ti50 : tinfo Tryz.prog 50 = some { size := 1, bytes := 8, kind := .one, zero := [.p .nilp], eqs := none } := by kernel_rfl
theorem ti52 : tinfo Tryz.prog 52 = some { size := 3, bytes := 32, kind := .fields [(0, 1, false), (1, 1, false), (2, 1, false)], zero := [.p (.int .i64 0), .p (.int .i64 0), .p (.str ⟨#[]⟩)], eqs := some [(0, .num .i64), (1, .num .i64), (2, .str)] } := by kernel_rfl
theorem ti55 : tinfo Tryz.prog 55 = some { size := 2, bytes := 24, kind := .fields [(0, 1, false), (1, 1, false)], zero := [.p (.str ⟨#[]⟩), .p (.int .i64 0)], eqs := some [(0, .str), (1, .num .i64)] } := by kernel_rfl
theorem ti60 : tinfo Tryz.prog 60 = some { size := 1, bytes := 8, kind := .map 9 3, zero := [.p .nilm], eqs := none } := by kernel_rfl
theorem ti63 : tinfo Tryz.prog 63 = some { size := 1, bytes := 8, kind := .one, zero := [.p .nilf], eqs := none } := by kernel_rfl
theorem ti64 : tinfo Tryz.prog 64 = some { size := 1, bytes := 24, kind := .slice 23 1 24, zero := [.full []], eqs := none } := by kernel_rfl
theorem ti66 : tinfo Tryz.prog 66 = some { size := 1, bytes := 8, kind := .one, zero := [.p .nilf], eqs := none } := by kernel_rfl
theorem ti70 : tinfo Tryz.prog 70 = some { size := 6, bytes := 72, kind := .fields [(0, 1, false), (1, 1, false), (2, 3, true), (5, 1, false)], zero := [.p (.int .i64 0), .p (.int .i64 0), .p (.int .i64 0), .p (.int .i64 0), .p (.str ⟨#[]⟩), .full []], eqs := none } := by kernel_rfl
theorem ti78 : tinfo Tryz.prog 78 = some { size := 1, bytes := 8, kind := .one, zero := [.p .nilf], eqs := none } := by kernel_rfl
theorem ti82 : tinfo Tryz.prog 82 = some { size := 8, bytes := 24, kind := .fields [(0, 1, false), (1, 1, false), (2, 1, false), (3, 1, false), (4, 1, false), (5, 1, false), (6, 1, false), (7, 1, false)], zero := [.p (.int .i64 0), .p (.int .i64 0), .p (.bool false), .p (.bool false), .p (.bool false), .p (.bool false), .p (.bool false), .p (.bool false)], eqs := some [(0, .num .i64), (1, .num .i64), (2, .bool), (3, .bool), (4, .bool), (5, .bool), (6, .bool), (7, .bool)] } := by kernel_rfl
theorem ti86 : tinfo Tryz.prog 86 = some { size := 1, bytes := 8, kind := .one, zero := [.p .nilf], eqs := none } := by kernel_rfl
theorem ti91 : tinfo Tryz.prog 91 = some { size := 1, bytes := 24, kind := .slice 5 1 1, zero := [.full []], eqs := none } := by kernel_rfl
theorem ti96 : tinfo Tryz.prog 96 = some { size := 2, bytes := 16, kind := .fields [(0, 1, false), (1, 1, false)], zero := [.p (.int .i64 0), .p (.int .i64 0)], eqs := some [(0, .num .i64), (1, .num .i64)] } := by kernel_rfl
theorem ti99 : tinfo Tryz.prog 99 = some { size := 2, bytes := 16, kind := .fields [(0, 1, false), (1, 1, false)], zero := [.p (.int .i64 0), .p (.bool false)], eqs := some [(0, .num .i64), (1, .bool)] } := by kernel_rfl
theorem ti101 : tinfo Tryz.prog 101 = some { size := 1, bytes := 8, kind := .one, zero := [.p .nilf], eqs := none } := by kernel_rfl
theorem ti102 : tinfo Tryz.prog 102 = some { size := 1, bytes := 8, kind := .one, zero := [.p .nilp], eqs := none } := by kernel_rfl
theorem ti109 : tinfo Tryz.prog 109 = some { size := 1, bytes := 8, kind := .one, zero := [.p .nilf], eqs := none } := by kernel_rfl
theorem ti110 : tinfo Tryz.prog 110 = some { size := 1, bytes := 8, kind := .one, zero := [.p .nilf], eqs := none } := by kernel_rfl
theorem ti111 : tinfo Tryz.prog 111 = some { size := 1, bytes := 8, kind := .one, zero := [.p .nilf], eqs := none } := by kernel_rfl
theorem ti112 : tinfo Tryz.prog 112 = some { size := 3, bytes := 24, kind := .array 3 1 false, zero := [.p (.int .i64 0), .p (.int .i64 0), .p (.int .i64 0)], eqs := none } := by kernel_rfl
theorem ti122 : tinfo Tryz.prog 122 = some { size := 1, bytes := 8, kind := .num .u64, zero := [.p (.int .u64 0)], eqs := none } := by kernel_rfl
theorem ti124 : tinfo Tryz.prog 124 = some { size := 1, bytes := 8, kind := .num .i64, zero := [.p (.int .i64 0)], eqs := none } := by kernel_rfl
theorem ti131 : tinfo Tryz.prog 131 = some { size := 1, bytes := 4, kind := .num .u32, zero := [.p (.int .u32 0)], eqs := none } := by kernel_rfl
theorem ti133 : tinfo Tryz.prog 133 = some { size := 1, bytes := 8, kind := .num .u64, zero := [.p (.int .u64 0)], eqs := none } := by kernel_rfl
theorem ti134 : tinfo Tryz.prog 134 = some { size := 1, bytes := 8, kind := .num .u64, zero := [.p (.int .u64 0)], eqs := none } := by kernel_rfl
theorem ti138 : tinfo Tryz.prog 138 = some { size := 1, bytes := 8, kind := .one, zero := [.p .nilp], eqs := none } := by kernel_rfl
set_option maxHeartbeats 2000000 in
theorem tt_ok : ∀ t ti, tt t = some ti → tinfo Tryz.prog t = some ti := by
  intro t ti h
  unfold tt at h
  split at h
  · exact ti2.trans h
  · exact ti3.trans h
  · exact ti4.trans h
  · exact ti5.trans h
  · exact ti9.trans h
  · exact ti22.trans h
  · exact ti23.trans h
  · exact ti24.trans h
  · exact ti25.trans h
  · exact ti26.trans h
  · exact ti28.trans h
  · exact ti29.trans h
  · exact ti31.trans h
  · exact ti42.trans h
  · exact ti43.trans h
  · exact ti45.trans h
  · exact ti46.trans h
  · exact ti50.trans h
  · exact ti52.trans h
  · exact ti55.trans h
  · exact ti60.trans h
  · exact ti63.trans h
  · exact ti64.trans h
  · exact ti66.trans h
  · exact ti70.trans h
  · exact ti78.trans h
  · exact ti82.trans h
  · exact ti86.trans h
  · exact ti91.trans h
  · exact ti96.trans h
  · exact ti99.trans h
  · exact ti101.trans h
  · exact ti102.trans h
  · exact ti109.trans h
  · exact ti110.trans h
  · exact ti111.trans h
  · exact ti112.trans h
  · exact ti122.trans h
  · exact ti124.trans h
  · exact ti131.trans h
  · exact ti133.trans h
  · exact ti134.trans h
  · exact ti138.trans h
  · cases h
theorem mixed : Tryz.prog.follows .mixedOrders = true := by kernel_rfl
theorem c2 : callable Tryz.prog 2 = true := by kernel_rfl
theorem c3 : callable Tryz.prog 3 = true := by kernel_rfl
theorem c4 : callable Tryz.prog 4 = true := by kernel_rfl
theorem c5 : callable Tryz.prog 5 = true := by kernel_rfl
theorem c6 : callable Tryz.prog 6 = true := by kernel_rfl
theorem c7 : callable Tryz.prog 7 = true := by kernel_rfl
theorem c8 : callable Tryz.prog 8 = true := by kernel_rfl
theorem c9 : callable Tryz.prog 9 = true := by kernel_rfl
theorem c10 : callable Tryz.prog 10 = true := by kernel_rfl
theorem c11 : callable Tryz.prog 11 = true := by kernel_rfl
theorem c12 : callable Tryz.prog 12 = true := by kernel_rfl
theorem c13 : callable Tryz.prog 13 = true := by kernel_rfl
theorem c14 : callable Tryz.prog 14 = true := by kernel_rfl
theorem c15 : callable Tryz.prog 15 = true := by kernel_rfl
theorem c16 : callable Tryz.prog 16 = true := by kernel_rfl
theorem c17 : callable Tryz.prog 17 = true := by kernel_rfl
theorem c18 : callable Tryz.prog 18 = true := by kernel_rfl
theorem c19 : callable Tryz.prog 19 = true := by kernel_rfl
theorem c20 : callable Tryz.prog 20 = true := by kernel_rfl
theorem c21 : callable Tryz.prog 21 = true := by kernel_rfl
theorem c22 : callable Tryz.prog 22 = true := by kernel_rfl
theorem c23 : callable Tryz.prog 23 = true := by kernel_rfl
theorem c24 : callable Tryz.prog 24 = true := by kernel_rfl
theorem c25 : callable Tryz.prog 25 = true := by kernel_rfl
theorem c26 : callable Tryz.prog 26 = true := by kernel_rfl
theorem c27 : callable Tryz.prog 27 = true := by kernel_rfl
theorem c28 : callable Tryz.prog 28 = true := by kernel_rfl
theorem c29 : callable Tryz.prog 29 = true := by kernel_rfl
theorem c30 : callable Tryz.prog 30 = true := by kernel_rfl
theorem c31 : callable Tryz.prog 31 = true := by kernel_rfl
theorem c32 : callable Tryz.prog 32 = true := by kernel_rfl
theorem c33 : callable Tryz.prog 33 = true := by kernel_rfl
theorem c34 : callable Tryz.prog 34 = true := by kernel_rfl
theorem c35 : callable Tryz.prog 35 = true := by kernel_rfl
theorem c36 : callable Tryz.prog 36 = true := by kernel_rfl
theorem c37 : callable Tryz.prog 37 = true := by kernel_rfl
theorem c38 : callable Tryz.prog 38 = true := by kernel_rfl
theorem c39 : callable Tryz.prog 39 = true := by kernel_rfl
theorem c40 : callable Tryz.prog 40 = true := by kernel_rfl
theorem c41 : callable Tryz.prog 41 = true := by kernel_rfl
theorem c42 : callable Tryz.prog 42 = true := by kernel_rfl
theorem c43 : callable Tryz.prog 43 = true := by kernel_rfl
theorem c44 : callable Tryz.prog 44 = true := by kernel_rfl
theorem c45 : callable Tryz.prog 45 = true := by kernel_rfl
theorem c46 : callable Tryz.prog 46 = true := by kernel_rfl
theorem c47 : callable Tryz.prog 47 = true := by kernel_rfl
theorem c48 : callable Tryz.prog 48 = true := by kernel_rfl
theorem c49 : callable Tryz.prog 49 = true := by kernel_rfl
theorem c50 : callable Tryz.prog 50 = true := by kernel_rfl
theorem c51 : callable Tryz.prog 51 = true := by kernel_rfl
theorem c52 : callable Tryz.prog 52 = true := by kernel_rfl
theorem c53 : callable Tryz.prog 53 = true := by kernel_rfl
theorem c54 : callable Tryz.prog 54 = true := by kernel_rfl
theorem c55 : callable Tryz.prog 55 = true := by kernel_rfl
theorem c56 : callable Tryz.prog 56 = true := by kernel_rfl
theorem c57 : callable Tryz.prog 57 = true := by kernel_rfl
theorem c58 : callable Tryz.prog 58 = true := by kernel_rfl
theorem c59 : callable Tryz.prog 59 = true := by kernel_rfl
theorem c60 : callable Tryz.prog 60 = true := by kernel_rfl
theorem c61 : callable Tryz.prog 61 = true := by kernel_rfl
theorem c62 : callable Tryz.prog 62 = true := by kernel_rfl
theorem c63 : callable Tryz.prog 63 = true := by kernel_rfl
theorem c64 : callable Tryz.prog 64 = true := by kernel_rfl
theorem c65 : callable Tryz.prog 65 = true := by kernel_rfl
theorem c66 : callable Tryz.prog 66 = true := by kernel_rfl
theorem c67 : callable Tryz.prog 67 = true := by kernel_rfl
theorem c68 : callable Tryz.prog 68 = true := by kernel_rfl
theorem c69 : callable Tryz.prog 69 = true := by kernel_rfl
theorem c70 : callable Tryz.prog 70 = true := by kernel_rfl
theorem c71 : callable Tryz.prog 71 = true := by kernel_rfl
theorem c72 : callable Tryz.prog 72 = true := by kernel_rfl
theorem c73 : callable Tryz.prog 73 = true := by kernel_rfl
theorem c74 : callable Tryz.prog 74 = true := by kernel_rfl
theorem c75 : callable Tryz.prog 75 = true := by kernel_rfl
theorem c76 : callable Tryz.prog 76 = true := by kernel_rfl
theorem c77 : callable Tryz.prog 77 = true := by kernel_rfl
theorem c78 : callable Tryz.prog 78 = true := by kernel_rfl
theorem c79 : callable Tryz.prog 79 = true := by kernel_rfl
theorem c80 : callable Tryz.prog 80 = true := by kernel_rfl
theorem c81 : callable Tryz.prog 81 = true := by kernel_rfl
theorem c82 : callable Tryz.prog 82 = true := by kernel_rfl
theorem c83 : callable Tryz.prog 83 = true := by kernel_rfl
theorem c84 : callable Tryz.prog 84 = true := by kernel_rfl
theorem c85 : callable Tryz.prog 85 = true := by kernel_rfl
theorem c86 : callable Tryz.prog 86 = true := by kernel_rfl
theorem c87 : callable Tryz.prog 87 = true := by kernel_rfl
theorem c88 : callable Tryz.prog 88 = true := by kernel_rfl
theorem c89 : callable Tryz.prog 89 = true := by kernel_rfl
theorem c90 : callable Tryz.prog 90 = true := by kernel_rfl
theorem c91 : callable Tryz.prog 91 = true := by kernel_rfl
theorem c92 : callable Tryz.prog 92 = true := by kernel_rfl
theorem c93 : callable Tryz.prog 93 = true := by kernel_rfl
theorem c94 : callable Tryz.prog 94 = true := by kernel_rfl
theorem c95 : callable Tryz.prog 95 = true := by kernel_rfl
theorem c96 : callable Tryz.prog 96 = true := by kernel_rfl
theorem c97 : callable Tryz.prog 97 = true := by kernel_rfl
theorem c98 : callable Tryz.prog 98 = true := by kernel_rfl
theorem c99 : callable Tryz.prog 99 = true := by kernel_rfl
theorem c100 : callable Tryz.prog 100 = true := by kernel_rfl
theorem c101 : callable Tryz.prog 101 = true := by kernel_rfl
theorem c102 : callable Tryz.prog 102 = true := by kernel_rfl
theorem c103 : callable Tryz.prog 103 = true := by kernel_rfl
theorem c104 : callable Tryz.prog 104 = true := by kernel_rfl
theorem c105 : callable Tryz.prog 105 = true := by kernel_rfl
theorem c106 : callable Tryz.prog 106 = true := by kernel_rfl
theorem c107 : callable Tryz.prog 107 = true := by kernel_rfl
theorem c108 : callable Tryz.prog 108 = true := by kernel_rfl
end Go.Proofs.YtlabphnonlicdaaGreat
