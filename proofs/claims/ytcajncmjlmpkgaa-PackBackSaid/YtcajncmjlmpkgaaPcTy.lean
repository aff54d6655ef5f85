/- What is asked of the types of the translation, and which functions have a body. Own work; no condition. -/
import Derived.Test.YtcajncmjlmpkgaaPc6
import Derived.Test.YtcajncmjlmpkgaaChecked
namespace Go.Proofs.Ytcajncmjlmpkgaa
open Go Go.RowKit
def tt : TypeId → Option TI
  | 2 => some { size := 1, bytes := 8, kind := .num .i64, zero := [.p (.int .i64 0)], eqs := none }
  | 3 => some { size := 1, bytes := 8, kind := .num .i64, zero := [.p (.int .i64 0)], eqs := none }
  | 4 => some { size := 1, bytes := 1, kind := .bool, zero := [.p (.bool false)], eqs := none }
  | 5 => some { size := 1, bytes := 1, kind := .num .u8, zero := [.p (.int .u8 0)], eqs := none }
  | 9 => some { size := 1, bytes := 16, kind := .str, zero := [.p (.str ⟨#[]⟩)], eqs := none }
  | 20 => some { size := 1, bytes := 16, kind := .one, zero := [.p .nili], eqs := none }
  | 22 => some { size := 1, bytes := 24, kind := .slice 24 3 32, zero := [.full []], eqs := none }
  | 24 => some { size := 3, bytes := 32, kind := .fields [(0, 1, false), (1, 1, false), (2, 1, false)], zero := [.p (.int .i64 0), .p (.int .i64 0), .p (.str ⟨#[]⟩)], eqs := some [(0, .num .i64), (1, .num .i64), (2, .str)] }
  | 25 => some { size := 1, bytes := 24, kind := .slice 4 1 1, zero := [.full []], eqs := none }
  | 26 => some { size := 1, bytes := 24, kind := .slice 2 1 8, zero := [.full []], eqs := none }
  | 27 => some { size := 1, bytes := 24, kind := .slice 9 1 16, zero := [.full []], eqs := none }
  | 29 => some { size := 4, bytes := 80, kind := .fields [(0, 1, false), (1, 1, false), (2, 1, false), (3, 1, false)], zero := [.p (.int .i64 0), .full [], .full [], .full []], eqs := none }
  | 30 => some { size := 1, bytes := 8, kind := .num .i64, zero := [.p (.int .i64 0)], eqs := none }
  | 39 => some { size := 1, bytes := 24, kind := .slice 3 1 8, zero := [.full []], eqs := none }
  | 52 => some { size := 1, bytes := 24, kind := .slice 22 1 24, zero := [.full []], eqs := none }
  | 55 => some { size := 1, bytes := 24, kind := .slice 29 4 80, zero := [.full []], eqs := none }
  | 68 => some { size := 1, bytes := 8, kind := .one, zero := [.p .nilf], eqs := none }
  | 69 => some { size := 1, bytes := 24, kind := .slice 5 1 1, zero := [.full []], eqs := none }
  | 71 => some { size := 1, bytes := 8, kind := .num .u64, zero := [.p (.int .u64 0)], eqs := none }
  | 73 => some { size := 2, bytes := 32, kind := .fields [(0, 1, false), (1, 1, false)], zero := [.full [], .p (.int .i64 0)], eqs := none }
  | 75 => some { size := 1, bytes := 8, kind := .one, zero := [.p .nilf], eqs := none }
  | 76 => some { size := 4, bytes := 32, kind := .array 4 1 false, zero := [.p .nilf, .p .nilf, .p .nilf, .p .nilf], eqs := none }
  | 84 => some { size := 1, bytes := 8, kind := .one, zero := [.p .nilp], eqs := none }
  | 89 => some { size := 0, bytes := 0, kind := .fields [], zero := [], eqs := some [] }
  | 91 => some { size := 1, bytes := 8, kind := .one, zero := [.p .nilp], eqs := none }
  | 93 => some { size := 1, bytes := 16, kind := .fields [(0, 1, false)], zero := [.p (.str ⟨#[]⟩)], eqs := some [(0, .str)] }
  | 99 => some { size := 1, bytes := 24, kind := .slice 71 1 8, zero := [.full []], eqs := none }
  | 103 => some { size := 1, bytes := 8, kind := .one, zero := [.p .nilf], eqs := none }
  | 105 => some { size := 1, bytes := 8, kind := .one, zero := [.p .nilf], eqs := none }
  | 111 => some { size := 1, bytes := 8, kind := .num .u64, zero := [.p (.int .u64 0)], eqs := none }
  | 115 => some { size := 6, bytes := 6, kind := .array 6 1 false, zero := [.p (.bool false), .p (.bool false), .p (.bool false), .p (.bool false), .p (.bool false), .p (.bool false)], eqs := none }
  | 122 => some { size := 1, bytes := 8, kind := .one, zero := [.p .nilf], eqs := none }
  | 126 => some { size := 1, bytes := 4, kind := .num .u32, zero := [.p (.int .u32 0)], eqs := none }
  | 135 => some { size := 1, bytes := 8, kind := .one, zero := [.p .nilf], eqs := none }
  | 139 => some { size := 2, bytes := 16, kind := .fields [(0, 1, false), (1, 1, false)], zero := [.p .nilf, .p .nilf], eqs := none }
  | 149 => some { size := 1, bytes := 8, kind := .num .i64, zero := [.p (.int .i64 0)], eqs := none }
  | 155 => some { size := 1, bytes := 8, kind := .num .u64, zero := [.p (.int .u64 0)], eqs := none }
  | 158 => some { size := 1, bytes := 8, kind := .one, zero := [.p .nilp], eqs := none }
  | _ => none
theorem ti2 : tinfo Try.prog 2 = some { size := 1, bytes := 8, kind := .num .i64, zero := [.p (.int .i64 0)], eqs := none } := by kernel_rfl
theorem ti3 : tinfo Try.prog 3 = some { size := 1, bytes := 8, kind := .num .i64, zero := [.p (.int .i64 0)], eqs := none } := by kernel_rfl
theorem ti4 : tinfo Try.prog 4 = some { size := 1, bytes := 1, kind := .bool, zero := [.p (.bool false)], eqs := none } := by kernel_rfl
theorem ti5 : tinfo Try.prog 5 = some { size := 1, bytes := 1, kind := .num .u8, zero := [.p (.int .u8 0)], eqs := none } := by kernel_rfl
theorem ti9 : tinfo Try.prog 9 = some { size := 1, bytes := 16, kind := .str, zero := [.p (.str ⟨#[]⟩)], eqs := none } := by kernel_rfl
theorem ti20 : tinfo Try.prog 20 = some { size := 1, bytes := 16, kind := .one, zero := [.p .nili], eqs := none } := by kernel_rfl
theorem ti22 : tinfo Try.prog 22 = some { size := 1, bytes := 24, kind := .slice 24 3 32, zero := [.full []], eqs := none } := by kernel_rfl
theorem ti24 : tinfo Try.prog 24 = some { size := 3, bytes := 32, kind := .fields [(0, 1, false), (1, 1, false), (2, 1, false)], zero := [.p (.int .i64 0), .p (.int .i64 0), .p (.str ⟨#[]⟩)], eqs := some [(0, .num .i64), (1, .num .i64), (2, .str)] } := by kernel_rfl
theorem ti25 : tinfo Try.prog 25 = some { size := 1, bytes := 24, kind := .slice 4 1 1, zero := [.full []], eqs := none } := by kernel_rfl
theorem ti26 : tinfo Try.prog 26 = some { size := 1, bytes := 24, kind := .slice 2 1 8, zero := [.full []], eqs := none } := by kernel_rfl
theorem ti27 : tinfo Try.prog 27 = some { size := 1, bytes := 24, kind := .slice 9 1 16, zero := [.full []], eqs := none } := by kernel_rfl
theorem ti29 : tinfo Try.prog 29 = some { size := 4, bytes := 80, kind := .fields [(0, 1, false), (1, 1, false), (2, 1, false), (3, 1, false)], zero := [.p (.int .i64 0), .full [], .full [], .full []], eqs := none } := by kernel_rfl
theorem ti30 : tinfo Try.prog 30 = some { size := 1, bytes := 8, kind := .num .i64, zero := [.p (.int .i64 0)], eqs := none } := by kernel_rfl
theorem ti39 : tinfo Try.prog 39 = some { size := 1, bytes := 24, kind := .slice 3 1 8, zero := [.full []], eqs := none } := by kernel_rfl
theorem ti52 : tinfo Try.prog 52 = some { size := 1, bytes := 24, kind := .slice 22 1 24, zero := [.full []], eqs := none } := by kernel_rfl
theorem ti55 : tinfo Try.prog 55 = some { size := 1, bytes := 24, kind := .slice 29 4 80, zero := [.full []], eqs := none } := by kernel_rfl
theorem ti68 : tinfo Try.prog 68 = some { size := 1, bytes := 8, kind := .one, zero := [.p .nilf], eqs := none } := by kernel_rfl
theorem ti69 : tinfo Try.prog 69 = some { size := 1, bytes := 24, kind := .slice 5 1 1, zero := [.full []], eqs := none } := by kernel_rfl
theorem ti71 : tinfo Try.prog 71 = some { size := 1, bytes := 8, kind := .num .u64, zero := [.p (.int .u64 0)], eqs := none } := by kernel_rfl
theorem ti73 : tinfo Try.prog 73 = some { size := 2, bytes := 32, kind := .fields [(0, 1, false), (1, 1, false)], zero := [.full [], .p (.int .i64 0)], eqs := none } := by kernel_rfl
theorem ti75 : tinfo Try.prog 75 = some { size := 1, bytes := 8, kind := .one, zero := [.p .nilf], eqs := none } := by kernel_rfl
theorem ti76 : tinfo Try.prog 76 = some { size := 4, bytes := 32, kind := .array 4 1 false, zero := [.p .nilf, .p .nilf, .p .nilf, .p .nilf], eqs := none } := by kernel_rfl
theorem ti84 : tinfo Try.prog 84 = some { size := 1, bytes := 8, kind := .one, zero := [.p .nilp], eqs := none } := by kernel_rfl
theorem ti89 : tinfo Try.prog 89 = some { size := 0, bytes := 0, kind := .fields [], zero := [], eqs := some [] } := by kernel_rfl
theorem ti91 : tinfo Try.prog 91 = some { size := 1, bytes := 8, kind := .one, zero := [.p .nilp], eqs := none } := by kernel_rfl
theorem ti93 : tinfo Try.prog 93 = some { size := 1, bytes := 16, kind := .fields [(0, 1, false)], zero := [.p (.str ⟨#[]⟩)], eqs := some [(0, .str)] } := by kernel_rfl
theorem ti99 : tinfo Try.prog 99 = some { size := 1, bytes := 24, kind := .slice 71 1 8, zero := [.full []], eqs := none } := by kernel_rfl
theorem ti103 : tinfo Try.prog 103 = some { size := 1, bytes := 8, kind := .one, zero := [.p .nilf], eqs := none } := by kernel_rfl
theorem ti105 : tinfo Try.prog 105 = some { size := 1, bytes := 8, kind := .one, zero := [.p .nilf], eqs := none } := by kernel_rfl
theorem ti111 : tinfo Try.prog 111 = some { size := 1, bytes := 8, kind := .num .u64, zero := [.p (.int .u64 0)], eqs := none } := by kernel_rfl
theorem ti115 : tinfo Try.prog 115 = some { size := 6, bytes := 6, kind := .array 6 1 false, zero := [.p (.bool false), .p (.bool false), .p (.bool false), .p (.bool false), .p (.bool false), .p (.bool false)], eqs := none } := by kernel_rfl
theorem ti122 : tinfo Try.prog 122 = some { size := 1, bytes := 8, kind := .one, zero := [.p .nilf], eqs := none } := by kernel_rfl
theorem ti126 : tinfo Try.prog 126 = some { size := 1, bytes := 4, kind := .num .u32, zero := [.p (.int .u32 0)], eqs := none } := by kernel_rfl
theorem ti135 : tinfo Try.prog 135 = some { size := 1, bytes := 8, kind := .one, zero := [.p .nilf], eqs := none } := by kernel_rfl
theorem ti139 : tinfo Try.prog 139 = some { size := 2, bytes := 16, kind := .fields [(0, 1, false), (1, 1, false)], zero := [.p .nilf, .p .nilf], eqs := none } := by kernel_rfl
theorem ti149 : tinfo Try.prog 149 = some { size := 1, bytes := 8, kind := .num .i64, zero := [.p (.int .i64 0)], eqs := none } := by kernel_rfl
theorem ti155 : tinfo Try.prog 155 = some { size := 1, bytes := 8, kind := .num .u64, zero := [.p (.int .u64 0)], eqs := none } := by kernel_rfl
theorem ti158 : tinfo Try.prog 158 = some { size := 1, bytes := 8, kind := .one, zero := [.p .nilp], eqs := none } := by kernel_rfl
set_option maxHeartbeats 2000000 in
theorem tt_ok : ∀ t ti, tt t = some ti → tinfo Try.prog t = some ti := by
  intro t ti h
  unfold tt at h
  split at h
  · exact ti2.trans h
  · exact ti3.trans h
  · exact ti4.trans h
  · exact ti5.trans h
  · exact ti9.trans h
  · exact ti20.trans h
  · exact ti22.trans h
  · exact ti24.trans h
  · exact ti25.trans h
  · exact ti26.trans h
  · exact ti27.trans h
  · exact ti29.trans h
  · exact ti30.trans h
  · exact ti39.trans h
  · exact ti52.trans h
  · exact ti55.trans h
  · exact ti68.trans h
  · exact ti69.trans h
  · exact ti71.trans h
  · exact ti73.trans h
  · exact ti75.trans h
  · exact ti76.trans h
  · exact ti84.trans h
  · exact ti89.trans h
  · exact ti91.trans h
  · exact ti93.trans h
  · exact ti99.trans h
  · exact ti103.trans h
  · exact ti105.trans h
  · exact ti111.trans h
  · exact ti115.trans h
  · exact ti122.trans h
  · exact ti126.trans h
  · exact ti135.trans h
  · exact ti139.trans h
  · exact ti149.trans h
  · exact ti155.trans h
  · exact ti158.trans h
  · cases h
theorem mixed : Try.prog.follows .mixedOrders = true := by kernel_rfl
theorem c2 : callable Try.prog 2 = true := by kernel_rfl
theorem c3 : callable Try.prog 3 = true := by kernel_rfl
theorem c4 : callable Try.prog 4 = true := by kernel_rfl
theorem c5 : callable Try.prog 5 = true := by kernel_rfl
theorem c6 : callable Try.prog 6 = true := by kernel_rfl
theorem c7 : callable Try.prog 7 = true := by kernel_rfl
theorem c8 : callable Try.prog 8 = true := by kernel_rfl
theorem c9 : callable Try.prog 9 = true := by kernel_rfl
theorem c10 : callable Try.prog 10 = true := by kernel_rfl
theorem c11 : callable Try.prog 11 = true := by kernel_rfl
theorem c12 : callable Try.prog 12 = true := by kernel_rfl
theorem c13 : callable Try.prog 13 = true := by kernel_rfl
theorem c14 : callable Try.prog 14 = true := by kernel_rfl
theorem c15 : callable Try.prog 15 = true := by kernel_rfl
theorem c16 : callable Try.prog 16 = true := by kernel_rfl
theorem c17 : callable Try.prog 17 = true := by kernel_rfl
theorem c18 : callable Try.prog 18 = true := by kernel_rfl
theorem c19 : callable Try.prog 19 = true := by kernel_rfl
theorem c20 : callable Try.prog 20 = true := by kernel_rfl
theorem c21 : callable Try.prog 21 = true := by kernel_rfl
theorem c22 : callable Try.prog 22 = true := by kernel_rfl
theorem c23 : callable Try.prog 23 = true := by kernel_rfl
theorem c24 : callable Try.prog 24 = true := by kernel_rfl
theorem c25 : callable Try.prog 25 = true := by kernel_rfl
theorem c26 : callable Try.prog 26 = true := by kernel_rfl
theorem c27 : callable Try.prog 27 = true := by kernel_rfl
theorem c28 : callable Try.prog 28 = true := by kernel_rfl
theorem c29 : callable Try.prog 29 = true := by kernel_rfl
theorem c30 : callable Try.prog 30 = true := by kernel_rfl
theorem c31 : callable Try.prog 31 = true := by kernel_rfl
theorem c32 : callable Try.prog 32 = true := by kernel_rfl
theorem c33 : callable Try.prog 33 = true := by kernel_rfl
theorem c34 : callable Try.prog 34 = true := by kernel_rfl
theorem c35 : callable Try.prog 35 = true := by kernel_rfl
theorem c36 : callable Try.prog 36 = true := by kernel_rfl
theorem c37 : callable Try.prog 37 = true := by kernel_rfl
theorem c38 : callable Try.prog 38 = true := by kernel_rfl
theorem c39 : callable Try.prog 39 = true := by kernel_rfl
theorem c40 : callable Try.prog 40 = true := by kernel_rfl
theorem c41 : callable Try.prog 41 = true := by kernel_rfl
theorem c42 : callable Try.prog 42 = true := by kernel_rfl
theorem c43 : callable Try.prog 43 = true := by kernel_rfl
theorem c44 : callable Try.prog 44 = true := by kernel_rfl
theorem c45 : callable Try.prog 45 = true := by kernel_rfl
theorem c46 : callable Try.prog 46 = true := by kernel_rfl
theorem c47 : callable Try.prog 47 = true := by kernel_rfl
theorem c48 : callable Try.prog 48 = true := by kernel_rfl
theorem c49 : callable Try.prog 49 = true := by kernel_rfl
theorem c50 : callable Try.prog 50 = true := by kernel_rfl
theorem c51 : callable Try.prog 51 = true := by kernel_rfl
theorem c52 : callable Try.prog 52 = true := by kernel_rfl
theorem c53 : callable Try.prog 53 = true := by kernel_rfl
theorem c54 : callable Try.prog 54 = true := by kernel_rfl
theorem c55 : callable Try.prog 55 = true := by kernel_rfl
theorem c56 : callable Try.prog 56 = true := by kernel_rfl
theorem c57 : callable Try.prog 57 = true := by kernel_rfl
theorem c58 : callable Try.prog 58 = true := by kernel_rfl
theorem c59 : callable Try.prog 59 = true := by kernel_rfl
theorem c60 : callable Try.prog 60 = true := by kernel_rfl
theorem c61 : callable Try.prog 61 = true := by kernel_rfl
theorem c62 : callable Try.prog 62 = true := by kernel_rfl
theorem c63 : callable Try.prog 63 = true := by kernel_rfl
theorem c64 : callable Try.prog 64 = true := by kernel_rfl
theorem c65 : callable Try.prog 65 = true := by kernel_rfl
theorem c66 : callable Try.prog 66 = true := by kernel_rfl
theorem c67 : callable Try.prog 67 = true := by kernel_rfl
theorem c68 : callable Try.prog 68 = true := by kernel_rfl
theorem c69 : callable Try.prog 69 = true := by kernel_rfl
theorem c70 : callable Try.prog 70 = true := by kernel_rfl
theorem c71 : callable Try.prog 71 = true := by kernel_rfl
theorem c72 : callable Try.prog 72 = true := by kernel_rfl
theorem c73 : callable Try.prog 73 = true := by kernel_rfl
theorem c74 : callable Try.prog 74 = true := by kernel_rfl
theorem c75 : callable Try.prog 75 = true := by kernel_rfl
theorem c76 : callable Try.prog 76 = true := by kernel_rfl
theorem c77 : callable Try.prog 77 = true := by kernel_rfl
theorem c78 : callable Try.prog 78 = true := by kernel_rfl
theorem c79 : callable Try.prog 79 = true := by kernel_rfl
theorem c80 : callable Try.prog 80 = true := by kernel_rfl
theorem c81 : callable Try.prog 81 = true := by kernel_rfl
theorem c82 : callable Try.prog 82 = true := by kernel_rfl
theorem c83 : callable Try.prog 83 = true := by kernel_rfl
theorem c84 : callable Try.prog 84 = true := by kernel_rfl
theorem c85 : callable Try.prog 85 = true := by kernel_rfl
theorem c86 : callable Try.prog 86 = true := by kernel_rfl
theorem c87 : callable Try.prog 87 = true := by kernel_rfl
theorem c88 : callable Try.prog 88 = true := by kernel_rfl
theorem c89 : callable Try.prog 89 = true := by kernel_rfl
theorem c90 : callable Try.prog 90 = true := by kernel_rfl
theorem c91 : callable Try.prog 91 = true := by kernel_rfl
theorem c92 : callable Try.prog 92 = true := by kernel_rfl
theorem c93 : callable Try.prog 93 = true := by kernel_rfl
theorem c96 : callable Try.prog 96 = true := by kernel_rfl
theorem c98 : callable Try.prog 98 = true := by kernel_rfl
theorem c99 : callable Try.prog 99 = true := by kernel_rfl
theorem c100 : callable Try.prog 100 = true := by kernel_rfl
theorem c101 : callable Try.prog 101 = true := by kernel_rfl
theorem c111 : callable Try.prog 111 = true := by kernel_rfl
theorem c112 : callable Try.prog 112 = true := by kernel_rfl
theorem c113 : callable Try.prog 113 = true := by kernel_rfl
theorem c114 : callable Try.prog 114 = true := by kernel_rfl
theorem c115 : callable Try.prog 115 = true := by kernel_rfl
theorem c116 : callable Try.prog 116 = true := by kernel_rfl
theorem c117 : callable Try.prog 117 = true := by kernel_rfl
theorem c118 : callable Try.prog 118 = true := by kernel_rfl
theorem c119 : callable Try.prog 119 = true := by kernel_rfl
theorem c120 : callable Try.prog 120 = true := by kernel_rfl
theorem c122 : callable Try.prog 122 = true := by kernel_rfl
theorem c123 : callable Try.prog 123 = true := by kernel_rfl
theorem c124 : callable Try.prog 124 = true := by kernel_rfl
theorem c125 : callable Try.prog 125 = true := by kernel_rfl
theorem c126 : callable Try.prog 126 = true := by kernel_rfl
theorem c127 : callable Try.prog 127 = true := by kernel_rfl
theorem c128 : callable Try.prog 128 = true := by kernel_rfl
theorem c129 : callable Try.prog 129 = true := by kernel_rfl
end Go.Proofs.Ytcajncmjlmpkgaa
