/- What is asked of the types of the translation, and which functions have a body. Written by program (mktt.py); no condition. -/
import Derived.Test.YtnhmnfokbinplaaAbs13
import Derived.Test.YtnhmnfokbinplaaChecked
namespace Go.Proofs.Ytnhmnfokbinplaa
open Go Go.RowKit
def tt : TypeId → Option TI
  | 2 => some { size := 1, bytes := 8, kind := .num .i64, zero := [.p (.int .i64 0)], eqs := none }
  | 3 => some { size := 1, bytes := 8, kind := .num .i64, zero := [.p (.int .i64 0)], eqs := none }
  | 4 => some { size := 1, bytes := 1, kind := .bool, zero := [.p (.bool false)], eqs := none }
  | 5 => some { size := 1, bytes := 1, kind := .num .u8, zero := [.p (.int .u8 0)], eqs := none }
  | 9 => some { size := 1, bytes := 16, kind := .str, zero := [.p (.str ⟨#[]⟩)], eqs := none }
  | 22 => some { size := 1, bytes := 24, kind := .slice 3 1 8, zero := [.full []], eqs := none }
  | 25 => some { size := 3, bytes := 32, kind := .fields [(0, 1, false), (1, 1, false), (2, 1, false)], zero := [.p (.int .i64 0), .p (.int .i64 0), .p (.str ⟨#[]⟩)], eqs := some [(0, .num .i64), (1, .num .i64), (2, .str)] }
  | 26 => some { size := 1, bytes := 8, kind := .one, zero := [.p .nilf], eqs := none }
  | 27 => some { size := 1, bytes := 8, kind := .one, zero := [.p .nilf], eqs := none }
  | 29 => some { size := 1, bytes := 24, kind := .slice 25 3 32, zero := [.full []], eqs := none }
  | 30 => some { size := 1, bytes := 24, kind := .slice 4 1 1, zero := [.full []], eqs := none }
  | 31 => some { size := 1, bytes := 24, kind := .slice 2 1 8, zero := [.full []], eqs := none }
  | 32 => some { size := 1, bytes := 24, kind := .slice 9 1 16, zero := [.full []], eqs := none }
  | 34 => some { size := 4, bytes := 80, kind := .fields [(0, 1, false), (1, 1, false), (2, 1, false), (3, 1, false)], zero := [.p (.int .i64 0), .full [], .full [], .full []], eqs := none }
  | 35 => some { size := 1, bytes := 8, kind := .num .i64, zero := [.p (.int .i64 0)], eqs := none }
  | 43 => some { size := 1, bytes := 24, kind := .slice 34 4 80, zero := [.full []], eqs := none }
  | 44 => some { size := 1, bytes := 24, kind := .slice 29 1 24, zero := [.full []], eqs := none }
  | 73 => some { size := 1, bytes := 8, kind := .one, zero := [.p .nilf], eqs := none }
  | 77 => some { size := 4, bytes := 80, kind := .fields [(0, 1, false), (1, 1, false), (2, 1, false), (3, 1, false)], zero := [.p (.int .i64 0), .full [], .full [], .full []], eqs := none }
  | 78 => some { size := 1, bytes := 24, kind := .slice 80 6 72, zero := [.full []], eqs := none }
  | 80 => some { size := 6, bytes := 72, kind := .fields [(0, 1, false), (1, 1, false), (2, 3, true), (5, 1, false)], zero := [.p (.int .i64 0), .p (.int .i64 0), .p (.int .i64 0), .p (.int .i64 0), .p (.str ⟨#[]⟩), .full []], eqs := none }
  | 91 => some { size := 1, bytes := 8, kind := .one, zero := [.p .nilf], eqs := none }
  | 115 => some { size := 1, bytes := 8, kind := .one, zero := [.p .nilf], eqs := none }
  | 116 => some { size := 1, bytes := 8, kind := .one, zero := [.p .nilp], eqs := none }
  | 120 => some { size := 1, bytes := 8, kind := .num .u64, zero := [.p (.int .u64 0)], eqs := none }
  | 127 => some { size := 1, bytes := 8, kind := .one, zero := [.p .nilf], eqs := none }
  | 131 => some { size := 6, bytes := 6, kind := .array 6 1 false, zero := [.p (.bool false), .p (.bool false), .p (.bool false), .p (.bool false), .p (.bool false), .p (.bool false)], eqs := none }
  | 132 => some { size := 1, bytes := 24, kind := .slice 181 1 4, zero := [.full []], eqs := none }
  | 134 => some { size := 2, bytes := 32, kind := .fields [(0, 1, false), (1, 1, false)], zero := [.p (.bool false), .full []], eqs := none }
  | 145 => some { size := 1, bytes := 8, kind := .one, zero := [.p .nilf], eqs := none }
  | 148 => some { size := 1, bytes := 8, kind := .one, zero := [.p .nilf], eqs := none }
  | 150 => some { size := 1, bytes := 8, kind := .one, zero := [.p .nilf], eqs := none }
  | 156 => some { size := 1, bytes := 8, kind := .one, zero := [.p .nilf], eqs := none }
  | 157 => some { size := 1, bytes := 8, kind := .one, zero := [.p .nilp], eqs := none }
  | 161 => some { size := 1, bytes := 8, kind := .one, zero := [.p .nilf], eqs := none }
  | 167 => some { size := 1, bytes := 24, kind := .slice 5 1 1, zero := [.full []], eqs := none }
  | 168 => some { size := 1, bytes := 8, kind := .num .u64, zero := [.p (.int .u64 0)], eqs := none }
  | 169 => some { size := 1, bytes := 8, kind := .one, zero := [.p .nilp], eqs := none }
  | 171 => some { size := 2, bytes := 32, kind := .fields [(0, 1, false), (1, 1, false)], zero := [.p .nilp, .full []], eqs := none }
  | 181 => some { size := 1, bytes := 4, kind := .num .u32, zero := [.p (.int .u32 0)], eqs := none }
  | 184 => some { size := 1, bytes := 8, kind := .one, zero := [.p .nilf], eqs := none }
  | 185 => some { size := 3, bytes := 24, kind := .array 3 1 false, zero := [.p (.int .i64 0), .p (.int .i64 0), .p (.int .i64 0)], eqs := none }
  | 191 => some { size := 1, bytes := 24, kind := .slice 148 1 8, zero := [.full []], eqs := none }
  | 193 => some { size := 1, bytes := 8, kind := .one, zero := [.p .nilf], eqs := none }
  | 199 => some { size := 1, bytes := 8, kind := .one, zero := [.p .nilp], eqs := none }
  | 205 => some { size := 1, bytes := 8, kind := .num .i64, zero := [.p (.int .i64 0)], eqs := none }
  | 214 => some { size := 1, bytes := 8, kind := .one, zero := [.p .nilp], eqs := none }
  | 216 => some { size := 1, bytes := 8, kind := .num .u64, zero := [.p (.int .u64 0)], eqs := none }
  | 220 => some { size := 1, bytes := 8, kind := .one, zero := [.p .nilp], eqs := none }
  | _ => none
theorem ti2 : tinfo Try.prog 2 = some { size := 1, bytes := 8, kind := .num .i64, zero := [.p (.int .i64 0)], eqs := none } := by kernel_rfl
theorem ti3 : tinfo Try.prog 3 = some { size := 1, bytes := 8, kind := .num .i64, zero := [.p (.int .i64 0)], eqs := none } := by kernel_rfl
theorem ti4 : tinfo Try.prog 4 = some { size := 1, bytes := 1, kind := .bool, zero := [.p (.bool false)], eqs := none } := by kernel_rfl
theorem ti5 : tinfo Try.prog 5 = some { size := 1, bytes := 1, kind := .num .u8, zero := [.p (.int .u8 0)], eqs := none } := by kernel_rfl
theorem ti9 : tinfo Try.prog 9 = some { size := 1, bytes := 16, kind := .str, zero := [.p (.str ⟨#[]⟩)], eqs := none } := by kernel_rfl
theorem ti22 : tinfo Try.prog 22 = some { size := 1, bytes := 24, kind := .slice 3 1 8, zero := [.full []], eqs := none } := by kernel_rfl
theorem ti25 : tinfo Try.prog 25 = some { size := 3, bytes := 32, kind := .fields [(0, 1, false), (1, 1, false), (2, 1, false)], zero := [.p (.int .i64 0), .p (.int .i64 0), .p (.str ⟨#[]⟩)], eqs := some [(0, .num .i64), (1, .num .i64), (2, .str)] } := by kernel_rfl
theorem ti26 : tinfo Try.prog 26 = some { size := 1, bytes := 8, kind := .one, zero := [.p .nilf], eqs := none } := by kernel_rfl
theorem ti27 : tinfo Try.prog 27 = some { size := 1, bytes := 8, kind := .one, zero := [.p .nilf], eqs := none } := by kernel_rfl
theorem ti29 : tinfo Try.prog 29 = some { size := 1, bytes := 24, kind := .slice 25 3 32, zero := [.full []], eqs := none } := by kernel_rfl
theorem ti30 : tinfo Try.prog 30 = some { size := 1, bytes := 24, kind := .slice 4 1 1, zero := [.full []], eqs := none } := by kernel_rfl
theorem ti31 : tinfo Try.prog 31 = some { size := 1, bytes := 24, kind := .slice 2 1 8, zero := [.full []], eqs := none } := by kernel_rfl
theorem ti32 : tinfo Try.prog 32 = some { size := 1, bytes := 24, kind := .slice 9 1 16, zero := [.full []], eqs := none } := by kernel_rfl
theorem ti34 : tinfo Try.prog 34 = some { size := 4, bytes := 80, kind := .fields [(0, 1, false), (1, 1, false), (2, 1, false), (3, 1, false)], zero := [.p (.int .i64 0), .full [], .full [], .full []], eqs := none } := by kernel_rfl
theorem ti35 : tinfo Try.prog 35 = some { size := 1, bytes := 8, kind := .num .i64, zero := [.p (.int .i64 0)], eqs := none } := by kernel_rfl
theorem ti43 : tinfo Try.prog 43 = some { size := 1, bytes := 24, kind := .slice 34 4 80, zero := [.full []], eqs := none } := by kernel_rfl
theorem ti44 : tinfo Try.prog 44 = some { size := 1, bytes := 24, kind := .slice 29 1 24, zero := [.full []], eqs := none } := by kernel_rfl
theorem ti73 : tinfo Try.prog 73 = some { size := 1, bytes := 8, kind := .one, zero := [.p .nilf], eqs := none } := by kernel_rfl
theorem ti77 : tinfo Try.prog 77 = some { size := 4, bytes := 80, kind := .fields [(0, 1, false), (1, 1, false), (2, 1, false), (3, 1, false)], zero := [.p (.int .i64 0), .full [], .full [], .full []], eqs := none } := by kernel_rfl
theorem ti78 : tinfo Try.prog 78 = some { size := 1, bytes := 24, kind := .slice 80 6 72, zero := [.full []], eqs := none } := by kernel_rfl
theorem ti80 : tinfo Try.prog 80 = some { size := 6, bytes := 72, kind := .fields [(0, 1, false), (1, 1, false), (2, 3, true), (5, 1, false)], zero := [.p (.int .i64 0), .p (.int .i64 0), .p (.int .i64 0), .p (.int .i64 0), .p (.str ⟨#[]⟩), .full []], eqs := none } := by kernel_rfl
theorem ti91 : tinfo Try.prog 91 = some { size := 1, bytes := 8, kind := .one, zero := [.p .nilf], eqs := none } := by kernel_rfl
theorem ti115 : tinfo Try.prog 115 = some { size := 1, bytes := 8, kind := .one, zero := [.p .nilf], eqs := none } := by kernel_rfl
theorem ti116 : tinfo Try.prog 116 = some { size := 1, bytes := 8, kind := .one, zero := [.p .nilp], eqs := none } := by kernel_rfl
theorem ti120 : tinfo Try.prog 120 = some { size := 1, bytes := 8, kind := .num .u64, zero := [.p (.int .u64 0)], eqs := none } := by kernel_rfl
theorem ti127 : tinfo Try.prog 127 = some { size := 1, bytes := 8, kind := .one, zero := [.p .nilf], eqs := none } := by kernel_rfl
theorem ti131 : tinfo Try.prog 131 = some { size := 6, bytes := 6, kind := .array 6 1 false, zero := [.p (.bool false), .p (.bool false), .p (.bool false), .p (.bool false), .p (.bool false), .p (.bool false)], eqs := none } := by kernel_rfl
theorem ti132 : tinfo Try.prog 132 = some { size := 1, bytes := 24, kind := .slice 181 1 4, zero := [.full []], eqs := none } := by kernel_rfl
theorem ti134 : tinfo Try.prog 134 = some { size := 2, bytes := 32, kind := .fields [(0, 1, false), (1, 1, false)], zero := [.p (.bool false), .full []], eqs := none } := by kernel_rfl
theorem ti145 : tinfo Try.prog 145 = some { size := 1, bytes := 8, kind := .one, zero := [.p .nilf], eqs := none } := by kernel_rfl
theorem ti148 : tinfo Try.prog 148 = some { size := 1, bytes := 8, kind := .one, zero := [.p .nilf], eqs := none } := by kernel_rfl
theorem ti150 : tinfo Try.prog 150 = some { size := 1, bytes := 8, kind := .one, zero := [.p .nilf], eqs := none } := by kernel_rfl
theorem ti156 : tinfo Try.prog 156 = some { size := 1, bytes := 8, kind := .one, zero := [.p .nilf], eqs := none } := by kernel_rfl
theorem ti157 : tinfo Try.prog 157 = some { size := 1, bytes := 8, kind := .one, zero := [.p .nilp], eqs := none } := by kernel_rfl
theorem ti161 : tinfo Try.prog 161 = some { size := 1, bytes := 8, kind := .one, zero := [.p .nilf], eqs := none } := by kernel_rfl
theorem ti167 : tinfo Try.prog 167 = some { size := 1, bytes := 24, kind := .slice 5 1 1, zero := [.full []], eqs := none } := by kernel_rfl
theorem ti168 : tinfo Try.prog 168 = some { size := 1, bytes := 8, kind := .num .u64, zero := [.p (.int .u64 0)], eqs := none } := by kernel_rfl
theorem ti169 : tinfo Try.prog 169 = some { size := 1, bytes := 8, kind := .one, zero := [.p .nilp], eqs := none } := by kernel_rfl
theorem ti171 : tinfo Try.prog 171 = some { size := 2, bytes := 32, kind := .fields [(0, 1, false), (1, 1, false)], zero := [.p .nilp, .full []], eqs := none } := by kernel_rfl
theorem ti181 : tinfo Try.prog 181 = some { size := 1, bytes := 4, kind := .num .u32, zero := [.p (.int .u32 0)], eqs := none } := by kernel_rfl
theorem ti184 : tinfo Try.prog 184 = some { size := 1, bytes := 8, kind := .one, zero := [.p .nilf], eqs := none } := by kernel_rfl
theorem ti185 : tinfo Try.prog 185 = some { size := 3, bytes := 24, kind := .array 3 1 false, zero := [.p (.int .i64 0), .p (.int .i64 0), .p (.int .i64 0)], eqs := none } := by kernel_rfl
theorem ti191 : tinfo Try.prog 191 = some { size := 1, bytes := 24, kind := .slice 148 1 8, zero := [.full []], eqs := none } := by kernel_rfl
theorem ti193 : tinfo Try.prog 193 = some { size := 1, bytes := 8, kind := .one, zero := [.p .nilf], eqs := none } := by kernel_rfl
theorem ti199 : tinfo Try.prog 199 = some { size := 1, bytes := 8, kind := .one, zero := [.p .nilp], eqs := none } := by kernel_rfl
theorem ti205 : tinfo Try.prog 205 = some { size := 1, bytes := 8, kind := .num .i64, zero := [.p (.int .i64 0)], eqs := none } := by kernel_rfl
theorem ti214 : tinfo Try.prog 214 = some { size := 1, bytes := 8, kind := .one, zero := [.p .nilp], eqs := none } := by kernel_rfl
theorem ti216 : tinfo Try.prog 216 = some { size := 1, bytes := 8, kind := .num .u64, zero := [.p (.int .u64 0)], eqs := none } := by kernel_rfl
theorem ti220 : tinfo Try.prog 220 = some { size := 1, bytes := 8, kind := .one, zero := [.p .nilp], eqs := none } := by kernel_rfl
set_option maxHeartbeats 2000000 in
theorem tt_ok : ∀ t ti, tt t = some ti → tinfo Try.prog t = some ti := by
  intro t ti h
  unfold tt at h
  split at h
  · exact ti2.trans h
  · exact ti3.trans h
  · exact ti4.trans h
  · exact ti5.trans h
  · exact ti9.trans h
  · exact ti22.trans h
  · exact ti25.trans h
  · exact ti26.trans h
  · exact ti27.trans h
  · exact ti29.trans h
  · exact ti30.trans h
  · exact ti31.trans h
  · exact ti32.trans h
  · exact ti34.trans h
  · exact ti35.trans h
  · exact ti43.trans h
  · exact ti44.trans h
  · exact ti73.trans h
  · exact ti77.trans h
  · exact ti78.trans h
  · exact ti80.trans h
  · exact ti91.trans h
  · exact ti115.trans h
  · exact ti116.trans h
  · exact ti120.trans h
  · exact ti127.trans h
  · exact ti131.trans h
  · exact ti132.trans h
  · exact ti134.trans h
  · exact ti145.trans h
  · exact ti148.trans h
  · exact ti150.trans h
  · exact ti156.trans h
  · exact ti157.trans h
  · exact ti161.trans h
  · exact ti167.trans h
  · exact ti168.trans h
  · exact ti169.trans h
  · exact ti171.trans h
  · exact ti181.trans h
  · exact ti184.trans h
  · exact ti185.trans h
  · exact ti191.trans h
  · exact ti193.trans h
  · exact ti199.trans h
  · exact ti205.trans h
  · exact ti214.trans h
  · exact ti216.trans h
  · exact ti220.trans h
  · cases h
theorem mixed : Try.prog.follows .mixedOrders = true := by kernel_rfl
theorem c2 : callable Try.prog 2 = true := by kernel_rfl
theorem c3 : callable Try.prog 3 = true := by kernel_rfl
theorem c4 : callable Try.prog 4 = true := by kernel_rfl
theorem c5 : callable Try.prog 5 = true := by kernel_rfl
theorem c6 : callable Try.prog 6 = true := by kernel_rfl
theorem c7 : callable Try.prog 7 = true := by kernel_rfl
theorem c8 : callable Try.prog 8 = true := by kernel_rfl
theorem c9 : callable Try.prog 9 = true := by kernel_rfl
theorem c10 : callable Try.prog 10 = true := by kernel_rfl
theorem c11 : callable Try.prog 11 = true := by kernel_rfl
theorem c12 : callable Try.prog 12 = true := by kernel_rfl
theorem c13 : callable Try.prog 13 = true := by kernel_rfl
theorem c14 : callable Try.prog 14 = true := by kernel_rfl
theorem c15 : callable Try.prog 15 = true := by kernel_rfl
theorem c16 : callable Try.prog 16 = true := by kernel_rfl
theorem c17 : callable Try.prog 17 = true := by kernel_rfl
theorem c18 : callable Try.prog 18 = true := by kernel_rfl
theorem c19 : callable Try.prog 19 = true := by kernel_rfl
theorem c20 : callable Try.prog 20 = true := by kernel_rfl
theorem c21 : callable Try.prog 21 = true := by kernel_rfl
theorem c22 : callable Try.prog 22 = true := by kernel_rfl
theorem c23 : callable Try.prog 23 = true := by kernel_rfl
theorem c24 : callable Try.prog 24 = true := by kernel_rfl
theorem c25 : callable Try.prog 25 = true := by kernel_rfl
theorem c26 : callable Try.prog 26 = true := by kernel_rfl
theorem c27 : callable Try.prog 27 = true := by kernel_rfl
theorem c28 : callable Try.prog 28 = true := by kernel_rfl
theorem c29 : callable Try.prog 29 = true := by kernel_rfl
theorem c30 : callable Try.prog 30 = true := by kernel_rfl
theorem c31 : callable Try.prog 31 = true := by kernel_rfl
theorem c32 : callable Try.prog 32 = true := by kernel_rfl
theorem c33 : callable Try.prog 33 = true := by kernel_rfl
theorem c34 : callable Try.prog 34 = true := by kernel_rfl
theorem c35 : callable Try.prog 35 = true := by kernel_rfl
theorem c36 : callable Try.prog 36 = true := by kernel_rfl
theorem c37 : callable Try.prog 37 = true := by kernel_rfl
theorem c38 : callable Try.prog 38 = true := by kernel_rfl
theorem c39 : callable Try.prog 39 = true := by kernel_rfl
theorem c40 : callable Try.prog 40 = true := by kernel_rfl
theorem c41 : callable Try.prog 41 = true := by kernel_rfl
theorem c42 : callable Try.prog 42 = true := by kernel_rfl
theorem c43 : callable Try.prog 43 = true := by kernel_rfl
theorem c44 : callable Try.prog 44 = true := by kernel_rfl
theorem c45 : callable Try.prog 45 = true := by kernel_rfl
theorem c46 : callable Try.prog 46 = true := by kernel_rfl
theorem c47 : callable Try.prog 47 = true := by kernel_rfl
theorem c48 : callable Try.prog 48 = true := by kernel_rfl
theorem c49 : callable Try.prog 49 = true := by kernel_rfl
theorem c50 : callable Try.prog 50 = true := by kernel_rfl
theorem c51 : callable Try.prog 51 = true := by kernel_rfl
theorem c52 : callable Try.prog 52 = true := by kernel_rfl
theorem c53 : callable Try.prog 53 = true := by kernel_rfl
theorem c54 : callable Try.prog 54 = true := by kernel_rfl
theorem c55 : callable Try.prog 55 = true := by kernel_rfl
theorem c56 : callable Try.prog 56 = true := by kernel_rfl
theorem c57 : callable Try.prog 57 = true := by kernel_rfl
theorem c58 : callable Try.prog 58 = true := by kernel_rfl
theorem c59 : callable Try.prog 59 = true := by kernel_rfl
theorem c60 : callable Try.prog 60 = true := by kernel_rfl
theorem c61 : callable Try.prog 61 = true := by kernel_rfl
theorem c62 : callable Try.prog 62 = true := by kernel_rfl
theorem c63 : callable Try.prog 63 = true := by kernel_rfl
theorem c64 : callable Try.prog 64 = true := by kernel_rfl
theorem c65 : callable Try.prog 65 = true := by kernel_rfl
theorem c66 : callable Try.prog 66 = true := by kernel_rfl
theorem c67 : callable Try.prog 67 = true := by kernel_rfl
theorem c68 : callable Try.prog 68 = true := by kernel_rfl
theorem c69 : callable Try.prog 69 = true := by kernel_rfl
theorem c70 : callable Try.prog 70 = true := by kernel_rfl
theorem c71 : callable Try.prog 71 = true := by kernel_rfl
theorem c72 : callable Try.prog 72 = true := by kernel_rfl
theorem c73 : callable Try.prog 73 = true := by kernel_rfl
theorem c74 : callable Try.prog 74 = true := by kernel_rfl
theorem c75 : callable Try.prog 75 = true := by kernel_rfl
theorem c76 : callable Try.prog 76 = true := by kernel_rfl
theorem c77 : callable Try.prog 77 = true := by kernel_rfl
theorem c78 : callable Try.prog 78 = true := by kernel_rfl
theorem c79 : callable Try.prog 79 = true := by kernel_rfl
theorem c80 : callable Try.prog 80 = true := by kernel_rfl
theorem c81 : callable Try.prog 81 = true := by kernel_rfl
theorem c82 : callable Try.prog 82 = true := by kernel_rfl
theorem c83 : callable Try.prog 83 = true := by kernel_rfl
theorem c84 : callable Try.prog 84 = true := by kernel_rfl
theorem c85 : callable Try.prog 85 = true := by kernel_rfl
theorem c86 : callable Try.prog 86 = true := by kernel_rfl
theorem c87 : callable Try.prog 87 = true := by kernel_rfl
theorem c88 : callable Try.prog 88 = true := by kernel_rfl
theorem c89 : callable Try.prog 89 = true := by kernel_rfl
theorem c90 : callable Try.prog 90 = true := by kernel_rfl
theorem c91 : callable Try.prog 91 = true := by kernel_rfl
theorem c92 : callable Try.prog 92 = true := by kernel_rfl
theorem c93 : callable Try.prog 93 = true := by kernel_rfl
theorem c94 : callable Try.prog 94 = true := by kernel_rfl
theorem c95 : callable Try.prog 95 = true := by kernel_rfl
theorem c96 : callable Try.prog 96 = true := by kernel_rfl
theorem c97 : callable Try.prog 97 = true := by kernel_rfl
theorem c98 : callable Try.prog 98 = true := by kernel_rfl
theorem c99 : callable Try.prog 99 = true := by kernel_rfl
theorem c100 : callable Try.prog 100 = true := by kernel_rfl
theorem c101 : callable Try.prog 101 = true := by kernel_rfl
theorem c102 : callable Try.prog 102 = true := by kernel_rfl
theorem c103 : callable Try.prog 103 = true := by kernel_rfl
theorem c104 : callable Try.prog 104 = true := by kernel_rfl
theorem c105 : callable Try.prog 105 = true := by kernel_rfl
theorem c106 : callable Try.prog 106 = true := by kernel_rfl
theorem c107 : callable Try.prog 107 = true := by kernel_rfl
theorem c108 : callable Try.prog 108 = true := by kernel_rfl
theorem c109 : callable Try.prog 109 = true := by kernel_rfl
theorem c110 : callable Try.prog 110 = true := by kernel_rfl
theorem c111 : callable Try.prog 111 = true := by kernel_rfl
theorem c112 : callable Try.prog 112 = true := by kernel_rfl
theorem c113 : callable Try.prog 113 = true := by kernel_rfl
theorem c114 : callable Try.prog 114 = true := by kernel_rfl
theorem c115 : callable Try.prog 115 = true := by kernel_rfl
theorem c116 : callable Try.prog 116 = true := by kernel_rfl
theorem c117 : callable Try.prog 117 = true := by kernel_rfl
theorem c118 : callable Try.prog 118 = true := by kernel_rfl
theorem c119 : callable Try.prog 119 = true := by kernel_rfl
theorem c120 : callable Try.prog 120 = true := by kernel_rfl
theorem c121 : callable Try.prog 121 = true := by kernel_rfl
theorem c122 : callable Try.prog 122 = true := by kernel_rfl
theorem c123 : callable Try.prog 123 = true := by kernel_rfl
theorem c124 : callable Try.prog 124 = true := by kernel_rfl
theorem c125 : callable Try.prog 125 = true := by kernel_rfl
theorem c126 : callable Try.prog 126 = true := by kernel_rfl
theorem c127 : callable Try.prog 127 = true := by kernel_rfl
theorem c128 : callable Try.prog 128 = true := by kernel_rfl
theorem c129 : callable Try.prog 129 = true := by kernel_rfl
theorem c130 : callable Try.prog 130 = true := by kernel_rfl
theorem c131 : callable Try.prog 131 = true := by kernel_rfl
theorem c132 : callable Try.prog 132 = true := by kernel_rfl
theorem c133 : callable Try.prog 133 = true := by kernel_rfl
theorem c134 : callable Try.prog 134 = true := by kernel_rfl
theorem c135 : callable Try.prog 135 = true := by kernel_rfl
theorem c136 : callable Try.prog 136 = true := by kernel_rfl
theorem c137 : callable Try.prog 137 = true := by kernel_rfl
theorem c138 : callable Try.prog 138 = true := by kernel_rfl
theorem c139 : callable Try.prog 139 = true := by kernel_rfl
theorem c140 : callable Try.prog 140 = true := by kernel_rfl
theorem c141 : callable Try.prog 141 = true := by kernel_rfl
theorem c142 : callable Try.prog 142 = true := by kernel_rfl
theorem c143 : callable Try.prog 143 = true := by kernel_rfl
theorem c144 : callable Try.prog 144 = true := by kernel_rfl
theorem c145 : callable Try.prog 145 = true := by kernel_rfl
theorem c146 : callable Try.prog 146 = true := by kernel_rfl
theorem c147 : callable Try.prog 147 = true := by kernel_rfl
theorem c148 : callable Try.prog 148 = true := by kernel_rfl
theorem c149 : callable Try.prog 149 = true := by kernel_rfl
theorem c150 : callable Try.prog 150 = true := by kernel_rfl
theorem c151 : callable Try.prog 151 = true := by kernel_rfl
theorem c152 : callable Try.prog 152 = true := by kernel_rfl
theorem c153 : callable Try.prog 153 = true := by kernel_rfl
theorem c154 : callable Try.prog 154 = true := by kernel_rfl
theorem c155 : callable Try.prog 155 = true := by kernel_rfl
theorem c156 : callable Try.prog 156 = true := by kernel_rfl
theorem c157 : callable Try.prog 157 = true := by kernel_rfl
theorem c158 : callable Try.prog 158 = true := by kernel_rfl
theorem c159 : callable Try.prog 159 = true := by kernel_rfl
theorem c160 : callable Try.prog 160 = true := by kernel_rfl
theorem c161 : callable Try.prog 161 = true := by kernel_rfl
theorem c162 : callable Try.prog 162 = true := by kernel_rfl
theorem c163 : callable Try.prog 163 = true := by kernel_rfl
theorem c164 : callable Try.prog 164 = true := by kernel_rfl
theorem c165 : callable Try.prog 165 = true := by kernel_rfl
theorem c166 : callable Try.prog 166 = true := by kernel_rfl
theorem c167 : callable Try.prog 167 = true := by kernel_rfl
theorem c168 : callable Try.prog 168 = true := by kernel_rfl
theorem c169 : callable Try.prog 169 = true := by kernel_rfl
theorem c170 : callable Try.prog 170 = true := by kernel_rfl
theorem c171 : callable Try.prog 171 = true := by kernel_rfl
theorem c172 : callable Try.prog 172 = true := by kernel_rfl
theorem c173 : callable Try.prog 173 = true := by kernel_rfl
theorem c174 : callable Try.prog 174 = true := by kernel_rfl
theorem c175 : callable Try.prog 175 = true := by kernel_rfl
theorem c176 : callable Try.prog 176 = true := by kernel_rfl
theorem c177 : callable Try.prog 177 = true := by kernel_rfl
theorem c178 : callable Try.prog 178 = true := by kernel_rfl
theorem c179 : callable Try.prog 179 = true := by kernel_rfl
theorem c180 : callable Try.prog 180 = true := by kernel_rfl
theorem c181 : callable Try.prog 181 = true := by kernel_rfl
theorem c182 : callable Try.prog 182 = true := by kernel_rfl
theorem c183 : callable Try.prog 183 = true := by kernel_rfl
theorem c184 : callable Try.prog 184 = true := by kernel_rfl
theorem c185 : callable Try.prog 185 = true := by kernel_rfl
theorem c186 : callable Try.prog 186 = true := by kernel_rfl
theorem c187 : callable Try.prog 187 = true := by kernel_rfl
theorem c189 : callable Try.prog 189 = true := by kernel_rfl
theorem c190 : callable Try.prog 190 = true := by kernel_rfl
theorem c191 : callable Try.prog 191 = true := by kernel_rfl
theorem c192 : callable Try.prog 192 = true := by kernel_rfl
theorem c193 : callable Try.prog 193 = true := by kernel_rfl
theorem c194 : callable Try.prog 194 = true := by kernel_rfl
theorem c195 : callable Try.prog 195 = true := by kernel_rfl
theorem c196 : callable Try.prog 196 = true := by kernel_rfl
theorem c197 : callable Try.prog 197 = true := by kernel_rfl
theorem c198 : callable Try.prog 198 = true := by kernel_rfl
theorem c199 : callable Try.prog 199 = true := by kernel_rfl
theorem c200 : callable Try.prog 200 = true := by kernel_rfl
theorem c201 : callable Try.prog 201 = true := by kernel_rfl
theorem c202 : callable Try.prog 202 = true := by kernel_rfl
theorem c205 : callable Try.prog 205 = true := by kernel_rfl
theorem c206 : callable Try.prog 206 = true := by kernel_rfl
theorem c207 : callable Try.prog 207 = true := by kernel_rfl
theorem c208 : callable Try.prog 208 = true := by kernel_rfl
theorem c209 : callable Try.prog 209 = true := by kernel_rfl
theorem c210 : callable Try.prog 210 = true := by kernel_rfl
theorem c211 : callable Try.prog 211 = true := by kernel_rfl
end Go.Proofs.Ytnhmnfokbinplaa
