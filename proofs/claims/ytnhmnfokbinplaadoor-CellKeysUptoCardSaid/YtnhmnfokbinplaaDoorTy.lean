/- What is asked of the types of the translation, and which functions have a body. Written by program (mktt.py); no condition. -/
import Derived.Test.YtnhmnfokbinplaaDoorAbs13
import Derived.Test.YtnhmnfokbinplaaDoorChecked
namespace Go.Proofs.YtnhmnfokbinplaaDoor
open Go Go.RowKit
def tt : TypeId → Option TI
  | 2 => some { size := 1, bytes := 8, kind := .num .i64, zero := [.p (.int .i64 0)], eqs := none }
  | 3 => some { size := 1, bytes := 8, kind := .num .i64, zero := [.p (.int .i64 0)], eqs := none }
  | 4 => some { size := 1, bytes := 1, kind := .bool, zero := [.p (.bool false)], eqs := none }
  | 5 => some { size := 1, bytes := 1, kind := .num .u8, zero := [.p (.int .u8 0)], eqs := none }
  | 9 => some { size := 1, bytes := 16, kind := .str, zero := [.p (.str ⟨#[]⟩)], eqs := none }
  | 21 => some { size := 1, bytes := 4, kind := .num .i32, zero := [.p (.int .i32 0)], eqs := none }
  | 22 => some { size := 1, bytes := 24, kind := .slice 33 3 32, zero := [.full []], eqs := none }
  | 26 => some { size := 1, bytes := 8, kind := .num .i64, zero := [.p (.int .i64 0)], eqs := none }
  | 33 => some { size := 3, bytes := 32, kind := .fields [(0, 1, false), (1, 1, false), (2, 1, false)], zero := [.p (.int .i64 0), .p (.int .i64 0), .p (.str ⟨#[]⟩)], eqs := some [(0, .num .i64), (1, .num .i64), (2, .str)] }
  | 35 => some { size := 1, bytes := 24, kind := .slice 5 1 1, zero := [.full []], eqs := none }
  | 37 => some { size := 1, bytes := 8, kind := .num .u64, zero := [.p (.int .u64 0)], eqs := none }
  | 53 => some { size := 1, bytes := 8, kind := .one, zero := [.p .nilp], eqs := none }
  | 55 => some { size := 2, bytes := 32, kind := .fields [(0, 1, false), (1, 1, false)], zero := [.p .nilp, .full []], eqs := none }
  | 63 => some { size := 1, bytes := 24, kind := .slice 3 1 8, zero := [.full []], eqs := none }
  | 68 => some { size := 1, bytes := 8, kind := .one, zero := [.p .nilp], eqs := none }
  | 70 => some { size := 1, bytes := 8, kind := .one, zero := [.p .nilp], eqs := none }
  | 76 => some { size := 2, bytes := 2, kind := .fields [(0, 1, false), (1, 1, false)], zero := [.p (.int .u8 0), .p (.int .u8 0)], eqs := some [(0, .num .u8), (1, .num .u8)] }
  | 77 => some { size := 32, bytes := 32, kind := .array 16 2 true, zero := [.p (.int .u8 0), .p (.int .u8 0), .p (.int .u8 0), .p (.int .u8 0), .p (.int .u8 0), .p (.int .u8 0), .p (.int .u8 0), .p (.int .u8 0), .p (.int .u8 0), .p (.int .u8 0), .p (.int .u8 0), .p (.int .u8 0), .p (.int .u8 0), .p (.int .u8 0), .p (.int .u8 0), .p (.int .u8 0), .p (.int .u8 0), .p (.int .u8 0), .p (.int .u8 0), .p (.int .u8 0), .p (.int .u8 0), .p (.int .u8 0), .p (.int .u8 0), .p (.int .u8 0), .p (.int .u8 0), .p (.int .u8 0), .p (.int .u8 0), .p (.int .u8 0), .p (.int .u8 0), .p (.int .u8 0), .p (.int .u8 0), .p (.int .u8 0)], eqs := none }
  | 78 => some { size := 1, bytes := 4, kind := .num .u32, zero := [.p (.int .u32 0)], eqs := none }
  | _ => none
theorem ti2 : tinfo Tryd.prog 2 = some { size := 1, bytes := 8, kind := .num .i64, zero := [.p (.int .i64 0)], eqs := none } := by kernel_rfl
theorem ti3 : tinfo Tryd.prog 3 = some { size := 1, bytes := 8, kind := .num .i64, zero := [.p (.int .i64 0)], eqs := none } := by kernel_rfl
theorem ti4 : tinfo Tryd.prog 4 = some { size := 1, bytes := 1, kind := .bool, zero := [.p (.bool false)], eqs := none } := by kernel_rfl
theorem ti5 : tinfo Tryd.prog 5 = some { size := 1, bytes := 1, kind := .num .u8, zero := [.p (.int .u8 0)], eqs := none } := by kernel_rfl
theorem ti9 : tinfo Tryd.prog 9 = some { size := 1, bytes := 16, kind := .str, zero := [.p (.str ⟨#[]⟩)], eqs := none } := by kernel_rfl
theorem ti21 : tinfo Tryd.prog 21 = some { size := 1, bytes := 4, kind := .num .i32, zero := [.p (.int .i32 0)], eqs := none } := by kernel_rfl
theorem ti22 : tinfo Tryd.prog 22 = some { size := 1, bytes := 24, kind := .slice 33 3 32, zero := [.full []], eqs := none } := by kernel_rfl
theorem ti26 : tinfo Tryd.prog 26 = some { size := 1, bytes := 8, kind := .num .i64, zero := [.p (.int .i64 0)], eqs := none } := by kernel_rfl
theorem ti33 : tinfo Tryd.prog 33 = some { size := 3, bytes := 32, kind := .fields [(0, 1, false), (1, 1, false), (2, 1, false)], zero := [.p (.int .i64 0), .p (.int .i64 0), .p (.str ⟨#[]⟩)], eqs := some [(0, .num .i64), (1, .num .i64), (2, .str)] } := by kernel_rfl
theorem ti35 : tinfo Tryd.prog 35 = some { size := 1, bytes := 24, kind := .slice 5 1 1, zero := [.full []], eqs := none } := by kernel_rfl
theorem ti37 : tinfo Tryd.prog 37 = some { size := 1, bytes := 8, kind := .num .u64, zero := [.p (.int .u64 0)], eqs := none } := by kernel_rfl
theorem ti53 : tinfo Tryd.prog 53 = some { size := 1, bytes := 8, kind := .one, zero := [.p .nilp], eqs := none } := by kernel_rfl
theorem ti55 : tinfo Tryd.prog 55 = some { size := 2, bytes := 32, kind := .fields [(0, 1, false), (1, 1, false)], zero := [.p .nilp, .full []], eqs := none } := by kernel_rfl
theorem ti63 : tinfo Tryd.prog 63 = some { size := 1, bytes := 24, kind := .slice 3 1 8, zero := [.full []], eqs := none } := by kernel_rfl
theorem ti68 : tinfo Tryd.prog 68 = some { size := 1, bytes := 8, kind := .one, zero := [.p .nilp], eqs := none } := by kernel_rfl
theorem ti70 : tinfo Tryd.prog 70 = some { size := 1, bytes := 8, kind := .one, zero := [.p .nilp], eqs := none } := by kernel_rfl
theorem ti76 : tinfo Tryd.prog 76 = some { size := 2, bytes := 2, kind := .fields [(0, 1, false), (1, 1, false)], zero := [.p (.int .u8 0), .p (.int .u8 0)], eqs := some [(0, .num .u8), (1, .num .u8)] } := by kernel_rfl
theorem ti77 : tinfo Tryd.prog 77 = some { size := 32, bytes := 32, kind := .array 16 2 true, zero := [.p (.int .u8 0), .p (.int .u8 0), .p (.int .u8 0), .p (.int .u8 0), .p (.int .u8 0), .p (.int .u8 0), .p (.int .u8 0), .p (.int .u8 0), .p (.int .u8 0), .p (.int .u8 0), .p (.int .u8 0), .p (.int .u8 0), .p (.int .u8 0), .p (.int .u8 0), .p (.int .u8 0), .p (.int .u8 0), .p (.int .u8 0), .p (.int .u8 0), .p (.int .u8 0), .p (.int .u8 0), .p (.int .u8 0), .p (.int .u8 0), .p (.int .u8 0), .p (.int .u8 0), .p (.int .u8 0), .p (.int .u8 0), .p (.int .u8 0), .p (.int .u8 0), .p (.int .u8 0), .p (.int .u8 0), .p (.int .u8 0), .p (.int .u8 0)], eqs := none } := by kernel_rfl
theorem ti78 : tinfo Tryd.prog 78 = some { size := 1, bytes := 4, kind := .num .u32, zero := [.p (.int .u32 0)], eqs := none } := by kernel_rfl
set_option maxHeartbeats 2000000 in
theorem tt_ok : ∀ t ti, tt t = some ti → tinfo Tryd.prog t = some ti := by
  intro t ti h
  unfold tt at h
  split at h
  · exact ti2.trans h
  · exact ti3.trans h
  · exact ti4.trans h
  · exact ti5.trans h
  · exact ti9.trans h
  · exact ti21.trans h
  · exact ti22.trans h
  · exact ti26.trans h
  · exact ti33.trans h
  · exact ti35.trans h
  · exact ti37.trans h
  · exact ti53.trans h
  · exact ti55.trans h
  · exact ti63.trans h
  · exact ti68.trans h
  · exact ti70.trans h
  · exact ti76.trans h
  · exact ti77.trans h
  · exact ti78.trans h
  · cases h
theorem mixed : Tryd.prog.follows .mixedOrders = true := by kernel_rfl
theorem c2 : callable Tryd.prog 2 = true := by kernel_rfl
theorem c3 : callable Tryd.prog 3 = true := by kernel_rfl
theorem c4 : callable Tryd.prog 4 = true := by kernel_rfl
theorem c5 : callable Tryd.prog 5 = true := by kernel_rfl
theorem c6 : callable Tryd.prog 6 = true := by kernel_rfl
theorem c7 : callable Tryd.prog 7 = true := by kernel_rfl
theorem c8 : callable Tryd.prog 8 = true := by kernel_rfl
theorem c9 : callable Tryd.prog 9 = true := by kernel_rfl
theorem c10 : callable Tryd.prog 10 = true := by kernel_rfl
theorem c11 : callable Tryd.prog 11 = true := by kernel_rfl
theorem c12 : callable Tryd.prog 12 = true := by kernel_rfl
theorem c13 : callable Tryd.prog 13 = true := by kernel_rfl
theorem c14 : callable Tryd.prog 14 = true := by kernel_rfl
theorem c15 : callable Tryd.prog 15 = true := by kernel_rfl
theorem c16 : callable Tryd.prog 16 = true := by kernel_rfl
theorem c17 : callable Tryd.prog 17 = true := by kernel_rfl
theorem c18 : callable Tryd.prog 18 = true := by kernel_rfl
theorem c19 : callable Tryd.prog 19 = true := by kernel_rfl
theorem c20 : callable Tryd.prog 20 = true := by kernel_rfl
theorem c21 : callable Tryd.prog 21 = true := by kernel_rfl
theorem c22 : callable Tryd.prog 22 = true := by kernel_rfl
theorem c23 : callable Tryd.prog 23 = true := by kernel_rfl
theorem c24 : callable Tryd.prog 24 = true := by kernel_rfl
theorem c25 : callable Tryd.prog 25 = true := by kernel_rfl
theorem c26 : callable Tryd.prog 26 = true := by kernel_rfl
theorem c27 : callable Tryd.prog 27 = true := by kernel_rfl
theorem c28 : callable Tryd.prog 28 = true := by kernel_rfl
theorem c29 : callable Tryd.prog 29 = true := by kernel_rfl
theorem c30 : callable Tryd.prog 30 = true := by kernel_rfl
theorem c31 : callable Tryd.prog 31 = true := by kernel_rfl
theorem c32 : callable Tryd.prog 32 = true := by kernel_rfl
theorem c33 : callable Tryd.prog 33 = true := by kernel_rfl
theorem c34 : callable Tryd.prog 34 = true := by kernel_rfl
theorem c35 : callable Tryd.prog 35 = true := by kernel_rfl
theorem c36 : callable Tryd.prog 36 = true := by kernel_rfl
theorem c37 : callable Tryd.prog 37 = true := by kernel_rfl
theorem c38 : callable Tryd.prog 38 = true := by kernel_rfl
theorem c39 : callable Tryd.prog 39 = true := by kernel_rfl
theorem c40 : callable Tryd.prog 40 = true := by kernel_rfl
theorem c41 : callable Tryd.prog 41 = true := by kernel_rfl
theorem c42 : callable Tryd.prog 42 = true := by kernel_rfl
theorem c43 : callable Tryd.prog 43 = true := by kernel_rfl
theorem c45 : callable Tryd.prog 45 = true := by kernel_rfl
theorem c47 : callable Tryd.prog 47 = true := by kernel_rfl
theorem c48 : callable Tryd.prog 48 = true := by kernel_rfl
theorem c49 : callable Tryd.prog 49 = true := by kernel_rfl
theorem c54 : callable Tryd.prog 54 = true := by kernel_rfl
theorem c55 : callable Tryd.prog 55 = true := by kernel_rfl
theorem c56 : callable Tryd.prog 56 = true := by kernel_rfl
theorem c78 : callable Tryd.prog 78 = true := by kernel_rfl
end Go.Proofs.YtnhmnfokbinplaaDoor
