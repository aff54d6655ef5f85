/- Reckoning operations, lengths, slices of strings and lists, and all operations that only read, under one name: 'vop'. Own work; no condition. -/
import Derived.Test.YtaaocppaepnhbaaAbs3
namespace Go.Proofs.Ytaaocppaepnhbaa
open Go Go.RowKit

/-- Texts are the same · one is ahead of the other. -/
def sbeq (a b : ByteArray) : Bool := a.toList == b.toList
def sless (a b : ByteArray) : Bool := Op.bytesLess a.toList b.toList
def maxI : Int := IntKind.i64.max

theorem run_equal_bool {P : Program} {t : TypeId} (h : P.underlying t = some .bool) (w : World) (a b : Bool) : (Op.equal t (.bool a) (.bool b)).run P w = .ok (a == b) w := by
  have e : Op.maxDepth = 9999 + 1 := rfl
  rw [Op.equal, e, Op.equalIn]
  simp [run_underlying h]

theorem bopB {P : Program} {t : TypeId} (hu : P.underlying t = some .bool) (w : World) {xo yo : Operand} (a b : Bool) :
    (do eqGuard .eql t xo yo (.bool a) (.bool b); binOp .eql t (.bool a) (.bool b)).run P w = .ok (.bool (a == b)) w ∧
    (do eqGuard .neq t xo yo (.bool a) (.bool b); binOp .neq t (.bool a) (.bool b)).run P w = .ok (.bool (!(a == b))) w := by
  have h1 : ∀ op, (eqGuard op t xo yo (.bool a) (.bool b)).run P w = .ok () w := by intro op; cases op <;> simp [eqGuard]
  constructor
  · simp only [Sem.run_bind, h1, Result.andThen_ok]
    show (do pure (Value.bool (← Op.equal t (.bool a) (.bool b)))).run P w = _
    simp only [Sem.run_bind, run_equal_bool hu, Result.andThen_ok, Sem.run_pure]
  · simp only [Sem.run_bind, h1, Result.andThen_ok]
    show (do pure (Value.bool (!(← Op.equal t (.bool a) (.bool b))))).run P w = _
    simp only [Sem.run_bind, run_equal_bool hu, Result.andThen_ok, Sem.run_pure]

def bopI (op : BinOp) (k : IntKind) (a b : Int) : Option PV :=
  match op with
  | .shl => if b < 0 then none else some (.int k (k.wrap (a * 2 ^ (min b.toNat k.bits))))
  | .shr => if b < 0 then none else some (.int k (a.fdiv (2 ^ (min b.toNat k.bits))))
  | .add => some (.int k (k.wrap (a + b)))
  | .sub => some (.int k (k.wrap (a - b)))
  | .mul => some (.int k (k.wrap (a * b)))
  | .quo => if b = 0 then none else some (.int k (k.wrap (a.tdiv b)))
  | .rem => if b = 0 then none else some (.int k (a.tmod b))
  | .and => some (.int k (k.wrap (BitVec.ofInt k.bits a &&& BitVec.ofInt k.bits b).toNat))
  | .or => some (.int k (k.wrap (BitVec.ofInt k.bits a ||| BitVec.ofInt k.bits b).toNat))
  | .xor => some (.int k (k.wrap (BitVec.ofInt k.bits a ^^^ BitVec.ofInt k.bits b).toNat))
  | .andNot => some (.int k (k.wrap (BitVec.ofInt k.bits a &&& ~~~BitVec.ofInt k.bits b).toNat))
  | .eql => some (.bool (decide (a = b)))
  | .neq => some (.bool (!decide (a = b)))
  | .lss => some (.bool (decide (a < b)))
  | .leq => some (.bool (decide (a ≤ b)))
  | .gtr => some (.bool (decide (b < a)))
  | .geq => some (.bool (decide (b ≤ a)))

theorem bopI_ok {P : Program} {t : TypeId} {m : Mem} (w : World) {op : BinOp} {k k' : IntKind} (hk : k = k' ∨ op = .shl ∨ op = .shr) {a b : Int} {r : PV} (h : bopI op k a b = some r) :
    ∃ v, (binOp op t (.int k a) (.int k' b)).run P w = .ok v w ∧ RP m r v := by
  cases op <;> simp only [bopI] at h
  case shl => split at h <;> simp only [reduceCtorEq, Option.some.injEq] at h; rename_i hb; subst h; exact ⟨_, by simp only [binOp, Op.shift, hb, if_false]; rfl, .int _ _⟩
  case shr => split at h <;> simp only [reduceCtorEq, Option.some.injEq] at h; rename_i hb; subst h; exact ⟨_, by simp only [binOp, Op.shift, hb, if_false]; rfl, .int _ _⟩
  all_goals (have hk' : k = k' := by simpa using hk)
  all_goals subst hk'
  case quo => split at h <;> simp only [reduceCtorEq, Option.some.injEq] at h; rename_i hb; subst h; exact ⟨_, by simp only [binOp, ne_eq, not_true, if_false, Op.intDiv, hb]; rfl, .int _ _⟩
  case rem => split at h <;> simp only [reduceCtorEq, Option.some.injEq] at h; rename_i hb; subst h; exact ⟨_, by simp only [binOp, ne_eq, not_true, if_false, Op.intDiv, hb]; rfl, .int _ _⟩
  all_goals simp only [Option.some.injEq] at h
  all_goals subst h
  case eql => exact ⟨_, by simp only [binOp, ne_eq, not_true, if_false, Op.intCmp]; rfl, by rw [show (a == b) = decide (a = b) from rfl]; exact .bool _⟩
  case neq => exact ⟨_, by simp only [binOp, ne_eq, not_true, if_false, Op.intCmp]; rfl, by rw [show (a != b) = !decide (a = b) from rfl]; exact .bool _⟩
  case gtr => exact ⟨_, by simp only [binOp, ne_eq, not_true, if_false, Op.intCmp]; rfl, by rw [show (decide (a > b)) = decide (b < a) from rfl]; exact .bool _⟩
  case geq => exact ⟨_, by simp only [binOp, ne_eq, not_true, if_false, Op.intCmp]; rfl, by rw [show (decide (a ≥ b)) = decide (b ≤ a) from rfl]; exact .bool _⟩
  case lss => exact ⟨_, by simp only [binOp, ne_eq, not_true, if_false, Op.intCmp]; rfl, .bool _⟩
  case leq => exact ⟨_, by simp only [binOp, ne_eq, not_true, if_false, Op.intCmp]; rfl, .bool _⟩
  case add => exact ⟨_, by simp only [binOp, ne_eq, not_true, if_false, Op.intArith]; rfl, .int _ _⟩
  case sub => exact ⟨_, by simp only [binOp, ne_eq, not_true, if_false, Op.intArith]; rfl, .int _ _⟩
  case mul => exact ⟨_, by simp only [binOp, ne_eq, not_true, if_false, Op.intArith]; rfl, .int _ _⟩
  all_goals exact ⟨_, by simp only [binOp, ne_eq, not_true, if_false, Op.intBits]; rfl, .int _ _⟩

def bopS (op : BinOp) (a b : ByteArray) : Option PV :=
  match op with
  | .add => if maxI < ((a.size + b.size : Nat) : Int) then none else some (.str (a ++ b))
  | .eql => some (.bool (sbeq a b))
  | .neq => some (.bool (!sbeq a b))
  | .lss => some (.bool (sless a b))
  | .leq => some (.bool (sless a b || sbeq a b))
  | .gtr => some (.bool (!(sless a b || sbeq a b)))
  | .geq => some (.bool (!sless a b))
  | _ => none

theorem bopS_ok {P : Program} {t : TypeId} {m : Mem} (w : World) {op : BinOp} {a b : ByteArray} {r : PV} (h : bopS op a b = some r) :
    ∃ v, (binOp op t (.string a) (.string b)).run P w = .ok v w ∧ RP m r v := by
  cases op <;> simp only [bopS, reduceCtorEq] at h
  case add =>
    split at h <;> simp only [reduceCtorEq, Option.some.injEq] at h
    rename_i hb; subst h
    refine ⟨.string (a ++ b), ?_, .str _⟩
    simp only [maxI] at hb
    show (Op.stringOp .add a b).run P w = _
    simp only [Op.stringOp, gt_iff_lt, hb, if_false, Sem.run_pure]
  all_goals simp only [Option.some.injEq] at h
  all_goals subst h
  all_goals exact ⟨_, rfl, .bool _⟩

def bopV (tk : TK) (op : BinOp) : PV → PV → Option PV
  | .int k a, .int k' b => if k = k' ∨ op = .shl ∨ op = .shr then bopI op k a b else none
  | .str a, .str b => bopS op a b
  | .bool a, .bool b => match tk, op with
    | .bool, .eql => some (.bool (a == b))
    | .bool, .neq => some (.bool (!(a == b)))
    | _, _ => none
  | _, _ => none

theorem bopV_ok {P : Program} {t : TypeId} {ti : TI} (k : tinfo P t = some ti) {m : Mem} (w : World) {op : BinOp} {xo yo : Operand} {x y r : PV} {xv yv : Value} (rx : RP m x xv) (ry : RP m y yv)
    (h : bopV ti.kind op x y = some r) : ∃ v, (do eqGuard op t xo yo xv yv; binOp op t xv yv).run P w = .ok v w ∧ RP m r v := by
  obtain ⟨i, d, z, k⟩ := tinfo_ok k
  cases rx <;> cases ry <;> simp only [bopV, reduceCtorEq] at h
  case bool.bool a b =>
    have hd := k.kind
    split at h <;> simp only [reduceCtorEq, Option.some.injEq] at h
    all_goals
      rename_i hk
      subst h
      rw [hk] at hd
      cases d <;> simp only [tkind, reduceCtorEq] at hd
    · exact ⟨_, (bopB k.und w a b).1, .bool _⟩
    · exact ⟨_, (bopB k.und w a b).2, .bool _⟩
  case int.int k1 a k2 b =>
    have hg : (eqGuard op t xo yo (.int k1 a) (.int k2 b)).run P w = .ok () w := by
      cases op <;> simp [eqGuard]
    simp only [Sem.run_bind, hg, Result.andThen_ok]
    split at h
    · rename_i hk; exact bopI_ok w hk h
    · cases h
  case str.str a b =>
    have hg : (eqGuard op t xo yo (.string a) (.string b)).run P w = .ok () w := by
      cases op <;> simp [eqGuard]
    simp only [Sem.run_bind, hg, Result.andThen_ok]
    exact bopS_ok w h

def lenV (tk : TK) : AV → Option AV
  | .p (.str s) => match tk with | .str => some (.p (.int .i64 s.size)) | _ => none
  | .ms _ n => match tk with | .slice _ _ _ => some (.p (.int .i64 n)) | _ => none
  | .vec _ _ _ _ n => match tk with | .slice _ _ _ => some (.p (.int .i64 n)) | _ => none
  | .rvec _ _ n => match tk with | .slice _ _ _ => some (.p (.int .i64 n)) | _ => none
  | x => match tk, elemsV x with
    | .slice _ _ _, some l => some (.p (.int .i64 l.length))
    | _, _ => none

theorem RP.slice_len {m : Mem} {es : List (List PV)} {v : Value} (h : RP m (.sl es) v) : ∃ a cap, v = .slice a es.length cap := by
  cases h with
  | sl0 a cap => exact ⟨a, cap, rfl⟩
  | sl _ size b o len cap vs hlen => subst hlen; exact ⟨_, cap, rfl⟩

theorem lenV_ok {P : Program} {t ty : TypeId} {ti : TI} (k : tinfo P t = some ti) {G : Ghost} (w : World) {p x : AV} {pv : Value} (rp : RV G p pv)
    (h : lenV ti.kind p = some x) : ∃ v, (Builtin.len_ #[t] ty #[pv]).run P w = .ok v w ∧ RV G x v := by
  obtain ⟨i, d, z, k⟩ := tinfo_ok k
  have hd := k.kind
  unfold lenV at h
  split at h
  · split at h <;> simp only [reduceCtorEq, Option.some.injEq] at h
    rename_i hk; subst h
    rw [hk] at hd
    cases d <;> simp only [tkind, reduceCtorEq] at hd
    cases rp with | p hp => cases hp; exact ⟨_, by simp [Builtin.len_, k.run_und w]; rfl, .p (.int _ _)⟩
  · split at h <;> simp only [reduceCtorEq, Option.some.injEq] at h
    rename_i hk; subst h
    rw [hk] at hd
    cases d <;> simp only [tkind, reduceCtorEq] at hd
    cases rp with | ms ho hn hc => exact ⟨_, by simp [Builtin.len_, k.run_und w]; rfl, .p (.int _ _)⟩
  · split at h <;> simp only [reduceCtorEq, Option.some.injEq] at h
    rename_i hk; subst h
    rw [hk] at hd
    cases d <;> simp only [tkind, reduceCtorEq] at hd
    cases rp with | vec ho hg hs hv => obtain ⟨a, q, rfl, _⟩ := hs; exact ⟨_, by simp [Builtin.len_, k.run_und w]; rfl, .p (.int _ _)⟩
  · split at h <;> simp only [reduceCtorEq, Option.some.injEq] at h
    rename_i hk; subst h
    rw [hk] at hd
    cases d <;> simp only [tkind, reduceCtorEq] at hd
    cases rp with | rvec ho hg hs hv => obtain ⟨a, q, rfl⟩ := hs; exact ⟨_, by simp [Builtin.len_, k.run_und w]; rfl, .p (.int _ _)⟩
  · split at h <;> simp only [reduceCtorEq, Option.some.injEq] at h
    rename_i l hk hl; subst h
    rw [hk] at hd
    cases d <;> simp only [tkind, reduceCtorEq] at hd
    obtain ⟨a, cap, rfl⟩ := (elemsV_ok rp hl).slice_len
    exact ⟨_, by simp [Builtin.len_, k.run_und w]; rfl, .p (.int _ _)⟩

/-- An index of a text. -/
def ixV (ti : TI) : AV → AV → Option AV
  | .p (.str s), .p (.int _ n) => match ti.kind with
    | .str => if 0 ≤ n then (match s[n.toNat]? with | some b => some (.p (.int .u8 b.toNat)) | none => none) else none
    | _ => none
  | .agg cs, .p (.int _ n) => match ti.kind with
    | .array len es false => if 0 ≤ n ∧ n < len ∧ es = 1 then cs[n.toNat]? else none
    | _ => none
  | _, _ => none

theorem run_isAggB {P : Program} {t : TypeId} (h : isAggB P t = false) (w : World) : (isAgg t).run P w = .ok false w := by
  unfold isAggB at h
  cases hu : P.underlying t with
  | none => rw [hu] at h; cases h
  | some d =>
    rw [hu] at h
    simp only [isAgg, Sem.run_bind, run_underlying hu, Result.andThen_ok]
    cases d <;> first | rfl | cases h

theorem ixV_ok {P : Program} {t : TypeId} {ti : TI} (k : tinfo P t = some ti) {G : Ghost} (w : World) {p i x : AV} {pv iv : Value} (rp : RV G p pv) (ri : RV G i iv)
    (h : ixV ti p i = some x) : ∃ v, (Instr.index t pv iv).run P w = .ok v w ∧ RV G x v := by
  obtain ⟨i, d, z, k⟩ := tinfo_ok k
  have hd := k.kind
  unfold ixV at h
  split at h
  · rename_i s ik n
    split at h <;> try (cases h; done)
    rename_i hk
    rw [hk] at hd
    cases d <;> simp only [tkind, reduceCtorEq] at hd
    split at h <;> try (cases h; done)
    rename_i hn
    split at h <;> simp only [reduceCtorEq, Option.some.injEq] at h
    rename_i c hc; subst h
    cases rp with
    | p hp =>
    cases hp
    cases ri with
    | p hi =>
    cases hi
    refine ⟨_, ?_, .p (.int _ _)⟩
    simp [Instr.index, asIntOf, k.run_und w, hn, hc]
  · rename_i cs ik n
    split at h <;> try (cases h; done)
    rename_i len es hk
    rw [hk] at hd
    cases d <;> simp only [tkind, reduceCtorEq, TK.array.injEq] at hd
    obtain ⟨rfl, rfl, hag⟩ := hd
    split at h <;> try (cases h; done)
    rename_i hc
    cases rp with
    | @agg _ vs hl hr =>
    cases ri with
    | p hi =>
    cases hi
    have hlt := (List.getElem?_eq_some_iff.1 h).1
    refine ⟨vs[n.toNat]'(by omega), ?_, hr _ _ _ h (Array.getElem?_eq_getElem (by omega))⟩
    simp [Instr.index, asIntOf, k.run_und w, hc.1, hc.2.1, part, run_isAggB hag, run_sizeOf' (show P.cellsOf _ ≠ 0 by rw [hc.2.2]; decide), hc.2.2, Array.getElem?_eq_getElem (show n.toNat < vs.size by omega)]
  · cases h

end Go.Proofs.Ytaaocppaepnhbaa
