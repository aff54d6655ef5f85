/- What the arguments' types say of their cells; vec: From, in both texts; VecMakes: SameVec of a column and itself; the law; tallyref: numbers as lists of digits: made, trimmed, a digit; tallyref: numbers as lists of digits: without zeros at the end, the order of sizes, as a value; tallyref: numbers as lists of digits: the order of sizes, as a value; tallyref: numbers as lists of digits: as a value; sums; tallyref: numbers as lists of digits: sums; tallyref: numbers as lists of digits: plus; tallyref: numbers as lists of digits: products; tallyref: numbers as lists of digits: times; tallyref: numbers as lists of digits: divided; tallyref: numbers as lists of digits: divided, the walk. Own work; no condition. -/
import Derived.Test.YtnhmnfokbinplaaGreatTy
import Derived.Test.YtnhmnfokbinplaaGreatAbs21
import Derived.Test.YtnhmnfokbinplaaGreatRd
import Derived.Test.YtnhmnfokbinplaaGreatSa43
import Derived.Test.YtnhmnfokbinplaaGreatAbs23
import Derived.Test.YtnhmnfokbinplaaGreatSa41
import Derived.Test.YtnhmnfokbinplaaGreatAbs26
import Derived.Test.YtnhmnfokbinplaaGreatAbsF
namespace Go.Proofs.YtnhmnfokbinplaaGreat
open Go Go.RowKit
set_option maxRecDepth 100000

def Val.cells (v : Val) : List PV := [.int .i64 v.k, .int .i64 v.n, .str v.s]
def i64c (x : Int) : List PV := [.int .i64 x]
def boolc (x : Bool) : List PV := [.bool x]
def strc (x : ByteArray) : List PV := [.str x]
theorem cells_len (v : Val) : v.cells.length = 3 := rfl
theorem i64c_len (x : Int) : (i64c x).length = 1 := rfl
theorem boolc_len (x : Bool) : (boolc x).length = 1 := rfl
theorem strc_len (x : ByteArray) : (strc x).length = 1 := rfl
/-- What is known of a value that came in. -/
def Val.ok (v : Val) : Prop := (Lit.int .i64 v.k).wf = true ∧ (Lit.int .i64 v.n).wf = true ∧ v.s.size ≤ reachBytes

theorem cells25 : Tryz.prog.cellsOf 23 = 3 := by kernel_rfl
theorem cells2 : Tryz.prog.cellsOf 2 = 1 := by kernel_rfl
theorem cells3 : Tryz.prog.cellsOf 3 = 1 := by kernel_rfl
theorem cells9 : Tryz.prog.cellsOf 9 = 1 := by kernel_rfl
/-- A value's cells. -/
theorem cellsVal {n : Nat} {cs : List PV} (h : Fits Tryz.prog n 23 cs) : ∃ k m s, cs = [.int .i64 k, .int .i64 m, .str s] ∧ (Lit.int .i64 k).wf = true ∧ (Lit.int .i64 m).wf = true ∧ s.size ≤ reachBytes := by
  obtain ⟨m, rfl, hl, hf⟩ := h.struct Tryz.underlying23
  rw [cells25] at hl
  obtain ⟨a, b, c, rfl⟩ : ∃ a b c, cs = [a, b, c] := by
    match cs, hl with
    | [a, b, c], _ => exact ⟨a, b, c, rfl⟩
  have h0 : Fits Tryz.prog m 3 (([a, b, c].drop 0).take (Tryz.prog.cellsOf 3)) := hf 0 _ rfl
  have h1 : Fits Tryz.prog m 2 (([a, b, c].drop 1).take (Tryz.prog.cellsOf 2)) := hf 1 _ rfl
  have h2 : Fits Tryz.prog m 9 (([a, b, c].drop 2).take (Tryz.prog.cellsOf 9)) := hf 2 _ rfl
  rw [cells3] at h0
  rw [cells2] at h1
  rw [cells9] at h2
  have h0 : Fits Tryz.prog m 3 [a] := h0
  have h1 : Fits Tryz.prog m 2 [b] := h1
  have h2 : Fits Tryz.prog m 9 [c] := h2
  obtain ⟨k, e0, w0⟩ := h0.int Tryz.underlying3
  obtain ⟨v, e1, w1⟩ := h1.int Tryz.underlying2
  obtain ⟨s, e2, w2⟩ := h2.str Tryz.underlying9
  simp only [List.cons.injEq, and_true] at e0 e1 e2
  subst e0 e1 e2
  exact ⟨k, v, s, rfl, w0, w1, w2⟩
theorem fits25 {n : Nat} {x : PV} (h : FitsA Tryz.prog n 23 x) : ∃ k m s, x = .agg [.int .i64 k, .int .i64 m, .str s] ∧ (Lit.int .i64 k).wf = true ∧ (Lit.int .i64 m).wf = true ∧ s.size ≤ reachBytes := by
  obtain ⟨cs, rfl, g⟩ := h.agg Tryz.underlying23
  obtain ⟨k, m, s, rfl, w⟩ := cellsVal g
  exact ⟨k, m, s, rfl, w⟩


theorem cellsV {n : Nat} {cs : List PV} (h : Fits Tryz.prog n 23 cs) : ∃ v : Val, v.cells = cs ∧ v.ok := by
  obtain ⟨k, m, s, rfl, w⟩ := cellsVal h
  exact ⟨⟨k, m, s⟩, rfl, w⟩

/-- Lists of elements that are told by values of another type. -/
theorem elems_of {α : Type} {enc : α → List PV} {ok : α → Prop} : ∀ {es : List (List PV)}, (∀ x, x ∈ es → ∃ v, enc v = x ∧ ok v) → ∃ l : List α, l.map enc = es ∧ ∀ v, v ∈ l → ok v := by
  intro es
  induction es with
  | nil => intro _; exact ⟨[], rfl, fun v h => by simp at h⟩
  | cons e es ih =>
    intro h
    obtain ⟨v, hv, ho⟩ := h e (by simp)
    obtain ⟨l, hl, hlo⟩ := ih (fun x hx => h x (by simp [hx]))
    exact ⟨v :: l, by simp [hv, hl], fun u hu => by
      rcases List.mem_cons.1 hu with e | e
      · subst e; exact ho
      · exact hlo u e⟩

theorem bytes25 : Tryz.prog.bytesOf 23 = 32 := by kernel_rfl
/-- A row of values. -/
theorem fits29 {n : Nat} {x : PV} (h : FitsA Tryz.prog n 27 x) : ∃ l : List Val, x = .sl (l.map Val.cells) ∧ l.length * 32 ≤ 140737488351232 ∧ ∀ v, v ∈ l → v.ok := by
  obtain ⟨m, es, rfl, h1, ⟨h2, h3⟩, h4⟩ := (h.one Tryz.underlying27 rfl).slice Tryz.underlying27
  simp only [List.cons.injEq, and_true] at h1
  subst h1
  obtain ⟨l, rfl, hl⟩ := elems_of (fun x hx => cellsV (h4 x hx).2)
  rw [bytes25, List.length_map] at h3
  exact ⟨l, rfl, h3, hl⟩
theorem fits3 {n : Nat} {x : PV} (h : FitsA Tryz.prog n 3 x) : ∃ v : Int, x = .int .i64 v ∧ (Lit.int .i64 v).wf = true := by
  obtain ⟨v, e, w⟩ := (h.one Tryz.underlying3 rfl).int Tryz.underlying3
  simp only [List.cons.injEq, and_true] at e
  exact ⟨v, e, w⟩
theorem fits2 {n : Nat} {x : PV} (h : FitsA Tryz.prog n 2 x) : ∃ v : Int, x = .int .i64 v ∧ (Lit.int .i64 v).wf = true := by
  obtain ⟨v, e, w⟩ := (h.one Tryz.underlying2 rfl).int Tryz.underlying2
  simp only [List.cons.injEq, and_true] at e
  exact ⟨v, e, w⟩
theorem fits9 {n : Nat} {x : PV} (h : FitsA Tryz.prog n 9 x) : ∃ v : ByteArray, x = .str v ∧ v.size ≤ reachBytes := by
  obtain ⟨v, e, w⟩ := (h.one Tryz.underlying9 rfl).str Tryz.underlying9
  simp only [List.cons.injEq, and_true] at e
  exact ⟨v, e, w⟩
end Go.Proofs.YtnhmnfokbinplaaGreat

namespace Go.Proofs.YtnhmnfokbinplaaGreat
open Go Go.RowKit
set_option maxRecDepth 100000
set_option linter.unusedSimpArgs false
set_option linter.unusedVariables false

structure Vec where
  kind : Int
  null : List Bool
  ns : List Int
  ss : List ByteArray
def Vec.enc (v : Vec) : PV := .agg [.int .i64 v.kind, .sl (v.null.map boolc), .sl (v.ns.map i64c), .sl (v.ss.map strc)]
def Vec.zero : Vec := ⟨0, [], [], []⟩

def nullsOf (p : List Val) : List Bool := p.map fun v => decide ((clean v).k = 0)
def numsOf (kind : Int) (p : List Val) : List Int := if kind = 1 then p.map fun v => (clean v).n else []
def textsOf (kind : Int) (p : List Val) : List ByteArray := if kind = 1 then [] else p.map fun v => (clean v).s
def bigs (p : List Val) : Bool := p.any fun v => decide ((1000 : Int) < ((clean v).s.size : Int))
def kinds (kind : Int) (p : List Val) : Bool := p.all fun v => decide ((clean v).k = 0) || decide ((clean v).k = kind)

section
variable {P : Program} {cp : FuncId → List PV → (CR → Prop) → Prop} {cc : FuncId → List AV → List AObj → (AV → List AObj → Prop) → Prop} {f : FuncId} {args : List PV} {aargs : List AV} {H : List AObj}
end

theorem num_r (n : Int) : PCall Tryz.prog 82 [.int .i64 n] fun r => r = [(num n).enc] := by
  refine PCall.x (nt := 5) (res := [.cell 2 23]) mixed tt_ok [] Tryz.func82 rfl rfl rfl c82 (Nat.le_of_ble_eq_true rfl) ?_
  intro cp cc lp Q' hcp hcc hlp hQ
  repeat' (first
    | (with_reducible refine Nm.mk ?_; intro z hz)
    | (with_reducible refine IfB.mk ?_ ?_ <;> (intro h; cases h))
    | (with_reducible refine Two.l ?_; refine Asm.mk ?_ ?_; focus (decide +kernel))
    | (with_reducible refine Two.r ?_)
    | (with_reducible refine Asm.mk ?_ ?_; focus (first | kernel_rfl | decide))
    | (with_reducible refine Asm.mk2 ?_ ?_)
    | ((fail_if_success (with_reducible first | refine hQ _ ?_ | refine Side.mk ?_ | refine isCP hcp ?_ | refine isCC hcc ?_ | refine isLP hlp ?_ | refine Ix.mk ?_ | refine SIx.mk ?_ | refine SEx.mk ?_ | refine EIx.mk ?_ | refine RIx.mk ?_ | show False | refine hR ?_ _ ?_ ?_ ?_ ?_ ?_ | refine hR2 ?_ _ ?_ ?_ ?_ ?_ ?_)); cbv))
  all_goals (refine hQ _ ?_; clear hQ hcp hcc hlp; subst_vars; simp_all [num, Val.enc])
def str (s : ByteArray) : Val := ⟨2, 0, s⟩
theorem str_r (s : ByteArray) : PCall Tryz.prog 96 [.str s] fun r => r = [(str s).enc] := by
  refine PCall.x (nt := 5) (res := [.cell 2 23]) mixed tt_ok [] Tryz.func96 rfl rfl rfl c96 (Nat.le_of_ble_eq_true rfl) ?_
  intro cp cc lp Q' hcp hcc hlp hQ
  repeat' (first
    | (with_reducible refine Nm.mk ?_; intro z hz)
    | (with_reducible refine IfB.mk ?_ ?_ <;> (intro h; cases h))
    | (with_reducible refine Two.l ?_; refine Asm.mk ?_ ?_; focus (decide +kernel))
    | (with_reducible refine Two.r ?_)
    | (with_reducible refine Asm.mk ?_ ?_; focus (first | kernel_rfl | decide))
    | (with_reducible refine Asm.mk2 ?_ ?_)
    | ((fail_if_success (with_reducible first | refine hQ _ ?_ | refine Side.mk ?_ | refine isCP hcp ?_ | refine isCC hcc ?_ | refine isLP hlp ?_ | refine Ix.mk ?_ | refine SIx.mk ?_ | refine SEx.mk ?_ | refine EIx.mk ?_ | refine RIx.mk ?_ | show False | refine hR ?_ _ ?_ ?_ ?_ ?_ ?_ | refine hR2 ?_ _ ?_ ?_ ?_ ?_ ?_)); cbv))
  all_goals (refine hQ _ ?_; clear hQ hcp hcc hlp; subst_vars; simp_all [str, Val.enc])
theorem none_r : PCall Tryz.prog 35 [] fun r => r = [Val.zero.enc] := by
  refine PCall.x (nt := 2) (res := [.cell 0 23]) mixed tt_ok [] Tryz.func35 rfl rfl rfl c35 (Nat.le_of_ble_eq_true rfl) ?_
  intro cp cc lp Q' hcp hcc hlp hQ
  repeat' (first
    | (with_reducible refine Nm.mk ?_; intro z hz)
    | (with_reducible refine IfB.mk ?_ ?_ <;> (intro h; cases h))
    | (with_reducible refine Two.l ?_; refine Asm.mk ?_ ?_; focus (decide +kernel))
    | (with_reducible refine Two.r ?_)
    | (with_reducible refine Asm.mk ?_ ?_; focus (first | kernel_rfl | decide))
    | (with_reducible refine Asm.mk2 ?_ ?_)
    | ((fail_if_success (with_reducible first | refine hQ _ ?_ | refine Side.mk ?_ | refine isCP hcp ?_ | refine isCC hcc ?_ | refine isLP hlp ?_ | refine Ix.mk ?_ | refine SIx.mk ?_ | refine SEx.mk ?_ | refine EIx.mk ?_ | refine RIx.mk ?_ | show False | refine hR ?_ _ ?_ ?_ ?_ ?_ ?_ | refine hR2 ?_ _ ?_ ?_ ?_ ?_ ?_)); cbv))
  all_goals (refine hQ _ ?_; clear hQ hcp hcc hlp; subst_vars; simp_all [Val.zero, Val.enc])
theorem rclean_c (k n : Int) (s : ByteArray) : PCall Tryz.prog 59 [.agg [.int .i64 k, .int .i64 n, .str s]] fun r => r = [(clean ⟨k, n, s⟩).enc] := by
  refine PCall.x (nt := 16) (res := [.cell 2 23]) mixed tt_ok [] Tryz.func59 rfl rfl rfl c59 (Nat.le_of_ble_eq_true rfl) ?_
  intro cp cc lp Q' hcp hcc hlp hQ
  repeat' (first
    | (with_reducible refine Nm.mk ?_; intro z hz)
    | (with_reducible refine IfB.mk ?_ ?_ <;> (intro h; cases h))
    | (with_reducible refine Two.l ?_; refine Asm.mk ?_ ?_; focus (decide +kernel))
    | (with_reducible refine Two.r ?_)
    | (with_reducible refine Asm.mk ?_ ?_; focus (first | kernel_rfl | decide))
    | (with_reducible refine isCP hcp ?_; first | (refine vP hcp (num_r _) ?_; intro v hv) | (refine vP hcp (str_r _) ?_; intro v hv) | (refine vP hcp (none_r) ?_; intro v hv))
    | (with_reducible refine isCC hcc ?_; first | (refine vA hcc (num_r _) rfl ?_; intro v hv) | (refine vA hcc (str_r _) rfl ?_; intro v hv) | (refine vA hcc (none_r) rfl ?_; intro v hv))
    | (with_reducible refine Asm.mk2 ?_ ?_)
    | ((fail_if_success (with_reducible first | refine hQ _ ?_ | refine Side.mk ?_ | refine isCP hcp ?_ | refine isCC hcc ?_ | refine isLP hlp ?_ | refine Ix.mk ?_ | refine SIx.mk ?_ | refine SEx.mk ?_ | refine EIx.mk ?_ | refine RIx.mk ?_ | show False | refine hR ?_ _ ?_ ?_ ?_ ?_ ?_ | refine hR2 ?_ _ ?_ ?_ ?_ ?_ ?_)); cbv))
  all_goals (refine hQ _ ?_; clear hQ hcp hcc hlp; subst_vars; simp_all [clean, num, str, Val.enc, Val.zero])

/-- What a round knows. -/
structure FromOk (kind : Int) (l p : List Val) (k : Int) (b : Bool) (N0 : List (List PV)) (m0 : Nat) (N1 : List (List PV)) (m1 : Nat) (N2 : List (List PV)) (m2 : Nat) : Prop where
  pre : ∃ r, l = p ++ r
  k : k = (p.length : Int)
  b : bigs p = b
  f : kinds kind p = true
  n0 : (nullsOf p).map boolc = N0
  c0 : N0.length = m0
  n1 : (numsOf kind p).map i64c = N1
  c1 : N1.length = m1
  n2 : (textsOf kind p).map strc = N2
  c2 : N2.length = m2

theorem FromOk.at_ {kind : Int} {l p : List Val} {k : Int} {b : Bool} {N0 : List (List PV)} {m0 : Nat} {N1 : List (List PV)} {m1 : Nat} {N2 : List (List PV)} {m2 : Nat} (h : FromOk kind l p k b N0 m0 N1 m1 N2 m2) {x : Val} (hx : l[k.toNat]? = some x) : ∃ r, l = p ++ x :: r := by
  obtain ⟨r, rfl⟩ := h.pre
  rw [h.k, Int.toNat_natCast, List.getElem?_append_right (Nat.le_refl _), Nat.sub_self] at hx
  cases r with
  | nil => simp at hx
  | cons y r => simp at hx; subst hx; exact ⟨r, rfl⟩

end Go.Proofs.YtnhmnfokbinplaaGreat

namespace Go.Proofs.YtnhmnfokbinplaaGreat
open Go Go.RowKit
set_option maxRecDepth 100000
set_option linter.unusedSimpArgs false
set_option linter.unusedVariables false

theorem num_c (n : Int) : PCall Tryz.prog 8 [.int .i64 n] fun r => r = [.int .i64 n] := by
  refine PCall.x (nt := 4) (res := [.tmp 2]) mixed tt_ok [] Tryz.func8 rfl rfl rfl c8 (Nat.le_of_ble_eq_true rfl) ?_
  intro cp cc lp Q' hcp hcc hlp hQ
  repeat' (first
    | (with_reducible refine Nm.mk ?_; intro z hz)
    | (with_reducible refine IfB.mk ?_ ?_ <;> (intro h; cases h))
    | (with_reducible refine Two.l ?_; refine Asm.mk ?_ ?_; focus (decide +kernel))
    | (with_reducible refine Two.r ?_)
    | (with_reducible refine Asm.mk ?_ ?_; focus (first | kernel_rfl | decide))
    | (with_reducible refine Asm.mk2 ?_ ?_)
    | ((fail_if_success (with_reducible first | refine hQ _ ?_ | refine Side.mk ?_ | refine isCP hcp ?_ | refine isCC hcc ?_ | refine isLP hlp ?_ | refine Ix.mk ?_ | refine SIx.mk ?_ | refine SEx.mk ?_ | refine EIx.mk ?_ | refine RIx.mk ?_ | show False | refine hR ?_ _ ?_ ?_ ?_ ?_ ?_ | refine hR2 ?_ _ ?_ ?_ ?_ ?_ ?_)); cbv))
  all_goals (refine hQ _ ?_; clear hQ hcp hcc hlp; subst_vars; simp_all [])

theorem maxLen_eq : maxLen = 9223372036854775807 := rfl

end Go.Proofs.YtnhmnfokbinplaaGreat

namespace Go.Proofs.YtnhmnfokbinplaaGreat
open Go Go.RowKit
set_option maxRecDepth 100000
set_option linter.unusedSimpArgs false
set_option linter.unusedVariables false

def u32c (x : Int) : List PV := [.int .u32 x]
theorem u32c_len (x : Int) : (u32c x).length = 1 := rfl
theorem ok_u32 (l : List Int) : okEs 1 (l.map u32c) = true := by
  simp only [okEs, List.all_map, List.all_eq_true]; intro e _; rfl
/-- A number's parts. -/
def longD (z : Int) : List (List PV) := (dig (uabs z)).map u32c
def longZ (z : Int) : List PV := [.bool (decide (z < 0)), .sl (longD z)]
def sgn (m : Bool) (v : Int) : Int := if m = true then -v else v

theorem and16u (a : Int) (h : 0 ≤ a ∧ a < 18446744073709551616) : IntKind.u64.wrap ((BitVec.ofInt IntKind.u64.bits a &&& BitVec.ofInt IntKind.u64.bits 65535).toNat : Int) = a % 65536 := by
  obtain ⟨n, rfl⟩ := Int.eq_ofNat_of_zero_le h.1
  have e : (BitVec.ofInt IntKind.u64.bits (n : Int) &&& BitVec.ofInt IntKind.u64.bits 65535).toNat = n % 65536 := by
    have hb : IntKind.u64.bits = 64 := rfl
    rw [hb]
    have hn : n < 2 ^ 64 := by omega
    rw [BitVec.toNat_and]
    have e1 : (BitVec.ofInt 64 (n : Int)).toNat = n := by simp [BitVec.toNat_ofInt]; omega
    have e2 : (BitVec.ofInt 64 65535).toNat = 2 ^ 16 - 1 := by decide
    rw [e1, e2, Nat.and_two_pow_sub_one_eq_mod]
  rw [e, wrap_u]
  omega
theorem and16v (a : Int) (h : 0 ≤ a ∧ a < 4294967296) : IntKind.u32.wrap ((BitVec.ofInt IntKind.u32.bits a &&& BitVec.ofInt IntKind.u32.bits 65535).toNat : Int) = a % 65536 := by
  obtain ⟨n, rfl⟩ := Int.eq_ofNat_of_zero_le h.1
  have e : (BitVec.ofInt IntKind.u32.bits (n : Int) &&& BitVec.ofInt IntKind.u32.bits 65535).toNat = n % 65536 := by
    have hb : IntKind.u32.bits = 32 := rfl
    rw [hb]
    have hn : n < 2 ^ 32 := by omega
    rw [BitVec.toNat_and]
    have e1 : (BitVec.ofInt 32 (n : Int)).toNat = n := by simp [BitVec.toNat_ofInt]; omega
    have e2 : (BitVec.ofInt 32 65535).toNat = 2 ^ 16 - 1 := by decide
    rw [e1, e2, Nat.and_two_pow_sub_one_eq_mod]
  rw [e, IntWalk.u32_in _ (by omega)]
  omega
theorem shr16u (a : Int) : a.fdiv (2 ^ (min (16 : Int).toNat IntKind.u64.bits)) = a / 65536 := by
  have : (2 : Int) ^ (min (16 : Int).toNat IntKind.u64.bits) = 65536 := by decide
  rw [this, Int.fdiv_eq_ediv_of_nonneg _ (by decide)]
theorem shr16v (a : Int) : a.fdiv (2 ^ (min (16 : Int).toNat IntKind.u32.bits)) = a / 65536 := by
  have : (2 : Int) ^ (min (16 : Int).toNat IntKind.u32.bits) = 65536 := by decide
  rw [this, Int.fdiv_eq_ediv_of_nonneg _ (by decide)]

theorem digit_c (m : Bool) (d : List Int) (L : List (List PV)) (hL : d.map u32c = L) (i : Int) (h0 : 0 ≤ i) : PCall Tryz.prog 126 [.agg [.bool m, .sl L], .int .i64 i] fun r => r = [.int .u32 ((d[i.toNat]?).getD 0)] := by
  have hl : L.length = d.length := by rw [← hL]; simp
  have hk : ∀ z : Int, (L.length : Int) = z → decide (i < z) = true → i < d.length := by intro z h g; simp only [decide_eq_true_eq] at g; omega
  have hn : ∀ z : Int, (L.length : Int) = z → decide (i < z) = false → (d[i.toNat]?).getD 0 = 0 := by
    intro z h g; simp only [decide_eq_false_iff_not] at g; rw [List.getElem?_eq_none (by omega)]; rfl
  refine PCall.x (nt := 15) (res := [.tmp 4]) mixed tt_ok [] Tryz.func126 rfl rfl rfl c126 (Nat.le_of_ble_eq_true rfl) ?_
  intro cp cc lp Q' hcp hcc hlp hQ
  repeat' (first
    | (with_reducible refine Nm.mk ?_; intro z hz)
    | (with_reducible refine IfB.mk ?_ ?_ <;> (intro h; cases h))
    | (with_reducible refine Two.l ?_; refine Asm.mk ?_ ?_; focus (decide +kernel))
    | (with_reducible refine Two.r ?_)
    | (with_reducible refine Asm.mk ?_ ?_; focus kernel_rfl)
    | (with_reducible refine Ix.map hL u32c_len (by decide) h0 (hk _ (by assumption) (by assumption)) ?_; intro x hx)
    | (with_reducible refine Asm.mk2 ?_ ?_)
    | ((fail_if_success (with_reducible first | refine hQ _ ?_ | refine Side.mk ?_ | refine isCP hcp ?_ | refine isCC hcc ?_ | refine isLP hlp ?_ | refine Ix.mk ?_ | refine SIx.mk ?_ | refine SEx.mk ?_ | refine EIx.mk ?_ | refine RIx.mk ?_ | show False | refine hR ?_ _ ?_ ?_ ?_ ?_ ?_ | refine hR2 ?_ _ ?_ ?_ ?_ ?_ ?_)); cbv))
  · refine hQ _ ?_
    rw [hx]; rfl
  · refine hQ _ ?_
    rw [hn _ (by assumption) (by assumption)]

theorem dig4 {u : Int} (h : u < 18446744073709551616) : (dig u).length ≤ 4 := dig_len 4 u (by omega)
structure OfOk (n u : Int) (L : List (List PV)) (m : Nat) : Prop where
  u0 : 0 ≤ u
  u1 : u < 18446744073709551616
  eq : L ++ (dig u).map u32c = longD n
  ok : okEs 1 L = true
  len : L.length = m
theorem OfOk.len4 {n u : Int} {L : List (List PV)} {m : Nat} (h : OfOk n u L m) (hn : -9223372036854775808 ≤ n ∧ n ≤ 9223372036854775807) : L.length + (dig u).length ≤ 4 := by
  have e := congrArg List.length h.eq
  simp only [List.length_append, List.length_map, longD] at e
  have := dig4 (u := uabs n) (by have := uabs_le hn; omega)
  omega

set_option maxHeartbeats 1000000 in
theorem longOf_c (n : Int) (hn : -9223372036854775808 ≤ n ∧ n ≤ 9223372036854775807) : PCall Tryz.prog 101 [.int .i64 n] fun r => r = [.agg (longZ n)] := by
  have hn' := hn
  have hu := uabs_le hn
  have hneg : decide (n < 0) = true → ∀ a b : Int, IntKind.u64.wrap n = a → IntKind.u64.wrap (0 - a) = b → b = uabs n := by
    intro h a b ha hb
    simp only [decide_eq_true_eq] at h
    rw [wrap_u] at ha hb
    unfold uabs
    rw [if_pos h]; omega
  have hpos : decide (n < 0) = false → ∀ a : Int, IntKind.u64.wrap n = a → a = uabs n := by
    intro h a ha
    simp only [decide_eq_false_iff_not] at h
    rw [wrap_u] at ha
    unfold uabs
    rw [if_neg h]; omega
  clear hn
  refine PCall.x (nt := 27) (res := [.cell 2 98]) mixed tt_ok [] Tryz.func101 rfl rfl rfl c101 (Nat.le_of_ble_eq_true rfl) ?_
  intro cp cc lp Q' hcp hcc hlp hQ
  repeat' (first
    | (with_reducible refine Nm.mk ?_; intro z hz)
    | (with_reducible refine IfB.mk ?_ ?_ <;> (intro h; cases h))
    | (with_reducible refine Two.l ?_; refine Asm.mk ?_ ?_; focus (decide +kernel))
    | (with_reducible refine Two.r ?_)
    | (with_reducible refine Asm.mk ?_ ?_; focus (first | kernel_rfl | decide))
    | (with_reducible refine Asm.mk2 ?_ ?_)
    | ((fail_if_success (with_reducible first | refine hQ _ ?_ | refine Side.mk ?_ | refine isCP hcp ?_ | refine isCC hcc ?_ | refine isLP hlp ?_ | refine Ix.mk ?_ | refine SIx.mk ?_ | refine SEx.mk ?_ | refine EIx.mk ?_ | refine RIx.mk ?_ | show False | refine hR ?_ _ ?_ ?_ ?_ ?_ ?_ | refine hR2 ?_ _ ?_ ?_ ?_ ?_ ?_)); cbv))
  · obtain ⟨u0, hu0⟩ : ∃ u0, z = u0 := ⟨_, rfl⟩
    have hst : u0 = uabs n := by
      rw [← hu0]
      first
        | exact hneg (by assumption) _ _ (by assumption) (by assumption)
        | exact hpos (by assumption) _ (by assumption)
    have hsg : decide (n < 0) = true := by assumption
    refine mintX hlp 1 1 1 rfl rfl ?_
    refine loopT (ι := Int × List (List PV) × Nat) mixed tt_ok hcp hcc hlp [2, 4] (fun p => [(3, .p (.int .u64 p.1))])
      (fun p => [.cells [.p (.bool false), .full []], .cells [.p (.bool true), .tok 2 p.2.1], .spare p.2.2 1])
      (fun p => OfOk n p.1 p.2.1 p.2.2) (fun p => p.1.toNat) (z, [], 0) 3 (fun _ => rfl) ⟨by show 0 ≤ z; omega, by show z < _; omega, by show [] ++ _ = _; rw [hu0, hst]; rfl, rfl, rfl⟩ ⟨rfl, trivial⟩ rfl ?_
    rintro R ⟨u, L, m⟩ hi hR
    have hi : OfOk n u L m := hi
    have h4 := hi.len4 hn'
    have u0' := hi.u0
    have u1' := hi.u1
    have hm := hi.len
    have hok := hi.ok
    have ha := and16u u ⟨u0', u1'⟩
    have hb := shr16u u
    have hc : IntKind.u32.wrap (u % 65536) = u % 65536 := IntWalk.u32_in _ (by omega)
    have hsd : L.length + 1 ≤ maxLen ∧ (L.length + 1) * 4 ≤ 140737488355328 := ⟨by simp only [maxLen]; omega, by omega⟩
    have hstep : decide (0 < u) = true → OfOk n (u / 65536) (L ++ [[.int .u32 (u % 65536)]]) (m + 1) ∧ (u / 65536).toNat < u.toNat := by
      intro h
      simp only [decide_eq_true_eq] at h
      refine ⟨⟨by omega, by omega, ?_, ?_, by simp [hm]⟩, by omega⟩
      · have := hi.eq
        rw [dig_pos h, List.map_cons] at this
        rw [← this]; simp [u32c]
      · rw [okEs_append, hok]; rfl
    have hend : decide (0 < u) = false → L = longD n := by
      intro h
      simp only [decide_eq_false_iff_not] at h
      have := hi.eq
      rw [show u = 0 by omega, dig_zero] at this
      simpa using this
    repeat' (first
      | (with_reducible refine Nm.mk ?_; intro z hz)
      | (with_reducible refine IfB.mk ?_ ?_ <;> (intro h; cases h))
      | (with_reducible refine Two.l ?_; refine Asm.mk ?_ ?_; focus (decide +kernel))
      | (with_reducible refine Two.r ?_)
      | (with_reducible refine Asm.mk ?_ ?_; focus kernel_rfl)
      | (with_reducible refine Asm.mk2 ?_ ?_)
      | ((fail_if_success (with_reducible first | refine hQ _ ?_ | refine Side.mk ?_ | refine isCP hcp ?_ | refine isCC hcc ?_ | refine isLP hlp ?_ | refine Ix.mk ?_ | refine SIx.mk ?_ | refine SEx.mk ?_ | refine EIx.mk ?_ | refine RIx.mk ?_ | show False | refine hR ?_ _ ?_ ?_ ?_ ?_ ?_ | refine hR2 ?_ _ ?_ ?_ ?_ ?_ ?_)); cbv))
    all_goals first
      | exact Side.mk ⟨hm.symm, rfl, hok, rfl, hsd.1, hsd.2⟩
      | (refine Side.mk ?_; decide)
      | (obtain ⟨g1, g2⟩ := hstep (by assumption)
         rename_i y1 hy1 y2 hy2 y3 hy3 y4 hy4
         rw [ha] at hy1
         rw [← hy1, hc] at hy2
         rw [hb] at hz
         subst hy2
         refine hR (u / 65536, _, _) _ (by rw [← hy3, ← hy4]; exact hm ▸ g1) g2 ⟨hz ▸ rfl, trivial⟩ ⟨rfl, rfl, trivial⟩ rfl)
      | (refine hQ _ ?_
         rw [hend (by assumption), longZ, hsg])
  · obtain ⟨u0, hu0⟩ : ∃ u0, z = u0 := ⟨_, rfl⟩
    have hst : u0 = uabs n := by
      rw [← hu0]
      first
        | exact hneg (by assumption) _ _ (by assumption) (by assumption)
        | exact hpos (by assumption) _ (by assumption)
    have hsg : decide (n < 0) = false := by assumption
    refine mintX hlp 1 1 1 rfl rfl ?_
    refine loopT (ι := Int × List (List PV) × Nat) mixed tt_ok hcp hcc hlp [2, 4] (fun p => [(3, .p (.int .u64 p.1))])
      (fun p => [.cells [.p (.bool false), .full []], .cells [.p (.bool false), .tok 2 p.2.1], .spare p.2.2 1])
      (fun p => OfOk n p.1 p.2.1 p.2.2) (fun p => p.1.toNat) (z, [], 0) 3 (fun _ => rfl) ⟨by show 0 ≤ z; omega, by show z < _; omega, by show [] ++ _ = _; rw [hu0, hst]; rfl, rfl, rfl⟩ ⟨rfl, trivial⟩ rfl ?_
    rintro R ⟨u, L, m⟩ hi hR
    have hi : OfOk n u L m := hi
    have h4 := hi.len4 hn'
    have u0' := hi.u0
    have u1' := hi.u1
    have hm := hi.len
    have hok := hi.ok
    have ha := and16u u ⟨u0', u1'⟩
    have hb := shr16u u
    have hc : IntKind.u32.wrap (u % 65536) = u % 65536 := IntWalk.u32_in _ (by omega)
    have hsd : L.length + 1 ≤ maxLen ∧ (L.length + 1) * 4 ≤ 140737488355328 := ⟨by simp only [maxLen]; omega, by omega⟩
    have hstep : decide (0 < u) = true → OfOk n (u / 65536) (L ++ [[.int .u32 (u % 65536)]]) (m + 1) ∧ (u / 65536).toNat < u.toNat := by
      intro h
      simp only [decide_eq_true_eq] at h
      refine ⟨⟨by omega, by omega, ?_, ?_, by simp [hm]⟩, by omega⟩
      · have := hi.eq
        rw [dig_pos h, List.map_cons] at this
        rw [← this]; simp [u32c]
      · rw [okEs_append, hok]; rfl
    have hend : decide (0 < u) = false → L = longD n := by
      intro h
      simp only [decide_eq_false_iff_not] at h
      have := hi.eq
      rw [show u = 0 by omega, dig_zero] at this
      simpa using this
    repeat' (first
      | (with_reducible refine Nm.mk ?_; intro z hz)
      | (with_reducible refine IfB.mk ?_ ?_ <;> (intro h; cases h))
      | (with_reducible refine Two.l ?_; refine Asm.mk ?_ ?_; focus (decide +kernel))
      | (with_reducible refine Two.r ?_)
      | (with_reducible refine Asm.mk ?_ ?_; focus kernel_rfl)
      | (with_reducible refine Asm.mk2 ?_ ?_)
      | ((fail_if_success (with_reducible first | refine hQ _ ?_ | refine Side.mk ?_ | refine isCP hcp ?_ | refine isCC hcc ?_ | refine isLP hlp ?_ | refine Ix.mk ?_ | refine SIx.mk ?_ | refine SEx.mk ?_ | refine EIx.mk ?_ | refine RIx.mk ?_ | show False | refine hR ?_ _ ?_ ?_ ?_ ?_ ?_ | refine hR2 ?_ _ ?_ ?_ ?_ ?_ ?_)); cbv))
    all_goals first
      | exact Side.mk ⟨hm.symm, rfl, hok, rfl, hsd.1, hsd.2⟩
      | (refine Side.mk ?_; decide)
      | (obtain ⟨g1, g2⟩ := hstep (by assumption)
         rename_i y1 hy1 y2 hy2 y3 hy3 y4 hy4
         rw [ha] at hy1
         rw [← hy1, hc] at hy2
         rw [hb] at hz
         subst hy2
         refine hR (u / 65536, _, _) _ (by rw [← hy3, ← hy4]; exact hm ▸ g1) g2 ⟨hz ▸ rfl, trivial⟩ ⟨rfl, rfl, trivial⟩ rfl)
      | (refine hQ _ ?_
         rw [hend (by assumption), longZ, hsg])
end Go.Proofs.YtnhmnfokbinplaaGreat

namespace Go.Proofs.YtnhmnfokbinplaaGreat
open Go Go.RowKit
set_option maxRecDepth 100000
set_option linter.unusedSimpArgs false
set_option linter.unusedVariables false

theorem sgn_abs {m : Bool} {v : Int} (h : 0 ≤ v) : uabs (sgn m v) = v := by
  unfold sgn uabs; cases m <;> simp <;> omega
theorem longZ_sgn {m : Bool} {d : List Int} (hd : okD d) {n : Nat} (hn : n ≤ d.length) (hv : lval (d.take n) = lval d) (h : n = 0 ∨ (d[n - 1]?).getD 0 ≠ 0) :
    longZ (sgn m (lval d)) = [.bool (if n = 0 then false else m), .sl ((d.take n).map u32c)] := by
  have e := trim_stop hd hn hv h
  have hp := (lval_lt hd).1
  have key : decide (sgn m (lval d) < 0) = if n = 0 then false else m := ?_
  · rw [longZ, longD, sgn_abs hp, ← e, key]
  by_cases h0 : n = 0
  · subst h0
    rw [List.take_zero] at hv
    rw [if_pos rfl, ← hv]; simp [lval, sgn]
  · rw [if_neg h0]
    have hv0 : lval d ≠ 0 := by
      intro hz
      rw [hz, dig_zero] at e
      have := congrArg List.length e
      rw [List.length_take, List.length_nil] at this
      omega
    have hp1 : 0 < lval d := by omega
    unfold sgn
    cases m <;> simp <;> omega

set_option maxHeartbeats 1000000 in
theorem trim_c (m : Bool) (d : List Int) (hd : okD d) (L : List (List PV)) (hL : d.map u32c = L) (hlen : d.length ≤ 1000) : PCall Tryz.prog 104 [.agg [.bool m, .sl L]] fun r => r = [.agg (longZ (sgn m (lval d)))] := by
  have hl : L.length = d.length := by rw [← hL]; simp
  refine PCall.x (nt := 29) (res := [.cell 2 98]) mixed tt_ok [] Tryz.func104 rfl rfl rfl c104 (Nat.le_of_ble_eq_true rfl) ?_
  intro cp cc lp Q' hcp hcc hlp hQ
  repeat' (first
    | (with_reducible refine Nm.mk ?_; intro z hz)
    | (with_reducible refine IfB.mk ?_ ?_ <;> (intro h; cases h))
    | (with_reducible refine Two.l ?_; refine Asm.mk ?_ ?_; focus (decide +kernel))
    | (with_reducible refine Two.r ?_)
    | (with_reducible refine Asm.mk ?_ ?_; focus (first | kernel_rfl | decide))
    | (with_reducible refine Asm.mk2 ?_ ?_)
    | ((fail_if_success (with_reducible first | refine hQ _ ?_ | refine Side.mk ?_ | refine isCP hcp ?_ | refine isCC hcc ?_ | refine isLP hlp ?_ | refine Ix.mk ?_ | refine SIx.mk ?_ | refine SEx.mk ?_ | refine EIx.mk ?_ | refine RIx.mk ?_ | show False | refine hR ?_ _ ?_ ?_ ?_ ?_ ?_ | refine hR2 ?_ _ ?_ ?_ ?_ ?_ ?_)); cbv))
  simp only [nc] at hz
  simp only [nc'] at hz
  refine loopK (ι := Int) mixed tt_ok hcp hcc hlp [1, 2] (fun n => [(3, .p (.int .i64 n))]) (fun n => (0 ≤ n ∧ n ≤ d.length) ∧ lval (d.take n.toNat) = lval d) (fun n => n.toNat) z (fun _ => rfl)
    ⟨by omega, by rw [List.take_of_length_le (by omega)]⟩ ⟨rfl, trivial⟩ ?_
  rintro R n ⟨⟨hn0, hn1⟩, hv⟩ hR
  have hidx : decide (0 < n) = true → ∀ z, IntKind.i64.wrap (n - 1) = z → z = n - 1 ∧ 0 ≤ z ∧ z < d.length := by
    intro h z g
    simp only [decide_eq_true_eq] at h
    rw [wrap_in (by omega)] at g
    omega
  have hnl : n.toNat ≤ d.length := by omega
  have hst : decide (0 < n) = true → ∀ z, IntKind.i64.wrap (n - 1) = z → (0 ≤ n - 1 ∧ n - 1 ≤ d.length) ∧ (n - 1).toNat < n.toNat ∧ z = n - 1 ∧ z.toNat = n.toNat - 1 ∧ 0 < n.toNat := by
    intro h z g
    simp only [decide_eq_true_eq] at h
    rw [wrap_in (by omega)] at g
    omega
  have hz0 : decide (0 < n) = false → n.toNat = 0 := by intro h; simp only [decide_eq_false_iff_not] at h; omega
  have he0 : decide (n = 0) = true → n.toNat = 0 := by intro h; simp only [decide_eq_true_eq] at h; omega
  have he1 : decide (n = 0) = false → ¬ n.toNat = 0 := by intro h; simp only [decide_eq_false_iff_not] at h; omega
  have hcut : ∀ z, List.take (((some n).getD (L.length : Int)).toNat - ((none : Option Int).getD 0).toNat) (List.drop ((none : Option Int).getD 0).toNat L) = z → z = (d.take n.toNat).map u32c := by
    intro z h
    rw [← h, ← hL, List.map_take]; rfl
  have hall : L.all (fun e => e.length == 1) = true := by rw [← hL]; simp [u32c]
  have hsl : (0 : Int) ≤ 0 ∧ (0 : Int) ≤ n ∧ n ≤ L.length ∧ L.all (fun e => e.length == 1) = true ∧ (1 : Nat) ≠ 0 := ⟨by omega, by omega, by omega, hall, by decide⟩
  repeat' (first
    | (with_reducible refine Nm.mk ?_; intro z hz)
    | (with_reducible refine IfB.mk ?_ ?_ <;> (intro h; cases h))
    | (with_reducible refine Two.l ?_; refine Asm.mk ?_ ?_; focus (decide +kernel))
    | (with_reducible refine Two.r ?_)
    | (with_reducible refine Asm.mk ?_ ?_; focus kernel_rfl)
    | (with_reducible refine Ix.map hL u32c_len (by decide) (hidx (by assumption) _ (by assumption)).2.1 (hidx (by assumption) _ (by assumption)).2.2 ?_; intro x hx)
    | (with_reducible refine Asm.mk2 ?_ ?_)
    | ((fail_if_success (with_reducible first | refine hQ _ ?_ | refine Side.mk ?_ | refine isCP hcp ?_ | refine isCC hcc ?_ | refine isLP hlp ?_ | refine Ix.mk ?_ | refine SIx.mk ?_ | refine SEx.mk ?_ | refine EIx.mk ?_ | refine RIx.mk ?_ | show False | refine hR ?_ _ ?_ ?_ ?_ ?_ ?_ | refine hR2 ?_ _ ?_ ?_ ?_ ?_ ?_)); cbv))
  all_goals try exact Side.mk hsl
  · obtain ⟨g1, g2, g3, g4, g5⟩ := hst (by assumption) _ hz
    have hx0 : decide (x = 0) = true := by assumption
    rename_i y1 hy1 y2
    obtain ⟨k1, k2, k3, k4, k5⟩ := hst (by assumption) _ hy1
    refine hR (n - 1) _ ⟨g1, ?_⟩ g2 ⟨g3 ▸ rfl, trivial⟩ ⟨rfl, rfl, trivial⟩ rfl
    rw [← g3, g4]
    refine trim_step g5 hnl hv ?_
    rw [show d[n.toNat - 1]? = some x by rw [← k4]; exact hx]
    exact of_decide_eq_true hx0
  all_goals
    have hs : n.toNat = 0 ∨ (d[n.toNat - 1]?).getD 0 ≠ 0 := by
      first
        | exact .inl (hz0 (by assumption))
        | (right
           have hx0 : decide (x = 0) = false := by assumption
           obtain ⟨k1, k2, k3, k4, k5⟩ := hst (by assumption) _ (show IntKind.i64.wrap (n - 1) = _ by assumption)
           rw [k4] at hx
           rw [hx]
           exact of_decide_eq_false hx0)
  all_goals (have hzz := hcut _ (by assumption); refine hQ _ ?_; rw [longZ_sgn hd (n := n.toNat) hnl hv hs, hzz])
  all_goals first
    | (rw [if_pos (he0 hz)]; done)
    | (rw [if_neg (he1 hz)]; done)
    | (rw [if_pos (he0 hz)]; rfl)
    | (rw [if_neg (he1 hz)]; rfl)
end Go.Proofs.YtnhmnfokbinplaaGreat

namespace Go.Proofs.YtnhmnfokbinplaaGreat
open Go Go.RowKit
set_option maxRecDepth 100000
set_option linter.unusedSimpArgs false
set_option linter.unusedVariables false

def cmpB (less same : Bool) : Int := if same = true then 0 else if less = true then -1 else 1
theorem rcmp_c (less same : Bool) : PCall Tryz.prog 128 [.bool less, .bool same] fun r => r = [.int .i64 (cmpB less same)] := by
  refine PCall.x (nt := 7) (res := [.tmp 4]) mixed tt_ok [] Tryz.func128 rfl rfl rfl c128 (Nat.le_of_ble_eq_true rfl) ?_
  intro cp cc lp Q' hcp hcc hlp hQ
  repeat' (first
    | (with_reducible refine Nm.mk ?_; intro z hz)
    | (with_reducible refine IfB.mk ?_ ?_ <;> (intro h; cases h))
    | (with_reducible refine Two.l ?_; refine Asm.mk ?_ ?_; focus (decide +kernel))
    | (with_reducible refine Two.r ?_)
    | (with_reducible refine Asm.mk ?_ ?_; focus (first | kernel_rfl | decide))
    | (with_reducible refine Asm.mk2 ?_ ?_)
    | ((fail_if_success (with_reducible first | refine hQ _ ?_ | refine Side.mk ?_ | refine isCP hcp ?_ | refine isCC hcc ?_ | refine isLP hlp ?_ | refine Ix.mk ?_ | refine SIx.mk ?_ | refine SEx.mk ?_ | refine EIx.mk ?_ | refine RIx.mk ?_ | show False | refine hR ?_ _ ?_ ?_ ?_ ?_ ?_ | refine hR2 ?_ _ ?_ ?_ ?_ ?_ ?_)); cbv))
  all_goals (refine hQ _ ?_; clear hQ hcp hcc hlp; rfl)
def ordI (a b : Int) : Int := if a < b then -1 else if a = b then 0 else 1
theorem ord_drop {a b : List Int} (ha : okD a) (hb : okD b) (hl : a.length = b.length) (i : Nat) (hi : i < a.length) (he : a.drop (i + 1) = b.drop (i + 1)) (hne : (a[i]?).getD 0 ≠ (b[i]?).getD 0) :
    ordI (lval a) (lval b) = if (a[i]?).getD 0 < (b[i]?).getD 0 then -1 else 1 := by
  rcases Int.lt_or_gt_of_ne hne with h | h
  · have := lval_less ha hb hl i hi he h
    unfold ordI; rw [if_pos this, if_pos h]
  · have := lval_less hb ha hl.symm i (by omega) he.symm h
    unfold ordI; rw [if_neg (by omega), if_neg (by omega), if_neg (by omega)]

set_option maxHeartbeats 2000000 in
theorem lsize_c (m m' : Bool) (a b : Int) (ha : 0 ≤ a) (hb : 0 ≤ b) (la : (dig a).length ≤ 1000) (lb : (dig b).length ≤ 1000) (L L' : List (List PV)) (hL : (dig a).map u32c = L) (hL' : (dig b).map u32c = L') :
    PCall Tryz.prog 127 [.agg [.bool m, .sl L], .agg [.bool m', .sl L']] fun r => r = [.int .i64 (ordI a b)] := by
  have oa := okD_dig a
  have ob := okD_dig b
  have ea := lval_dig' ha
  have eb := lval_dig' hb
  have h1 : L.length = (dig a).length := by rw [← hL]; simp
  have h2 : L'.length = (dig b).length := by rw [← hL']; simp
  have hne : ∀ x y : Int, (!decide (x = y)) = true → (L.length : Int) = x → (L'.length : Int) = y → ∀ z w : Int, (L.length : Int) = z → (L'.length : Int) = w → cmpB (decide (z < w)) false = ordI a b := by
    intro x y h hx hy z w hz hw
    simp only [Bool.not_eq_true', decide_eq_false_iff_not] at h
    unfold cmpB ordI
    rw [if_neg (by decide)]
    by_cases g : z < w
    · have := dig_len_less ha (n := b) (by omega)
      rw [decide_eq_true g, if_pos rfl, if_pos this]
    · have := dig_len_less hb (n := a) (by omega)
      rw [if_neg (by simpa using g), if_neg (by omega), if_neg (by omega)]
  have heq : ∀ x y : Int, (!decide (x = y)) = false → (L.length : Int) = x → (L'.length : Int) = y → (dig a).length = (dig b).length := by
    intro x y h hx hy
    simp only [Bool.not_eq_false', decide_eq_true_eq] at h
    omega
  generalize hda : dig a = da at *
  generalize hdb : dig b = db at *
  have hst0 : ∀ x z : Int, (L.length : Int) = x → IntKind.i64.wrap (x - 1) = z → (-1 ≤ z ∧ z < da.length) ∧ da.drop (z + 1).toNat = [] ∧ (da.length = db.length → db.drop (z + 1).toNat = []) := by
    intro x z h g
    rw [wrap_in (by omega)] at g
    exact ⟨by omega, List.drop_eq_nil_of_le (by omega), fun e => List.drop_eq_nil_of_le (by omega)⟩
  have hcmp : ∀ (x y z : Int), cmpB (decide (x < y)) false = z → z = if x < y then -1 else 1 := by
    intro x y z h; rw [← h]; unfold cmpB
    by_cases g : x < y <;> simp [g]
  clear hda hdb
  refine PCall.x (nt := 52) (res := [.tmp 4]) mixed tt_ok [] Tryz.func127 rfl rfl rfl c127 (Nat.le_of_ble_eq_true rfl) ?_
  intro cp cc lp Q' hcp hcc hlp hQ
  repeat' (first
    | (with_reducible refine Nm.mk ?_; intro z hz)
    | (with_reducible refine IfB.mk ?_ ?_ <;> (intro h; cases h))
    | (with_reducible refine Two.l ?_; refine Asm.mk ?_ ?_; focus (decide +kernel))
    | (with_reducible refine Two.r ?_)
    | (with_reducible refine Asm.mk ?_ ?_; focus (first | kernel_rfl | decide))
    | (with_reducible refine isCP hcp ?_; first | (refine iP hcp (rcmp_c _ _) ?_; intro z hz))
    | (with_reducible refine isCC hcc ?_; first | (refine iA hcc (rcmp_c _ _) rfl ?_; intro z hz))
    | (with_reducible refine Asm.mk2 ?_ ?_)
    | ((fail_if_success (with_reducible first | refine hQ _ ?_ | refine Side.mk ?_ | refine isCP hcp ?_ | refine isCC hcc ?_ | refine isLP hlp ?_ | refine Ix.mk ?_ | refine SIx.mk ?_ | refine SEx.mk ?_ | refine EIx.mk ?_ | refine RIx.mk ?_ | show False | refine hR ?_ _ ?_ ?_ ?_ ?_ ?_ | refine hR2 ?_ _ ?_ ?_ ?_ ?_ ?_)); cbv))
  · refine hQ _ ?_
    have := hne _ _ (by assumption) (by assumption) (by assumption) _ _ (by assumption) (by assumption)
    rw [← this]; subst_vars; rfl
  · have hl := heq _ _ (by assumption) (by assumption) (by assumption)
    have hz0 := hst0 _ _ (by assumption) hz
    clear hne heq hst0
    refine loopK (ι := Int) mixed tt_ok hcp hcc hlp [2, 3] (fun i => [(5, .p (.int .i64 i))]) (fun i => (-1 ≤ i ∧ i < da.length) ∧ da.drop (i + 1).toNat = db.drop (i + 1).toNat) (fun i => (i + 1).toNat) z (fun _ => rfl)
      ⟨hz0.1, by rw [hz0.2.1, hz0.2.2 hl]⟩ ⟨rfl, trivial⟩ ?_
    rintro R i ⟨⟨hi0, hi1⟩, hd⟩ hR
    have hk : decide (0 ≤ i) = true → 0 ≤ i := of_decide_eq_true
    have hkb : i < db.length := by omega
    have hend : decide (0 ≤ i) = false → ordI a b = 0 := by
      intro h
      simp only [decide_eq_false_iff_not] at h
      rw [show (i + 1).toNat = 0 by omega] at hd
      simp only [List.drop_zero] at hd
      rw [← ea, ← eb, hd]; simp [ordI]
    have hst : decide (0 ≤ i) = true → ∀ z, IntKind.i64.wrap (i - 1) = z → z = i - 1 ∧ (-1 ≤ i - 1 ∧ i - 1 < da.length) ∧ (i - 1 + 1).toNat < (i + 1).toNat := by
      intro h z g
      have := hk h
      rw [wrap_in (by omega)] at g
      omega
    have hdif : ∀ x y z w : Int, decide (0 ≤ i) = true → (!decide (x = y)) = true → da[i.toNat]? = some x → db[i.toNat]? = some y → da[i.toNat]? = some z → db[i.toNat]? = some w → ordI a b = if z < w then -1 else 1 := by
      intro x y z w h hxy hx hy hz hw
      rw [hx] at hz
      rw [hy] at hw
      simp only [Option.some.injEq] at hz hw
      subst hz hw
      have := hk h
      rw [← ea, ← eb]
      have e := ord_drop oa ob hl i.toNat (by omega) (by rw [show i.toNat + 1 = (i + 1).toNat by omega]; exact hd) (by rw [hx, hy]; simpa using hxy)
      rw [hx, hy] at e; exact e
    have hsame : ∀ x y : Int, decide (0 ≤ i) = true → (!decide (x = y)) = false → da[i.toNat]? = some x → db[i.toNat]? = some y → da.drop (i - 1 + 1).toNat = db.drop (i - 1 + 1).toNat := by
      intro x y h hxy hx hy
      have := hk h
      have e : x = y := by simpa using hxy
      have g1 := (List.getElem?_eq_some_iff.1 hx).1
      have g2 := (List.getElem?_eq_some_iff.1 hy).1
      rw [show (i - 1 + 1).toNat = i.toNat by omega, List.drop_eq_getElem_cons g1, List.drop_eq_getElem_cons g2]
      rw [show (i + 1).toNat = i.toNat + 1 by omega] at hd
      rw [hd, (List.getElem?_eq_some_iff.1 hx).2, (List.getElem?_eq_some_iff.1 hy).2, e]
    repeat' (first
      | (with_reducible refine Nm.mk ?_; intro z hz)
      | (with_reducible refine IfB.mk ?_ ?_ <;> (intro h; cases h))
      | (with_reducible refine Two.l ?_; refine Asm.mk ?_ ?_; focus (decide +kernel))
      | (with_reducible refine Two.r ?_)
      | (with_reducible refine Asm.mk ?_ ?_; focus kernel_rfl)
      | (with_reducible refine isCP hcp ?_; first | (refine iP hcp (rcmp_c _ _) ?_; intro z hz))
      | (with_reducible refine isCC hcc ?_; first | (refine iA hcc (rcmp_c _ _) rfl ?_; intro z hz))
      | (with_reducible refine Ix.map hL u32c_len (by decide) (hk (by assumption)) hi1 ?_; intro x hx)
      | (with_reducible refine Ix.map hL' u32c_len (by decide) (hk (by assumption)) hkb ?_; intro y hy)
      | (with_reducible refine Asm.mk2 ?_ ?_)
      | ((fail_if_success (with_reducible first | refine hQ _ ?_ | refine Side.mk ?_ | refine isCP hcp ?_ | refine isCC hcc ?_ | refine isLP hlp ?_ | refine Ix.mk ?_ | refine SIx.mk ?_ | refine SEx.mk ?_ | refine EIx.mk ?_ | refine RIx.mk ?_ | show False | refine hR ?_ _ ?_ ?_ ?_ ?_ ?_ | refine hR2 ?_ _ ?_ ?_ ?_ ?_ ?_)); cbv))
    all_goals first
      | (obtain ⟨e1, u, mu⟩ := hst (by assumption) _ (by assumption)
         have hs := hsame _ _ (by assumption) (by assumption) (by assumption) (by assumption)
         refine hR (i - 1) _ ⟨u, hs⟩ mu ⟨e1 ▸ rfl, trivial⟩ ⟨rfl, rfl, trivial⟩ rfl)
      | (refine hQ _ ?_
         rw [hend (by assumption)])
      | (refine hQ _ ?_
         have h1 := hdif _ _ _ _ (by assumption) (by assumption) (by assumption) (by assumption) (by assumption) (by assumption)
         rename_i y1 hy1
         rw [← hy1] at hz
         rw [h1, hcmp _ _ _ hz])
end Go.Proofs.YtnhmnfokbinplaaGreat

namespace Go.Proofs.YtnhmnfokbinplaaGreat
open Go Go.RowKit
set_option maxRecDepth 100000
set_option linter.unusedSimpArgs false
set_option linter.unusedVariables false

theorem num_l (n : Int) : PCall Tryz.prog 82 [.int .i64 n] fun r => r = [(num n).enc] := by
  refine PCall.x (nt := 5) (res := [.cell 2 23]) mixed tt_ok [] Tryz.func82 rfl rfl rfl c82 (Nat.le_of_ble_eq_true rfl) ?_
  intro cp cc lp Q' hcp hcc hlp hQ
  repeat' (first
    | (with_reducible refine Nm.mk ?_; intro z hz)
    | (with_reducible refine IfB.mk ?_ ?_ <;> (intro h; cases h))
    | (with_reducible refine Two.l ?_; refine Asm.mk ?_ ?_; focus (decide +kernel))
    | (with_reducible refine Two.r ?_)
    | (with_reducible refine Asm.mk ?_ ?_; focus (first | kernel_rfl | decide))
    | (with_reducible refine Asm.mk2 ?_ ?_)
    | ((fail_if_success (with_reducible first | refine hQ _ ?_ | refine Side.mk ?_ | refine isCP hcp ?_ | refine isCC hcc ?_ | refine isLP hlp ?_ | refine Ix.mk ?_ | refine SIx.mk ?_ | refine SEx.mk ?_ | refine EIx.mk ?_ | refine RIx.mk ?_ | show False | refine hR ?_ _ ?_ ?_ ?_ ?_ ?_ | refine hR2 ?_ _ ?_ ?_ ?_ ?_ ?_)); cbv))
  all_goals (refine hQ _ ?_; clear hQ hcp hcc hlp; subst_vars; simp_all [num, Val.enc])
theorem none_l : PCall Tryz.prog 35 [] fun r => r = [Val.zero.enc] := by
  refine PCall.x (nt := 2) (res := [.cell 0 23]) mixed tt_ok [] Tryz.func35 rfl rfl rfl c35 (Nat.le_of_ble_eq_true rfl) ?_
  intro cp cc lp Q' hcp hcc hlp hQ
  repeat' (first
    | (with_reducible refine Nm.mk ?_; intro z hz)
    | (with_reducible refine IfB.mk ?_ ?_ <;> (intro h; cases h))
    | (with_reducible refine Two.l ?_; refine Asm.mk ?_ ?_; focus (decide +kernel))
    | (with_reducible refine Two.r ?_)
    | (with_reducible refine Asm.mk ?_ ?_; focus (first | kernel_rfl | decide))
    | (with_reducible refine Asm.mk2 ?_ ?_)
    | ((fail_if_success (with_reducible first | refine hQ _ ?_ | refine Side.mk ?_ | refine isCP hcp ?_ | refine isCC hcc ?_ | refine isLP hlp ?_ | refine Ix.mk ?_ | refine SIx.mk ?_ | refine SEx.mk ?_ | refine EIx.mk ?_ | refine RIx.mk ?_ | show False | refine hR ?_ _ ?_ ?_ ?_ ?_ ?_ | refine hR2 ?_ _ ?_ ?_ ?_ ?_ ?_)); cbv))
  all_goals (refine hQ _ ?_; clear hQ hcp hcc hlp; subst_vars; simp_all [Val.zero, Val.enc])
theorem shl16 (a : Int) (h : 0 ≤ a ∧ a < 281474976710656) : IntKind.u64.wrap (a * 2 ^ (min (16 : Int).toNat IntKind.u64.bits)) = 65536 * a := by
  have : (2 : Int) ^ (min (16 : Int).toNat IntKind.u64.bits) = 65536 := by decide
  rw [this, wrap_u]; omega
theorem or16 (a d : Int) (h : 0 ≤ a ∧ a < 281474976710656) (hd : 0 ≤ d ∧ d < 65536) : IntKind.u64.wrap ((BitVec.ofInt IntKind.u64.bits (65536 * a) ||| BitVec.ofInt IntKind.u64.bits d).toNat : Int) = d + 65536 * a := by
  obtain ⟨n, rfl⟩ := Int.eq_ofNat_of_zero_le h.1
  obtain ⟨e, rfl⟩ := Int.eq_ofNat_of_zero_le hd.1
  have hb : IntKind.u64.bits = 64 := rfl
  have e1 : (BitVec.ofInt 64 (65536 * (n : Int))).toNat = 65536 * n := by simp [BitVec.toNat_ofInt]; omega
  have e2 : (BitVec.ofInt 64 (e : Int)).toNat = e := by simp [BitVec.toNat_ofInt]; omega
  rw [hb, BitVec.toNat_or, e1, e2]
  have e3 : 65536 * n ||| e = 65536 * n + e := by
    have := Nat.two_pow_add_eq_or_of_lt (i := 16) (b := e) (by omega) n
    simpa using this.symm
  rw [e3, wrap_u]; omega

set_option maxHeartbeats 2000000 in
theorem value_c (Z : Int) (hz1000 : (dig (uabs Z)).length ≤ 1000) : PCall Tryz.prog 103 [.agg (longZ Z)] fun r => r = [(optNum (in64 Z)).enc] := by
  have hu0 : 0 ≤ uabs Z := by unfold uabs; split <;> omega
  have ou := okD_dig (uabs Z)
  have eu := lval_dig' hu0
  unfold longZ longD
  obtain ⟨m, hm⟩ : ∃ m, decide (Z < 0) = m := ⟨_, rfl⟩
  rw [hm]
  have hzu : Z = if m = true then -uabs Z else uabs Z := by
    rw [← hm]; unfold uabs
    by_cases g : Z < 0 <;> simp [g]
  have hm0 : m = true → 0 < uabs Z := by
    intro h; rw [h] at hm; have := of_decide_eq_true hm; unfold uabs; rw [if_pos this]; omega
  generalize hd : dig (uabs Z) = d at *
  obtain ⟨L, hL⟩ : ∃ L, d.map u32c = L := ⟨_, rfl⟩
  rw [hL]
  have h1 : L.length = d.length := by rw [← hL]; simp
  have hbig : ∀ x : Int, (L.length : Int) = x → decide (4 < x) = true → in64 Z = none := by
    intro x hx h
    simp only [decide_eq_true_eq] at h
    have h2 : ¬ uabs Z < 18446744073709551616 := by
      intro g
      have := dig4 g
      rw [hd] at this; omega
    unfold in64
    rw [if_neg]
    rw [hzu]
    split <;> omega
  have hsm : ∀ x : Int, decide (4 < x) = false → (L.length : Int) = x → d.length ≤ 4 := by
    intro x h hx; simp only [decide_eq_false_iff_not] at h; omega
  have hst0 : ∀ x z : Int, (L.length : Int) = x → IntKind.i64.wrap (x - 1) = z → (-1 ≤ z ∧ z < d.length) ∧ d.drop (z + 1).toNat = [] := by
    intro x z h g
    rw [wrap_in (by omega)] at g
    exact ⟨by omega, List.drop_eq_nil_of_le (by omega)⟩
  have hfin1 : ∀ u : Int, u = uabs Z → m = true → decide (u ≤ 9223372036854775808) = true → ∀ a b, IntKind.u64.wrap (0 - u) = a → IntKind.i64.wrap a = b → optNum (in64 Z) = num b := by
    intro u hu hmt h a b ha hb
    simp only [decide_eq_true_eq] at h
    have := hm0 hmt
    have e : b = Z := by
      rw [wrap_u] at ha
      rw [wrap_i] at hb
      rw [hzu, if_pos hmt]; omega
    have e2 : in64 Z = some Z := by unfold in64; rw [if_pos]; rw [hzu, if_pos hmt]; omega
    rw [e2, e]; rfl
  have hfin2 : ∀ u : Int, u = uabs Z → m = false → decide (u < 9223372036854775808) = true → ∀ b, IntKind.i64.wrap u = b → optNum (in64 Z) = num b := by
    intro u hu hmf h b hb
    simp only [decide_eq_true_eq] at h
    have e : b = Z := by
      rw [wrap_in (by omega)] at hb
      rw [hzu, hmf]; simp; omega
    have e2 : in64 Z = some Z := by unfold in64; rw [if_pos]; rw [hzu, hmf]; simp; omega
    rw [e2, e]; rfl
  have hfin3 : ∀ u : Int, u = uabs Z → (m = true → decide (u ≤ 9223372036854775808) = false) → (m = false → decide (u < 9223372036854775808) = false) → optNum (in64 Z) = Val.zero := by
    intro u hu h1 h2
    have e2 : in64 Z = none := by
      unfold in64; rw [if_neg]
      rw [hzu]
      cases hmm : m with
      | true => have := h1 hmm; simp only [decide_eq_false_iff_not] at this; simp; omega
      | false => have := h2 hmm; simp only [decide_eq_false_iff_not] at this; simp; omega
    rw [e2]; rfl
  refine PCall.x (nt := 48) (res := [.cell 2 23]) mixed tt_ok [] Tryz.func103 rfl rfl rfl c103 (Nat.le_of_ble_eq_true rfl) ?_
  intro cp cc lp Q' hcp hcc hlp hQ
  repeat' (first
    | (with_reducible refine Nm.mk ?_; intro z hz)
    | (with_reducible refine IfB.mk ?_ ?_ <;> (intro h; cases h))
    | (with_reducible refine Two.l ?_; refine Asm.mk ?_ ?_; focus (decide +kernel))
    | (with_reducible refine Two.r ?_)
    | (with_reducible refine Asm.mk ?_ ?_; focus (first | kernel_rfl | decide))
    | (with_reducible refine isCP hcp ?_; first | (refine vP hcp (none_l) ?_; intro v hv) | (refine vP hcp (num_l _) ?_; intro v hv))
    | (with_reducible refine isCC hcc ?_; first | (refine vA hcc (none_l) rfl ?_; intro v hv) | (refine vA hcc (num_l _) rfl ?_; intro v hv))
    | (with_reducible refine Asm.mk2 ?_ ?_)
    | ((fail_if_success (with_reducible first | refine hQ _ ?_ | refine Side.mk ?_ | refine isCP hcp ?_ | refine isCC hcc ?_ | refine isLP hlp ?_ | refine Ix.mk ?_ | refine SIx.mk ?_ | refine SEx.mk ?_ | refine EIx.mk ?_ | refine RIx.mk ?_ | show False | refine hR ?_ _ ?_ ?_ ?_ ?_ ?_ | refine hR2 ?_ _ ?_ ?_ ?_ ?_ ?_)); cbv))
  · refine hQ _ ?_
    rw [hbig _ (by assumption) (by assumption)]
    clear hQ hfin1 hfin2 hfin3 hbig hsm hst0 hcp hcc hlp
    subst_vars; rfl
  · have h4 := hsm _ (by assumption) (by assumption)
    have hz0 := hst0 _ _ (by assumption) hz
    refine loopK (ι := Int × Int) mixed tt_ok hcp hcc hlp [1, 2] (fun p => [(3, .p (.int .u64 p.1)), (4, .p (.int .i64 p.2))]) (fun p => (-1 ≤ p.2 ∧ p.2 < d.length) ∧ p.1 = lval (d.drop (p.2 + 1).toNat)) (fun p => (p.2 + 1).toNat) (0, z) (fun _ => rfl)
      ⟨hz0.1, by show 0 = _; rw [hz0.2]; rfl⟩ ⟨rfl, rfl, trivial⟩ ?_
    rintro R ⟨u, i⟩ ⟨⟨hi0, hi1⟩, hu⟩ hR
    have hi0 : -1 ≤ i := hi0
    have hi1 : i < d.length := hi1
    have hu : u = lval (d.drop (i + 1).toNat) := hu
    have hk : decide (0 ≤ i) = true → 0 ≤ i := of_decide_eq_true
    have hend : decide (0 ≤ i) = false → u = uabs Z := by
      intro h
      simp only [decide_eq_false_iff_not] at h
      rw [hu, show (i + 1).toNat = 0 by omega, List.drop_zero, eu]
    have hstep : decide (0 ≤ i) = true → ∀ x, d[i.toNat]? = some x → ∀ a b c e, IntKind.u64.wrap (u * 2 ^ (min (16 : Int).toNat IntKind.u64.bits)) = a → IntKind.u64.wrap x = b → IntKind.u64.wrap ((BitVec.ofInt IntKind.u64.bits a ||| BitVec.ofInt IntKind.u64.bits b).toNat : Int) = c → IntKind.i64.wrap (i - 1) = e →
        c = lval (d.drop (i - 1 + 1).toNat) ∧ e = i - 1 ∧ (-1 ≤ i - 1 ∧ i - 1 < d.length) ∧ (i - 1 + 1).toNat < (i + 1).toNat := by
      intro h x hx a b c e ha hb hc he
      have := hk h
      have hxd : 0 ≤ x ∧ x < 65536 := ou x (List.mem_of_getElem? hx)
      have hod : okD (d.drop (i + 1).toNat) := fun y hy => ou y (List.mem_of_mem_drop hy)
      have hub : 0 ≤ u ∧ u < 281474976710656 := by
        have h1 := lval_lt hod
        rw [← hu, List.length_drop] at h1
        have : d.length - (i + 1).toNat = 0 ∨ d.length - (i + 1).toNat = 1 ∨ d.length - (i + 1).toNat = 2 ∨ d.length - (i + 1).toNat = 3 := by omega
        rcases this with g | g | g | g <;> rw [g] at h1 <;> simp only [Int.reducePow] at h1 <;> omega
      rw [shl16 u hub] at ha
      rw [IntWalk.u64_in x (by omega)] at hb
      subst ha hb
      rw [or16 u x hub hxd] at hc
      rw [wrap_in (by omega)] at he
      refine ⟨?_, he.symm, by omega, by omega⟩
      rw [← hc, show (i - 1 + 1).toNat = i.toNat by omega, lval_drop d i.toNat, hx, hu, show (i + 1).toNat = i.toNat + 1 by omega]; rfl
    have hc0 : ∀ b : Bool, (!b) = true → b = false := by intro b; cases b <;> simp
    repeat' (first
      | (with_reducible refine Nm.mk ?_; intro z hz)
      | (with_reducible refine IfB.mk ?_ ?_ <;> (intro h; cases h))
      | (with_reducible refine Two.l ?_; refine Asm.mk ?_ ?_; focus (decide +kernel))
      | (with_reducible refine Two.r ?_)
      | (with_reducible refine Asm.mk ?_ ?_; focus kernel_rfl)
      | (with_reducible refine isCP hcp ?_; first | (refine vP hcp (none_l) ?_; intro v hv) | (refine vP hcp (num_l _) ?_; intro v hv))
      | (with_reducible refine isCC hcc ?_; first | (refine vA hcc (none_l) rfl ?_; intro v hv) | (refine vA hcc (num_l _) rfl ?_; intro v hv))
      | (with_reducible refine Ix.map hL u32c_len (by decide) (hk (by assumption)) hi1 ?_; intro x hx)
      | (with_reducible refine Asm.mk2 ?_ ?_)
      | ((fail_if_success (with_reducible first | refine hQ _ ?_ | refine Side.mk ?_ | refine isCP hcp ?_ | refine isCC hcc ?_ | refine isLP hlp ?_ | refine Ix.mk ?_ | refine SIx.mk ?_ | refine SEx.mk ?_ | refine EIx.mk ?_ | refine RIx.mk ?_ | show False | refine hR ?_ _ ?_ ?_ ?_ ?_ ?_ | refine hR2 ?_ _ ?_ ?_ ?_ ?_ ?_)); cbv))
    all_goals first
      | (refine Side.mk ?_; decide)
      | exact absurd (show (!true) = true by assumption) (by decide)
      | exact absurd (show (!false) = false by assumption) (by decide)
      | (obtain ⟨g1, g2, g3, g4⟩ := hstep (by assumption) x hx _ _ _ _ (by assumption) (by assumption) (by assumption) (by assumption)
         exact hR (_, i - 1) _ ⟨g3, g1⟩ g4 ⟨rfl, g2 ▸ rfl, trivial⟩ ⟨rfl, rfl, trivial⟩ rfl)
      | (refine hQ _ ?_
         have hu2 := hend (by assumption)
         clear hQ hR hstep hcp hcc hlp
         first
           | rw [hfin1 _ hu2 rfl (by assumption) _ _ (by assumption) (by assumption)]
           | rw [hfin2 _ hu2 rfl (by assumption) _ (by assumption)]
           | rw [hfin3 _ hu2 (fun h => by first | assumption | cases h) (fun h => by first | assumption | cases h)]
         subst hv; rfl)
end Go.Proofs.YtnhmnfokbinplaaGreat

namespace Go.Proofs.YtnhmnfokbinplaaGreat
open Go Go.RowKit
set_option maxRecDepth 100000
set_option linter.unusedSimpArgs false
set_option linter.unusedVariables false

structure PI (l m : List Int) (M : Nat) (i c : Int) (L : List (List PV)) (k : Nat) : Prop where
  i0 : 0 ≤ i
  i1 : i ≤ M + 1
  end_ : i = M + 1 → c = 0
  o : ∃ o, PlusI l m o i.toNat c ∧ o.map u32c = L
  len : L.length = k
theorem PI.step {l m : List Int} {M : Nat} {i c : Int} {L : List (List PV)} {k : Nat} (hl : okD l) (hm : okD m) (h1 : l.length ≤ M) (h2 : m.length ≤ M) (h : PI l m M i c L k) (hc : i < M ∨ 0 < c) {a b : Int} (ha : (l[i.toNat]?).getD 0 = a) (hb : (m[i.toNat]?).getD 0 = b) :
    PI l m M (i + 1) ((c + (a + b)) / 65536) (L ++ [[.int .u32 ((c + (a + b)) % 65536)]]) (k + 1) ∧ (0 ≤ c + (a + b) ∧ c + (a + b) < 4294967296) := by
  obtain ⟨o, ho, hL⟩ := h.o
  have i0 := h.i0
  have c0 := ho.c0
  have c1 := ho.c1
  have ra := okD_get hl i.toNat
  have rb := okD_get hm i.toNat
  rw [ha] at ra
  rw [hb] at rb
  have hs := ho.step hl hm
  rw [ha, hb] at hs
  have hi : i ≤ M := by
    rcases hc with g | g
    · omega
    · have := h.i1
      have := h.end_
      omega
  refine ⟨⟨by omega, by omega, fun e => ?_, ⟨_, by rw [show (i + 1).toNat = i.toNat + 1 by omega]; exact hs, ?_⟩, by simp [h.len]⟩, by omega⟩
  · rw [List.getElem?_eq_none (by omega)] at ha
    rw [List.getElem?_eq_none (by omega)] at hb
    simp only [Option.getD_none] at ha hb
    omega
  · rw [List.map_append, hL]; rfl
theorem PI.stop {l m : List Int} {M : Nat} {i c : Int} {L : List (List PV)} {k : Nat} (h : PI l m M i c L k) (h1 : ¬ i < l.length) (h2 : ¬ i < m.length) (hc : ¬ 0 < c) (hM : M ≤ 900) : ∃ o, okD o ∧ o.map u32c = L ∧ o.length ≤ 1000 ∧ lval o = lval l + lval m := by
  obtain ⟨o, ho, hL⟩ := h.o
  have := h.i0
  have := h.i1
  exact ⟨o, ho.ok, hL, by rw [ho.len]; omega, ho.stop (by omega) (by omega) (by omega)⟩

structure MI (l m : List Int) (i b : Int) (L : List (List PV)) (k : Nat) : Prop where
  i0 : 0 ≤ i
  i1 : i ≤ l.length
  o : ∃ o, MinusI l m o i.toNat b ∧ o.map u32c = L
  len : L.length = k
theorem MI.step {l m : List Int} {i b : Int} {L : List (List PV)} {k : Nat} (hl : okD l) (hm : okD m) (h : MI l m i b L k) (hi : i < l.length) {x y : Int} (hx : l[i.toNat]? = some x) (hy : (m[i.toNat]?).getD 0 = y) :
    MI l m (i + 1) (1 - (x + 65536 - y - b) / 65536) (L ++ [[.int .u32 ((x + 65536 - y - b) % 65536)]]) (k + 1) ∧ (0 ≤ x ∧ x < 65536) ∧ (0 ≤ y ∧ y < 65536) ∧ 0 ≤ b ∧ b ≤ 1 := by
  obtain ⟨o, ho, hL⟩ := h.o
  have i0 := h.i0
  have rx := okD_get hl i.toNat
  have ry := okD_get hm i.toNat
  have hs := ho.step hl hm
  rw [hx, Option.getD_some] at hs rx
  rw [hy] at hs ry
  refine ⟨⟨by omega, by omega, ⟨_, by rw [show (i + 1).toNat = i.toNat + 1 by omega]; exact hs, ?_⟩, by simp [h.len]⟩, rx, ry, ho.b0, ho.b1⟩
  rw [List.map_append, hL]; rfl
theorem MI.stop {l m : List Int} {i b : Int} {L : List (List PV)} {k : Nat} (h : MI l m i b L k) (h1 : ¬ i < l.length) (h2 : m.length ≤ l.length) (hv : lval m ≤ lval l) (hM : l.length ≤ 900) : ∃ o, okD o ∧ o.map u32c = L ∧ o.length ≤ 1000 ∧ lval o = lval l - lval m := by
  obtain ⟨o, ho, hL⟩ := h.o
  have := h.i0
  have := h.i1
  have e : i.toNat = l.length := by omega
  rw [e] at ho
  exact ⟨o, ho.ok, hL, by rw [ho.len]; omega, ho.stop h2 hv⟩

theorem uabs_nn (x : Int) : 0 ≤ uabs x := by unfold uabs; split <;> omega
theorem sgn_add {x y : Int} (h : decide (x < 0) = decide (y < 0)) : sgn (decide (x < 0)) (uabs x + uabs y) = x + y := by
  unfold sgn uabs
  by_cases g : x < 0 <;> by_cases g' : y < 0 <;> simp [g, g'] at h ⊢ <;> omega
theorem sgn_sub {x y : Int} (h : decide (x < 0) ≠ decide (y < 0)) : sgn (decide (x < 0)) (uabs x - uabs y) = x + y := by
  unfold sgn uabs
  by_cases g : x < 0 <;> by_cases g' : y < 0 <;> simp [g, g'] at h ⊢ <;> omega
theorem uabs_add (x y : Int) : uabs (x + y) ≤ uabs x + uabs y := by
  unfold uabs; split <;> split <;> split <;> omega
theorem dig_len_le {m n : Int} (h0 : 0 ≤ m) (h : m ≤ n) : (dig m).length ≤ (dig n).length := by
  rcases Nat.lt_or_ge (dig n).length (dig m).length with g | g
  · have := dig_len_less (by omega) g; omega
  · exact g
end Go.Proofs.YtnhmnfokbinplaaGreat

namespace Go.Proofs.YtnhmnfokbinplaaGreat
open Go Go.RowKit
set_option maxRecDepth 100000
set_option linter.unusedSimpArgs false
set_option linter.unusedVariables false

set_option maxHeartbeats 8000000 in
theorem plus1_c (x y : Int) (lx : (dig (uabs x)).length ≤ 900) (ly : (dig (uabs y)).length ≤ 900)
    (hrec : decide (x < 0) ≠ decide (y < 0) → uabs x < uabs y → PCall Tryz.prog 102 [.agg (longZ y), .agg (longZ x)] fun r => r = [.agg (longZ (x + y))]) : PCall Tryz.prog 102 [.agg (longZ x), .agg (longZ y)] fun r => r = [.agg (longZ (x + y))] := by
  have ox := okD_dig (uabs x)
  have oy := okD_dig (uabs y)
  have vx := lval_dig' (uabs_nn x)
  have vy := lval_dig' (uabs_nn y)
  have nx := uabs_nn x
  have ny := uabs_nn y
  have hadd := sgn_add (x := x) (y := y)
  have hsub := sgn_sub (x := x) (y := y)
  have hlen := dig_len_le ny (n := uabs x)
  have hsz := lsize_c (decide (x < 0)) (decide (y < 0)) (uabs x) (uabs y) nx ny (by omega) (by omega) _ _ rfl rfl
  obtain ⟨q1, q2, hQ0⟩ : ∃ q1 q2, longZ (x + y) = [.bool q1, .sl q2] := ⟨_, _, rfl⟩
  rw [hQ0] at hrec ⊢
  unfold longZ longD at hrec ⊢
  obtain ⟨m, hm⟩ : ∃ m, decide (x < 0) = m := ⟨_, rfl⟩
  obtain ⟨m', hm'⟩ : ∃ m, decide (y < 0) = m := ⟨_, rfl⟩
  rw [hm, hm'] at hrec hadd hsub hsz ⊢
  generalize hdx : dig (uabs x) = dx at *
  generalize hdy : dig (uabs y) = dy at *
  obtain ⟨X, hX⟩ : ∃ X, dx.map u32c = X := ⟨_, rfl⟩
  obtain ⟨Y, hY⟩ : ∃ Y, dy.map u32c = Y := ⟨_, rfl⟩
  rw [hX, hY] at hsz hrec ⊢
  have h1 : X.length = dx.length := by rw [← hX]; simp
  have h2 : Y.length = dy.length := by rw [← hY]; simp
  have hM : ∃ M : Nat, dx.length ≤ M ∧ dy.length ≤ M ∧ M ≤ 900 := ⟨900, by omega, by omega, by omega⟩
  obtain ⟨M, hM1, hM2, hM3⟩ := hM
  -- what is handed back
  have key1 : (m == m') = true → ∀ (i c : Int) (L : List (List PV)) (k : Nat), PI dx dy M i c L k → ¬ i < dx.length → ¬ i < dy.length → ¬ 0 < c → PCall Tryz.prog 104 [.agg [.bool m, .sl L]] fun r => r = [.agg [.bool q1, .sl q2]] := by
    intro he i c L k h g1 g2 g3
    obtain ⟨o, oo, oL, ol, ov⟩ := h.stop g1 g2 g3 hM3
    have := trim_c m o oo L oL ol
    rw [ov, vx, vy, hadd (by simpa using he), hQ0] at this
    exact this
  have key2 : (m == m') = false → uabs y ≤ uabs x → ∀ (i b : Int) (L : List (List PV)) (k : Nat), MI dx dy i b L k → ¬ i < dx.length → PCall Tryz.prog 104 [.agg [.bool m, .sl L]] fun r => r = [.agg [.bool q1, .sl q2]] := by
    intro he hv i b L k h g1
    obtain ⟨o, oo, oL, ol, ov⟩ := h.stop g1 (hlen hv) (by rw [vx, vy]; exact hv) lx
    have := trim_c m o oo L oL ol
    rw [ov, vx, vy, hsub (by intro e; rw [e] at he; simp at he), hQ0] at this
    exact this
  have key3 : ∀ a : Int, ordI (uabs x) (uabs y) = a → decide (a < 0) = true → uabs x < uabs y := by
    intro a ha h; rw [← ha] at h; unfold ordI at h
    split at h
    · assumption
    · split at h <;> simp at h
  have key4 : ∀ a : Int, ordI (uabs x) (uabs y) = a → decide (a < 0) = false → uabs y ≤ uabs x := by
    intro a ha h; rw [← ha] at h; unfold ordI at h
    split at h
    · simp at h
    · omega
  have hrec' : ∀ a : Int, (m == m') = false → ordI (uabs x) (uabs y) = a → decide (a < 0) = true → PCall Tryz.prog 102 [.agg [.bool m', .sl Y], .agg [.bool m, .sl X]] fun r => r = [.agg [.bool q1, .sl q2]] := by
    intro a he ha h
    exact hrec (by intro e; rw [e] at he; simp at he) (key3 a ha h)
  have dxc := digit_c m dx X hX
  have dyc := digit_c m' dy Y hY
  have start1 : PI dx dy M 0 0 [] 0 := ⟨by omega, by omega, fun _ => rfl, ⟨[], PlusI.start _ _, rfl⟩, rfl⟩
  have start2 : MI dx dy 0 0 [] 0 := ⟨by omega, by omega, ⟨[], MinusI.start _ _, rfl⟩, rfl⟩
  clear hrec hlen hadd hsub hdx hdy
  refine PCall.x (nt := 99) (res := [.cell 4 98]) mixed tt_ok [] Tryz.func102 rfl rfl rfl c102 (Nat.le_of_ble_eq_true rfl) ?_
  intro cp cc lp Q' hcp hcc hlp hQ
  repeat' (first
    | (with_reducible refine Nm.mk ?_; intro z hz)
    | (with_reducible refine IfB.mk ?_ ?_ <;> (intro h; cases h))
    | (with_reducible refine Two.l ?_; refine Asm.mk ?_ ?_; focus (decide +kernel))
    | (with_reducible refine Two.r ?_)
    | (with_reducible refine Asm.mk ?_ ?_; focus (first | kernel_rfl | decide))
    | (with_reducible refine isCP hcp ?_; first | (refine iP hcp (hsz) ?_; intro z hz) | (refine xP hcp (hrec' _ (by assumption) (by assumption) (by assumption)) ?_; skip))
    | (with_reducible refine isCC hcc ?_; first | (refine iA hcc (hsz) rfl ?_; intro z hz) | (refine xA hcc (hrec' _ (by assumption) (by assumption) (by assumption)) rfl ?_; skip))
    | (with_reducible refine Asm.mk2 ?_ ?_)
    | ((fail_if_success (with_reducible first | refine hQ _ ?_ | refine Side.mk ?_ | refine isCP hcp ?_ | refine isCC hcc ?_ | refine isLP hlp ?_ | refine Ix.mk ?_ | refine SIx.mk ?_ | refine SEx.mk ?_ | refine EIx.mk ?_ | refine RIx.mk ?_ | show False | refine hR ?_ _ ?_ ?_ ?_ ?_ ?_ | refine hR2 ?_ _ ?_ ?_ ?_ ?_ ?_)); cbv))
  · have he : (m == m') = true := by assumption
    clear key2 key3 key4 hrec' hsz
    refine mintX hlp 1 3 1 rfl rfl ?_
    refine loopT (ι := Int × Int × List (List PV) × Nat) mixed tt_ok hcp hcc hlp [2, 3, 4, 5] (fun p => [(6, .p (.int .u32 p.2.1)), (7, .p (.int .i64 p.1))])
      (fun p => [.cells [.p (.bool m), .p (.sl X)], .cells [.p (.bool m'), .p (.sl Y)], .cells [.p (.bool false), .full []], .cells [.p (.bool m), .tok 4 p.2.2.1], .spare p.2.2.2 1])
      (fun p => PI dx dy M p.1 p.2.1 p.2.2.1 p.2.2.2) (fun p => (M + 2 - p.1).toNat) (0, 0, [], 0) 5 (fun _ => rfl) start1 ⟨rfl, rfl, trivial⟩ rfl ?_
    rintro R ⟨i, c, L, k⟩ hi hR
    have hi : PI dx dy M i c L k := hi
    have hi0 := hi.i0
    have hi1 := hi.i1
    have hk := hi.len
    have hok : okEs 1 L = true := by obtain ⟨o, _, hL⟩ := hi.o; rw [← hL]; exact ok_u32 o
    have hsd : k = L.length ∧ 1 = 1 ∧ okEs 1 L = true := ⟨hk.symm, rfl, hok⟩
    have hLl : L.length + 1 ≤ maxLen ∧ (L.length + 1) * 4 ≤ 140737488355328 := by
      obtain ⟨o, ho, hL⟩ := hi.o
      have : L.length = i.toNat := by rw [← hL, List.length_map, ho.len]
      exact ⟨by simp only [maxLen]; omega, by omega⟩
    have key : ∀ z1 z2 : Int, (X.length : Int) = z1 → decide (i < z1) = false → (Y.length : Int) = z2 → decide (i < z2) = false → decide (0 < c) = false → PCall Tryz.prog 104 [.agg [.bool m, .sl L]] fun r => r = [.agg [.bool q1, .sl q2]] := by
      intro z1 z2 a1 a2 a3 a4 a5
      simp only [decide_eq_false_iff_not] at a2 a4 a5
      exact key1 he i c L k hi (by show ¬ i < (dx.length : Int); omega) (by show ¬ i < (dy.length : Int); omega) a5
    have hc1 : ∀ z1 : Int, (X.length : Int) = z1 → decide (i < z1) = true → i < M ∨ 0 < c := by intro z1 a1 a2; simp only [decide_eq_true_eq] at a2; omega
    have hc2 : ∀ z1 : Int, (Y.length : Int) = z1 → decide (i < z1) = true → i < M ∨ 0 < c := by intro z1 a1 a2; simp only [decide_eq_true_eq] at a2; omega
    have hc3 : decide (0 < c) = true → i < M ∨ 0 < c := fun h => .inr (of_decide_eq_true h)
    have hstep : (i < M ∨ 0 < c) → ∀ a b s t e g j : Int, (dx[i.toNat]?).getD 0 = a → (dy[i.toNat]?).getD 0 = b → IntKind.u32.wrap (a + b) = s → IntKind.u32.wrap (c + s) = t → IntKind.u32.wrap ((BitVec.ofInt IntKind.u32.bits t &&& BitVec.ofInt IntKind.u32.bits 65535).toNat : Int) = e →
        t.fdiv (2 ^ (min (16 : Int).toNat IntKind.u32.bits)) = g → IntKind.i64.wrap (i + 1) = j → PI dx dy M (i + 1) g (L ++ [[.int .u32 e]]) (k + 1) ∧ j = i + 1 ∧ (M + 2 - (i + 1)).toNat < (M + 2 - i).toNat := by
      intro hc a b s t e g j h1 h2 h3 h4 h5 h6 h7
      obtain ⟨st, r0, r1⟩ := hi.step ox oy hM1 hM2 hc h1 h2
      have ra := okD_get ox i.toNat
      have rb := okD_get oy i.toNat
      rw [h1] at ra
      rw [h2] at rb
      rw [IntWalk.u32_in _ (by omega)] at h3
      subst h3
      rw [IntWalk.u32_in _ (by omega)] at h4
      subst h4
      rw [and16v _ ⟨r0, r1⟩] at h5
      rw [shr16v] at h6
      rw [wrap_in (by omega)] at h7
      subst h5 h6
      exact ⟨st, h7.symm, by omega⟩
    repeat' (first
      | (with_reducible refine Nm.mk ?_; intro z hz)
      | (with_reducible refine IfB.mk ?_ ?_ <;> (intro h; cases h))
      | (with_reducible refine Two.l ?_; refine Asm.mk ?_ ?_; focus (decide +kernel))
      | (with_reducible refine Two.r ?_)
      | (with_reducible refine Asm.mk ?_ ?_; focus (first | kernel_rfl | decide))
      | (with_reducible refine isCP hcp ?_; first | (refine iP hcp (dxc i hi0) ?_; intro z hz) | (refine iP hcp (dyc i hi0) ?_; intro z hz) | (refine xP hcp (key _ _ (by assumption) (by assumption) (by assumption) (by assumption) (by assumption)) ?_; skip))
      | (with_reducible refine isCC hcc ?_; first | (refine iA hcc (dxc i hi0) rfl ?_; intro z hz) | (refine iA hcc (dyc i hi0) rfl ?_; intro z hz) | (refine xA hcc (key _ _ (by assumption) (by assumption) (by assumption) (by assumption) (by assumption)) rfl ?_; skip))
      | (with_reducible refine Asm.mk2 ?_ ?_)
      | ((fail_if_success (with_reducible first | refine hQ _ ?_ | refine Side.mk ?_ | refine isCP hcp ?_ | refine isCC hcc ?_ | refine isLP hlp ?_ | refine Ix.mk ?_ | refine SIx.mk ?_ | refine SEx.mk ?_ | refine EIx.mk ?_ | refine RIx.mk ?_ | show False | refine hR ?_ _ ?_ ?_ ?_ ?_ ?_ | refine hR2 ?_ _ ?_ ?_ ?_ ?_ ?_)); cbv))
    all_goals first
      | exact Side.mk ⟨hsd.1, hsd.2.1, hsd.2.2, rfl, hLl.1, hLl.2⟩
      | (refine Side.mk ?_; decide)
      | exact hQ _ rfl
      | (have hc : i < M ∨ 0 < c := by first | exact hc1 _ (by assumption) (by assumption) | exact hc2 _ (by assumption) (by assumption) | exact hc3 (by assumption)
         rename_i y1 hy1 y2 hy2 y3 hy3 y4 hy4
         obtain ⟨g1, g2, g3⟩ := hstep hc _ _ _ _ _ _ _ (by assumption) (by assumption) (by assumption) (by assumption) hy1 hy4 hz
         exact hR (i + 1, y4, y2, y3) _ (by show PI dx dy M (i + 1) y4 y2 y3; rw [← hy2, ← hy3, ← hsd.1]; exact g1) g3 ⟨rfl, g2 ▸ rfl, trivial⟩ ⟨rfl, rfl, rfl, rfl, trivial⟩ rfl)
  · exact hQ _ rfl
  · have he : (m == m') = false := by assumption
    have hv := key4 _ (by assumption) (by assumption)
    have hzl := hz
    clear key1 key3 key4 hrec' hsz hz
    rename Int => zl
    have key2' := key2 he hv
    refine mintX hlp 1 3 1 rfl rfl ?_
    refine loopT (ι := Int × Int × List (List PV) × Nat) mixed tt_ok hcp hcc hlp [2, 3, 4, 8, 69, 70] (fun p => [(9, .p (.int .u32 p.2.1)), (71, .p (.int .i64 p.1))])
      (fun p => [.cells [.p (.bool m), .p (.sl X)], .cells [.p (.bool m'), .p (.sl Y)], .cells [.p (.bool false), .full []], .cells [.p (.bool m), .tok 4 p.2.2.1], .spare p.2.2.2 1])
      (fun p => MI dx dy p.1 p.2.1 p.2.2.1 p.2.2.2) (fun p => (zl - p.1).toNat) (0, 0, [], 0) 5 (fun _ => rfl) start2 ⟨rfl, rfl, trivial⟩ rfl ?_
    rintro R ⟨i, b, L, k⟩ hi hR
    have hi : MI dx dy i b L k := hi
    have hi0 := hi.i0
    have hi1 : i ≤ (dx.length : Int) := hi.i1
    have hk := hi.len
    have hzl : (X.length : Int) = zl := hzl
    have hok : okEs 1 L = true := by obtain ⟨o, _, hL⟩ := hi.o; rw [← hL]; exact ok_u32 o
    have hsd : k = L.length ∧ 1 = 1 ∧ okEs 1 L = true := ⟨hk.symm, rfl, hok⟩
    have hLl : L.length + 1 ≤ maxLen ∧ (L.length + 1) * 4 ≤ 140737488355328 := by
      obtain ⟨o, ho, hL⟩ := hi.o
      have : L.length = i.toNat := by rw [← hL, List.length_map, ho.len]
      exact ⟨by simp only [maxLen]; omega, by omega⟩
    have key : decide (i < zl) = false → PCall Tryz.prog 104 [.agg [.bool m, .sl L]] fun r => r = [.agg [.bool q1, .sl q2]] := by
      intro a2
      simp only [decide_eq_false_iff_not] at a2
      exact key2' i b L k hi (by show ¬ i < (dx.length : Int); omega)
    have hkx : decide (i < zl) = true → i < dx.length := by intro h; simp only [decide_eq_true_eq] at h; omega
    have hstep : decide (i < zl) = true → ∀ x y a s t e g h j : Int, dx[i.toNat]? = some x → (dy[i.toNat]?).getD 0 = y → IntKind.u32.wrap (x + 65536) = a → IntKind.u32.wrap (a - y) = s → IntKind.u32.wrap (s - b) = t → IntKind.u32.wrap ((BitVec.ofInt IntKind.u32.bits t &&& BitVec.ofInt IntKind.u32.bits 65535).toNat : Int) = e →
        t.fdiv (2 ^ (min (16 : Int).toNat IntKind.u32.bits)) = g → IntKind.u32.wrap (1 - g) = h → IntKind.i64.wrap (i + 1) = j → MI dx dy (i + 1) h (L ++ [[.int .u32 e]]) (k + 1) ∧ j = i + 1 ∧ (zl - (i + 1)).toNat < (zl - i).toNat := by
      intro hc x y a s t e g h j h1 h2 h3 h4 h5 h6 h7 h8 h9
      have hlt := hkx hc
      simp only [decide_eq_true_eq] at hc
      obtain ⟨st, rx, ry, b0, b1⟩ := hi.step ox oy hlt h1 h2
      rw [IntWalk.u32_in _ (by omega)] at h3
      subst h3
      rw [IntWalk.u32_in _ (by omega)] at h4
      subst h4
      rw [IntWalk.u32_in _ (by omega)] at h5
      subst h5
      rw [and16v _ (by omega)] at h6
      rw [shr16v] at h7
      subst h6 h7
      rw [IntWalk.u32_in _ (by omega)] at h8
      rw [wrap_in (by omega)] at h9
      subst h8
      exact ⟨st, h9.symm, by omega⟩
    repeat' (first
      | (with_reducible refine Nm.mk ?_; intro z hz)
      | (with_reducible refine IfB.mk ?_ ?_ <;> (intro h; cases h))
      | (with_reducible refine Two.l ?_; refine Asm.mk ?_ ?_; focus (decide +kernel))
      | (with_reducible refine Two.r ?_)
      | (with_reducible refine Asm.mk ?_ ?_; focus kernel_rfl)
      | (with_reducible refine isCP hcp ?_; first | (refine iP hcp (dyc i hi0) ?_; intro z hz) | (refine xP hcp (key (by assumption)) ?_; skip))
      | (with_reducible refine isCC hcc ?_; first | (refine iA hcc (dyc i hi0) rfl ?_; intro z hz) | (refine xA hcc (key (by assumption)) rfl ?_; skip))
      | (with_reducible refine Ix.map hX u32c_len (by decide) hi0 (hkx (by assumption)) ?_; intro x' hx')
      | (with_reducible refine Asm.mk2 ?_ ?_)
      | ((fail_if_success (with_reducible first | refine hQ _ ?_ | refine Side.mk ?_ | refine isCP hcp ?_ | refine isCC hcc ?_ | refine isLP hlp ?_ | refine Ix.mk ?_ | refine SIx.mk ?_ | refine SEx.mk ?_ | refine EIx.mk ?_ | refine RIx.mk ?_ | show False | refine hR ?_ _ ?_ ?_ ?_ ?_ ?_ | refine hR2 ?_ _ ?_ ?_ ?_ ?_ ?_)); cbv))
    all_goals first
      | exact Side.mk ⟨hsd.1, hsd.2.1, hsd.2.2, rfl, hLl.1, hLl.2⟩
      | (refine Side.mk ?_; decide)
      | exact hQ _ rfl
      | (rename_i y1 hy1 y2 hy2 y3 hy3 y4 hy4 y5 hy5
         obtain ⟨g1, g2, g3⟩ := hstep (by assumption) _ _ _ _ _ _ _ _ _ hx' (by assumption) (by assumption) (by assumption) (by assumption) hy1 hy4 hy5 hz
         exact hR (i + 1, y5, y2, y3) _ (by show MI dx dy (i + 1) y5 y2 y3; rw [← hy2, ← hy3, ← hsd.1]; exact g1) g3 ⟨rfl, g2 ▸ rfl, trivial⟩ ⟨rfl, rfl, rfl, rfl, rfl, rfl, trivial⟩ rfl)
theorem plus_c (x y : Int) (lx : (dig (uabs x)).length ≤ 900) (ly : (dig (uabs y)).length ≤ 900) : PCall Tryz.prog 102 [.agg (longZ x), .agg (longZ y)] fun r => r = [.agg (longZ (x + y))] :=
  plus1_c x y lx ly fun h1 h2 => by
    have := plus1_c y x ly lx fun _ h => by omega
    rw [Int.add_comm y x] at this
    exact this
end Go.Proofs.YtnhmnfokbinplaaGreat

namespace Go.Proofs.YtnhmnfokbinplaaGreat
open Go Go.RowKit
set_option maxRecDepth 100000
set_option linter.unusedSimpArgs false
set_option linter.unusedVariables false

theorem dig_mul {a b : Int} (ha : 0 ≤ a) (hb : 0 ≤ b) : (dig (a * b)).length ≤ (dig a).length + (dig b).length := by
  refine dig_len _ _ ?_
  have h1 := (lval_lt (okD_dig a)).2
  have h2 := (lval_lt (okD_dig b)).2
  rw [lval_dig' ha] at h1
  rw [lval_dig' hb] at h2
  rw [Int.pow_add]
  have p1 := pow_pos' (dig a).length
  have p2 := pow_pos' (dig b).length
  calc a * b ≤ (65536 ^ (dig a).length - 1) * (65536 ^ (dig b).length - 1) := Int.mul_le_mul (by omega) (by omega) hb (by omega)
    _ < 65536 ^ (dig a).length * 65536 ^ (dig b).length := by
      generalize (65536 : Int) ^ (dig a).length = A at *
      generalize (65536 : Int) ^ (dig b).length = B at *
      rw [Int.sub_mul, Int.mul_sub]
      omega
theorem longZ_pos {v : Int} (h : 0 ≤ v) : longZ v = [.bool false, .sl ((dig v).map u32c)] := by
  have e : uabs v = v := by unfold uabs; rw [if_neg (by omega)]
  rw [longZ, longD, e, decide_eq_false (by omega)]
theorem sgn_mul (x y : Int) : sgn (decide (x < 0) != decide (y < 0)) (uabs x * uabs y) = x * y := by
  rw [prod_sign x y]
  unfold sgn; rfl
/-- What the product is so far. -/
def timesV (a : Int) (dy : List Int) (i : Int) : Int := a * lval (dy.drop (i + 1).toNat)
theorem timesV_step {a : Int} {dy : List Int} {i x : Int} (h0 : 0 ≤ i) (hx : dy[i.toNat]? = some x) : timesV a dy (i - 1) = 65536 * timesV a dy i + x * a := by
  unfold timesV
  rw [show (i - 1 + 1).toNat = i.toNat by omega, lval_drop dy i.toNat, hx, show (i + 1).toNat = i.toNat + 1 by omega, Option.getD_some, Int.mul_add, Int.mul_comm a x, Int.mul_left_comm]
  omega
theorem lval_drop_dig {n : Int} (h : 0 ≤ n) (k : Nat) : 0 ≤ lval ((dig n).drop k) ∧ (dig (lval ((dig n).drop k))).length ≤ (dig n).length := by
  have ok : okD ((dig n).drop k) := fun y hy => okD_dig n y (List.mem_of_mem_drop hy)
  have h1 := lval_lt ok
  refine ⟨h1.1, ?_⟩
  have := dig_len _ _ h1.2
  rw [List.length_drop] at this
  omega
structure XI (l : List Int) (x j c : Int) (L : List (List PV)) (k : Nat) : Prop where
  j0 : 0 ≤ j
  j1 : j ≤ l.length
  o : ∃ o, MulI l o x j.toNat c ∧ o.map u32c = L
  len : L.length = k
theorem XI.step {l : List Int} {x j c : Int} {L : List (List PV)} {k : Nat} (hl : okD l) (hx : 0 ≤ x ∧ x < 65536) (h : XI l x j c L k) {a : Int} (ha : l[j.toNat]? = some a) :
    XI l x (j + 1) ((c + a * x) / 65536) (L ++ [[.int .u32 ((c + a * x) % 65536)]]) (k + 1) ∧ (0 ≤ a ∧ a < 65536) ∧ (0 ≤ a * x ∧ a * x ≤ 4294836225) ∧ 0 ≤ c ∧ c < 65536 := by
  obtain ⟨o, ho, hL⟩ := h.o
  have j0 := h.j0
  have hlt := (List.getElem?_eq_some_iff.1 ha).1
  have ra := okD_get hl j.toNat
  have hs := ho.step hl hx
  rw [ha, Option.getD_some] at hs ra
  refine ⟨⟨by omega, by omega, ⟨_, by rw [show (j + 1).toNat = j.toNat + 1 by omega]; exact hs, ?_⟩, by simp [h.len]⟩, ra, mul_dd ra hx, ho.c0, ho.c1⟩
  rw [List.map_append, hL]; rfl
theorem XI.stop {l : List Int} {x j c : Int} {L : List (List PV)} {k : Nat} (h : XI l x j c L k) (h1 : ¬ j < l.length) (hM : l.length ≤ 400) : ∃ o, okD o ∧ o.map u32c = L ++ [[.int .u32 c]] ∧ o.length ≤ 1000 ∧ lval o = x * lval l ∧ 0 ≤ c ∧ c < 65536 := by
  obtain ⟨o, ho, hL⟩ := h.o
  have := h.j0
  have := h.j1
  rw [show j.toNat = l.length by omega] at ho
  obtain ⟨s1, s2⟩ := ho.stop
  exact ⟨o ++ [c], s2, by rw [List.map_append, hL]; rfl, by simp [ho.len]; omega, s1, ho.c0, ho.c1⟩
end Go.Proofs.YtnhmnfokbinplaaGreat

namespace Go.Proofs.YtnhmnfokbinplaaGreat
open Go Go.RowKit
set_option maxRecDepth 100000
set_option linter.unusedSimpArgs false
set_option linter.unusedVariables false

set_option maxHeartbeats 8000000 in
theorem times_c' (x y : Int) (lx : (dig (uabs x)).length ≤ 200) (ly : (dig (uabs y)).length ≤ 200) : PCall Tryz.prog 105 [.agg (longZ x), .agg (longZ y)] fun r => r = [.agg (longZ (x * y))] := by
  have ox := okD_dig (uabs x)
  have oy := okD_dig (uabs y)
  have nx := uabs_nn x
  have ny := uabs_nn y
  have vx := lval_dig' nx
  have vy := lval_dig' ny
  have hmul := sgn_mul x y
  have hlv : ∀ i, 0 ≤ timesV (uabs x) (dig (uabs y)) i ∧ (dig (timesV (uabs x) (dig (uabs y)) i)).length ≤ 400 := by
    intro i
    obtain ⟨h1, h2⟩ := lval_drop_dig ny (i + 1).toNat
    have := dig_mul nx h1
    exact ⟨Int.mul_nonneg nx h1, by unfold timesV; omega⟩
  have hend : timesV (uabs x) (dig (uabs y)) (-1) = uabs x * uabs y := by
    unfold timesV; simp [vy]
  obtain ⟨q1, q2, hQ0⟩ : ∃ q1 q2, longZ (x * y) = [.bool q1, .sl q2] := ⟨_, _, rfl⟩
  rw [hQ0]
  unfold longZ longD
  obtain ⟨m, hm⟩ : ∃ m, decide (x < 0) = m := ⟨_, rfl⟩
  obtain ⟨m', hm'⟩ : ∃ m, decide (y < 0) = m := ⟨_, rfl⟩
  rw [hm, hm'] at hmul ⊢
  generalize ha : uabs x = a at *
  generalize hdx : dig a = dx at *
  generalize hdy : dig (uabs y) = dy at *
  obtain ⟨X, hX⟩ : ∃ X, dx.map u32c = X := ⟨_, rfl⟩
  obtain ⟨Y, hY⟩ : ∃ Y, dy.map u32c = Y := ⟨_, rfl⟩
  rw [hX, hY]
  have h1 : X.length = dx.length := by rw [← hX]; simp
  have h2 : Y.length = dy.length := by rw [← hY]; simp
  have hst0 : ∀ s z : Int, (Y.length : Int) = s → IntKind.i64.wrap (s - 1) = z → (-1 ≤ z ∧ z < dy.length) ∧ timesV a dy z = 0 := by
    intro s z h g
    rw [wrap_in (by omega)] at g
    refine ⟨by omega, ?_⟩
    unfold timesV; rw [List.drop_eq_nil_of_le (by omega)]; simp [lval]
  -- the last step
  have hfinal : PCall Tryz.prog 104 [.agg [.bool (m != m'), .sl ((dig (a * uabs y)).map u32c)]] fun r => r = [.agg [.bool q1, .sl q2]] := by
    have hl := dig_mul nx ny
    have := trim_c (m != m') (dig (a * uabs y)) (okD_dig _) _ rfl (by rw [hdx, hdy] at hl; omega)
    rw [lval_dig' (Int.mul_nonneg nx ny), hmul, hQ0] at this
    exact this
  have hfin : ∀ (i : Int) (D : List (List PV)) (z : Bool), (dig (timesV a dy i)).map u32c = D → (-1 ≤ i) → decide (0 ≤ i) = false → (!(m == m')) = z → PCall Tryz.prog 104 [.agg [.bool z, .sl D]] fun r => r = [.agg [.bool q1, .sl q2]] := by
    intro i D z hD hi h hz
    simp only [decide_eq_false_iff_not] at h
    rw [show i = -1 by omega, hend] at hD
    have : (m != m') = z := by rw [← hz]; rfl
    rw [← hD, ← this]; exact hfinal
  clear hfinal hend
  refine PCall.x (nt := 76) (res := [.cell 4 98]) mixed tt_ok [] Tryz.func105 rfl rfl rfl c105 (Nat.le_of_ble_eq_true rfl) ?_
  intro cp cc lp Q' hcp hcc hlp hQ
  repeat' (first
    | (with_reducible refine Nm.mk ?_; intro z hz)
    | (with_reducible refine IfB.mk ?_ ?_ <;> (intro h; cases h))
    | (with_reducible refine Two.l ?_; refine Asm.mk ?_ ?_; focus (decide +kernel))
    | (with_reducible refine Two.r ?_)
    | (with_reducible refine Asm.mk ?_ ?_; focus (first | kernel_rfl | decide))
    | (with_reducible refine Asm.mk2 ?_ ?_)
    | ((fail_if_success (with_reducible first | refine hQ _ ?_ | refine Side.mk ?_ | refine isCP hcp ?_ | refine isCC hcc ?_ | refine isLP hlp ?_ | refine Ix.mk ?_ | refine SIx.mk ?_ | refine SEx.mk ?_ | refine EIx.mk ?_ | refine RIx.mk ?_ | show False | refine hR ?_ _ ?_ ?_ ?_ ?_ ?_ | refine hR2 ?_ _ ?_ ?_ ?_ ?_ ?_)); cbv))
  obtain ⟨hz0, hzt⟩ := hst0 _ _ (by assumption) hz
  clear hst0
  refine forgetX hlp 3 1 rfl rfl rfl ?_
  refine loopT (ι := Int × List (List PV)) mixed tt_ok hcp hcc hlp [2, 3, 4, 5] (fun p => [(6, .p (.int .i64 p.1))])
    (fun p => [.cells [.p (.bool m), .p (.sl X)], .cells [.p (.bool m'), .p (.sl Y)], .cells [.p (.bool false), .full []], .cells [.p (.bool false), .p (.sl p.2)]])
    (fun p => (-1 ≤ p.1 ∧ p.1 < dy.length) ∧ (dig (timesV a dy p.1)).map u32c = p.2) (fun p => (p.1 + 1).toNat) (z, []) 4 (fun _ => rfl) ⟨hz0, by show (dig (timesV a dy z)).map u32c = []; rw [hzt, dig_zero]; rfl⟩ ⟨rfl, trivial⟩ rfl ?_
  rintro R ⟨i, D⟩ ⟨⟨hi0, hi1⟩, hD⟩ hR
  have hi0 : -1 ≤ i := hi0
  have hi1 : i < (dy.length : Int) := hi1
  have hD : (dig (timesV a dy i)).map u32c = D := hD
  obtain ⟨v0, vl⟩ := hlv i
  have hDl : D.length ≤ 400 := by rw [← hD]; simpa using vl
  have hDok : okEs 1 D = true := by rw [← hD]; exact ok_u32 _
  have hk : decide (0 ≤ i) = true → 0 ≤ i := of_decide_eq_true
  have hiN : decide (0 ≤ i) = true → i.toNat < dy.length := by intro h; have := hk h; omega
  -- out shifted
  obtain ⟨E1, hE1⟩ : ∃ E1, (dig (65536 * timesV a dy i)).map u32c = E1 := ⟨_, rfl⟩
  have ht1 : ∀ L1, [[.int .u32 0]] ++ D = L1 → PCall Tryz.prog 104 [.agg [.bool false, .sl L1]] fun r => r = [.agg [.bool false, .sl E1]] := by
    intro L1 h
    have := trim_c false (0 :: dig (timesV a dy i)) (okD_cons.2 ⟨by omega, okD_dig _⟩) L1 (by rw [List.map_cons, hD, ← h]; rfl) (by simp; omega)
    rw [lval, lval_dig' v0, Int.zero_add, show sgn false (65536 * timesV a dy i) = 65536 * timesV a dy i from rfl, longZ_pos (by omega), hE1] at this
    exact this
  have hs1 : ([[PV.int .u32 0]]).length + D.length ≤ maxLen ∧ (([[PV.int .u32 0]]).length + D.length) * 4 ≤ 140737488355328 := by
    simp only [List.length_cons, List.length_nil, maxLen]; omega
  have hfin' := hfin i D
  repeat' (first
    | (with_reducible refine Nm.mk ?_; intro z hz)
    | (with_reducible refine IfB.mk ?_ ?_ <;> (intro h; cases h))
    | (with_reducible refine Two.l ?_; refine Asm.mk ?_ ?_; focus (decide +kernel))
    | (with_reducible refine Two.r ?_)
    | (with_reducible refine Asm.mk ?_ ?_; focus (first | kernel_rfl | decide))
    | (with_reducible refine isCP hcp ?_; first | (refine xP hcp (hfin' _ hD hi0 (by assumption) (by assumption)) ?_; skip) | (refine xP hcp (ht1 _ (by assumption)) ?_; skip))
    | (with_reducible refine isCC hcc ?_; first | (refine xA hcc (hfin' _ hD hi0 (by assumption) (by assumption)) rfl ?_; skip) | (refine xA hcc (ht1 _ (by assumption)) rfl ?_; skip))
    | (with_reducible refine Asm.mk2 ?_ ?_)
    | ((fail_if_success (with_reducible first | refine hQ _ ?_ | refine Side.mk ?_ | refine isCP hcp ?_ | refine isCC hcc ?_ | refine isLP hlp ?_ | refine Ix.mk ?_ | refine SIx.mk ?_ | refine SEx.mk ?_ | refine EIx.mk ?_ | refine RIx.mk ?_ | show False | refine hR ?_ _ ?_ ?_ ?_ ?_ ?_ | refine hR2 ?_ _ ?_ ?_ ?_ ?_ ?_)); cbv))
  · exact Side.mk ⟨rfl, hDok, hs1⟩
  · rename Int => zl
    have hzl := hz
    clear hz
    have hge := hk (by assumption)
    obtain ⟨yi, hyi⟩ : ∃ yi, dy[i.toNat]? = some yi := ⟨_, List.getElem?_eq_getElem (hiN (by assumption))⟩
    have hyr : 0 ≤ yi ∧ yi < 65536 := oy yi (List.mem_of_getElem? hyi)
    rename Nat => mm
    refine mintX hlp 1 5 1 rfl rfl ?_
    refine loopT (ι := Int × Int × List (List PV) × Nat) mixed tt_ok hcp hcc hlp [2, 3, 4, 5, 6, 7, 29, 30] (fun p => [(8, .p (.int .u64 p.2.1)), (31, .p (.int .i64 p.1))])
      (fun p => [.cells [.p (.bool m), .p (.sl X)], .cells [.p (.bool m'), .p (.sl Y)], .cells [.p (.bool false), .full []], .cells [.p (.bool false), .p (.sl E1)], .spare mm 1, .cells [.p (.bool false), .tok 6 p.2.2.1], .spare p.2.2.2 1])
      (fun p => XI dx yi p.1 p.2.1 p.2.2.1 p.2.2.2) (fun p => (zl - p.1).toNat) (0, 0, [], 0) 7 (fun _ => rfl) ⟨by omega, by omega, ⟨[], MulI.start _ _, rfl⟩, rfl⟩ ⟨rfl, rfl, trivial⟩ rfl ?_
    rintro R2 ⟨j, c, L, k⟩ hj hR2
    have hj : XI dx yi j c L k := hj
    have hj0 := hj.j0
    have hj1 : j ≤ (dx.length : Int) := hj.j1
    have hkk := hj.len
    have hzl : (X.length : Int) = zl := hzl
    have hok : okEs 1 L = true := by obtain ⟨o, _, hL⟩ := hj.o; rw [← hL]; exact ok_u32 o
    have hLl : L.length + 1 ≤ maxLen ∧ (L.length + 1) * 4 ≤ 140737488355328 := by
      obtain ⟨o, ho, hL⟩ := hj.o
      have : L.length = j.toNat := by rw [← hL, List.length_map, ho.len]
      have : (dx.length : Int) ≤ 200 := by omega
      exact ⟨by simp only [maxLen]; omega, by omega⟩
    have hkj : decide (j < zl) = true → j < dx.length := by intro h; simp only [decide_eq_true_eq] at h; omega
    have hiy : i < (dy.length : Int) := hi1
    have hstep : decide (j < zl) = true → ∀ u b w d g h t e q f : Int, dx[j.toNat]? = some u → IntKind.u64.wrap u = b → dy[i.toNat]? = some w → IntKind.u64.wrap w = d → IntKind.u64.wrap (b * d) = g → IntKind.u64.wrap (c + g) = h → IntKind.u64.wrap ((BitVec.ofInt IntKind.u64.bits h &&& BitVec.ofInt IntKind.u64.bits 65535).toNat : Int) = t → IntKind.u32.wrap t = e →
        h.fdiv (2 ^ (min (16 : Int).toNat IntKind.u64.bits)) = q → IntKind.i64.wrap (j + 1) = f → XI dx yi (j + 1) q (L ++ [[.int .u32 e]]) (k + 1) ∧ f = j + 1 ∧ (zl - (j + 1)).toNat < (zl - j).toNat := by
      intro hc u b w d g h t e q f k1 k2 k3 k4 k5 k6 k7 k8 k9 k10
      have hlt := hkj hc
      simp only [decide_eq_true_eq] at hc
      rw [hyi] at k3
      simp only [Option.some.injEq] at k3
      subst k3
      obtain ⟨st, ru, rp, rc0, rc1⟩ := hj.step ox hyr k1
      rw [IntWalk.u64_in _ (by omega)] at k2
      rw [IntWalk.u64_in _ (by omega)] at k4
      subst k2 k4
      rw [IntWalk.u64_in _ (by omega)] at k5
      subst k5
      rw [IntWalk.u64_in _ (by omega)] at k6
      subst k6
      rw [and16u _ (by omega)] at k7
      subst k7
      rw [IntWalk.u32_in _ (by omega)] at k8
      rw [shr16u] at k9
      rw [wrap_in (by omega)] at k10
      subst k8 k9
      exact ⟨st, k10.symm, by omega⟩
    -- behind the inner loop
    obtain ⟨V1, hV1⟩ : ∃ V, (dig (yi * a)).map u32c = V := ⟨_, rfl⟩
    obtain ⟨V2, hV2⟩ : ∃ V, (dig (timesV a dy (i - 1))).map u32c = V := ⟨_, rfl⟩
    have hya : 0 ≤ yi * a := Int.mul_nonneg hyr.1 nx
    have hpart : decide (j < zl) = false → ∀ (e : Int) (L2 : List (List PV)), IntKind.u32.wrap c = e → L ++ [[.int .u32 e]] = L2 → PCall Tryz.prog 104 [.agg [.bool false, .sl L2]] fun r => r = [.agg [.bool false, .sl V1]] := by
      intro h e L2 he hL2
      simp only [decide_eq_false_iff_not] at h
      obtain ⟨o, oo, oL, ol, ov, c0, c1⟩ := hj.stop (by omega) (by omega)
      rw [IntWalk.u32_in _ (by omega)] at he
      have := trim_c false o oo L2 (by rw [oL, he, hL2]) ol
      rw [ov, vx, show sgn false (yi * a) = yi * a from rfl, longZ_pos hya, hV1] at this
      exact this
    have hsum : PCall Tryz.prog 102 [.agg [.bool false, .sl E1], .agg [.bool false, .sl V1]] fun r => r = [.agg [.bool false, .sl V2]] := by
      have e1 := timesV_step (a := a) hge hyi
      have b1 := (hlv (i - 1)).2
      have b0 := (hlv (i - 1)).1
      have u1 : uabs (65536 * timesV a dy i) = 65536 * timesV a dy i := by unfold uabs; rw [if_neg (by omega)]
      have u2 : uabs (yi * a) = yi * a := by unfold uabs; rw [if_neg (by omega)]
      have l1 := dig_len_le (m := 65536 * timesV a dy i) (n := timesV a dy (i - 1)) (by omega) (by omega)
      have l2 := dig_len_le (m := yi * a) (n := timesV a dy (i - 1)) (by omega) (by omega)
      have := plus_c (65536 * timesV a dy i) (yi * a) (by rw [u1]; omega) (by rw [u2]; omega)
      rw [longZ_pos (by omega), longZ_pos hya, ← e1, longZ_pos b0, hE1, hV1, hV2] at this
      exact this
    have hnext : ∀ f : Int, IntKind.i64.wrap (i - 1) = f → f = i - 1 ∧ (-1 ≤ i - 1 ∧ i - 1 < dy.length) ∧ (i - 1 + 1).toNat < (i + 1).toNat := by
      intro f h; rw [wrap_in (by omega)] at h; omega
    have hlen1 : dx.length ≤ 200 := lx
    clear hfin hfin' ht1
    have i0' : 0 ≤ i := hge
    repeat' (first
      | (with_reducible refine Nm.mk ?_; intro z hz)
      | (with_reducible refine IfB.mk ?_ ?_ <;> (intro h; cases h))
      | (with_reducible refine Two.l ?_; refine Asm.mk ?_ ?_; focus (decide +kernel))
      | (with_reducible refine Two.r ?_)
      | (with_reducible refine Asm.mk ?_ ?_; focus kernel_rfl)
      | (with_reducible refine isCP hcp ?_; first | (refine xP hcp (hpart (by assumption) _ _ (by assumption) (by assumption)) ?_; skip) | (refine xP hcp (hsum) ?_; skip))
      | (with_reducible refine isCC hcc ?_; first | (refine xA hcc (hpart (by assumption) _ _ (by assumption) (by assumption)) rfl ?_; skip) | (refine xA hcc (hsum) rfl ?_; skip))
      | (with_reducible refine Ix.map hX u32c_len (by decide) hj0 (hkj (by assumption)) ?_; intro u hu)
      | (with_reducible refine Ix.map hY u32c_len (by decide) i0' hiy ?_; intro w hw)
      | (with_reducible refine Asm.mk2 ?_ ?_)
      | ((fail_if_success (with_reducible first | refine hQ _ ?_ | refine Side.mk ?_ | refine isCP hcp ?_ | refine isCC hcc ?_ | refine isLP hlp ?_ | refine Ix.mk ?_ | refine SIx.mk ?_ | refine SEx.mk ?_ | refine EIx.mk ?_ | refine RIx.mk ?_ | show False | refine hR ?_ _ ?_ ?_ ?_ ?_ ?_ | refine hR2 ?_ _ ?_ ?_ ?_ ?_ ?_)); cbv))
    all_goals first
      | exact Side.mk ⟨hkk.symm, rfl, hok, rfl, hLl.1, hLl.2⟩
      | (refine Side.mk ?_; decide)
      | (rename_i y0 hy0 y1 hy1 y2 hy2 y3 hy3 y4 hy4
         obtain ⟨g1, g2, g3⟩ := hstep (by assumption) _ _ _ _ _ _ _ _ _ _ hu (by assumption) hw (by assumption) (by assumption) (by assumption) hy0 hy1 hy4 hz
         exact hR2 (j + 1, y4, y2, y3) _ (by show XI dx yi (j + 1) y4 y2 y3; rw [← hy2, ← hy3, hkk]; exact g1) g3 ⟨rfl, g2 ▸ rfl, trivial⟩ ⟨rfl, rfl, rfl, rfl, rfl, rfl, rfl, rfl, trivial⟩ rfl)
      | (obtain ⟨g1, g2, g3⟩ := hnext _ hz
         exact hR (i - 1, V2) _ ⟨g2, hV2⟩ g3 ⟨g1 ▸ rfl, trivial⟩ ⟨rfl, rfl, rfl, rfl, trivial⟩ rfl)
  · exact hQ _ rfl
end Go.Proofs.YtnhmnfokbinplaaGreat

namespace Go.Proofs.YtnhmnfokbinplaaGreat
open Go Go.RowKit
set_option maxRecDepth 100000
set_option linter.unusedSimpArgs false
set_option linter.unusedVariables false

theorem dig_small {n : Int} (h : 0 < n) (h' : n < 65536) : dig n = [n] := by
  rw [dig_pos h, show n / 65536 = 0 by omega, dig_zero, show n % 65536 = n by omega]
theorem two_l : PCall Tryz.prog 101 [.int .i64 2] fun r => r = [.agg [.bool false, .sl [[.int .u32 2]]]] := by
  have := longOf_c 2 (by decide)
  rw [longZ_pos (by decide), dig_small (by decide) (by decide)] at this
  exact this
theorem one_l : PCall Tryz.prog 101 [.int .i64 1] fun r => r = [.agg [.bool false, .sl [[.int .u32 1]]]] := by
  have := longOf_c 1 (by decide)
  rw [longZ_pos (by decide), dig_small (by decide) (by decide)] at this
  exact this
theorem len_pos {v : Int} (h : 0 ≤ v) : (dig (uabs v)).length = (dig v).length := by
  have : uabs v = v := by unfold uabs; rw [if_neg (by omega)]
  rw [this]
theorem times2 {q : Int} (hq : 0 ≤ q) (hl : (dig q).length ≤ 100) : PCall Tryz.prog 105 [.agg [.bool false, .sl ((dig q).map u32c)], .agg [.bool false, .sl [[.int .u32 2]]]] fun r => r = [.agg [.bool false, .sl ((dig (q * 2)).map u32c)]] := by
  have := times_c' q 2 (by rw [len_pos hq]; omega) (by rw [len_pos (by decide), dig_small (by decide) (by decide)]; decide)
  rw [longZ_pos hq, longZ_pos (v := 2) (by decide), dig_small (n := 2) (by decide) (by decide), longZ_pos (v := q * 2) (by omega)] at this
  exact this
theorem plus1' {q : Int} (hq : 0 ≤ q) (hl : (dig q).length ≤ 200) : PCall Tryz.prog 102 [.agg [.bool false, .sl ((dig q).map u32c)], .agg [.bool false, .sl [[.int .u32 1]]]] fun r => r = [.agg [.bool false, .sl ((dig (q + 1)).map u32c)]] := by
  have := plus_c q 1 (by rw [len_pos hq]; omega) (by rw [len_pos (by decide), dig_small (by decide) (by decide)]; decide)
  rw [longZ_pos hq, longZ_pos (v := 1) (by decide), dig_small (n := 1) (by decide) (by decide), longZ_pos (v := q + 1) (by omega)] at this
  exact this
theorem minus' {q y : Int} (hq : 0 ≤ q) (hy : 0 < y) (h : y ≤ q) (hl : (dig q).length ≤ 200) : PCall Tryz.prog 102 [.agg [.bool false, .sl ((dig q).map u32c)], .agg [.bool true, .sl ((dig y).map u32c)]] fun r => r = [.agg [.bool false, .sl ((dig (q - y)).map u32c)]] := by
  have hl2 := dig_len_le (by omega : 0 ≤ y) h
  have u : uabs (-y) = y := by unfold uabs; rw [if_pos (by omega)]; omega
  have := plus_c q (-y) (by rw [len_pos hq]; omega) (by rw [u]; omega)
  have e : longZ (-y) = [.bool true, .sl ((dig y).map u32c)] := by rw [longZ, longD, u, decide_eq_true (by omega)]
  rw [longZ_pos hq, e, show q + -y = q - y by omega, longZ_pos (v := q - y) (by omega)] at this
  exact this
theorem and1v (a : Int) (h : 0 ≤ a ∧ a < 4294967296) : IntKind.u32.wrap ((BitVec.ofInt IntKind.u32.bits a &&& BitVec.ofInt IntKind.u32.bits 1).toNat : Int) = a % 2 := by
  obtain ⟨n, rfl⟩ := Int.eq_ofNat_of_zero_le h.1
  have e : (BitVec.ofInt IntKind.u32.bits (n : Int) &&& BitVec.ofInt IntKind.u32.bits 1).toNat = n % 2 := by
    have hb : IntKind.u32.bits = 32 := rfl
    rw [hb]
    rw [BitVec.toNat_and]
    have e1 : (BitVec.ofInt 32 (n : Int)).toNat = n := by simp [BitVec.toNat_ofInt]; omega
    have e2 : (BitVec.ofInt 32 1).toNat = 2 ^ 1 - 1 := by decide
    rw [e1, e2, Nat.and_two_pow_sub_one_eq_mod]
  rw [e, IntWalk.u32_in _ (by omega)]
  omega
theorem bit_get {X : Int} (hX : 0 ≤ X) (i : Int) (hi : 0 ≤ i) {a x b c e : Int} (ha : IntKind.i64.wrap (i.tdiv 16) = a) (hs : i < 9223372036854775807) (hx : (dig X)[a.toNat]? = some x) (hb : i.tmod 16 = b)
    (hc : x.fdiv (2 ^ (min b.toNat IntKind.u32.bits)) = c) (he : IntKind.u32.wrap ((BitVec.ofInt IntKind.u32.bits c &&& BitVec.ofInt IntKind.u32.bits 1).toNat : Int) = e) : e = X / 2 ^ i.toNat % 2 := by
  have hxr := okD_dig X x (List.mem_of_getElem? hx)
  rw [IntWalk.i64_quo _ _ ⟨hi, by omega, by decide⟩] at ha
  rw [Int.tmod_eq_emod_of_nonneg hi] at hb
  have e1 : a.toNat = i.toNat / 16 := by omega
  have e2 : b.toNat = i.toNat % 16 := by omega
  have hb32 : min b.toNat IntKind.u32.bits = i.toNat % 16 := by
    have : IntKind.u32.bits = 32 := rfl
    omega
  have hxv : x = X / 65536 ^ (i.toNat / 16) % 65536 := by
    have := dig_get a.toNat X hX
    rw [hx, e1] at this; simpa using this
  rw [hb32, Int.fdiv_eq_ediv_of_nonneg _ (Int.pow_nonneg (by decide))] at hc
  have hcr : 0 ≤ c ∧ c < 65536 := by
    rw [← hc]
    have hp : (0 : Int) < 2 ^ (i.toNat % 16) := Int.pow_pos (by decide)
    exact ⟨Int.ediv_nonneg hxr.1 (Int.le_of_lt hp), Int.lt_of_le_of_lt (Int.ediv_le_self _ hxr.1) hxr.2⟩
  rw [and1v _ (by omega)] at he
  rw [← he, ← hc, hxv, bit_of]
theorem sgn_div {x y : Int} (hy : y ≠ 0) : sgn (decide (x < 0) != decide (y < 0)) (uabs x / uabs y) = x.tdiv y ∧ sgn (decide (x < 0)) (uabs x % uabs y) = x.tmod y := by
  unfold sgn uabs
  by_cases g : x < 0 <;> by_cases g' : y < 0
  · have e1 : x.tdiv y = (-x) / (-y) := by rw [← Int.tdiv_eq_ediv_of_nonneg (by omega), Int.neg_tdiv, Int.tdiv_neg, Int.neg_neg]
    have e2 : x.tmod y = -((-x) % (-y)) := by rw [← Int.tmod_eq_emod_of_nonneg (by omega), Int.neg_tmod, Int.tmod_neg, Int.neg_neg]
    simp [g, g', e1, e2]
  · have e1 : x.tdiv y = -((-x) / y) := by rw [← Int.tdiv_eq_ediv_of_nonneg (by omega), Int.neg_tdiv, Int.neg_neg]
    have e2 : x.tmod y = -((-x) % y) := by rw [← Int.tmod_eq_emod_of_nonneg (by omega), Int.neg_tmod, Int.neg_neg]
    simp [g, g', e1, e2]
  · have e1 : x.tdiv y = -(x / (-y)) := by rw [← Int.tdiv_eq_ediv_of_nonneg (by omega), Int.tdiv_neg, Int.neg_neg]
    have e2 : x.tmod y = x % (-y) := by rw [← Int.tmod_eq_emod_of_nonneg (by omega), Int.tmod_neg]
    simp [g, g', e1, e2]
  · have e1 : x.tdiv y = x / y := by rw [← Int.tdiv_eq_ediv_of_nonneg (by omega)]
    have e2 : x.tmod y = x % y := by rw [← Int.tmod_eq_emod_of_nonneg (by omega)]
    simp [g, g', e1, e2]
end Go.Proofs.YtnhmnfokbinplaaGreat

namespace Go.Proofs.YtnhmnfokbinplaaGreat
open Go Go.RowKit
set_option maxRecDepth 100000
set_option linter.unusedSimpArgs false
set_option linter.unusedVariables false

structure DI (X Y : Int) (i : Int) (q r : Int) (Qd Rd : List (List PV)) : Prop where
  i0 : -1 ≤ i
  q0 : 0 ≤ q ∧ q ≤ X
  r0 : 0 ≤ r ∧ r < Y
  d : DivI X Y (i + 1).toNat q r
  eq : (dig q).map u32c = Qd
  er : (dig r).map u32c = Rd
set_option maxHeartbeats 8000000 in
theorem divided_c (x y : Int) (hy0 : y ≠ 0) (lx : (dig (uabs x)).length ≤ 20) (ly : (dig (uabs y)).length ≤ 20) :
    PCall Tryz.prog 106 [.agg (longZ x), .agg (longZ y)] fun r => r = [.agg (longZ (x.tdiv y)), .agg (longZ (x.tmod y))] := by
  have nx := uabs_nn x
  have ny : 0 < uabs y := by unfold uabs; split <;> omega
  obtain ⟨sd, sm⟩ := sgn_div (x := x) hy0
  obtain ⟨q1, q2, hQ0⟩ : ∃ q1 q2, longZ (x.tdiv y) = [.bool q1, .sl q2] := ⟨_, _, rfl⟩
  obtain ⟨q3, q4, hQ1⟩ : ∃ q1 q2, longZ (x.tmod y) = [.bool q1, .sl q2] := ⟨_, _, rfl⟩
  rw [hQ0, hQ1]
  unfold longZ longD
  obtain ⟨m, hm⟩ : ∃ m, decide (x < 0) = m := ⟨_, rfl⟩
  obtain ⟨m', hm'⟩ : ∃ m, decide (y < 0) = m := ⟨_, rfl⟩
  rw [hm, hm'] at sd ⊢
  rw [hm] at sm
  generalize hax : uabs x = ax at *
  generalize hay : uabs y = ay at *
  obtain ⟨X, hX⟩ : ∃ X, (dig ax).map u32c = X := ⟨_, rfl⟩
  obtain ⟨Y, hY⟩ : ∃ Y, (dig ay).map u32c = Y := ⟨_, rfl⟩
  rw [hX, hY]
  have h1 : X.length = (dig ax).length := by rw [← hX]; simp
  -- lengths
  have hqx : ∀ q, 0 ≤ q → q ≤ ax → (dig q).length ≤ 20 := fun q h g => by have := dig_len_le h g; omega
  have hry : ∀ r, 0 ≤ r → r < ay → (dig r).length ≤ 20 := fun r h g => by have := dig_len_le h (by omega : r ≤ ay); omega
  have h22 : ∀ r, 0 ≤ r → (dig r).length ≤ 20 → (dig (r * 2)).length ≤ 21 ∧ (dig (r * 2 + 1)).length ≤ 41 := by
    intro r h g
    have l2 : (dig 2).length = 1 := by rw [dig_small (by decide) (by decide)]; rfl
    have l3 : (dig 3).length = 1 := by rw [dig_small (by decide) (by decide)]; rfl
    have a := dig_mul h (by decide : (0 : Int) ≤ 2)
    refine ⟨by omega, ?_⟩
    rcases Int.lt_or_eq_of_le h with p | p
    · have b := dig_mul h (by decide : (0 : Int) ≤ 3)
      have c := dig_len_le (by omega : 0 ≤ r * 2 + 1) (by omega : r * 2 + 1 ≤ r * 3)
      omega
    · subst p; rw [dig_small (by decide) (by decide)]; decide
  have hst0 : ∀ s t z : Int, (X.length : Int) = s → IntKind.i64.wrap (s * 16) = t → IntKind.i64.wrap (t - 1) = z → (-1 ≤ z ∧ z < 16 * (dig ax).length) ∧ DI ax ay z 0 0 [] [] := by
    intro s t z h g k
    rw [wrap_in (by omega)] at g
    rw [wrap_in (by omega)] at k
    have e : (z + 1).toNat = 16 * (dig ax).length := by omega
    exact ⟨by omega, by omega, by omega, by omega, by rw [e]; exact DivI.start nx, by rw [dig_zero]; rfl, by rw [dig_zero]; rfl⟩
  -- the end
  have hend : ∀ (i q r : Int) (Qd Rd : List (List PV)) (z : Bool), DI ax ay i q r Qd Rd → decide (0 ≤ i) = false → (!(m == m')) = z →
      (PCall Tryz.prog 104 [.agg [.bool z, .sl Qd]] fun r => r = [.agg [.bool q1, .sl q2]]) ∧ PCall Tryz.prog 104 [.agg [.bool m, .sl Rd]] fun r => r = [.agg [.bool q3, .sl q4]] := by
    intro i q r Qd Rd z h hi hz
    simp only [decide_eq_false_iff_not] at hi
    have i0 := h.i0
    have d := h.d
    rw [show (i + 1).toNat = 0 by omega] at d
    obtain ⟨e1, e2⟩ := d.stop
    have lq := hqx q h.q0.1 h.q0.2
    have lr := hry r h.r0.1 h.r0.2
    have a := trim_c z (dig q) (okD_dig q) Qd h.eq (by omega)
    have b := trim_c m (dig r) (okD_dig r) Rd h.er (by omega)
    rw [lval_dig' h.q0.1, ← hz, show (!(m == m')) = (m != m') from rfl, e1, sd, hQ0] at a
    rw [lval_dig' h.r0.1, e2, sm, hQ1] at b
    rw [← hz]
    exact ⟨a, b⟩
  clear sd sm
  refine PCall.x (nt := 71) (res := [.cell 4 98, .cell 5 98]) mixed tt_ok [] Tryz.func106 rfl rfl rfl c106 (Nat.le_of_ble_eq_true rfl) ?_
  intro cp cc lp Q' hcp hcc hlp hQ
  repeat' (first
    | (with_reducible refine Nm.mk ?_; intro z hz)
    | (with_reducible refine IfB.mk ?_ ?_ <;> (intro h; cases h))
    | (with_reducible refine Two.l ?_; refine Asm.mk ?_ ?_; focus (decide +kernel))
    | (with_reducible refine Two.r ?_)
    | (with_reducible refine Asm.mk ?_ ?_; focus (first | kernel_rfl | decide))
    | (with_reducible refine isCP hcp ?_; first | (refine xP hcp (two_l) ?_; skip))
    | (with_reducible refine isCC hcc ?_; first | (refine xA hcc (two_l) rfl ?_; skip))
    | (with_reducible refine Asm.mk2 ?_ ?_)
    | ((fail_if_success (with_reducible first | refine hQ _ ?_ | refine Side.mk ?_ | refine isCP hcp ?_ | refine isCC hcc ?_ | refine isLP hlp ?_ | refine Ix.mk ?_ | refine SIx.mk ?_ | refine SEx.mk ?_ | refine EIx.mk ?_ | refine RIx.mk ?_ | show False | refine hR ?_ _ ?_ ?_ ?_ ?_ ?_ | refine hR2 ?_ _ ?_ ?_ ?_ ?_ ?_)); cbv))
  obtain ⟨hzr, hd0⟩ := hst0 _ _ _ (by assumption) (by assumption) hz
  clear hst0
  refine forgetX hlp 4 1 rfl rfl rfl ?_
  refine forgetX hlp 5 1 rfl rfl rfl ?_
  refine loopT (ι := Int × Int × Int × List (List PV) × List (List PV)) mixed tt_ok hcp hcc hlp [2, 3, 4, 5, 6, 7, 8, 9] (fun p => [(10, .p (.int .i64 p.1))])
    (fun p => [.cells [.p (.bool m), .p (.sl X)], .cells [.p (.bool m'), .p (.sl Y)], .cells [.p (.bool false), .full []], .cells [.p (.bool false), .full []], .cells [.p (.bool false), .p (.sl p.2.2.2.1)], .cells [.p (.bool false), .p (.sl p.2.2.2.2)], .cells [.p (.bool false), .p (.sl [[.int .u32 2]])], .cells [.p (.bool false), .p (.sl Y)]])
    (fun p => p.1 < 16 * (dig ax).length ∧ DI ax ay p.1 p.2.1 p.2.2.1 p.2.2.2.1 p.2.2.2.2) (fun p => (p.1 + 1).toNat) (z, 0, 0, [], []) 8 (fun _ => rfl) ⟨hzr.2, hd0⟩ ⟨rfl, trivial⟩ rfl ?_
  rintro R ⟨i, q, r, Qd, Rd⟩ ⟨hi1, hd⟩ hR
  have hi1 : i < 16 * ((dig ax).length : Int) := hi1
  have hd : DI ax ay i q r Qd Rd := hd
  have hi0 := hd.i0
  have lq := hqx q hd.q0.1 hd.q0.2
  have lr := hry r hd.r0.1 hd.r0.2
  obtain ⟨lq2, lq3⟩ := h22 q hd.q0.1 lq
  obtain ⟨lr2, lr3⟩ := h22 r hd.r0.1 lr
  have q00 := hd.q0
  have r00 := hd.r0
  have heq := hd.eq
  have her := hd.er
  obtain ⟨Q2, hQ2⟩ : ∃ V, (dig (q * 2)).map u32c = V := ⟨_, rfl⟩
  obtain ⟨Q3, hQ3⟩ : ∃ V, (dig (q * 2 + 1)).map u32c = V := ⟨_, rfl⟩
  obtain ⟨R2, hR2'⟩ : ∃ V, (dig (r * 2)).map u32c = V := ⟨_, rfl⟩
  obtain ⟨R3, hR3⟩ : ∃ V, (dig (r * 2 + 1)).map u32c = V := ⟨_, rfl⟩
  obtain ⟨R4, hR4⟩ : ∃ V, (dig (r * 2 - ay)).map u32c = V := ⟨_, rfl⟩
  obtain ⟨R5, hR5⟩ : ∃ V, (dig (r * 2 + 1 - ay)).map u32c = V := ⟨_, rfl⟩
  have tq := times2 hd.q0.1 (by omega : (dig q).length ≤ 100)
  have tr := times2 hd.r0.1 (by omega : (dig r).length ≤ 100)
  have p1 := plus1' (q := r * 2) (by omega) (by omega)
  have pq := plus1' (q := q * 2) (by omega) (by omega)
  have s2 := lsize_c false false (r * 2) ay (by omega) (by omega) (by omega) (by omega) _ _ hR2' hY
  have s3 := lsize_c false false (r * 2 + 1) ay (by omega) (by omega) (by omega) (by omega) _ _ hR3 hY
  rw [heq, hQ2] at tq
  rw [her, hR2'] at tr
  rw [hR2', hR3] at p1
  rw [hQ2, hQ3] at pq
  have hord : ∀ a b z : Int, ordI a b = z → decide (0 ≤ z) = true → b ≤ a := by
    intro a b z h g; rw [← h] at g; unfold ordI at g
    split at g
    · simp at g
    · omega
  have hord' : ∀ a b z : Int, ordI a b = z → decide (0 ≤ z) = false → a < b := by
    intro a b z h g; rw [← h] at g; unfold ordI at g
    split at g
    · assumption
    · split at g <;> simp at g
  have m2 : ∀ z, ordI (r * 2) ay = z → decide (0 ≤ z) = true → PCall Tryz.prog 102 [.agg [.bool false, .sl R2], .agg [.bool true, .sl Y]] fun r => r = [.agg [.bool false, .sl R4]] := by
    intro z h g
    have := minus' (q := r * 2) (y := ay) (by omega) ny (hord _ _ _ h g) (by omega)
    rw [hR2', hY, hR4] at this
    exact this
  have m3 : ∀ z, ordI (r * 2 + 1) ay = z → decide (0 ≤ z) = true → PCall Tryz.prog 102 [.agg [.bool false, .sl R3], .agg [.bool true, .sl Y]] fun r => r = [.agg [.bool false, .sl R5]] := by
    intro z h g
    have := minus' (q := r * 2 + 1) (y := ay) (by omega) ny (hord _ _ _ h g) (by omega)
    rw [hR3, hY, hR5] at this
    exact this
  have hk : decide (0 ≤ i) = true → 0 ≤ i := of_decide_eq_true
  have hix : decide (0 ≤ i) = true → ∀ a, IntKind.i64.wrap (i.tdiv 16) = a → 0 ≤ a ∧ a < (dig ax).length := by
    intro h a ha
    have := hk h
    rw [IntWalk.i64_quo _ _ ⟨this, by omega, by decide⟩] at ha
    omega
  have hmod : decide (0 ≤ i) = true → ∀ b, i.tmod 16 = b → ¬ b < 0 := by
    intro h b hb
    have := hk h
    rw [Int.tmod_eq_emod_of_nonneg this] at hb; omega
  have hbit : decide (0 ≤ i) = true → ∀ a u b c e : Int, IntKind.i64.wrap (i.tdiv 16) = a → (dig ax)[a.toNat]? = some u → i.tmod 16 = b → u.fdiv (2 ^ (min b.toNat IntKind.u32.bits)) = c → IntKind.u32.wrap ((BitVec.ofInt IntKind.u32.bits c &&& BitVec.ofInt IntKind.u32.bits 1).toNat : Int) = e → e = ax / 2 ^ i.toNat % 2 := by
    intro h a u b c e k1 k2 k3 k4 k5
    exact bit_get nx i (hk h) k1 (by omega) k2 k3 k4 k5
  have hnext : decide (0 ≤ i) = true → ∀ f : Int, IntKind.i64.wrap (i - 1) = f → f = i - 1 ∧ i - 1 < 16 * (dig ax).length ∧ (i - 1 + 1).toNat < (i + 1).toNat := by
    intro h f g
    have := hk h
    rw [wrap_in (by omega)] at g; omega
  have hdstep : decide (0 ≤ i) = true → ∀ b : Int, ax / 2 ^ i.toNat % 2 = b → (ay ≤ 2 * r + b → ∀ A B : List (List PV), (dig (q * 2 + 1)).map u32c = A → (dig (2 * r + b - ay)).map u32c = B → DI ax ay (i - 1) (q * 2 + 1) (2 * r + b - ay) A B) ∧ (2 * r + b < ay → ∀ A B : List (List PV), (dig (q * 2)).map u32c = A → (dig (2 * r + b)).map u32c = B → DI ax ay (i - 1) (q * 2) (2 * r + b) A B) := by
    intro h b hb
    have hi := hk h
    have hb2 : 0 ≤ b ∧ b ≤ 1 := by omega
    have dd := hd.d
    rw [show (i + 1).toNat = i.toNat + 1 by omega] at dd
    have st := dd.step ny
    rw [hb] at st
    have hqb : ∀ q' r', DivI ax ay i.toNat q' r' → 0 ≤ q' ∧ q' ≤ ax := by
      intro q' r' d
      have e := d.q
      have h0 : 0 ≤ ax / 2 ^ i.toNat := Int.ediv_nonneg nx (Int.pow_nonneg (by decide))
      have h1 : ax / 2 ^ i.toNat ≤ ax := Int.ediv_le_self _ nx
      rw [e]
      exact ⟨Int.ediv_nonneg h0 (by omega), Int.le_trans (Int.ediv_le_self _ h0) h1⟩
    have e1 : (i - 1 + 1).toNat = i.toNat := by omega
    constructor
    · intro g A B hA hB
      rw [if_pos g, Int.mul_comm 2 q] at st
      exact ⟨by omega, hqb _ _ st, by omega, by rw [e1]; exact st, hA, hB⟩
    · intro g A B hA hB
      rw [if_neg (by omega), Int.mul_comm 2 q] at st
      exact ⟨by omega, hqb _ _ st, by omega, by rw [e1]; exact st, hA, hB⟩
  have hend' := hend i q r Qd Rd
  clear hend
  have hend1 : ∀ z : Bool, decide (0 ≤ i) = false → (!(m == m')) = z → PCall Tryz.prog 104 [.agg [.bool z, .sl Qd]] fun r => r = [.agg [.bool q1, .sl q2]] := fun z h g => (hend' z hd h g).1
  have hend2 : ∀ z : Bool, (!(m == m')) = z → decide (0 ≤ i) = false → PCall Tryz.prog 104 [.agg [.bool m, .sl Rd]] fun r => r = [.agg [.bool q3, .sl q4]] := fun z g h => (hend' z hd h g).2
  clear hend'
  repeat' (first
    | (with_reducible refine Nm.mk ?_; intro z hz)
    | (with_reducible refine IfB.mk ?_ ?_ <;> (intro h; cases h))
    | (with_reducible refine Two.l ?_; refine Asm.mk ?_ ?_; focus (decide +kernel))
    | (with_reducible refine Two.r ?_)
    | (with_reducible refine Asm.mk ?_ ?_; focus kernel_rfl)
    | (with_reducible refine isCP hcp ?_; first | (refine xP hcp (tq) ?_; skip) | (refine xP hcp (tr) ?_; skip) | (refine xP hcp (one_l) ?_; skip) | (refine xP hcp (p1) ?_; skip) | (refine xP hcp (pq) ?_; skip) | (refine iP hcp (s2) ?_; intro z hz) | (refine iP hcp (s3) ?_; intro z hz) | (refine xP hcp (m2 _ (by assumption) (by assumption)) ?_; skip) | (refine xP hcp (m3 _ (by assumption) (by assumption)) ?_; skip) | (refine xP hcp (hend1 _ (by assumption) (by assumption)) ?_; skip) | (refine xP hcp (hend2 _ (by assumption) (by assumption)) ?_; skip))
    | (with_reducible refine isCC hcc ?_; first | (refine xA hcc (tq) rfl ?_; skip) | (refine xA hcc (tr) rfl ?_; skip) | (refine xA hcc (one_l) rfl ?_; skip) | (refine xA hcc (p1) rfl ?_; skip) | (refine xA hcc (pq) rfl ?_; skip) | (refine iA hcc (s2) rfl ?_; intro z hz) | (refine iA hcc (s3) rfl ?_; intro z hz) | (refine xA hcc (m2 _ (by assumption) (by assumption)) rfl ?_; skip) | (refine xA hcc (m3 _ (by assumption) (by assumption)) rfl ?_; skip) | (refine xA hcc (hend1 _ (by assumption) (by assumption)) rfl ?_; skip) | (refine xA hcc (hend2 _ (by assumption) (by assumption)) rfl ?_; skip))
    | (with_reducible refine Ix.map hX u32c_len (by decide) (hix (by assumption) _ (by assumption)).1 (hix (by assumption) _ (by assumption)).2 ?_; intro u hu)
    | (with_reducible refine Asm.mk2 ?_ ?_)
    | ((fail_if_success (with_reducible first | refine hQ _ ?_ | refine Side.mk ?_ | refine isCP hcp ?_ | refine isCC hcc ?_ | refine isLP hlp ?_ | refine Ix.mk ?_ | refine SIx.mk ?_ | refine SEx.mk ?_ | refine EIx.mk ?_ | refine RIx.mk ?_ | show False | refine hR ?_ _ ?_ ?_ ?_ ?_ ?_ | refine hR2 ?_ _ ?_ ?_ ?_ ?_ ?_)); cbv))
  all_goals first
    | exact hQ _ rfl
    | (refine Side.mk ?_; decide)
    | exact Side.mk (hmod (by assumption) _ (by assumption))
    | (obtain ⟨g1, g2, g3⟩ := hnext (by assumption) _ hz
       have hb := hbit (by assumption) _ u _ _ _ (by assumption) hu (by assumption) (by assumption) (by assumption)
       first
         | (have e1 := of_decide_eq_true (show decide (_ = (1 : Int)) = true by assumption)
            rw [e1] at hb
            obtain ⟨ge, lt⟩ := hdstep (by assumption) 1 hb.symm
            first
              | (have h := hord _ _ _ (show ordI (r * 2 + 1) ay = _ by assumption) (by assumption)
                 exact hR (i - 1, _, _, Q3, R5) _ ⟨g2, ge (by omega) Q3 R5 hQ3 (by rw [show 2 * r + 1 - ay = r * 2 + 1 - ay by omega]; exact hR5)⟩ g3 ⟨g1 ▸ rfl, trivial⟩ ⟨rfl, rfl, rfl, rfl, rfl, rfl, rfl, rfl, trivial⟩ rfl)
              | (have h := hord' _ _ _ (show ordI (r * 2 + 1) ay = _ by assumption) (by assumption)
                 exact hR (i - 1, _, _, Q2, R3) _ ⟨g2, lt (by omega) Q2 R3 hQ2 (by rw [show 2 * r + 1 = r * 2 + 1 by omega]; exact hR3)⟩ g3 ⟨g1 ▸ rfl, trivial⟩ ⟨rfl, rfl, rfl, rfl, rfl, rfl, rfl, rfl, trivial⟩ rfl))
         | (have e1 := of_decide_eq_false (show decide (_ = (1 : Int)) = false by assumption)
            rw [hb] at e1
            obtain ⟨ge, lt⟩ := hdstep (by assumption) 0 (by omega)
            first
              | (have h := hord _ _ _ (show ordI (r * 2) ay = _ by assumption) (by assumption)
                 exact hR (i - 1, _, _, Q3, R4) _ ⟨g2, ge (by omega) Q3 R4 hQ3 (by rw [show 2 * r + 0 - ay = r * 2 - ay by omega]; exact hR4)⟩ g3 ⟨g1 ▸ rfl, trivial⟩ ⟨rfl, rfl, rfl, rfl, rfl, rfl, rfl, rfl, trivial⟩ rfl)
              | (have h := hord' _ _ _ (show ordI (r * 2) ay = _ by assumption) (by assumption)
                 exact hR (i - 1, _, _, Q2, R2) _ ⟨g2, lt (by omega) Q2 R2 hQ2 (by rw [show 2 * r + 0 = r * 2 by omega]; exact hR2')⟩ g3 ⟨g1 ▸ rfl, trivial⟩ ⟨rfl, rfl, rfl, rfl, rfl, rfl, rfl, rfl, trivial⟩ rfl)))
end Go.Proofs.YtnhmnfokbinplaaGreat
