/- What the arguments' types say of their cells; vec: From, in both texts; VecMakes: SameVec of a column and itself; the law. Own work; no condition. -/
import Derived.Test.YtnhmnfokbinplaaTy
import Derived.Test.YtnhmnfokbinplaaAbs21
import Derived.Test.YtnhmnfokbinplaaRd
import Derived.Test.YtnhmnfokbinplaaMa40
import Derived.Test.YtnhmnfokbinplaaAbs23
namespace Go.Proofs.Ytnhmnfokbinplaa
open Go Go.RowKit
set_option maxRecDepth 100000

def Val.cells (v : Val) : List PV := [.int .i64 v.k, .int .i64 v.n, .str v.s]
def i64c (x : Int) : List PV := [.int .i64 x]
def boolc (x : Bool) : List PV := [.bool x]
def strc (x : ByteArray) : List PV := [.str x]
theorem cells_len (v : Val) : v.cells.length = 3 := rfl
theorem i64c_len (x : Int) : (i64c x).length = 1 := rfl
theorem boolc_len (x : Bool) : (boolc x).length = 1 := rfl
theorem strc_len (x : ByteArray) : (strc x).length = 1 := rfl
/-- What is known of a value that came in. -/
def Val.ok (v : Val) : Prop := (Lit.int .i64 v.k).wf = true ∧ (Lit.int .i64 v.n).wf = true ∧ v.s.size ≤ reachBytes

theorem cells25 : Try.prog.cellsOf 25 = 3 := by kernel_rfl
theorem cells2 : Try.prog.cellsOf 2 = 1 := by kernel_rfl
theorem cells3 : Try.prog.cellsOf 3 = 1 := by kernel_rfl
theorem cells9 : Try.prog.cellsOf 9 = 1 := by kernel_rfl
/-- A value's cells. -/
theorem cellsVal {n : Nat} {cs : List PV} (h : Fits Try.prog n 25 cs) : ∃ k m s, cs = [.int .i64 k, .int .i64 m, .str s] ∧ (Lit.int .i64 k).wf = true ∧ (Lit.int .i64 m).wf = true ∧ s.size ≤ reachBytes := by
  obtain ⟨m, rfl, hl, hf⟩ := h.struct Try.underlying25
  rw [cells25] at hl
  obtain ⟨a, b, c, rfl⟩ : ∃ a b c, cs = [a, b, c] := by
    match cs, hl with
    | [a, b, c], _ => exact ⟨a, b, c, rfl⟩
  have h0 : Fits Try.prog m 3 (([a, b, c].drop 0).take (Try.prog.cellsOf 3)) := hf 0 _ rfl
  have h1 : Fits Try.prog m 2 (([a, b, c].drop 1).take (Try.prog.cellsOf 2)) := hf 1 _ rfl
  have h2 : Fits Try.prog m 9 (([a, b, c].drop 2).take (Try.prog.cellsOf 9)) := hf 2 _ rfl
  rw [cells3] at h0
  rw [cells2] at h1
  rw [cells9] at h2
  have h0 : Fits Try.prog m 3 [a] := h0
  have h1 : Fits Try.prog m 2 [b] := h1
  have h2 : Fits Try.prog m 9 [c] := h2
  obtain ⟨k, e0, w0⟩ := h0.int Try.underlying3
  obtain ⟨v, e1, w1⟩ := h1.int Try.underlying2
  obtain ⟨s, e2, w2⟩ := h2.str Try.underlying9
  simp only [List.cons.injEq, and_true] at e0 e1 e2
  subst e0 e1 e2
  exact ⟨k, v, s, rfl, w0, w1, w2⟩
theorem fits25 {n : Nat} {x : PV} (h : FitsA Try.prog n 25 x) : ∃ k m s, x = .agg [.int .i64 k, .int .i64 m, .str s] ∧ (Lit.int .i64 k).wf = true ∧ (Lit.int .i64 m).wf = true ∧ s.size ≤ reachBytes := by
  obtain ⟨cs, rfl, g⟩ := h.agg Try.underlying25
  obtain ⟨k, m, s, rfl, w⟩ := cellsVal g
  exact ⟨k, m, s, rfl, w⟩


theorem cellsV {n : Nat} {cs : List PV} (h : Fits Try.prog n 25 cs) : ∃ v : Val, v.cells = cs ∧ v.ok := by
  obtain ⟨k, m, s, rfl, w⟩ := cellsVal h
  exact ⟨⟨k, m, s⟩, rfl, w⟩

/-- Lists of elements that are told by values of another type. -/
theorem elems_of {α : Type} {enc : α → List PV} {ok : α → Prop} : ∀ {es : List (List PV)}, (∀ x, x ∈ es → ∃ v, enc v = x ∧ ok v) → ∃ l : List α, l.map enc = es ∧ ∀ v, v ∈ l → ok v := by
  intro es
  induction es with
  | nil => intro _; exact ⟨[], rfl, fun v h => by simp at h⟩
  | cons e es ih =>
    intro h
    obtain ⟨v, hv, ho⟩ := h e (by simp)
    obtain ⟨l, hl, hlo⟩ := ih (fun x hx => h x (by simp [hx]))
    exact ⟨v :: l, by simp [hv, hl], fun u hu => by
      rcases List.mem_cons.1 hu with e | e
      · subst e; exact ho
      · exact hlo u e⟩

theorem bytes25 : Try.prog.bytesOf 25 = 32 := by kernel_rfl
/-- A row of values. -/
theorem fits29 {n : Nat} {x : PV} (h : FitsA Try.prog n 29 x) : ∃ l : List Val, x = .sl (l.map Val.cells) ∧ l.length * 32 ≤ 140737488351232 ∧ ∀ v, v ∈ l → v.ok := by
  obtain ⟨m, es, rfl, h1, ⟨h2, h3⟩, h4⟩ := (h.one Try.underlying29 rfl).slice Try.underlying29
  simp only [List.cons.injEq, and_true] at h1
  subst h1
  obtain ⟨l, rfl, hl⟩ := elems_of (fun x hx => cellsV (h4 x hx).2)
  rw [bytes25, List.length_map] at h3
  exact ⟨l, rfl, h3, hl⟩
theorem fits3 {n : Nat} {x : PV} (h : FitsA Try.prog n 3 x) : ∃ v : Int, x = .int .i64 v ∧ (Lit.int .i64 v).wf = true := by
  obtain ⟨v, e, w⟩ := (h.one Try.underlying3 rfl).int Try.underlying3
  simp only [List.cons.injEq, and_true] at e
  exact ⟨v, e, w⟩
theorem fits2 {n : Nat} {x : PV} (h : FitsA Try.prog n 2 x) : ∃ v : Int, x = .int .i64 v ∧ (Lit.int .i64 v).wf = true := by
  obtain ⟨v, e, w⟩ := (h.one Try.underlying2 rfl).int Try.underlying2
  simp only [List.cons.injEq, and_true] at e
  exact ⟨v, e, w⟩
theorem fits9 {n : Nat} {x : PV} (h : FitsA Try.prog n 9 x) : ∃ v : ByteArray, x = .str v ∧ v.size ≤ reachBytes := by
  obtain ⟨v, e, w⟩ := (h.one Try.underlying9 rfl).str Try.underlying9
  simp only [List.cons.injEq, and_true] at e
  exact ⟨v, e, w⟩
end Go.Proofs.Ytnhmnfokbinplaa

namespace Go.Proofs.Ytnhmnfokbinplaa
open Go Go.RowKit
set_option maxRecDepth 100000
set_option linter.unusedSimpArgs false
set_option linter.unusedVariables false

structure Vec where
  kind : Int
  null : List Bool
  ns : List Int
  ss : List ByteArray
def Vec.enc (v : Vec) : PV := .agg [.int .i64 v.kind, .sl (v.null.map boolc), .sl (v.ns.map i64c), .sl (v.ss.map strc)]
def Vec.zero : Vec := ⟨0, [], [], []⟩

def nullsOf (p : List Val) : List Bool := p.map fun v => decide ((clean v).k = 0)
def numsOf (kind : Int) (p : List Val) : List Int := if kind = 1 then p.map fun v => (clean v).n else []
def textsOf (kind : Int) (p : List Val) : List ByteArray := if kind = 1 then [] else p.map fun v => (clean v).s
def bigs (p : List Val) : Bool := p.any fun v => decide ((1000 : Int) < ((clean v).s.size : Int))
def kinds (kind : Int) (p : List Val) : Bool := p.all fun v => decide ((clean v).k = 0) || decide ((clean v).k = kind)

def vfrom (kind : Int) (l : List Val) : Vec × Int :=
  if kind ≠ 1 ∧ kind ≠ 2 then (Vec.zero, 1) else if kinds kind l = false then (Vec.zero, 4) else if bigs l = true then (Vec.zero, 3) else (⟨kind, nullsOf l, numsOf kind l, textsOf kind l⟩, 0)

section
variable {P : Program} {cp : FuncId → List PV → (CR → Prop) → Prop} {cc : FuncId → List AV → List AObj → (AV → List AObj → Prop) → Prop} {f : FuncId} {args : List PV} {aargs : List AV} {H : List AObj}
theorem veP (hcp : PC1 P = cp) {X : Vec} {E : Int} {q : IntKind} {K : CR → Prop} (h : PCall P f args fun r => r = [X.enc, .int q E]) (k : ∀ a n1 n2 n3 e, X.kind = a → X.null.map boolc = n1 → X.ns.map i64c = n2 → X.ss.map strc = n3 → E = e → K (.pure [.agg [.int .i64 a, .sl n1, .sl n2, .sl n3], .int q e])) : cp f args K := callP hcp h fun _ e => e ▸ k _ _ _ _ _ rfl rfl rfl rfl rfl
theorem veA (hcc : ACall P = cc) {X : Vec} {E : Int} {q : IntKind} {K : AV → List AObj → Prop} (h : PCall P f args fun r => r = [X.enc, .int q E]) (ha : optL pureX aargs = some args) (k : ∀ a n1 n2 n3 e, X.kind = a → X.null.map boolc = n1 → X.ns.map i64c = n2 → X.ss.map strc = n3 → E = e → K (.tup [.p (.agg [.int .i64 a, .sl n1, .sl n2, .sl n3]), .p (.int q e)]) H) : cc f aargs H K := callA hcc ha h fun _ e => e ▸ k _ _ _ _ _ rfl rfl rfl rfl rfl
end

theorem num_r (n : Int) : PCall Try.prog 93 [.int .i64 n] fun r => r = [(num n).enc] := by
  refine PCall.x (nt := 5) (res := [.cell 2 25]) mixed tt_ok [] Try.func93 rfl rfl rfl c93 (Nat.le_of_ble_eq_true rfl) ?_
  intro cp cc lp Q' hcp hcc hlp hQ
  repeat' (first
    | (with_reducible refine Nm.mk ?_; intro z hz)
    | (with_reducible refine IfB.mk ?_ ?_ <;> (intro h; cases h))
    | (with_reducible refine Two.l ?_; refine Asm.mk ?_ ?_; focus (decide +kernel))
    | (with_reducible refine Two.r ?_)
    | (with_reducible refine Asm.mk ?_ ?_; focus (first | kernel_rfl | decide))
    | (with_reducible refine Asm.mk2 ?_ ?_)
    | ((fail_if_success (with_reducible refine hQ _ ?_)); (fail_if_success (with_reducible refine Side.mk ?_)); (fail_if_success (with_reducible refine isCP hcp ?_)); (fail_if_success (with_reducible refine isCC hcc ?_)); (fail_if_success (with_reducible refine isLP hlp ?_)); (fail_if_success (with_reducible refine Ix.mk ?_)); (fail_if_success (with_reducible refine SIx.mk ?_)); (fail_if_success (with_reducible refine SEx.mk ?_)); (fail_if_success (with_reducible refine EIx.mk ?_)); (fail_if_success (with_reducible refine RIx.mk ?_)); (fail_if_success (with_reducible show False)); (fail_if_success (with_reducible refine hR ?_ _ ?_ ?_ ?_ ?_ ?_)); (fail_if_success (with_reducible refine hR2 ?_ _ ?_ ?_ ?_ ?_ ?_)); cbv))
  all_goals (refine hQ _ ?_; clear hQ hcp hcc hlp; subst_vars; simp_all [num, Val.enc])
def str (s : ByteArray) : Val := ⟨2, 0, s⟩
theorem str_r (s : ByteArray) : PCall Try.prog 95 [.str s] fun r => r = [(str s).enc] := by
  refine PCall.x (nt := 5) (res := [.cell 2 25]) mixed tt_ok [] Try.func95 rfl rfl rfl c95 (Nat.le_of_ble_eq_true rfl) ?_
  intro cp cc lp Q' hcp hcc hlp hQ
  repeat' (first
    | (with_reducible refine Nm.mk ?_; intro z hz)
    | (with_reducible refine IfB.mk ?_ ?_ <;> (intro h; cases h))
    | (with_reducible refine Two.l ?_; refine Asm.mk ?_ ?_; focus (decide +kernel))
    | (with_reducible refine Two.r ?_)
    | (with_reducible refine Asm.mk ?_ ?_; focus (first | kernel_rfl | decide))
    | (with_reducible refine Asm.mk2 ?_ ?_)
    | ((fail_if_success (with_reducible refine hQ _ ?_)); (fail_if_success (with_reducible refine Side.mk ?_)); (fail_if_success (with_reducible refine isCP hcp ?_)); (fail_if_success (with_reducible refine isCC hcc ?_)); (fail_if_success (with_reducible refine isLP hlp ?_)); (fail_if_success (with_reducible refine Ix.mk ?_)); (fail_if_success (with_reducible refine SIx.mk ?_)); (fail_if_success (with_reducible refine SEx.mk ?_)); (fail_if_success (with_reducible refine EIx.mk ?_)); (fail_if_success (with_reducible refine RIx.mk ?_)); (fail_if_success (with_reducible show False)); (fail_if_success (with_reducible refine hR ?_ _ ?_ ?_ ?_ ?_ ?_)); (fail_if_success (with_reducible refine hR2 ?_ _ ?_ ?_ ?_ ?_ ?_)); cbv))
  all_goals (refine hQ _ ?_; clear hQ hcp hcc hlp; subst_vars; simp_all [str, Val.enc])
theorem none_r : PCall Try.prog 36 [] fun r => r = [Val.zero.enc] := by
  refine PCall.x (nt := 2) (res := [.cell 0 25]) mixed tt_ok [] Try.func36 rfl rfl rfl c36 (Nat.le_of_ble_eq_true rfl) ?_
  intro cp cc lp Q' hcp hcc hlp hQ
  repeat' (first
    | (with_reducible refine Nm.mk ?_; intro z hz)
    | (with_reducible refine IfB.mk ?_ ?_ <;> (intro h; cases h))
    | (with_reducible refine Two.l ?_; refine Asm.mk ?_ ?_; focus (decide +kernel))
    | (with_reducible refine Two.r ?_)
    | (with_reducible refine Asm.mk ?_ ?_; focus (first | kernel_rfl | decide))
    | (with_reducible refine Asm.mk2 ?_ ?_)
    | ((fail_if_success (with_reducible refine hQ _ ?_)); (fail_if_success (with_reducible refine Side.mk ?_)); (fail_if_success (with_reducible refine isCP hcp ?_)); (fail_if_success (with_reducible refine isCC hcc ?_)); (fail_if_success (with_reducible refine isLP hlp ?_)); (fail_if_success (with_reducible refine Ix.mk ?_)); (fail_if_success (with_reducible refine SIx.mk ?_)); (fail_if_success (with_reducible refine SEx.mk ?_)); (fail_if_success (with_reducible refine EIx.mk ?_)); (fail_if_success (with_reducible refine RIx.mk ?_)); (fail_if_success (with_reducible show False)); (fail_if_success (with_reducible refine hR ?_ _ ?_ ?_ ?_ ?_ ?_)); (fail_if_success (with_reducible refine hR2 ?_ _ ?_ ?_ ?_ ?_ ?_)); cbv))
  all_goals (refine hQ _ ?_; clear hQ hcp hcc hlp; subst_vars; simp_all [Val.zero, Val.enc])
theorem rclean_c (k n : Int) (s : ByteArray) : PCall Try.prog 49 [.agg [.int .i64 k, .int .i64 n, .str s]] fun r => r = [(clean ⟨k, n, s⟩).enc] := by
  refine PCall.x (nt := 16) (res := [.cell 2 25]) mixed tt_ok [] Try.func49 rfl rfl rfl c49 (Nat.le_of_ble_eq_true rfl) ?_
  intro cp cc lp Q' hcp hcc hlp hQ
  repeat' (first
    | (with_reducible refine Nm.mk ?_; intro z hz)
    | (with_reducible refine IfB.mk ?_ ?_ <;> (intro h; cases h))
    | (with_reducible refine Two.l ?_; refine Asm.mk ?_ ?_; focus (decide +kernel))
    | (with_reducible refine Two.r ?_)
    | (with_reducible refine Asm.mk ?_ ?_; focus (first | kernel_rfl | decide))
    | (with_reducible refine isCP hcp ?_; first | (refine vP hcp (num_r _) ?_; intro v hv) | (refine vP hcp (str_r _) ?_; intro v hv) | (refine vP hcp (none_r) ?_; intro v hv))
    | (with_reducible refine isCC hcc ?_; first | (refine vA hcc (num_r _) rfl ?_; intro v hv) | (refine vA hcc (str_r _) rfl ?_; intro v hv) | (refine vA hcc (none_r) rfl ?_; intro v hv))
    | (with_reducible refine Asm.mk2 ?_ ?_)
    | ((fail_if_success (with_reducible refine hQ _ ?_)); (fail_if_success (with_reducible refine Side.mk ?_)); (fail_if_success (with_reducible refine isCP hcp ?_)); (fail_if_success (with_reducible refine isCC hcc ?_)); (fail_if_success (with_reducible refine isLP hlp ?_)); (fail_if_success (with_reducible refine Ix.mk ?_)); (fail_if_success (with_reducible refine SIx.mk ?_)); (fail_if_success (with_reducible refine SEx.mk ?_)); (fail_if_success (with_reducible refine EIx.mk ?_)); (fail_if_success (with_reducible refine RIx.mk ?_)); (fail_if_success (with_reducible show False)); (fail_if_success (with_reducible refine hR ?_ _ ?_ ?_ ?_ ?_ ?_)); (fail_if_success (with_reducible refine hR2 ?_ _ ?_ ?_ ?_ ?_ ?_)); cbv))
  all_goals (refine hQ _ ?_; clear hQ hcp hcc hlp; subst_vars; simp_all [clean, num, str, Val.enc, Val.zero])

theorem nullsOf_snoc (p : List Val) (x : Val) : nullsOf (p ++ [x]) = nullsOf p ++ [decide ((clean x).k = 0)] := by simp [nullsOf]
theorem numsOf_1 (p : List Val) (x : Val) : numsOf 1 (p ++ [x]) = numsOf 1 p ++ [(clean x).n] := by simp [numsOf]
theorem numsOf_2 {k : Int} (h : ¬ k = 1) (p : List Val) : numsOf k p = [] := by simp [numsOf, h]
theorem textsOf_1 (p : List Val) : textsOf 1 p = [] := by simp [textsOf]
theorem textsOf_2 {k : Int} (h : ¬ k = 1) (p : List Val) (x : Val) : textsOf k (p ++ [x]) = textsOf k p ++ [(clean x).s] := by simp [textsOf, h]
theorem bigs_snoc (p : List Val) (x : Val) : bigs (p ++ [x]) = (bigs p || decide ((1000 : Int) < ((clean x).s.size : Int))) := by simp [bigs]
theorem kinds_snoc (k : Int) (p : List Val) (x : Val) : kinds k (p ++ [x]) = (kinds k p && (decide ((clean x).k = 0) || decide ((clean x).k = k))) := by simp [kinds]
theorem kinds_app (k : Int) (p r : List Val) : kinds k (p ++ r) = (kinds k p && kinds k r) := by simp [kinds]

/-- What a round knows. -/
structure FromOk (kind : Int) (l p : List Val) (k : Int) (b : Bool) (N0 : List (List PV)) (m0 : Nat) (N1 : List (List PV)) (m1 : Nat) (N2 : List (List PV)) (m2 : Nat) : Prop where
  pre : ∃ r, l = p ++ r
  k : k = (p.length : Int)
  b : bigs p = b
  f : kinds kind p = true
  n0 : (nullsOf p).map boolc = N0
  c0 : N0.length = m0
  n1 : (numsOf kind p).map i64c = N1
  c1 : N1.length = m1
  n2 : (textsOf kind p).map strc = N2
  c2 : N2.length = m2

theorem FromOk.at_ {kind : Int} {l p : List Val} {k : Int} {b : Bool} {N0 : List (List PV)} {m0 : Nat} {N1 : List (List PV)} {m1 : Nat} {N2 : List (List PV)} {m2 : Nat} (h : FromOk kind l p k b N0 m0 N1 m1 N2 m2) {x : Val} (hx : l[k.toNat]? = some x) : ∃ r, l = p ++ x :: r := by
  obtain ⟨r, rfl⟩ := h.pre
  rw [h.k, Int.toNat_natCast, List.getElem?_append_right (Nat.le_refl _), Nat.sub_self] at hx
  cases r with
  | nil => simp at hx
  | cons y r => simp at hx; subst hx; exact ⟨r, rfl⟩

theorem vfrom_c (kind : Int) (l : List Val) (L : List (List PV)) (hL : l.map Val.cells = L) (hsz : l.length * 32 ≤ 140737488351232) : PCall Try.prog 21 [.int .i64 kind, .sl L] fun r => r = [(vfrom kind l).1.enc, .int .i64 (vfrom kind l).2] := by
  have hLl : L.length = l.length := by rw [← hL]; simp
  refine PCall.x (nt := 72) (res := [.cell 4 34, .tmp 5]) mixed tt_ok [] Try.func21 rfl rfl rfl c21 (Nat.le_of_ble_eq_true rfl) ?_
  intro cp cc lp Q' hcp hcc hlp hQ
  repeat' (first
    | (with_reducible refine Nm.mk ?_; intro z hz)
    | (with_reducible refine IfB.mk ?_ ?_ <;> (intro h; cases h))
    | (with_reducible refine Two.l ?_; refine Asm.mk ?_ ?_; focus (decide +kernel))
    | (with_reducible refine Two.r ?_)
    | (with_reducible refine Asm.mk ?_ ?_; focus (first | kernel_rfl | decide))
    | (with_reducible refine Asm.mk2 ?_ ?_)
    | ((fail_if_success (with_reducible refine hQ _ ?_)); (fail_if_success (with_reducible refine Side.mk ?_)); (fail_if_success (with_reducible refine isCP hcp ?_)); (fail_if_success (with_reducible refine isCC hcc ?_)); (fail_if_success (with_reducible refine isLP hlp ?_)); (fail_if_success (with_reducible refine Ix.mk ?_)); (fail_if_success (with_reducible refine SIx.mk ?_)); (fail_if_success (with_reducible refine SEx.mk ?_)); (fail_if_success (with_reducible refine EIx.mk ?_)); (fail_if_success (with_reducible refine RIx.mk ?_)); (fail_if_success (with_reducible show False)); (fail_if_success (with_reducible refine hR ?_ _ ?_ ?_ ?_ ?_ ?_)); (fail_if_success (with_reducible refine hR2 ?_ _ ?_ ?_ ?_ ?_ ?_)); cbv))
  · refine hQ _ ?_
    clear hQ hcp hcc hlp
    simp_all [vfrom, Vec.zero, Vec.enc]
  all_goals
    refine mintX hlp 1 1 1 rfl rfl ?_
    refine mintX hlp 1 1 2 rfl rfl ?_
    refine mintX hlp 1 1 3 rfl rfl ?_
    refine loopT (ι := List Val × Int × Bool × List (List PV) × Nat × List (List PV) × Nat × List (List PV) × Nat) mixed tt_ok hcp hcc hlp [0, 4, 6, 19, 20]
      (fun p => [(7, .p (.bool p.2.2.1)), (21, .p (.int .i64 p.2.1))])
      (fun p => [.cells [.p (.int .i64 0), .full [], .full [], .full []], .cells [.p (.int .i64 kind), .tok 2 p.2.2.2.1, .tok 3 p.2.2.2.2.2.1, .tok 4 p.2.2.2.2.2.2.2.1], .spare p.2.2.2.2.1 1, .spare p.2.2.2.2.2.2.1 1, .spare p.2.2.2.2.2.2.2.2 1])
      (fun p => FromOk kind l p.1 p.2.1 p.2.2.1 p.2.2.2.1 p.2.2.2.2.1 p.2.2.2.2.2.1 p.2.2.2.2.2.2.1 p.2.2.2.2.2.2.2.1 p.2.2.2.2.2.2.2.2) (fun p => l.length - p.1.length)
      ([], 0, false, [], 0, [], 0, [], 0) 5 (fun _ => rfl) ⟨⟨l, rfl⟩, rfl, rfl, rfl, rfl, rfl, by simp [numsOf], rfl, by simp [textsOf], rfl⟩ ⟨rfl, rfl, trivial⟩ rfl ?_
    rintro R ⟨p, k, b, N0, m0, N1, m1, N2, m2⟩ hi hR
    have hi : FromOk kind l p k b N0 m0 N1 m1 N2 m2 := hi
    have hk := hi.k
    have l0 : N0.length = p.length := by rw [← hi.n0]; simp [nullsOf]
    have l1 : N1.length ≤ p.length := by rw [← hi.n1]; unfold numsOf; split <;> simp
    have l2 : N2.length ≤ p.length := by rw [← hi.n2]; unfold textsOf; split <;> simp
    have o0 : okEs 1 N0 = true := by rw [← hi.n0]; simp [okEs, boolc, PV.one]
    have o1 : okEs 1 N1 = true := by rw [← hi.n1]; simp [okEs, i64c, PV.one]
    have o2 : okEs 1 N2 = true := by rw [← hi.n2]; simp [okEs, strc, PV.one]
    have c0 := hi.c0
    have c1 := hi.c1
    have c2 := hi.c2
    simp only [nc] at hz
    simp only [nc'] at hz
    have hk0 : 0 ≤ k := by omega
    have hkl : decide (k < z) = true → k < l.length := by simp only [decide_eq_true_eq]; omega
    have hlt : decide (k < z) = true → p.length < l.length := by simp only [decide_eq_true_eq]; omega
    have hge : decide (k < z) = false → l = p := by
      intro h
      simp only [decide_eq_false_iff_not] at h
      obtain ⟨r, hr⟩ := hi.pre
      have : l.length = p.length + r.length := by rw [hr]; simp
      have : r = [] := List.eq_nil_of_length_eq_zero (by omega)
      rw [hr, this]; simp
    repeat' (first
      | (with_reducible refine Nm.mk ?_; intro z hz)
      | (with_reducible refine IfB.mk ?_ ?_ <;> (intro h; cases h))
      | (with_reducible refine Two.l ?_; refine Asm.mk ?_ ?_; focus (decide +kernel))
      | (with_reducible refine Two.r ?_)
      | (with_reducible refine Asm.mk ?_ ?_; focus (first | kernel_rfl | (have hlt' := hlt (by assumption); clear hR hQ hlt hkl hk hge; refine ⟨c0.symm, rfl, o0, rfl, ?_, ?_⟩ <;> simp only [List.length_cons, List.length_nil, maxLen] <;> omega) | (have hlt' := hlt (by assumption); clear hR hQ hlt hkl hk hge; refine ⟨c1.symm, rfl, o1, rfl, ?_, ?_⟩ <;> simp only [List.length_cons, List.length_nil, maxLen] <;> omega) | (have hlt' := hlt (by assumption); clear hR hQ hlt hkl hk hge; refine ⟨c2.symm, rfl, o2, rfl, ?_, ?_⟩ <;> simp only [List.length_cons, List.length_nil, maxLen] <;> omega)))
      | (with_reducible refine isCP hcp ?_; first | (refine vP hcp (clean_c _ _ _) ?_; intro v hv))
      | (with_reducible refine isCC hcc ?_; first | (refine vA hcc (clean_c _ _ _) rfl ?_; intro v hv))
      | (with_reducible refine Ix.map hL cells_len (by decide) hk0 (hkl (by assumption)) ?_; intro x hx)
      | (with_reducible refine Asm.mk2 ?_ ?_)
      | ((fail_if_success (with_reducible refine hQ _ ?_)); (fail_if_success (with_reducible refine Side.mk ?_)); (fail_if_success (with_reducible refine isCP hcp ?_)); (fail_if_success (with_reducible refine isCC hcc ?_)); (fail_if_success (with_reducible refine isLP hlp ?_)); (fail_if_success (with_reducible refine Ix.mk ?_)); (fail_if_success (with_reducible refine SIx.mk ?_)); (fail_if_success (with_reducible refine SEx.mk ?_)); (fail_if_success (with_reducible refine EIx.mk ?_)); (fail_if_success (with_reducible refine RIx.mk ?_)); (fail_if_success (with_reducible show False)); (fail_if_success (with_reducible refine hR ?_ _ ?_ ?_ ?_ ?_ ?_)); (fail_if_success (with_reducible refine hR2 ?_ _ ?_ ?_ ?_ ?_ ?_)); cbv))
    all_goals (try clear hlt hkl o0 o1 o2 l0 l1 l2 hk0)
    -- what kind is not
    all_goals first
      | (exfalso; clear hR hQ hcp hcc hlp hi hx hv; simp_all; done)
      | (exfalso; clear hR hQ hcp hcc hlp hi; simp_all; done)
      | skip
    all_goals first
      | (skip
         refine hR (p ++ [x], _, _, _, _, _, _, _, _) _ ?_ ?_ ⟨rfl, rfl, trivial⟩ ⟨rfl, rfl, rfl, rfl, rfl, trivial⟩ rfl
         · obtain ⟨r, hr⟩ := hi.at_ hx
           have hlen : p.length < l.length := by rw [hr]; simp
           have hv' : clean x = v := hv
           have hw : IntKind.i64.wrap (k + 1) = ((p ++ [x]).length : Int) := by rw [wrap_in (by have := hi.k; omega)]; have := hi.k; simp; omega
           rw [hz] at hw
           have e1 := hi.b
           have e2 := hi.f
           have e3 := hi.n0
           have e4 := hi.n1
           have e5 := hi.n2
           clear hR hQ hcp hcc hlp hi hv hx hL
           refine ⟨⟨r, by simp [hr]⟩, hw, ?_, ?_, ?_, ?_, ?_, ?_, ?_, ?_⟩
           · show bigs (p ++ [x]) = _
             rw [bigs_snoc, e1]; simp_all
           · show kinds kind (p ++ [x]) = _
             rw [kinds_snoc, e2]; simp_all
           · show (nullsOf (p ++ [x])).map boolc = _
             rw [nullsOf_snoc, List.map_append, e3]; simp_all [boolc]
           · first | exact c0 | exact c1 | exact c2 | (subst_vars; simp)
           · show (numsOf kind (p ++ [x])).map i64c = _
             first
               | (have hk1 : kind = 1 := of_decide_eq_true (by assumption)
                  subst hk1
                  rw [numsOf_1, List.map_append, e4]; simp_all [i64c]; done)
               | (have hk1 : ¬ kind = 1 := of_decide_eq_false (by assumption)
                  rw [numsOf_2 hk1] at e4 ⊢; exact e4)
           · first | exact c0 | exact c1 | exact c2 | (subst_vars; simp)
           · show (textsOf kind (p ++ [x])).map strc = _
             first
               | (have hk1 : kind = 1 := of_decide_eq_true (by assumption)
                  subst hk1
                  rw [textsOf_1] at e5 ⊢; exact e5)
               | (have hk1 : ¬ kind = 1 := of_decide_eq_false (by assumption)
                  rw [textsOf_2 hk1, List.map_append, e5]; simp_all [strc])
           · first | exact c0 | exact c1 | exact c2 | (subst_vars; simp)
         · obtain ⟨r, hr⟩ := hi.at_ hx
           show l.length - (p ++ [x]).length < l.length - p.length
           rw [hr]; simp; omega)
      | skip
    all_goals first
      | (skip
         have hv' : clean x = v := hv
         obtain ⟨r, hr⟩ := hi.at_ hx
         have hbad : kinds kind l = false := by
           rw [hr, kinds_app]
           clear hR hQ hcp hcc hlp hi hv hx
           simp_all [kinds]
         refine hQ _ ?_
         clear hR hQ hcp hcc hlp hi hv hx
         simp_all [vfrom, Vec.enc, Vec.zero]
         done)
      | (skip
         have hl := hge (by assumption)
         subst hl
         have e1 := hi.b
         have e2 := hi.f
         have e3 := hi.n0
         have e4 := hi.n1
         have e5 := hi.n2
         refine hQ _ ?_
         clear hR hQ hcp hcc hlp hi
         simp_all [vfrom, Vec.enc, Vec.zero]
         done)
      | skip
theorem rfrom_c (kind : Int) (l : List Val) (L : List (List PV)) (hL : l.map Val.cells = L) (hsz : l.length * 32 ≤ 140737488351232) : PCall Try.prog 22 [.int .i64 kind, .sl L] fun r => r = [(vfrom kind l).1.enc, .int .i64 (vfrom kind l).2] := by
  have hLl : L.length = l.length := by rw [← hL]; simp
  refine PCall.x (nt := 72) (res := [.cell 4 34, .tmp 5]) mixed tt_ok [] Try.func22 rfl rfl rfl c22 (Nat.le_of_ble_eq_true rfl) ?_
  intro cp cc lp Q' hcp hcc hlp hQ
  repeat' (first
    | (with_reducible refine Nm.mk ?_; intro z hz)
    | (with_reducible refine IfB.mk ?_ ?_ <;> (intro h; cases h))
    | (with_reducible refine Two.l ?_; refine Asm.mk ?_ ?_; focus (decide +kernel))
    | (with_reducible refine Two.r ?_)
    | (with_reducible refine Asm.mk ?_ ?_; focus (first | kernel_rfl | decide))
    | (with_reducible refine Asm.mk2 ?_ ?_)
    | ((fail_if_success (with_reducible refine hQ _ ?_)); (fail_if_success (with_reducible refine Side.mk ?_)); (fail_if_success (with_reducible refine isCP hcp ?_)); (fail_if_success (with_reducible refine isCC hcc ?_)); (fail_if_success (with_reducible refine isLP hlp ?_)); (fail_if_success (with_reducible refine Ix.mk ?_)); (fail_if_success (with_reducible refine SIx.mk ?_)); (fail_if_success (with_reducible refine SEx.mk ?_)); (fail_if_success (with_reducible refine EIx.mk ?_)); (fail_if_success (with_reducible refine RIx.mk ?_)); (fail_if_success (with_reducible show False)); (fail_if_success (with_reducible refine hR ?_ _ ?_ ?_ ?_ ?_ ?_)); (fail_if_success (with_reducible refine hR2 ?_ _ ?_ ?_ ?_ ?_ ?_)); cbv))
  · refine hQ _ ?_
    clear hQ hcp hcc hlp
    simp_all [vfrom, Vec.zero, Vec.enc]
  all_goals
    refine mintX hlp 1 1 1 rfl rfl ?_
    refine mintX hlp 1 1 2 rfl rfl ?_
    refine mintX hlp 1 1 3 rfl rfl ?_
    refine loopT (ι := List Val × Int × Bool × List (List PV) × Nat × List (List PV) × Nat × List (List PV) × Nat) mixed tt_ok hcp hcc hlp [0, 4, 6, 19, 20]
      (fun p => [(7, .p (.bool p.2.2.1)), (21, .p (.int .i64 p.2.1))])
      (fun p => [.cells [.p (.int .i64 0), .full [], .full [], .full []], .cells [.p (.int .i64 kind), .tok 2 p.2.2.2.1, .tok 3 p.2.2.2.2.2.1, .tok 4 p.2.2.2.2.2.2.2.1], .spare p.2.2.2.2.1 1, .spare p.2.2.2.2.2.2.1 1, .spare p.2.2.2.2.2.2.2.2 1])
      (fun p => FromOk kind l p.1 p.2.1 p.2.2.1 p.2.2.2.1 p.2.2.2.2.1 p.2.2.2.2.2.1 p.2.2.2.2.2.2.1 p.2.2.2.2.2.2.2.1 p.2.2.2.2.2.2.2.2) (fun p => l.length - p.1.length)
      ([], 0, false, [], 0, [], 0, [], 0) 5 (fun _ => rfl) ⟨⟨l, rfl⟩, rfl, rfl, rfl, rfl, rfl, by simp [numsOf], rfl, by simp [textsOf], rfl⟩ ⟨rfl, rfl, trivial⟩ rfl ?_
    rintro R ⟨p, k, b, N0, m0, N1, m1, N2, m2⟩ hi hR
    have hi : FromOk kind l p k b N0 m0 N1 m1 N2 m2 := hi
    have hk := hi.k
    have l0 : N0.length = p.length := by rw [← hi.n0]; simp [nullsOf]
    have l1 : N1.length ≤ p.length := by rw [← hi.n1]; unfold numsOf; split <;> simp
    have l2 : N2.length ≤ p.length := by rw [← hi.n2]; unfold textsOf; split <;> simp
    have o0 : okEs 1 N0 = true := by rw [← hi.n0]; simp [okEs, boolc, PV.one]
    have o1 : okEs 1 N1 = true := by rw [← hi.n1]; simp [okEs, i64c, PV.one]
    have o2 : okEs 1 N2 = true := by rw [← hi.n2]; simp [okEs, strc, PV.one]
    have c0 := hi.c0
    have c1 := hi.c1
    have c2 := hi.c2
    simp only [nc] at hz
    simp only [nc'] at hz
    have hk0 : 0 ≤ k := by omega
    have hkl : decide (k < z) = true → k < l.length := by simp only [decide_eq_true_eq]; omega
    have hlt : decide (k < z) = true → p.length < l.length := by simp only [decide_eq_true_eq]; omega
    have hge : decide (k < z) = false → l = p := by
      intro h
      simp only [decide_eq_false_iff_not] at h
      obtain ⟨r, hr⟩ := hi.pre
      have : l.length = p.length + r.length := by rw [hr]; simp
      have : r = [] := List.eq_nil_of_length_eq_zero (by omega)
      rw [hr, this]; simp
    repeat' (first
      | (with_reducible refine Nm.mk ?_; intro z hz)
      | (with_reducible refine IfB.mk ?_ ?_ <;> (intro h; cases h))
      | (with_reducible refine Two.l ?_; refine Asm.mk ?_ ?_; focus (decide +kernel))
      | (with_reducible refine Two.r ?_)
      | (with_reducible refine Asm.mk ?_ ?_; focus (first | kernel_rfl | (have hlt' := hlt (by assumption); clear hR hQ hlt hkl hk hge; refine ⟨c0.symm, rfl, o0, rfl, ?_, ?_⟩ <;> simp only [List.length_cons, List.length_nil, maxLen] <;> omega) | (have hlt' := hlt (by assumption); clear hR hQ hlt hkl hk hge; refine ⟨c1.symm, rfl, o1, rfl, ?_, ?_⟩ <;> simp only [List.length_cons, List.length_nil, maxLen] <;> omega) | (have hlt' := hlt (by assumption); clear hR hQ hlt hkl hk hge; refine ⟨c2.symm, rfl, o2, rfl, ?_, ?_⟩ <;> simp only [List.length_cons, List.length_nil, maxLen] <;> omega)))
      | (with_reducible refine isCP hcp ?_; first | (refine vP hcp (rclean_c _ _ _) ?_; intro v hv))
      | (with_reducible refine isCC hcc ?_; first | (refine vA hcc (rclean_c _ _ _) rfl ?_; intro v hv))
      | (with_reducible refine Ix.map hL cells_len (by decide) hk0 (hkl (by assumption)) ?_; intro x hx)
      | (with_reducible refine Asm.mk2 ?_ ?_)
      | ((fail_if_success (with_reducible refine hQ _ ?_)); (fail_if_success (with_reducible refine Side.mk ?_)); (fail_if_success (with_reducible refine isCP hcp ?_)); (fail_if_success (with_reducible refine isCC hcc ?_)); (fail_if_success (with_reducible refine isLP hlp ?_)); (fail_if_success (with_reducible refine Ix.mk ?_)); (fail_if_success (with_reducible refine SIx.mk ?_)); (fail_if_success (with_reducible refine SEx.mk ?_)); (fail_if_success (with_reducible refine EIx.mk ?_)); (fail_if_success (with_reducible refine RIx.mk ?_)); (fail_if_success (with_reducible show False)); (fail_if_success (with_reducible refine hR ?_ _ ?_ ?_ ?_ ?_ ?_)); (fail_if_success (with_reducible refine hR2 ?_ _ ?_ ?_ ?_ ?_ ?_)); cbv))
    all_goals (try clear hlt hkl o0 o1 o2 l0 l1 l2 hk0)
    -- what kind is not
    all_goals first
      | (exfalso; clear hR hQ hcp hcc hlp hi hx hv; simp_all; done)
      | (exfalso; clear hR hQ hcp hcc hlp hi; simp_all; done)
      | skip
    all_goals first
      | (skip
         refine hR (p ++ [x], _, _, _, _, _, _, _, _) _ ?_ ?_ ⟨rfl, rfl, trivial⟩ ⟨rfl, rfl, rfl, rfl, rfl, trivial⟩ rfl
         · obtain ⟨r, hr⟩ := hi.at_ hx
           have hlen : p.length < l.length := by rw [hr]; simp
           have hv' : clean x = v := hv
           have hw : IntKind.i64.wrap (k + 1) = ((p ++ [x]).length : Int) := by rw [wrap_in (by have := hi.k; omega)]; have := hi.k; simp; omega
           rw [hz] at hw
           have e1 := hi.b
           have e2 := hi.f
           have e3 := hi.n0
           have e4 := hi.n1
           have e5 := hi.n2
           clear hR hQ hcp hcc hlp hi hv hx hL
           refine ⟨⟨r, by simp [hr]⟩, hw, ?_, ?_, ?_, ?_, ?_, ?_, ?_, ?_⟩
           · show bigs (p ++ [x]) = _
             rw [bigs_snoc, e1]; simp_all
           · show kinds kind (p ++ [x]) = _
             rw [kinds_snoc, e2]; simp_all
           · show (nullsOf (p ++ [x])).map boolc = _
             rw [nullsOf_snoc, List.map_append, e3]; simp_all [boolc]
           · first | exact c0 | exact c1 | exact c2 | (subst_vars; simp)
           · show (numsOf kind (p ++ [x])).map i64c = _
             first
               | (have hk1 : kind = 1 := of_decide_eq_true (by assumption)
                  subst hk1
                  rw [numsOf_1, List.map_append, e4]; simp_all [i64c]; done)
               | (have hk1 : ¬ kind = 1 := of_decide_eq_false (by assumption)
                  rw [numsOf_2 hk1] at e4 ⊢; exact e4)
           · first | exact c0 | exact c1 | exact c2 | (subst_vars; simp)
           · show (textsOf kind (p ++ [x])).map strc = _
             first
               | (have hk1 : kind = 1 := of_decide_eq_true (by assumption)
                  subst hk1
                  rw [textsOf_1] at e5 ⊢; exact e5)
               | (have hk1 : ¬ kind = 1 := of_decide_eq_false (by assumption)
                  rw [textsOf_2 hk1, List.map_append, e5]; simp_all [strc])
           · first | exact c0 | exact c1 | exact c2 | (subst_vars; simp)
         · obtain ⟨r, hr⟩ := hi.at_ hx
           show l.length - (p ++ [x]).length < l.length - p.length
           rw [hr]; simp; omega)
      | skip
    all_goals first
      | (skip
         have hv' : clean x = v := hv
         obtain ⟨r, hr⟩ := hi.at_ hx
         have hbad : kinds kind l = false := by
           rw [hr, kinds_app]
           clear hR hQ hcp hcc hlp hi hv hx
           simp_all [kinds]
         refine hQ _ ?_
         clear hR hQ hcp hcc hlp hi hv hx
         simp_all [vfrom, Vec.enc, Vec.zero]
         done)
      | (skip
         have hl := hge (by assumption)
         subst hl
         have e1 := hi.b
         have e2 := hi.f
         have e3 := hi.n0
         have e4 := hi.n1
         have e5 := hi.n2
         refine hQ _ ?_
         clear hR hQ hcp hcc hlp hi
         simp_all [vfrom, Vec.enc, Vec.zero]
         done)
      | skip

end Go.Proofs.Ytnhmnfokbinplaa

namespace Go.Proofs.Ytnhmnfokbinplaa
open Go Go.RowKit
set_option maxRecDepth 100000
set_option linter.unusedSimpArgs false
set_option linter.unusedVariables false

theorem num_c (n : Int) : PCall Try.prog 23 [.int .i64 n] fun r => r = [.int .i64 n] := by
  refine PCall.x (nt := 4) (res := [.tmp 2]) mixed tt_ok [] Try.func23 rfl rfl rfl c23 (Nat.le_of_ble_eq_true rfl) ?_
  intro cp cc lp Q' hcp hcc hlp hQ
  repeat' (first
    | (with_reducible refine Nm.mk ?_; intro z hz)
    | (with_reducible refine IfB.mk ?_ ?_ <;> (intro h; cases h))
    | (with_reducible refine Two.l ?_; refine Asm.mk ?_ ?_; focus (decide +kernel))
    | (with_reducible refine Two.r ?_)
    | (with_reducible refine Asm.mk ?_ ?_; focus (first | kernel_rfl | decide))
    | (with_reducible refine Asm.mk2 ?_ ?_)
    | ((fail_if_success (with_reducible refine hQ _ ?_)); (fail_if_success (with_reducible refine Side.mk ?_)); (fail_if_success (with_reducible refine isCP hcp ?_)); (fail_if_success (with_reducible refine isCC hcc ?_)); (fail_if_success (with_reducible refine isLP hlp ?_)); (fail_if_success (with_reducible refine Ix.mk ?_)); (fail_if_success (with_reducible refine SIx.mk ?_)); (fail_if_success (with_reducible refine SEx.mk ?_)); (fail_if_success (with_reducible refine EIx.mk ?_)); (fail_if_success (with_reducible refine RIx.mk ?_)); (fail_if_success (with_reducible show False)); (fail_if_success (with_reducible refine hR ?_ _ ?_ ?_ ?_ ?_ ?_)); (fail_if_success (with_reducible refine hR2 ?_ _ ?_ ?_ ?_ ?_ ?_)); cbv))
  all_goals (refine hQ _ ?_; clear hQ hcp hcc hlp; subst_vars; simp_all [])

theorem maxLen_eq : maxLen = 9223372036854775807 := rfl

theorem sameVec_c (a : Int) (B : List Bool) (N : List Int) (S : List ByteArray) (n1 n2 n3 : List (List PV)) (h1 : B.map boolc = n1) (h2 : N.map i64c = n2) (h3 : S.map strc = n3) :
    PCall Try.prog 24 [.agg [.int .i64 a, .sl n1, .sl n2, .sl n3], .agg [.int .i64 a, .sl n1, .sl n2, .sl n3]] fun r => r = [.bool true] := by
  refine PCall.know c24 fun hkn => ?_
  have k1 : n1.length ≤ maxLen := hkn (.agg [.int .i64 a, .sl n1, .sl n2, .sl n3]) (by simp) (.sl n1) (by simp)
  have k2 : n2.length ≤ maxLen := hkn (.agg [.int .i64 a, .sl n1, .sl n2, .sl n3]) (by simp) (.sl n2) (by simp)
  have k3 : n3.length ≤ maxLen := hkn (.agg [.int .i64 a, .sl n1, .sl n2, .sl n3]) (by simp) (.sl n3) (by simp)
  clear hkn
  rw [maxLen_eq] at k1 k2 k3
  have b1 : n1.length = B.length := by rw [← h1]; simp
  have b2 : n2.length = N.length := by rw [← h2]; simp
  have b3 : n3.length = S.length := by rw [← h3]; simp
  refine PCall.x (nt := 94) (res := [.tmp 4]) mixed tt_ok [] Try.func24 rfl rfl rfl c24 (Nat.le_of_ble_eq_true rfl) ?_
  intro cp cc lp Q' hcp hcc hlp hQ
  repeat' (first
    | (with_reducible refine Nm.mk ?_; intro z hz)
    | (with_reducible refine IfB.mk ?_ ?_ <;> (intro h; cases h))
    | (with_reducible refine Two.l ?_; refine Asm.mk ?_ ?_; focus (decide +kernel))
    | (with_reducible refine Two.r ?_)
    | (with_reducible refine Asm.mk ?_ ?_; focus (first | kernel_rfl | decide))
    | (with_reducible refine Asm.mk2 ?_ ?_)
    | ((fail_if_success (with_reducible refine hQ _ ?_)); (fail_if_success (with_reducible refine Side.mk ?_)); (fail_if_success (with_reducible refine isCP hcp ?_)); (fail_if_success (with_reducible refine isCC hcc ?_)); (fail_if_success (with_reducible refine isLP hlp ?_)); (fail_if_success (with_reducible refine Ix.mk ?_)); (fail_if_success (with_reducible refine SIx.mk ?_)); (fail_if_success (with_reducible refine SEx.mk ?_)); (fail_if_success (with_reducible refine EIx.mk ?_)); (fail_if_success (with_reducible refine RIx.mk ?_)); (fail_if_success (with_reducible show False)); (fail_if_success (with_reducible refine hR ?_ _ ?_ ?_ ?_ ?_ ?_)); (fail_if_success (with_reducible refine hR2 ?_ _ ?_ ?_ ?_ ?_ ?_)); cbv))
  all_goals first
    | (exfalso; clear hcp hcc hlp hQ; subst_vars; simp_all; done)
    | skip
  simp only [nc] at hz
  simp only [nc'] at hz
  refine loopK (ι := Int) mixed tt_ok hcp hcc hlp [2, 3, 42] (fun i => [(43, .p (.int .i64 i))]) (fun i => 0 ≤ i ∧ i ≤ z) (fun i => (z - i).toNat) 0 (fun _ => rfl) (by omega) ⟨rfl, trivial⟩ ?_
  intro R i hi hR
  have hi0 : 0 ≤ i := hi.1
  have hkl : decide (i < z) = true → i < B.length := by simp only [decide_eq_true_eq]; omega
  have hst : decide (i < z) = true → IntKind.i64.wrap (i + 1) = i + 1 ∧ (0 ≤ i + 1 ∧ i + 1 ≤ z) ∧ (z - (i + 1)).toNat < (z - i).toNat := by
    intro h
    simp only [decide_eq_true_eq] at h
    exact ⟨wrap_in (by omega), by omega, by omega⟩
  repeat' (first
    | (with_reducible refine Nm.mk ?_; intro z hz)
    | (with_reducible refine IfB.mk ?_ ?_ <;> (intro h; cases h))
    | (with_reducible refine Two.l ?_; refine Asm.mk ?_ ?_; focus (decide +kernel))
    | (with_reducible refine Two.r ?_)
    | (with_reducible refine Asm.mk ?_ ?_; focus kernel_rfl)
    | (with_reducible refine Ix.at_ h1 boolc_len (by decide) hi0 (by assumption) ?_)
    | (with_reducible refine Ix.map h1 boolc_len (by decide) hi0 (hkl (by assumption)) ?_; intro x hx)
    | (with_reducible refine Asm.mk2 ?_ ?_)
    | ((fail_if_success (with_reducible refine hQ _ ?_)); (fail_if_success (with_reducible refine Side.mk ?_)); (fail_if_success (with_reducible refine isCP hcp ?_)); (fail_if_success (with_reducible refine isCC hcc ?_)); (fail_if_success (with_reducible refine isLP hlp ?_)); (fail_if_success (with_reducible refine Ix.mk ?_)); (fail_if_success (with_reducible refine SIx.mk ?_)); (fail_if_success (with_reducible refine SEx.mk ?_)); (fail_if_success (with_reducible refine EIx.mk ?_)); (fail_if_success (with_reducible refine RIx.mk ?_)); (fail_if_success (with_reducible show False)); (fail_if_success (with_reducible refine hR ?_ _ ?_ ?_ ?_ ?_ ?_)); (fail_if_success (with_reducible refine hR2 ?_ _ ?_ ?_ ?_ ?_ ?_)); cbv))
  all_goals first
    | (exfalso; simp_all [sbeq_eq]; done)
    | (obtain ⟨e1, e2, e3⟩ := hst (by assumption)
       rw [e1] at hz
       exact hR (i + 1) _ e2 e3 ⟨hz ▸ rfl, trivial⟩ ⟨rfl, rfl, rfl, trivial⟩ rfl)
    | skip
  simp only [nc] at hz
  simp only [nc'] at hz
  refine loopK (ι := Int) mixed tt_ok hcp hcc hlp [2, 3, 60] (fun i => [(61, .p (.int .i64 i))]) (fun i => 0 ≤ i ∧ i ≤ z) (fun i => (z - i).toNat) 0 (fun _ => rfl) (by omega) ⟨rfl, trivial⟩ ?_
  intro R i hi hR
  have hi0 : 0 ≤ i := hi.1
  have hkl : decide (i < z) = true → i < N.length := by simp only [decide_eq_true_eq]; omega
  have hst : decide (i < z) = true → IntKind.i64.wrap (i + 1) = i + 1 ∧ (0 ≤ i + 1 ∧ i + 1 ≤ z) ∧ (z - (i + 1)).toNat < (z - i).toNat := by
    intro h
    simp only [decide_eq_true_eq] at h
    exact ⟨wrap_in (by omega), by omega, by omega⟩
  repeat' (first
    | (with_reducible refine Nm.mk ?_; intro z hz)
    | (with_reducible refine IfB.mk ?_ ?_ <;> (intro h; cases h))
    | (with_reducible refine Two.l ?_; refine Asm.mk ?_ ?_; focus (decide +kernel))
    | (with_reducible refine Two.r ?_)
    | (with_reducible refine Asm.mk ?_ ?_; focus kernel_rfl)
    | (with_reducible refine Ix.at_ h2 i64c_len (by decide) hi0 (by assumption) ?_)
    | (with_reducible refine Ix.map h2 i64c_len (by decide) hi0 (hkl (by assumption)) ?_; intro x hx)
    | (with_reducible refine Asm.mk2 ?_ ?_)
    | ((fail_if_success (with_reducible refine hQ _ ?_)); (fail_if_success (with_reducible refine Side.mk ?_)); (fail_if_success (with_reducible refine isCP hcp ?_)); (fail_if_success (with_reducible refine isCC hcc ?_)); (fail_if_success (with_reducible refine isLP hlp ?_)); (fail_if_success (with_reducible refine Ix.mk ?_)); (fail_if_success (with_reducible refine SIx.mk ?_)); (fail_if_success (with_reducible refine SEx.mk ?_)); (fail_if_success (with_reducible refine EIx.mk ?_)); (fail_if_success (with_reducible refine RIx.mk ?_)); (fail_if_success (with_reducible show False)); (fail_if_success (with_reducible refine hR ?_ _ ?_ ?_ ?_ ?_ ?_)); (fail_if_success (with_reducible refine hR2 ?_ _ ?_ ?_ ?_ ?_ ?_)); cbv))
  all_goals first
    | (exfalso; simp_all [sbeq_eq]; done)
    | (obtain ⟨e1, e2, e3⟩ := hst (by assumption)
       rw [e1] at hz
       exact hR (i + 1) _ e2 e3 ⟨hz ▸ rfl, trivial⟩ ⟨rfl, rfl, rfl, trivial⟩ rfl)
    | skip
  simp only [nc] at hz
  simp only [nc'] at hz
  refine loopK (ι := Int) mixed tt_ok hcp hcc hlp [2, 3, 78] (fun i => [(79, .p (.int .i64 i))]) (fun i => 0 ≤ i ∧ i ≤ z) (fun i => (z - i).toNat) 0 (fun _ => rfl) (by omega) ⟨rfl, trivial⟩ ?_
  intro R i hi hR
  have hi0 : 0 ≤ i := hi.1
  have hkl : decide (i < z) = true → i < S.length := by simp only [decide_eq_true_eq]; omega
  have hst : decide (i < z) = true → IntKind.i64.wrap (i + 1) = i + 1 ∧ (0 ≤ i + 1 ∧ i + 1 ≤ z) ∧ (z - (i + 1)).toNat < (z - i).toNat := by
    intro h
    simp only [decide_eq_true_eq] at h
    exact ⟨wrap_in (by omega), by omega, by omega⟩
  repeat' (first
    | (with_reducible refine Nm.mk ?_; intro z hz)
    | (with_reducible refine IfB.mk ?_ ?_ <;> (intro h; cases h))
    | (with_reducible refine Two.l ?_; refine Asm.mk ?_ ?_; focus (decide +kernel))
    | (with_reducible refine Two.r ?_)
    | (with_reducible refine Asm.mk ?_ ?_; focus kernel_rfl)
    | (with_reducible refine Ix.at_ h3 strc_len (by decide) hi0 (by assumption) ?_)
    | (with_reducible refine Ix.map h3 strc_len (by decide) hi0 (hkl (by assumption)) ?_; intro x hx)
    | (with_reducible refine Asm.mk2 ?_ ?_)
    | ((fail_if_success (with_reducible refine hQ _ ?_)); (fail_if_success (with_reducible refine Side.mk ?_)); (fail_if_success (with_reducible refine isCP hcp ?_)); (fail_if_success (with_reducible refine isCC hcc ?_)); (fail_if_success (with_reducible refine isLP hlp ?_)); (fail_if_success (with_reducible refine Ix.mk ?_)); (fail_if_success (with_reducible refine SIx.mk ?_)); (fail_if_success (with_reducible refine SEx.mk ?_)); (fail_if_success (with_reducible refine EIx.mk ?_)); (fail_if_success (with_reducible refine RIx.mk ?_)); (fail_if_success (with_reducible show False)); (fail_if_success (with_reducible refine hR ?_ _ ?_ ?_ ?_ ?_ ?_)); (fail_if_success (with_reducible refine hR2 ?_ _ ?_ ?_ ?_ ?_ ?_)); cbv))
  all_goals first
    | (exfalso; simp_all [sbeq_eq]; done)
    | (obtain ⟨e1, e2, e3⟩ := hst (by assumption)
       rw [e1] at hz
       exact hR (i + 1) _ e2 e3 ⟨hz ▸ rfl, trivial⟩ ⟨rfl, rfl, rfl, trivial⟩ rfl)
    | skip
  exact hQ _ rfl

end Go.Proofs.Ytnhmnfokbinplaa
