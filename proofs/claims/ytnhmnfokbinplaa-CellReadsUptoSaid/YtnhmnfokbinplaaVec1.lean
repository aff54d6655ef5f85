/- vec: From, in both texts. Own work; no condition. -/
import Derived.Test.YtnhmnfokbinplaaCell1
import Derived.Test.YtnhmnfokbinplaaFit
import Derived.Test.YtnhmnfokbinplaaAbs23
namespace Go.Proofs.Ytnhmnfokbinplaa
open Go Go.RowKit
set_option maxRecDepth 100000
set_option linter.unusedSimpArgs false
set_option linter.unusedVariables false

structure Vec where
  kind : Int
  null : List Bool
  ns : List Int
  ss : List ByteArray
def Vec.enc (v : Vec) : PV := .agg [.int .i64 v.kind, .sl (v.null.map boolc), .sl (v.ns.map i64c), .sl (v.ss.map strc)]
def Vec.zero : Vec := ⟨0, [], [], []⟩

def nullsOf (p : List Val) : List Bool := p.map fun v => decide ((clean v).k = 0)
def numsOf (kind : Int) (p : List Val) : List Int := if kind = 1 then p.map fun v => (clean v).n else []
def textsOf (kind : Int) (p : List Val) : List ByteArray := if kind = 1 then [] else p.map fun v => (clean v).s
def bigs (p : List Val) : Bool := p.any fun v => decide ((1000 : Int) < ((clean v).s.size : Int))
def kinds (kind : Int) (p : List Val) : Bool := p.all fun v => decide ((clean v).k = 0) || decide ((clean v).k = kind)

def vfrom (kind : Int) (l : List Val) : Vec × Int :=
  if kind ≠ 1 ∧ kind ≠ 2 then (Vec.zero, 1) else if kinds kind l = false then (Vec.zero, 4) else if bigs l = true then (Vec.zero, 3) else (⟨kind, nullsOf l, numsOf kind l, textsOf kind l⟩, 0)

section
variable {P : Program} {cp : FuncId → List PV → (CR → Prop) → Prop} {cc : FuncId → List AV → List AObj → (AV → List AObj → Prop) → Prop} {f : FuncId} {args : List PV} {aargs : List AV} {H : List AObj}
theorem veP (hcp : PC1 P = cp) {X : Vec} {E : Int} {q : IntKind} {K : CR → Prop} (h : PCall P f args fun r => r = [X.enc, .int q E]) (k : ∀ a n1 n2 n3 e, X.kind = a → X.null.map boolc = n1 → X.ns.map i64c = n2 → X.ss.map strc = n3 → E = e → K (.pure [.agg [.int .i64 a, .sl n1, .sl n2, .sl n3], .int q e])) : cp f args K := callP hcp h fun _ e => e ▸ k _ _ _ _ _ rfl rfl rfl rfl rfl
theorem veA (hcc : ACall P = cc) {X : Vec} {E : Int} {q : IntKind} {K : AV → List AObj → Prop} (h : PCall P f args fun r => r = [X.enc, .int q E]) (ha : optL pureX aargs = some args) (k : ∀ a n1 n2 n3 e, X.kind = a → X.null.map boolc = n1 → X.ns.map i64c = n2 → X.ss.map strc = n3 → E = e → K (.tup [.p (.agg [.int .i64 a, .sl n1, .sl n2, .sl n3]), .p (.int q e)]) H) : cc f aargs H K := callA hcc ha h fun _ e => e ▸ k _ _ _ _ _ rfl rfl rfl rfl rfl
end

theorem num_r (n : Int) : PCall Try.prog 93 [.int .i64 n] fun r => r = [(num n).enc] := by
  refine PCall.x (nt := 5) (res := [.cell 2 25]) mixed tt_ok [] Try.func93 rfl rfl rfl c93 (Nat.le_of_ble_eq_true rfl) ?_
  intro cp cc lp Q' hcp hcc hlp hQ
  repeat' (first
    | (with_reducible refine Nm.mk ?_; intro z hz)
    | (with_reducible refine IfB.mk ?_ ?_ <;> (intro h; cases h))
    | (with_reducible refine Asm.mk ?_ ?_; focus (first | kernel_rfl | decide))
    | (with_reducible refine Asm.mk2 ?_ ?_)
    | ((fail_if_success (with_reducible refine hQ _ ?_)); (fail_if_success (with_reducible refine Side.mk ?_)); (fail_if_success (with_reducible refine isCP hcp ?_)); (fail_if_success (with_reducible refine isCC hcc ?_)); (fail_if_success (with_reducible refine isLP hlp ?_)); (fail_if_success (with_reducible refine Ix.mk ?_)); (fail_if_success (with_reducible refine SIx.mk ?_)); (fail_if_success (with_reducible refine SEx.mk ?_)); (fail_if_success (with_reducible refine EIx.mk ?_)); (fail_if_success (with_reducible refine RIx.mk ?_)); (fail_if_success (with_reducible show False)); (fail_if_success (with_reducible refine hR ?_ _ ?_ ?_ ?_ ?_ ?_)); (fail_if_success (with_reducible refine hR2 ?_ _ ?_ ?_ ?_ ?_ ?_)); cbv))
  all_goals (refine hQ _ ?_; clear hQ hcp hcc hlp; subst_vars; simp_all [num, Val.enc])
def str (s : ByteArray) : Val := ⟨2, 0, s⟩
theorem str_r (s : ByteArray) : PCall Try.prog 95 [.str s] fun r => r = [(str s).enc] := by
  refine PCall.x (nt := 5) (res := [.cell 2 25]) mixed tt_ok [] Try.func95 rfl rfl rfl c95 (Nat.le_of_ble_eq_true rfl) ?_
  intro cp cc lp Q' hcp hcc hlp hQ
  repeat' (first
    | (with_reducible refine Nm.mk ?_; intro z hz)
    | (with_reducible refine IfB.mk ?_ ?_ <;> (intro h; cases h))
    | (with_reducible refine Asm.mk ?_ ?_; focus (first | kernel_rfl | decide))
    | (with_reducible refine Asm.mk2 ?_ ?_)
    | ((fail_if_success (with_reducible refine hQ _ ?_)); (fail_if_success (with_reducible refine Side.mk ?_)); (fail_if_success (with_reducible refine isCP hcp ?_)); (fail_if_success (with_reducible refine isCC hcc ?_)); (fail_if_success (with_reducible refine isLP hlp ?_)); (fail_if_success (with_reducible refine Ix.mk ?_)); (fail_if_success (with_reducible refine SIx.mk ?_)); (fail_if_success (with_reducible refine SEx.mk ?_)); (fail_if_success (with_reducible refine EIx.mk ?_)); (fail_if_success (with_reducible refine RIx.mk ?_)); (fail_if_success (with_reducible show False)); (fail_if_success (with_reducible refine hR ?_ _ ?_ ?_ ?_ ?_ ?_)); (fail_if_success (with_reducible refine hR2 ?_ _ ?_ ?_ ?_ ?_ ?_)); cbv))
  all_goals (refine hQ _ ?_; clear hQ hcp hcc hlp; subst_vars; simp_all [str, Val.enc])
theorem none_r : PCall Try.prog 36 [] fun r => r = [Val.zero.enc] := by
  refine PCall.x (nt := 2) (res := [.cell 0 25]) mixed tt_ok [] Try.func36 rfl rfl rfl c36 (Nat.le_of_ble_eq_true rfl) ?_
  intro cp cc lp Q' hcp hcc hlp hQ
  repeat' (first
    | (with_reducible refine Nm.mk ?_; intro z hz)
    | (with_reducible refine IfB.mk ?_ ?_ <;> (intro h; cases h))
    | (with_reducible refine Asm.mk ?_ ?_; focus (first | kernel_rfl | decide))
    | (with_reducible refine Asm.mk2 ?_ ?_)
    | ((fail_if_success (with_reducible refine hQ _ ?_)); (fail_if_success (with_reducible refine Side.mk ?_)); (fail_if_success (with_reducible refine isCP hcp ?_)); (fail_if_success (with_reducible refine isCC hcc ?_)); (fail_if_success (with_reducible refine isLP hlp ?_)); (fail_if_success (with_reducible refine Ix.mk ?_)); (fail_if_success (with_reducible refine SIx.mk ?_)); (fail_if_success (with_reducible refine SEx.mk ?_)); (fail_if_success (with_reducible refine EIx.mk ?_)); (fail_if_success (with_reducible refine RIx.mk ?_)); (fail_if_success (with_reducible show False)); (fail_if_success (with_reducible refine hR ?_ _ ?_ ?_ ?_ ?_ ?_)); (fail_if_success (with_reducible refine hR2 ?_ _ ?_ ?_ ?_ ?_ ?_)); cbv))
  all_goals (refine hQ _ ?_; clear hQ hcp hcc hlp; subst_vars; simp_all [Val.zero, Val.enc])
theorem rclean_c (k n : Int) (s : ByteArray) : PCall Try.prog 49 [.agg [.int .i64 k, .int .i64 n, .str s]] fun r => r = [(clean ⟨k, n, s⟩).enc] := by
  refine PCall.x (nt := 16) (res := [.cell 2 25]) mixed tt_ok [] Try.func49 rfl rfl rfl c49 (Nat.le_of_ble_eq_true rfl) ?_
  intro cp cc lp Q' hcp hcc hlp hQ
  repeat' (first
    | (with_reducible refine Nm.mk ?_; intro z hz)
    | (with_reducible refine IfB.mk ?_ ?_ <;> (intro h; cases h))
    | (with_reducible refine Asm.mk ?_ ?_; focus (first | kernel_rfl | decide))
    | (with_reducible refine isCP hcp ?_; first | (refine vP hcp (num_r _) ?_; intro v hv) | (refine vP hcp (str_r _) ?_; intro v hv) | (refine vP hcp (none_r) ?_; intro v hv))
    | (with_reducible refine isCC hcc ?_; first | (refine vA hcc (num_r _) rfl ?_; intro v hv) | (refine vA hcc (str_r _) rfl ?_; intro v hv) | (refine vA hcc (none_r) rfl ?_; intro v hv))
    | (with_reducible refine Asm.mk2 ?_ ?_)
    | ((fail_if_success (with_reducible refine hQ _ ?_)); (fail_if_success (with_reducible refine Side.mk ?_)); (fail_if_success (with_reducible refine isCP hcp ?_)); (fail_if_success (with_reducible refine isCC hcc ?_)); (fail_if_success (with_reducible refine isLP hlp ?_)); (fail_if_success (with_reducible refine Ix.mk ?_)); (fail_if_success (with_reducible refine SIx.mk ?_)); (fail_if_success (with_reducible refine SEx.mk ?_)); (fail_if_success (with_reducible refine EIx.mk ?_)); (fail_if_success (with_reducible refine RIx.mk ?_)); (fail_if_success (with_reducible show False)); (fail_if_success (with_reducible refine hR ?_ _ ?_ ?_ ?_ ?_ ?_)); (fail_if_success (with_reducible refine hR2 ?_ _ ?_ ?_ ?_ ?_ ?_)); cbv))
  all_goals (refine hQ _ ?_; clear hQ hcp hcc hlp; subst_vars; simp_all [clean, num, str, Val.enc, Val.zero])

theorem nullsOf_snoc (p : List Val) (x : Val) : nullsOf (p ++ [x]) = nullsOf p ++ [decide ((clean x).k = 0)] := by simp [nullsOf]
theorem numsOf_1 (p : List Val) (x : Val) : numsOf 1 (p ++ [x]) = numsOf 1 p ++ [(clean x).n] := by simp [numsOf]
theorem numsOf_2 {k : Int} (h : ¬ k = 1) (p : List Val) : numsOf k p = [] := by simp [numsOf, h]
theorem textsOf_1 (p : List Val) : textsOf 1 p = [] := by simp [textsOf]
theorem textsOf_2 {k : Int} (h : ¬ k = 1) (p : List Val) (x : Val) : textsOf k (p ++ [x]) = textsOf k p ++ [(clean x).s] := by simp [textsOf, h]
theorem bigs_snoc (p : List Val) (x : Val) : bigs (p ++ [x]) = (bigs p || decide ((1000 : Int) < ((clean x).s.size : Int))) := by simp [bigs]
theorem kinds_snoc (k : Int) (p : List Val) (x : Val) : kinds k (p ++ [x]) = (kinds k p && (decide ((clean x).k = 0) || decide ((clean x).k = k))) := by simp [kinds]
theorem kinds_app (k : Int) (p r : List Val) : kinds k (p ++ r) = (kinds k p && kinds k r) := by simp [kinds]

/-- What a round knows. -/
structure FromOk (kind : Int) (l p : List Val) (k : Int) (b : Bool) (N0 : List (List PV)) (m0 : Nat) (N1 : List (List PV)) (m1 : Nat) (N2 : List (List PV)) (m2 : Nat) : Prop where
  pre : ∃ r, l = p ++ r
  k : k = (p.length : Int)
  b : bigs p = b
  f : kinds kind p = true
  n0 : (nullsOf p).map boolc = N0
  c0 : N0.length = m0
  n1 : (numsOf kind p).map i64c = N1
  c1 : N1.length = m1
  n2 : (textsOf kind p).map strc = N2
  c2 : N2.length = m2

theorem FromOk.at_ {kind : Int} {l p : List Val} {k : Int} {b : Bool} {N0 : List (List PV)} {m0 : Nat} {N1 : List (List PV)} {m1 : Nat} {N2 : List (List PV)} {m2 : Nat} (h : FromOk kind l p k b N0 m0 N1 m1 N2 m2) {x : Val} (hx : l[k.toNat]? = some x) : ∃ r, l = p ++ x :: r := by
  obtain ⟨r, rfl⟩ := h.pre
  rw [h.k, Int.toNat_natCast, List.getElem?_append_right (Nat.le_refl _), Nat.sub_self] at hx
  cases r with
  | nil => simp at hx
  | cons y r => simp at hx; subst hx; exact ⟨r, rfl⟩

theorem vfrom_c (kind : Int) (l : List Val) (L : List (List PV)) (hL : l.map Val.cells = L) (hsz : l.length * 32 ≤ 140737488351232) : PCall Try.prog 21 [.int .i64 kind, .sl L] fun r => r = [(vfrom kind l).1.enc, .int .i64 (vfrom kind l).2] := by
  have hLl : L.length = l.length := by rw [← hL]; simp
  refine PCall.x (nt := 72) (res := [.cell 4 34, .tmp 5]) mixed tt_ok [] Try.func21 rfl rfl rfl c21 (Nat.le_of_ble_eq_true rfl) ?_
  intro cp cc lp Q' hcp hcc hlp hQ
  repeat' (first
    | (with_reducible refine Nm.mk ?_; intro z hz)
    | (with_reducible refine IfB.mk ?_ ?_ <;> (intro h; cases h))
    | (with_reducible refine Asm.mk ?_ ?_; focus (first | kernel_rfl | decide))
    | (with_reducible refine Asm.mk2 ?_ ?_)
    | ((fail_if_success (with_reducible refine hQ _ ?_)); (fail_if_success (with_reducible refine Side.mk ?_)); (fail_if_success (with_reducible refine isCP hcp ?_)); (fail_if_success (with_reducible refine isCC hcc ?_)); (fail_if_success (with_reducible refine isLP hlp ?_)); (fail_if_success (with_reducible refine Ix.mk ?_)); (fail_if_success (with_reducible refine SIx.mk ?_)); (fail_if_success (with_reducible refine SEx.mk ?_)); (fail_if_success (with_reducible refine EIx.mk ?_)); (fail_if_success (with_reducible refine RIx.mk ?_)); (fail_if_success (with_reducible show False)); (fail_if_success (with_reducible refine hR ?_ _ ?_ ?_ ?_ ?_ ?_)); (fail_if_success (with_reducible refine hR2 ?_ _ ?_ ?_ ?_ ?_ ?_)); cbv))
  · refine hQ _ ?_
    clear hQ hcp hcc hlp
    simp_all [vfrom, Vec.zero, Vec.enc]
  all_goals
    refine mintX hlp 1 1 1 rfl rfl ?_
    refine mintX hlp 1 1 2 rfl rfl ?_
    refine mintX hlp 1 1 3 rfl rfl ?_
    refine loopT (ι := List Val × Int × Bool × List (List PV) × Nat × List (List PV) × Nat × List (List PV) × Nat) mixed tt_ok hcp hcc hlp [0, 4, 6, 19, 20]
      (fun p => [(7, .p (.bool p.2.2.1)), (21, .p (.int .i64 p.2.1))])
      (fun p => [.cells [.p (.int .i64 0), .full [], .full [], .full []], .cells [.p (.int .i64 kind), .tok 2 p.2.2.2.1, .tok 3 p.2.2.2.2.2.1, .tok 4 p.2.2.2.2.2.2.2.1], .spare p.2.2.2.2.1 1, .spare p.2.2.2.2.2.2.1 1, .spare p.2.2.2.2.2.2.2.2 1])
      (fun p => FromOk kind l p.1 p.2.1 p.2.2.1 p.2.2.2.1 p.2.2.2.2.1 p.2.2.2.2.2.1 p.2.2.2.2.2.2.1 p.2.2.2.2.2.2.2.1 p.2.2.2.2.2.2.2.2) (fun p => l.length - p.1.length)
      ([], 0, false, [], 0, [], 0, [], 0) 5 (fun _ => rfl) ⟨⟨l, rfl⟩, rfl, rfl, rfl, rfl, rfl, by simp [numsOf], rfl, by simp [textsOf], rfl⟩ ⟨rfl, rfl, trivial⟩ rfl ?_
    rintro R ⟨p, k, b, N0, m0, N1, m1, N2, m2⟩ hi hR
    have hi : FromOk kind l p k b N0 m0 N1 m1 N2 m2 := hi
    have hk := hi.k
    have l0 : N0.length = p.length := by rw [← hi.n0]; simp [nullsOf]
    have l1 : N1.length ≤ p.length := by rw [← hi.n1]; unfold numsOf; split <;> simp
    have l2 : N2.length ≤ p.length := by rw [← hi.n2]; unfold textsOf; split <;> simp
    have o0 : okEs 1 N0 = true := by rw [← hi.n0]; simp [okEs, boolc, PV.one]
    have o1 : okEs 1 N1 = true := by rw [← hi.n1]; simp [okEs, i64c, PV.one]
    have o2 : okEs 1 N2 = true := by rw [← hi.n2]; simp [okEs, strc, PV.one]
    have c0 := hi.c0
    have c1 := hi.c1
    have c2 := hi.c2
    simp only [nc] at hz
    simp only [nc'] at hz
    have hk0 : 0 ≤ k := by omega
    have hkl : decide (k < z) = true → k < l.length := by simp only [decide_eq_true_eq]; omega
    have hlt : decide (k < z) = true → p.length < l.length := by simp only [decide_eq_true_eq]; omega
    have hge : decide (k < z) = false → l = p := by
      intro h
      simp only [decide_eq_false_iff_not] at h
      obtain ⟨r, hr⟩ := hi.pre
      have : l.length = p.length + r.length := by rw [hr]; simp
      have : r = [] := List.eq_nil_of_length_eq_zero (by omega)
      rw [hr, this]; simp
    repeat' (first
      | (with_reducible refine Nm.mk ?_; intro z hz)
      | (with_reducible refine IfB.mk ?_ ?_ <;> (intro h; cases h))
      | (with_reducible refine Asm.mk ?_ ?_; focus (first | kernel_rfl | (have hlt' := hlt (by assumption); clear hR hQ hlt hkl hk hge; refine ⟨c0.symm, rfl, o0, rfl, ?_, ?_⟩ <;> simp only [List.length_cons, List.length_nil, maxLen] <;> omega) | (have hlt' := hlt (by assumption); clear hR hQ hlt hkl hk hge; refine ⟨c1.symm, rfl, o1, rfl, ?_, ?_⟩ <;> simp only [List.length_cons, List.length_nil, maxLen] <;> omega) | (have hlt' := hlt (by assumption); clear hR hQ hlt hkl hk hge; refine ⟨c2.symm, rfl, o2, rfl, ?_, ?_⟩ <;> simp only [List.length_cons, List.length_nil, maxLen] <;> omega)))
      | (with_reducible refine isCP hcp ?_; first | (refine vP hcp (clean_c _ _ _) ?_; intro v hv))
      | (with_reducible refine isCC hcc ?_; first | (refine vA hcc (clean_c _ _ _) rfl ?_; intro v hv))
      | (with_reducible refine Ix.map hL cells_len (by decide) hk0 (hkl (by assumption)) ?_; intro x hx)
      | (with_reducible refine Asm.mk2 ?_ ?_)
      | ((fail_if_success (with_reducible refine hQ _ ?_)); (fail_if_success (with_reducible refine Side.mk ?_)); (fail_if_success (with_reducible refine isCP hcp ?_)); (fail_if_success (with_reducible refine isCC hcc ?_)); (fail_if_success (with_reducible refine isLP hlp ?_)); (fail_if_success (with_reducible refine Ix.mk ?_)); (fail_if_success (with_reducible refine SIx.mk ?_)); (fail_if_success (with_reducible refine SEx.mk ?_)); (fail_if_success (with_reducible refine EIx.mk ?_)); (fail_if_success (with_reducible refine RIx.mk ?_)); (fail_if_success (with_reducible show False)); (fail_if_success (with_reducible refine hR ?_ _ ?_ ?_ ?_ ?_ ?_)); (fail_if_success (with_reducible refine hR2 ?_ _ ?_ ?_ ?_ ?_ ?_)); cbv))
    all_goals (try clear hlt hkl o0 o1 o2 l0 l1 l2 hk0)
    -- what kind is not
    all_goals first
      | (exfalso; clear hR hQ hcp hcc hlp hi hx hv; simp_all; done)
      | (exfalso; clear hR hQ hcp hcc hlp hi; simp_all; done)
      | skip
    all_goals first
      | (skip
         refine hR (p ++ [x], _, _, _, _, _, _, _, _) _ ?_ ?_ ⟨rfl, rfl, trivial⟩ ⟨rfl, rfl, rfl, rfl, rfl, trivial⟩ rfl
         · obtain ⟨r, hr⟩ := hi.at_ hx
           have hlen : p.length < l.length := by rw [hr]; simp
           have hv' : clean x = v := hv
           have hw : IntKind.i64.wrap (k + 1) = ((p ++ [x]).length : Int) := by rw [wrap_in (by have := hi.k; omega)]; have := hi.k; simp; omega
           rw [hz] at hw
           have e1 := hi.b
           have e2 := hi.f
           have e3 := hi.n0
           have e4 := hi.n1
           have e5 := hi.n2
           clear hR hQ hcp hcc hlp hi hv hx hL
           refine ⟨⟨r, by simp [hr]⟩, hw, ?_, ?_, ?_, ?_, ?_, ?_, ?_, ?_⟩
           · show bigs (p ++ [x]) = _
             rw [bigs_snoc, e1]; simp_all
           · show kinds kind (p ++ [x]) = _
             rw [kinds_snoc, e2]; simp_all
           · show (nullsOf (p ++ [x])).map boolc = _
             rw [nullsOf_snoc, List.map_append, e3]; simp_all [boolc]
           · first | exact c0 | exact c1 | exact c2 | (subst_vars; simp)
           · show (numsOf kind (p ++ [x])).map i64c = _
             first
               | (have hk1 : kind = 1 := of_decide_eq_true (by assumption)
                  subst hk1
                  rw [numsOf_1, List.map_append, e4]; simp_all [i64c]; done)
               | (have hk1 : ¬ kind = 1 := of_decide_eq_false (by assumption)
                  rw [numsOf_2 hk1] at e4 ⊢; exact e4)
           · first | exact c0 | exact c1 | exact c2 | (subst_vars; simp)
           · show (textsOf kind (p ++ [x])).map strc = _
             first
               | (have hk1 : kind = 1 := of_decide_eq_true (by assumption)
                  subst hk1
                  rw [textsOf_1] at e5 ⊢; exact e5)
               | (have hk1 : ¬ kind = 1 := of_decide_eq_false (by assumption)
                  rw [textsOf_2 hk1, List.map_append, e5]; simp_all [strc])
           · first | exact c0 | exact c1 | exact c2 | (subst_vars; simp)
         · obtain ⟨r, hr⟩ := hi.at_ hx
           show l.length - (p ++ [x]).length < l.length - p.length
           rw [hr]; simp; omega)
      | skip
    all_goals first
      | (skip
         have hv' : clean x = v := hv
         obtain ⟨r, hr⟩ := hi.at_ hx
         have hbad : kinds kind l = false := by
           rw [hr, kinds_app]
           clear hR hQ hcp hcc hlp hi hv hx
           simp_all [kinds]
         refine hQ _ ?_
         clear hR hQ hcp hcc hlp hi hv hx
         simp_all [vfrom, Vec.enc, Vec.zero]
         done)
      | (skip
         have hl := hge (by assumption)
         subst hl
         have e1 := hi.b
         have e2 := hi.f
         have e3 := hi.n0
         have e4 := hi.n1
         have e5 := hi.n2
         refine hQ _ ?_
         clear hR hQ hcp hcc hlp hi
         simp_all [vfrom, Vec.enc, Vec.zero]
         done)
      | skip
theorem rfrom_c (kind : Int) (l : List Val) (L : List (List PV)) (hL : l.map Val.cells = L) (hsz : l.length * 32 ≤ 140737488351232) : PCall Try.prog 22 [.int .i64 kind, .sl L] fun r => r = [(vfrom kind l).1.enc, .int .i64 (vfrom kind l).2] := by
  have hLl : L.length = l.length := by rw [← hL]; simp
  refine PCall.x (nt := 72) (res := [.cell 4 34, .tmp 5]) mixed tt_ok [] Try.func22 rfl rfl rfl c22 (Nat.le_of_ble_eq_true rfl) ?_
  intro cp cc lp Q' hcp hcc hlp hQ
  repeat' (first
    | (with_reducible refine Nm.mk ?_; intro z hz)
    | (with_reducible refine IfB.mk ?_ ?_ <;> (intro h; cases h))
    | (with_reducible refine Asm.mk ?_ ?_; focus (first | kernel_rfl | decide))
    | (with_reducible refine Asm.mk2 ?_ ?_)
    | ((fail_if_success (with_reducible refine hQ _ ?_)); (fail_if_success (with_reducible refine Side.mk ?_)); (fail_if_success (with_reducible refine isCP hcp ?_)); (fail_if_success (with_reducible refine isCC hcc ?_)); (fail_if_success (with_reducible refine isLP hlp ?_)); (fail_if_success (with_reducible refine Ix.mk ?_)); (fail_if_success (with_reducible refine SIx.mk ?_)); (fail_if_success (with_reducible refine SEx.mk ?_)); (fail_if_success (with_reducible refine EIx.mk ?_)); (fail_if_success (with_reducible refine RIx.mk ?_)); (fail_if_success (with_reducible show False)); (fail_if_success (with_reducible refine hR ?_ _ ?_ ?_ ?_ ?_ ?_)); (fail_if_success (with_reducible refine hR2 ?_ _ ?_ ?_ ?_ ?_ ?_)); cbv))
  · refine hQ _ ?_
    clear hQ hcp hcc hlp
    simp_all [vfrom, Vec.zero, Vec.enc]
  all_goals
    refine mintX hlp 1 1 1 rfl rfl ?_
    refine mintX hlp 1 1 2 rfl rfl ?_
    refine mintX hlp 1 1 3 rfl rfl ?_
    refine loopT (ι := List Val × Int × Bool × List (List PV) × Nat × List (List PV) × Nat × List (List PV) × Nat) mixed tt_ok hcp hcc hlp [0, 4, 6, 19, 20]
      (fun p => [(7, .p (.bool p.2.2.1)), (21, .p (.int .i64 p.2.1))])
      (fun p => [.cells [.p (.int .i64 0), .full [], .full [], .full []], .cells [.p (.int .i64 kind), .tok 2 p.2.2.2.1, .tok 3 p.2.2.2.2.2.1, .tok 4 p.2.2.2.2.2.2.2.1], .spare p.2.2.2.2.1 1, .spare p.2.2.2.2.2.2.1 1, .spare p.2.2.2.2.2.2.2.2 1])
      (fun p => FromOk kind l p.1 p.2.1 p.2.2.1 p.2.2.2.1 p.2.2.2.2.1 p.2.2.2.2.2.1 p.2.2.2.2.2.2.1 p.2.2.2.2.2.2.2.1 p.2.2.2.2.2.2.2.2) (fun p => l.length - p.1.length)
      ([], 0, false, [], 0, [], 0, [], 0) 5 (fun _ => rfl) ⟨⟨l, rfl⟩, rfl, rfl, rfl, rfl, rfl, by simp [numsOf], rfl, by simp [textsOf], rfl⟩ ⟨rfl, rfl, trivial⟩ rfl ?_
    rintro R ⟨p, k, b, N0, m0, N1, m1, N2, m2⟩ hi hR
    have hi : FromOk kind l p k b N0 m0 N1 m1 N2 m2 := hi
    have hk := hi.k
    have l0 : N0.length = p.length := by rw [← hi.n0]; simp [nullsOf]
    have l1 : N1.length ≤ p.length := by rw [← hi.n1]; unfold numsOf; split <;> simp
    have l2 : N2.length ≤ p.length := by rw [← hi.n2]; unfold textsOf; split <;> simp
    have o0 : okEs 1 N0 = true := by rw [← hi.n0]; simp [okEs, boolc, PV.one]
    have o1 : okEs 1 N1 = true := by rw [← hi.n1]; simp [okEs, i64c, PV.one]
    have o2 : okEs 1 N2 = true := by rw [← hi.n2]; simp [okEs, strc, PV.one]
    have c0 := hi.c0
    have c1 := hi.c1
    have c2 := hi.c2
    simp only [nc] at hz
    simp only [nc'] at hz
    have hk0 : 0 ≤ k := by omega
    have hkl : decide (k < z) = true → k < l.length := by simp only [decide_eq_true_eq]; omega
    have hlt : decide (k < z) = true → p.length < l.length := by simp only [decide_eq_true_eq]; omega
    have hge : decide (k < z) = false → l = p := by
      intro h
      simp only [decide_eq_false_iff_not] at h
      obtain ⟨r, hr⟩ := hi.pre
      have : l.length = p.length + r.length := by rw [hr]; simp
      have : r = [] := List.eq_nil_of_length_eq_zero (by omega)
      rw [hr, this]; simp
    repeat' (first
      | (with_reducible refine Nm.mk ?_; intro z hz)
      | (with_reducible refine IfB.mk ?_ ?_ <;> (intro h; cases h))
      | (with_reducible refine Asm.mk ?_ ?_; focus (first | kernel_rfl | (have hlt' := hlt (by assumption); clear hR hQ hlt hkl hk hge; refine ⟨c0.symm, rfl, o0, rfl, ?_, ?_⟩ <;> simp only [List.length_cons, List.length_nil, maxLen] <;> omega) | (have hlt' := hlt (by assumption); clear hR hQ hlt hkl hk hge; refine ⟨c1.symm, rfl, o1, rfl, ?_, ?_⟩ <;> simp only [List.length_cons, List.length_nil, maxLen] <;> omega) | (have hlt' := hlt (by assumption); clear hR hQ hlt hkl hk hge; refine ⟨c2.symm, rfl, o2, rfl, ?_, ?_⟩ <;> simp only [List.length_cons, List.length_nil, maxLen] <;> omega)))
      | (with_reducible refine isCP hcp ?_; first | (refine vP hcp (rclean_c _ _ _) ?_; intro v hv))
      | (with_reducible refine isCC hcc ?_; first | (refine vA hcc (rclean_c _ _ _) rfl ?_; intro v hv))
      | (with_reducible refine Ix.map hL cells_len (by decide) hk0 (hkl (by assumption)) ?_; intro x hx)
      | (with_reducible refine Asm.mk2 ?_ ?_)
      | ((fail_if_success (with_reducible refine hQ _ ?_)); (fail_if_success (with_reducible refine Side.mk ?_)); (fail_if_success (with_reducible refine isCP hcp ?_)); (fail_if_success (with_reducible refine isCC hcc ?_)); (fail_if_success (with_reducible refine isLP hlp ?_)); (fail_if_success (with_reducible refine Ix.mk ?_)); (fail_if_success (with_reducible refine SIx.mk ?_)); (fail_if_success (with_reducible refine SEx.mk ?_)); (fail_if_success (with_reducible refine EIx.mk ?_)); (fail_if_success (with_reducible refine RIx.mk ?_)); (fail_if_success (with_reducible show False)); (fail_if_success (with_reducible refine hR ?_ _ ?_ ?_ ?_ ?_ ?_)); (fail_if_success (with_reducible refine hR2 ?_ _ ?_ ?_ ?_ ?_ ?_)); cbv))
    all_goals (try clear hlt hkl o0 o1 o2 l0 l1 l2 hk0)
    -- what kind is not
    all_goals first
      | (exfalso; clear hR hQ hcp hcc hlp hi hx hv; simp_all; done)
      | (exfalso; clear hR hQ hcp hcc hlp hi; simp_all; done)
      | skip
    all_goals first
      | (skip
         refine hR (p ++ [x], _, _, _, _, _, _, _, _) _ ?_ ?_ ⟨rfl, rfl, trivial⟩ ⟨rfl, rfl, rfl, rfl, rfl, trivial⟩ rfl
         · obtain ⟨r, hr⟩ := hi.at_ hx
           have hlen : p.length < l.length := by rw [hr]; simp
           have hv' : clean x = v := hv
           have hw : IntKind.i64.wrap (k + 1) = ((p ++ [x]).length : Int) := by rw [wrap_in (by have := hi.k; omega)]; have := hi.k; simp; omega
           rw [hz] at hw
           have e1 := hi.b
           have e2 := hi.f
           have e3 := hi.n0
           have e4 := hi.n1
           have e5 := hi.n2
           clear hR hQ hcp hcc hlp hi hv hx hL
           refine ⟨⟨r, by simp [hr]⟩, hw, ?_, ?_, ?_, ?_, ?_, ?_, ?_, ?_⟩
           · show bigs (p ++ [x]) = _
             rw [bigs_snoc, e1]; simp_all
           · show kinds kind (p ++ [x]) = _
             rw [kinds_snoc, e2]; simp_all
           · show (nullsOf (p ++ [x])).map boolc = _
             rw [nullsOf_snoc, List.map_append, e3]; simp_all [boolc]
           · first | exact c0 | exact c1 | exact c2 | (subst_vars; simp)
           · show (numsOf kind (p ++ [x])).map i64c = _
             first
               | (have hk1 : kind = 1 := of_decide_eq_true (by assumption)
                  subst hk1
                  rw [numsOf_1, List.map_append, e4]; simp_all [i64c]; done)
               | (have hk1 : ¬ kind = 1 := of_decide_eq_false (by assumption)
                  rw [numsOf_2 hk1] at e4 ⊢; exact e4)
           · first | exact c0 | exact c1 | exact c2 | (subst_vars; simp)
           · show (textsOf kind (p ++ [x])).map strc = _
             first
               | (have hk1 : kind = 1 := of_decide_eq_true (by assumption)
                  subst hk1
                  rw [textsOf_1] at e5 ⊢; exact e5)
               | (have hk1 : ¬ kind = 1 := of_decide_eq_false (by assumption)
                  rw [textsOf_2 hk1, List.map_append, e5]; simp_all [strc])
           · first | exact c0 | exact c1 | exact c2 | (subst_vars; simp)
         · obtain ⟨r, hr⟩ := hi.at_ hx
           show l.length - (p ++ [x]).length < l.length - p.length
           rw [hr]; simp; omega)
      | skip
    all_goals first
      | (skip
         have hv' : clean x = v := hv
         obtain ⟨r, hr⟩ := hi.at_ hx
         have hbad : kinds kind l = false := by
           rw [hr, kinds_app]
           clear hR hQ hcp hcc hlp hi hv hx
           simp_all [kinds]
         refine hQ _ ?_
         clear hR hQ hcp hcc hlp hi hv hx
         simp_all [vfrom, Vec.enc, Vec.zero]
         done)
      | (skip
         have hl := hge (by assumption)
         subst hl
         have e1 := hi.b
         have e2 := hi.f
         have e3 := hi.n0
         have e4 := hi.n1
         have e5 := hi.n2
         refine hQ _ ?_
         clear hR hQ hcp hcc hlp hi
         simp_all [vfrom, Vec.enc, Vec.zero]
         done)
      | skip

end Go.Proofs.Ytnhmnfokbinplaa
