/- What the arguments' types say of their cells; vec: From, in both texts; VecMakes: SameVec of a column and itself; the law; rows' keys: eight bytes as a number; rows' keys: a number as eight bytes; Numbers and values as bytes, in both texts; The program's bytes: what is put behind a list of one's own; The program's bytes: a value behind bytes of one's own; many values; vec: what a column that is good or not answers (VecSays), first part; vec: Len, At, Values; vec: Values; tallyref: Good; vec: Places; tallyref: Values; tallyref: PlacesOf; Places, told by both, are the same; tallyref: Values as an own list; Joined, in both texts; What a good column's values are made of; Joined, in both texts. Own work; no condition. -/
import Derived.Test.YtcajncmjlmpkgaaPcTy
import Derived.Test.YtcajncmjlmpkgaaPcAbs21
import Derived.Test.YtcajncmjlmpkgaaPcRd
import Derived.Test.YtcajncmjlmpkgaaPcCell1
import Derived.Test.YtcajncmjlmpkgaaPcAbs23
import Derived.Test.YtcajncmjlmpkgaaPcAbs24
import Derived.Test.YtcajncmjlmpkgaaPcAbs25
import Derived.Test.YtcajncmjlmpkgaaPcAbs26
import Derived.Test.YtcajncmjlmpkgaaPcAbsF
namespace Go.Proofs.Ytcajncmjlmpkgaa
open Go Go.RowKit
set_option maxRecDepth 100000
def Val.cells (v : Val) : List PV := [.int .i64 v.k, .int .i64 v.n, .str v.s]
def i64c (x : Int) : List PV := [.int .i64 x]
def boolc (x : Bool) : List PV := [.bool x]
def strc (x : ByteArray) : List PV := [.str x]
theorem cells_len (v : Val) : v.cells.length = 3 := rfl
theorem i64c_len (x : Int) : (i64c x).length = 1 := rfl
theorem boolc_len (x : Bool) : (boolc x).length = 1 := rfl
theorem strc_len (x : ByteArray) : (strc x).length = 1 := rfl
def Val.ok (v : Val) : Prop := (Lit.int .i64 v.k).wf = true ∧ (Lit.int .i64 v.n).wf = true ∧ v.s.size ≤ reachBytes
theorem cells25 : Try.prog.cellsOf 24 = 3 := by kernel_rfl
theorem cells2 : Try.prog.cellsOf 2 = 1 := by kernel_rfl
theorem cells3 : Try.prog.cellsOf 3 = 1 := by kernel_rfl
theorem cells9 : Try.prog.cellsOf 9 = 1 := by kernel_rfl
theorem cellsVal {n : Nat} {cs : List PV} (h : Fits Try.prog n 24 cs) : ∃ k m s, cs = [.int .i64 k, .int .i64 m, .str s] ∧ (Lit.int .i64 k).wf = true ∧ (Lit.int .i64 m).wf = true ∧ s.size ≤ reachBytes := by
 obtain ⟨m, rfl, hl, hf⟩ := h.struct Try.underlying24
 rw [cells25] at hl
 obtain ⟨a, b, c, rfl⟩ : ∃ a b c, cs = [a, b, c] := by
   match cs, hl with
   | [a, b, c], _ => exact ⟨a, b, c, rfl⟩
 have h0 : Fits Try.prog m 3 (([a, b, c].drop 0).take (Try.prog.cellsOf 3)) := hf 0 _ rfl
 have h1 : Fits Try.prog m 2 (([a, b, c].drop 1).take (Try.prog.cellsOf 2)) := hf 1 _ rfl
 have h2 : Fits Try.prog m 9 (([a, b, c].drop 2).take (Try.prog.cellsOf 9)) := hf 2 _ rfl
 rw [cells3] at h0
 rw [cells2] at h1
 rw [cells9] at h2
 have h0 : Fits Try.prog m 3 [a] := h0
 have h1 : Fits Try.prog m 2 [b] := h1
 have h2 : Fits Try.prog m 9 [c] := h2
 obtain ⟨k, e0, w0⟩ := h0.int Try.underlying3
 obtain ⟨v, e1, w1⟩ := h1.int Try.underlying2
 obtain ⟨s, e2, w2⟩ := h2.str Try.underlying9
 simp only [List.cons.injEq, and_true] at e0 e1 e2
 subst e0 e1 e2
 exact ⟨k, v, s, rfl, w0, w1, w2⟩
theorem fits25 {n : Nat} {x : PV} (h : FitsA Try.prog n 24 x) : ∃ k m s, x = .agg [.int .i64 k, .int .i64 m, .str s] ∧ (Lit.int .i64 k).wf = true ∧ (Lit.int .i64 m).wf = true ∧ s.size ≤ reachBytes := by
 obtain ⟨cs, rfl, g⟩ := h.agg Try.underlying24
 obtain ⟨k, m, s, rfl, w⟩ := cellsVal g
 exact ⟨k, m, s, rfl, w⟩
theorem cellsV {n : Nat} {cs : List PV} (h : Fits Try.prog n 24 cs) : ∃ v : Val, v.cells = cs ∧ v.ok := by
 obtain ⟨k, m, s, rfl, w⟩ := cellsVal h
 exact ⟨⟨k, m, s⟩, rfl, w⟩
theorem elems_of {α : Type} {enc : α → List PV} {ok : α → Prop} : ∀ {es : List (List PV)}, (∀ x, x ∈ es → ∃ v, enc v = x ∧ ok v) → ∃ l : List α, l.map enc = es ∧ ∀ v, v ∈ l → ok v := by
 intro es
 induction es with
 | nil => intro _; exact ⟨[], rfl, fun v h => by simp at h⟩
 | cons e es ih =>
   intro h
   obtain ⟨v, hv, ho⟩ := h e (by simp)
   obtain ⟨l, hl, hlo⟩ := ih (fun x hx => h x (by simp [hx]))
   exact ⟨v :: l, by simp [hv, hl], fun u hu => by
     rcases List.mem_cons.1 hu with e | e
     · subst e; exact ho
     · exact hlo u e⟩
theorem bytes25 : Try.prog.bytesOf 24 = 32 := by kernel_rfl
theorem fits29 {n : Nat} {x : PV} (h : FitsA Try.prog n 22 x) : ∃ l : List Val, x = .sl (l.map Val.cells) ∧ l.length * 32 ≤ 140737488351232 ∧ ∀ v, v ∈ l → v.ok := by
 obtain ⟨m, es, rfl, h1, ⟨h2, h3⟩, h4⟩ := (h.one Try.underlying22 rfl).slice Try.underlying22
 simp only [List.cons.injEq, and_true] at h1
 subst h1
 obtain ⟨l, rfl, hl⟩ := elems_of (fun x hx => cellsV (h4 x hx).2)
 rw [bytes25, List.length_map] at h3
 exact ⟨l, rfl, h3, hl⟩
theorem fits3 {n : Nat} {x : PV} (h : FitsA Try.prog n 3 x) : ∃ v : Int, x = .int .i64 v ∧ (Lit.int .i64 v).wf = true := by
 obtain ⟨v, e, w⟩ := (h.one Try.underlying3 rfl).int Try.underlying3
 simp only [List.cons.injEq, and_true] at e
 exact ⟨v, e, w⟩
theorem fits2 {n : Nat} {x : PV} (h : FitsA Try.prog n 2 x) : ∃ v : Int, x = .int .i64 v ∧ (Lit.int .i64 v).wf = true := by
 obtain ⟨v, e, w⟩ := (h.one Try.underlying2 rfl).int Try.underlying2
 simp only [List.cons.injEq, and_true] at e
 exact ⟨v, e, w⟩
theorem fits9 {n : Nat} {x : PV} (h : FitsA Try.prog n 9 x) : ∃ v : ByteArray, x = .str v ∧ v.size ≤ reachBytes := by
 obtain ⟨v, e, w⟩ := (h.one Try.underlying9 rfl).str Try.underlying9
 simp only [List.cons.injEq, and_true] at e
 exact ⟨v, e, w⟩
end Go.Proofs.Ytcajncmjlmpkgaa

namespace Go.Proofs.Ytcajncmjlmpkgaa
open Go Go.RowKit
set_option maxRecDepth 100000
set_option linter.unusedSimpArgs false
set_option linter.unusedVariables false
structure Vec where
 kind : Int
 null : List Bool
 ns : List Int
 ss : List ByteArray
def Vec.enc (v : Vec) : PV := .agg [.int .i64 v.kind, .sl (v.null.map boolc), .sl (v.ns.map i64c), .sl (v.ss.map strc)]
def Vec.zero : Vec := ⟨0, [], [], []⟩
def nullsOf (p : List Val) : List Bool := p.map fun v => decide ((clean v).k = 0)
def numsOf (kind : Int) (p : List Val) : List Int := if kind = 1 then p.map fun v => (clean v).n else []
def textsOf (kind : Int) (p : List Val) : List ByteArray := if kind = 1 then [] else p.map fun v => (clean v).s
def bigs (p : List Val) : Bool := p.any fun v => decide ((1000 : Int) < ((clean v).s.size : Int))
def kinds (kind : Int) (p : List Val) : Bool := p.all fun v => decide ((clean v).k = 0) || decide ((clean v).k = kind)
def vfrom (kind : Int) (l : List Val) : Vec × Int :=
 if kind ≠ 1 ∧ kind ≠ 2 then (Vec.zero, 1) else if kinds kind l = false then (Vec.zero, 4) else if bigs l = true then (Vec.zero, 3) else (⟨kind, nullsOf l, numsOf kind l, textsOf kind l⟩, 0)
section
variable {P : Program} {cp : FuncId → List PV → (CR → Prop) → Prop} {cc : FuncId → List AV → List AObj → (AV → List AObj → Prop) → Prop} {f : FuncId} {args : List PV} {aargs : List AV} {H : List AObj}
theorem veP (hcp : PC1 P = cp) {X : Vec} {E : Int} {q : IntKind} {K : CR → Prop} (h : PCall P f args fun r => r = [X.enc, .int q E]) (k : ∀ a n1 n2 n3 e, X.kind = a → X.null.map boolc = n1 → X.ns.map i64c = n2 → X.ss.map strc = n3 → E = e → K (.pure [.agg [.int .i64 a, .sl n1, .sl n2, .sl n3], .int q e])) : cp f args K := callP hcp h fun _ e => e ▸ k _ _ _ _ _ rfl rfl rfl rfl rfl
theorem veA (hcc : ACall P = cc) {X : Vec} {E : Int} {q : IntKind} {K : AV → List AObj → Prop} (h : PCall P f args fun r => r = [X.enc, .int q E]) (ha : optL pureX aargs = some args) (k : ∀ a n1 n2 n3 e, X.kind = a → X.null.map boolc = n1 → X.ns.map i64c = n2 → X.ss.map strc = n3 → E = e → K (.tup [.p (.agg [.int .i64 a, .sl n1, .sl n2, .sl n3]), .p (.int q e)]) H) : cc f aargs H K := callA hcc ha h fun _ e => e ▸ k _ _ _ _ _ rfl rfl rfl rfl rfl
end
def str (s : ByteArray) : Val := ⟨2, 0, s⟩
theorem nullsOf_snoc (p : List Val) (x : Val) : nullsOf (p ++ [x]) = nullsOf p ++ [decide ((clean x).k = 0)] := by simp [nullsOf]
theorem numsOf_1 (p : List Val) (x : Val) : numsOf 1 (p ++ [x]) = numsOf 1 p ++ [(clean x).n] := by simp [numsOf]
theorem numsOf_2 {k : Int} (h : ¬ k = 1) (p : List Val) : numsOf k p = [] := by simp [numsOf, h]
theorem textsOf_1 (p : List Val) : textsOf 1 p = [] := by simp [textsOf]
theorem textsOf_2 {k : Int} (h : ¬ k = 1) (p : List Val) (x : Val) : textsOf k (p ++ [x]) = textsOf k p ++ [(clean x).s] := by simp [textsOf, h]
theorem bigs_snoc (p : List Val) (x : Val) : bigs (p ++ [x]) = (bigs p || decide ((1000 : Int) < ((clean x).s.size : Int))) := by simp [bigs]
theorem kinds_snoc (k : Int) (p : List Val) (x : Val) : kinds k (p ++ [x]) = (kinds k p && (decide ((clean x).k = 0) || decide ((clean x).k = k))) := by simp [kinds]
theorem kinds_app (k : Int) (p r : List Val) : kinds k (p ++ r) = (kinds k p && kinds k r) := by simp [kinds]
structure FromOk (kind : Int) (l p : List Val) (k : Int) (b : Bool) (N0 : List (List PV)) (m0 : Nat) (N1 : List (List PV)) (m1 : Nat) (N2 : List (List PV)) (m2 : Nat) : Prop where
 pre : ∃ r, l = p ++ r
 k : k = (p.length : Int)
 b : bigs p = b
 f : kinds kind p = true
 n0 : (nullsOf p).map boolc = N0
 c0 : N0.length = m0
 n1 : (numsOf kind p).map i64c = N1
 c1 : N1.length = m1
 n2 : (textsOf kind p).map strc = N2
 c2 : N2.length = m2
theorem FromOk.at_ {kind : Int} {l p : List Val} {k : Int} {b : Bool} {N0 : List (List PV)} {m0 : Nat} {N1 : List (List PV)} {m1 : Nat} {N2 : List (List PV)} {m2 : Nat} (h : FromOk kind l p k b N0 m0 N1 m1 N2 m2) {x : Val} (hx : l[k.toNat]? = some x) : ∃ r, l = p ++ x :: r := by
 obtain ⟨r, rfl⟩ := h.pre
 rw [h.k, Int.toNat_natCast, List.getElem?_append_right (Nat.le_refl _), Nat.sub_self] at hx
 cases r with
 | nil => simp at hx
 | cons y r => simp at hx; subst hx; exact ⟨r, rfl⟩
theorem vfrom_c (kind : Int) (l : List Val) (L : List (List PV)) (hL : l.map Val.cells = L) (hsz : l.length * 32 ≤ 140737488351232) : PCall Try.prog 6 [.int .i64 kind, .sl L] fun r => r = [(vfrom kind l).1.enc, .int .i64 (vfrom kind l).2] := by
 have hLl : L.length = l.length := by rw [← hL]; simp
 refine PCall.x (nt := ⟨72, []⟩) (res := [.cell 4 29, .tmp 5]) mixed tt_ok [] Try.func6 rfl rfl rfl c6 (Nat.le_of_ble_eq_true rfl) ?_
 intro cp cc lp Q' hcp hcc hlp hQ
 repeat' (first
   | (with_reducible refine Nm.mk ?_; intro z hz)
   | (with_reducible refine IfB.mk ?_ ?_ <;> (intro h; cases h))
   | (with_reducible refine Two.l ?_; refine Asm.mk ?_ ?_; focus (decide +kernel))
   | (with_reducible refine Two.r ?_)
   | (with_reducible refine TwoT.r ?_)
   | (with_reducible refine TwoU.r ?_)
   | (with_reducible refine Asm.mk ?_ ?_; focus (first | kernel_rfl | decide))
   | (with_reducible refine Asm.mk2 ?_ ?_)
   | ((fail_if_success (with_reducible first | refine hQ _ ?_ | refine Side.mk ?_ | refine isCP hcp ?_ | refine isCC hcc ?_ | refine isLP hlp ?_ | refine Ix.mk ?_ | refine SIx.mk ?_ | refine SEx.mk ?_ | refine EIx.mk ?_ | refine RIx.mk ?_ | refine LkX.mk ?_ | show False | refine hR ?_ _ ?_ ?_ ?_ ?_ ?_ | refine hR2 ?_ _ ?_ ?_ ?_ ?_ ?_)); cbv))
 · refine hQ _ ?_
   clear hQ hcp hcc hlp
   simp_all [vfrom, Vec.zero, Vec.enc]
 all_goals
   refine mintX hlp 1 1 1 rfl rfl ?_
   refine mintX hlp 1 1 2 rfl rfl ?_
   refine mintX hlp 1 1 3 rfl rfl ?_
   refine loopT (ι := List Val × Int × Bool × List (List PV) × Nat × List (List PV) × Nat × List (List PV) × Nat) mixed tt_ok hcp hcc hlp [0, 4, 6, 19, 20]
     (fun p => [(7, .p (.bool p.2.2.1)), (21, .p (.int .i64 p.2.1))])
     (fun p => [.cells [.p (.int .i64 0), .full [], .full [], .full []], .cells [.p (.int .i64 kind), .tok 2 p.2.2.2.1, .tok 3 p.2.2.2.2.2.1, .tok 4 p.2.2.2.2.2.2.2.1], .spare p.2.2.2.2.1 1, .spare p.2.2.2.2.2.2.1 1, .spare p.2.2.2.2.2.2.2.2 1])
     (fun p => FromOk kind l p.1 p.2.1 p.2.2.1 p.2.2.2.1 p.2.2.2.2.1 p.2.2.2.2.2.1 p.2.2.2.2.2.2.1 p.2.2.2.2.2.2.2.1 p.2.2.2.2.2.2.2.2) (fun p => l.length - p.1.length)
     ([], 0, false, [], 0, [], 0, [], 0) 5 (fun _ => rfl) ⟨⟨l, rfl⟩, rfl, rfl, rfl, rfl, rfl, by simp [numsOf], rfl, by simp [textsOf], rfl⟩ ⟨rfl, rfl, trivial⟩ rfl ?_
   rintro R ⟨p, k, b, N0, m0, N1, m1, N2, m2⟩ hi hR
   have hi : FromOk kind l p k b N0 m0 N1 m1 N2 m2 := hi
   have hk := hi.k
   have l0 : N0.length = p.length := by rw [← hi.n0]; simp [nullsOf]
   have l1 : N1.length ≤ p.length := by rw [← hi.n1]; unfold numsOf; split <;> simp
   have l2 : N2.length ≤ p.length := by rw [← hi.n2]; unfold textsOf; split <;> simp
   have o0 : okEs 1 N0 = true := by rw [← hi.n0]; simp [okEs, boolc, PV.one]
   have o1 : okEs 1 N1 = true := by rw [← hi.n1]; simp [okEs, i64c, PV.one]
   have o2 : okEs 1 N2 = true := by rw [← hi.n2]; simp [okEs, strc, PV.one]
   have c0 := hi.c0
   have c1 := hi.c1
   have c2 := hi.c2
   simp only [nc] at hz
   simp only [nc'] at hz
   have hk0 : 0 ≤ k := by omega
   have hkl : decide (k < z) = true → k < l.length := by simp only [decide_eq_true_eq]; omega
   have hlt : decide (k < z) = true → p.length < l.length := by simp only [decide_eq_true_eq]; omega
   have hge : decide (k < z) = false → l = p := by
     intro h
     simp only [decide_eq_false_iff_not] at h
     obtain ⟨r, hr⟩ := hi.pre
     have : l.length = p.length + r.length := by rw [hr]; simp
     have : r = [] := List.eq_nil_of_length_eq_zero (by omega)
     rw [hr, this]; simp
   repeat' (first
     | (with_reducible refine Nm.mk ?_; intro z hz)
     | (with_reducible refine IfB.mk ?_ ?_ <;> (intro h; cases h))
     | (with_reducible refine Two.l ?_; refine Asm.mk ?_ ?_; focus (decide +kernel))
     | (with_reducible refine Two.r ?_)
     | (with_reducible refine TwoT.r ?_)
     | (with_reducible refine TwoU.r ?_)
     | (with_reducible refine Asm.mk ?_ ?_; focus (first | kernel_rfl | (have hlt' := hlt (by assumption); clear hR hQ hlt hkl hk hge; refine ⟨c0.symm, rfl, o0, rfl, ?_, ?_⟩ <;> simp only [List.length_cons, List.length_nil, maxLen] <;> omega) | (have hlt' := hlt (by assumption); clear hR hQ hlt hkl hk hge; refine ⟨c1.symm, rfl, o1, rfl, ?_, ?_⟩ <;> simp only [List.length_cons, List.length_nil, maxLen] <;> omega) | (have hlt' := hlt (by assumption); clear hR hQ hlt hkl hk hge; refine ⟨c2.symm, rfl, o2, rfl, ?_, ?_⟩ <;> simp only [List.length_cons, List.length_nil, maxLen] <;> omega)))
     | (with_reducible refine isCP hcp ?_; first | (refine vP hcp (clean_c _ _ _) ?_; intro v hv))
     | (with_reducible refine isCC hcc ?_; first | (refine vA hcc (clean_c _ _ _) rfl ?_; intro v hv))
     | (with_reducible refine Ix.map hL cells_len (by decide) hk0 (hkl (by assumption)) ?_; intro x hx)
     | (with_reducible refine Asm.mk2 ?_ ?_)
     | ((fail_if_success (with_reducible first | refine hQ _ ?_ | refine Side.mk ?_ | refine isCP hcp ?_ | refine isCC hcc ?_ | refine isLP hlp ?_ | refine Ix.mk ?_ | refine SIx.mk ?_ | refine SEx.mk ?_ | refine EIx.mk ?_ | refine RIx.mk ?_ | refine LkX.mk ?_ | show False | refine hR ?_ _ ?_ ?_ ?_ ?_ ?_ | refine hR2 ?_ _ ?_ ?_ ?_ ?_ ?_)); cbv))
   all_goals (try clear hlt hkl o0 o1 o2 l0 l1 l2 hk0)
   all_goals first
     | (exfalso; clear hR hQ hcp hcc hlp hi hx hv; simp_all; done)
     | (exfalso; clear hR hQ hcp hcc hlp hi; simp_all; done)
     | skip
   all_goals first
     | (skip
        refine hR (p ++ [x], _, _, _, _, _, _, _, _) _ ?_ ?_ ⟨rfl, rfl, trivial⟩ ⟨rfl, rfl, rfl, rfl, rfl, trivial⟩ rfl
        · obtain ⟨r, hr⟩ := hi.at_ hx
          have hlen : p.length < l.length := by rw [hr]; simp
          have hv' : clean x = v := hv
          have hw : IntKind.i64.wrap (k + 1) = ((p ++ [x]).length : Int) := by rw [wrap_in (by have := hi.k; omega)]; have := hi.k; simp; omega
          rw [hz] at hw
          have e1 := hi.b
          have e2 := hi.f
          have e3 := hi.n0
          have e4 := hi.n1
          have e5 := hi.n2
          clear hR hQ hcp hcc hlp hi hv hx hL
          refine ⟨⟨r, by simp [hr]⟩, hw, ?_, ?_, ?_, ?_, ?_, ?_, ?_, ?_⟩
          · show bigs (p ++ [x]) = _
            rw [bigs_snoc, e1]; simp_all
          · show kinds kind (p ++ [x]) = _
            rw [kinds_snoc, e2]; simp_all
          · show (nullsOf (p ++ [x])).map boolc = _
            rw [nullsOf_snoc, List.map_append, e3]; simp_all [boolc]
          · first | exact c0 | exact c1 | exact c2 | (subst_vars; simp)
          · show (numsOf kind (p ++ [x])).map i64c = _
            first
              | (have hk1 : kind = 1 := of_decide_eq_true (by assumption)
                 subst hk1
                 rw [numsOf_1, List.map_append, e4]; simp_all [i64c]; done)
              | (have hk1 : ¬ kind = 1 := of_decide_eq_false (by assumption)
                 rw [numsOf_2 hk1] at e4 ⊢; exact e4)
          · first | exact c0 | exact c1 | exact c2 | (subst_vars; simp)
          · show (textsOf kind (p ++ [x])).map strc = _
            first
              | (have hk1 : kind = 1 := of_decide_eq_true (by assumption)
                 subst hk1
                 rw [textsOf_1] at e5 ⊢; exact e5)
              | (have hk1 : ¬ kind = 1 := of_decide_eq_false (by assumption)
                 rw [textsOf_2 hk1, List.map_append, e5]; simp_all [strc])
          · first | exact c0 | exact c1 | exact c2 | (subst_vars; simp)
        · obtain ⟨r, hr⟩ := hi.at_ hx
          show l.length - (p ++ [x]).length < l.length - p.length
          rw [hr]; simp; omega)
     | skip
   all_goals first
     | (skip
        have hv' : clean x = v := hv
        obtain ⟨r, hr⟩ := hi.at_ hx
        have hbad : kinds kind l = false := by
          rw [hr, kinds_app]
          clear hR hQ hcp hcc hlp hi hv hx
          simp_all [kinds]
        refine hQ _ ?_
        clear hR hQ hcp hcc hlp hi hv hx
        simp_all [vfrom, Vec.enc, Vec.zero]
        done)
     | (skip
        have hl := hge (by assumption)
        subst hl
        have e1 := hi.b
        have e2 := hi.f
        have e3 := hi.n0
        have e4 := hi.n1
        have e5 := hi.n2
        refine hQ _ ?_
        clear hR hQ hcp hcc hlp hi
        simp_all [vfrom, Vec.enc, Vec.zero]
        done)
     | skip
end Go.Proofs.Ytcajncmjlmpkgaa

namespace Go.Proofs.Ytcajncmjlmpkgaa
open Go Go.RowKit
set_option maxRecDepth 100000
set_option linter.unusedSimpArgs false
set_option linter.unusedVariables false
theorem maxLen_eq : maxLen = 9223372036854775807 := rfl
end Go.Proofs.Ytcajncmjlmpkgaa

namespace Go.Proofs.Ytcajncmjlmpkgaa
open Go Go.RowKit
set_option maxRecDepth 100000
set_option linter.unusedSimpArgs false
set_option linter.unusedVariables false
def byts (s : ByteArray) : List UInt8 := s.data.toList
theorem byts_len (s : ByteArray) : (byts s).length = s.size := Array.length_toList
theorem byts_get {s : ByteArray} {i : Nat} {b : UInt8} : s[i]? = some b ↔ (byts s)[i]? = some b := by
 by_cases h : i < s.size
 · rw [getElem?_pos s i h, List.getElem?_eq_getElem (by rw [byts_len]; exact h)]
   rfl
 · rw [getElem?_neg s i h, List.getElem?_eq_none (by rw [byts_len]; omega)]
theorem byts_at {s : ByteArray} {i : Nat} (h : i < s.size) : ∃ b, s[i]? = some b := ⟨_, getElem?_pos s i h⟩
theorem at_cases {s : ByteArray} {i : Int} (h0 : 0 ≤ i) (h1 : i.toNat ≤ s.size) : ∀ z : Int, (s.size : Int) = z → (decide (i < z) = true → i.toNat < s.size) ∧ (decide (i < z) = false → i.toNat = s.size) := by
 intro z h; simp only [decide_eq_true_eq, decide_eq_false_iff_not]; omega
theorem SIx.at_ {s : ByteArray} {i : Int} {K : Int → Prop} (h0 : 0 ≤ i) (h : i.toNat < s.size) (g : ∀ b c, s[i.toNat]? = some b → (b.toNat : Int) = c → K c) : SIx s i K := by
 obtain ⟨b, hb⟩ := byts_at h
 exact ⟨⟨b, h0, hb, fun z hz => g b z hb hz⟩⟩
theorem IxB {s : ByteArray} {L : List (List PV)} (hL : bytesL s = L) {i : Int} {K : List PV → Prop} (h0 : 0 ≤ i) (h : i.toNat < s.size) (g : ∀ b c, s[i.toNat]? = some b → (b.toNat : Int) = c → K [.int .u8 c]) : Ix 1 L i K := by
 obtain ⟨b, hb⟩ := byts_at h
 refine ⟨⟨[.int .u8 b.toNat], h0, ?_, rfl, by decide, g b _ hb rfl⟩⟩
 rw [← hL, bytesL, List.getElem?_map, show s.data.toList[i.toNat]? = some b from byts_get.1 hb]; rfl
def stepN (n : Int) (b : UInt8) : Int := IntKind.u64.wrap ((BitVec.ofInt IntKind.u64.bits (IntKind.u64.wrap (n * 2 ^ min (Int.toNat 8) IntKind.u64.bits)) ||| BitVec.ofInt IntKind.u64.bits (IntKind.u64.wrap (b.toNat : Int))).toNat : Int)
def numL (l : List UInt8) : Int := l.foldl stepN 0
theorem numL_succ {l : List UInt8} {i : Nat} {b : UInt8} (h : l[i]? = some b) : numL (l.take (i + 1)) = stepN (numL (l.take i)) b := by
 rw [numL, List.take_add_one, List.foldl_append, h]; rfl
theorem get_c (s : ByteArray) (hs : s.size ≤ 1048577) : PCall Try.prog 76 [.str s] fun r => r = [.int .u64 (numL (byts s))] := by
 refine PCall.x (nt := ⟨20, []⟩) (res := [.tmp 2]) mixed tt_ok [] Try.func76 rfl rfl rfl c76 (Nat.le_of_ble_eq_true rfl) ?_
 intro cp cc lp Q' hcp hcc hlp hQ
 repeat' (first
   | (with_reducible refine Nm.mk ?_; intro z hz)
   | (with_reducible refine IfB.mk ?_ ?_ <;> (intro h; cases h))
   | (with_reducible refine Two.l ?_; refine Asm.mk ?_ ?_; focus (decide +kernel))
   | (with_reducible refine Two.r ?_)
   | (with_reducible refine TwoT.r ?_)
   | (with_reducible refine TwoU.r ?_)
   | (with_reducible refine Asm.mk ?_ ?_; focus (first | (show (_ : Bool) = true; kernel_rfl) | (simp only [maxLen]; omega)))
   | (with_reducible refine Asm.mk2 ?_ ?_)
   | ((fail_if_success (with_reducible first | refine hQ _ ?_ | refine Side.mk ?_ | refine isCP hcp ?_ | refine isCC hcc ?_ | refine isLP hlp ?_ | refine Ix.mk ?_ | refine SIx.mk ?_ | refine SEx.mk ?_ | refine EIx.mk ?_ | refine RIx.mk ?_ | refine LkX.mk ?_ | show False | refine hR ?_ _ ?_ ?_ ?_ ?_ ?_ | refine hR2 ?_ _ ?_ ?_ ?_ ?_ ?_)); cbv))
 rename_i L hL
 have hz2 : (s.size : Int) = z := by rw [← hz, ← hL, bytesL, List.length_map, Array.length_toList]; rfl
 clear hz
 generalize z = zz at *
 refine loopK (ι := Int × Int) mixed tt_ok hcp hcc hlp [0, 7, 8] (fun p => [(3, .p (.int .u64 p.1)), (9, .p (.int .i64 p.2))]) (fun p => (0 ≤ p.2 ∧ p.2.toNat ≤ s.size) ∧ numL ((byts s).take p.2.toNat) = p.1) (fun p => s.size - p.2.toNat) (0, 0) (fun _ => rfl) ⟨by simp, rfl⟩ ⟨rfl, rfl, trivial⟩ ?_
 rintro R ⟨n, i⟩ ⟨⟨hi0, hi1⟩, hn⟩ hR
 replace hi0 : 0 ≤ i := hi0
 replace hi1 : i.toNat ≤ s.size := hi1
 replace hn : numL ((byts s).take i.toNat) = n := hn
 have hie := fun (_ : zz = zz) => at_cases hi0 hi1 zz hz2
 repeat' (first
   | (with_reducible refine Nm.mk ?_; intro z hz)
   | (with_reducible refine IfB.mk ?_ ?_ <;> (intro h; cases h))
   | (with_reducible refine Two.l ?_; refine Asm.mk ?_ ?_; focus (decide +kernel))
   | (with_reducible refine Two.r ?_)
   | (with_reducible refine TwoT.r ?_)
   | (with_reducible refine TwoU.r ?_)
   | (with_reducible refine Asm.mk ?_ ?_; focus (show (_ : Bool) = true; kernel_rfl))
   | (with_reducible refine IxB hL hi0 ((hie rfl).1 (by assumption)) ?_; intro b c hb hc)
   | (with_reducible refine Asm.mk2 ?_ ?_)
   | ((fail_if_success (with_reducible first | refine hQ _ ?_ | refine Side.mk ?_ | refine isCP hcp ?_ | refine isCC hcc ?_ | refine isLP hlp ?_ | refine Ix.mk ?_ | refine SIx.mk ?_ | refine SEx.mk ?_ | refine EIx.mk ?_ | refine RIx.mk ?_ | refine LkX.mk ?_ | show False | refine hR ?_ _ ?_ ?_ ?_ ?_ ?_ | refine hR2 ?_ _ ?_ ?_ ?_ ?_ ?_)); cbv))
 all_goals first
   | exact ⟨by decide⟩
   | (have hl : i.toNat < s.size := by first | exact (hie _ (by assumption)).1 (by assumption) | exact (hie rfl).1 (by assumption)
      have hw : IntKind.i64.wrap (i + 1) = i + 1 := wrap_in (by omega)
      rw [hw] at hz
      subst hz
      refine hR (_, i + 1) _ ⟨⟨by show 0 ≤ i + 1; omega, by show (i + 1).toNat ≤ s.size; omega⟩, ?_⟩ (by show s.size - (i + 1).toNat < s.size - i.toNat; omega) ⟨rfl, rfl, trivial⟩ (by first | exact ⟨rfl, trivial⟩ | exact ⟨rfl, rfl, rfl, trivial⟩) rfl
      show numL ((byts s).take (i + 1).toNat) = _
      rw [show (i + 1).toNat = i.toNat + 1 by omega, numL_succ (byts_get.1 hb), hn]
      clear hR hQ hcp hcc hlp
      subst_vars
      rfl)
   | (have hl : i.toNat = s.size := by first | exact (hie _ (by assumption)).2 (by assumption) | exact (hie rfl).2 (by assumption)
      refine hQ _ ?_
      rw [← hn, List.take_of_length_le (by rw [byts_len]; omega)])
end Go.Proofs.Ytcajncmjlmpkgaa

namespace Go.Proofs.Ytcajncmjlmpkgaa
open Go Go.RowKit
set_option maxRecDepth 100000
set_option linter.unusedSimpArgs false
set_option linter.unusedVariables false
theorem wrap_8 (n : Int) : IntKind.u8.wrap n = n % 256 := by
 simp [IntKind.wrap, IntKind.bits, IntKind.signed]
def byteAt (n : Int) (k : Nat) : UInt8 := UInt8.ofNat (n.toNat / 2 ^ (8 * k))
theorem byteAt_toNat (n : Int) (k : Nat) : (byteAt n k).toNat = n.toNat / 2 ^ (8 * k) % 256 := by simp [byteAt]
def byteC (b : UInt8) : List PV := [.int .u8 b.toNat]
theorem byte_eq {n i : Int} (hn : 0 ≤ n) (hi : 0 ≤ i) (h7 : i ≤ 7) {z3 z2 z1 : Int} (h3 : IntKind.i64.wrap (8 * i) = z3) (h2 : n.fdiv (2 ^ min z3.toNat IntKind.u64.bits) = z2) (h1 : IntKind.u8.wrap z2 = z1) : [PV.int .u8 z1] = byteC (byteAt n i.toNat) := by
 rw [wrap_in (by omega)] at h3
 subst h3
 have hm : min (8 * i).toNat IntKind.u64.bits = 8 * i.toNat := by
   show min (8 * i).toNat 64 = _
   omega
 rw [hm] at h2
 rw [byteC, byteAt_toNat, ← h1, wrap_8, ← h2]
 obtain ⟨m, rfl⟩ := Int.eq_ofNat_of_zero_le hn
 rw [Int.fdiv_eq_ediv_of_nonneg _ (Int.le_of_lt (Int.pow_pos (by decide)))]
 simp
theorem stepN_eq {n : Int} (h0 : 0 ≤ n) (h : n < 72057594037927936) (b : UInt8) : stepN n b = n * 256 + b.toNat := by
 obtain ⟨m, rfl⟩ := Int.eq_ofNat_of_zero_le h0
 have hb := b.toNat_lt
 have hw : IntKind.u64.wrap ((m : Int) * 2 ^ min (Int.toNat 8) IntKind.u64.bits) = ((m * 256 : Nat) : Int) := by
   show IntKind.u64.wrap ((m : Int) * 256) = _
   simp [IntKind.wrap, IntKind.bits, IntKind.signed]
   omega
 have hw2 : IntKind.u64.wrap (b.toNat : Int) = ((b.toNat : Nat) : Int) := by
   simp [IntKind.wrap, IntKind.bits, IntKind.signed]
   omega
 rw [stepN, hw, hw2]
 have e : (BitVec.ofInt IntKind.u64.bits ((m * 256 : Nat) : Int) ||| BitVec.ofInt IntKind.u64.bits ((b.toNat : Nat) : Int)).toNat = m * 256 + b.toNat := by
   show (BitVec.ofInt 64 ((m * 256 : Nat) : Int) ||| BitVec.ofInt 64 ((b.toNat : Nat) : Int)).toNat = m * 256 + b.toNat
   rw [BitVec.toNat_or, BitVec.ofInt_natCast, BitVec.ofInt_natCast, BitVec.toNat_ofNat, BitVec.toNat_ofNat, Nat.mod_eq_of_lt (by omega), Nat.mod_eq_of_lt (by omega)]
   have := Nat.shiftLeft_add_eq_or_of_lt (i := 8) (b := b.toNat) (by omega) m
   rw [Nat.shiftLeft_eq, show (2 : Nat) ^ 8 = 256 from rfl] at this
   omega
 rw [e]
 simp [IntKind.wrap, IntKind.bits, IntKind.signed]
 omega
end Go.Proofs.Ytcajncmjlmpkgaa

namespace Go.Proofs.Ytcajncmjlmpkgaa
open Go Go.RowKit
set_option maxRecDepth 100000
set_option linter.unusedSimpArgs false
set_option linter.unusedVariables false
def toB (l : List UInt8) : ByteArray := ⟨l.toArray⟩
theorem toB_byts (s : ByteArray) : toB (byts s) = s := rfl
theorem toB_of {s : ByteArray} {l : List UInt8} (h : byts s = l) : s = toB l := by rw [← h, toB_byts]
theorem okEs_bytes (l : List UInt8) : okEs 1 (l.map byteC) = true := List.all_eq_true.2 fun e he => by obtain ⟨c, _, rfl⟩ := List.mem_map.1 he; rfl
theorem okEs_bytesL (s : ByteArray) : okEs 1 (bytesL s) = true := okEs_bytes _
theorem isU8s_bytes (l : List UInt8) : isU8s (l.map byteC) = true := by
 simp [isU8s, byteC, byteOf]
theorem strOf_bytes (l : List UInt8) : strOf (l.map byteC) = toB l := by
 simp [strOf, toB, byteC, byteOf, Function.comp_def]
def byW (V : Int) (n : Int) : List UInt8 := (List.range V.toNat).map fun j => byteAt n (V.toNat - 1 - j)
def upW (V : Int) (n i : Int) : List UInt8 := (List.range (V - 1 - i).toNat).map fun j => byteAt n (V.toNat - 1 - j)
theorem upW_end (V : Int) (n : Int) : upW V n (-1) = byW V n := by
 rw [upW, byW, show V - 1 - (-1) = V by omega]
theorem byW_len (V : Int) (n : Int) : (byW V n).length = V.toNat := by simp [byW]
theorem upW_len (V : Int) (n i : Int) : (upW V n i).length = (V - 1 - i).toNat := by simp [upW]
theorem upW_succ {V : Int} {n i : Int} (h : 0 ≤ i) (h7 : i ≤ V - 1) : upW V n (i - 1) = upW V n i ++ [byteAt n i.toNat] := by
 rw [upW, upW, show (V - 1 - (i - 1)).toNat = (V - 1 - i).toNat + 1 by omega, List.range_succ, List.map_append]
 simp only [List.map_cons, List.map_nil]
 rw [show V.toNat - 1 - (V - 1 - i).toNat = i.toNat by omega]
end Go.Proofs.Ytcajncmjlmpkgaa

namespace Go.Proofs.Ytcajncmjlmpkgaa
open Go Go.RowKit
set_option maxRecDepth 100000
set_option linter.unusedSimpArgs false
set_option linter.unusedVariables false
theorem frameT {P : Program} {cc : FuncId → List AV → List AObj → (AV → List AObj → Prop) → Prop} (hcc : ACall P = cc) {f : FuncId} {args0 args : List AV} {H0 H1 H : List AObj} {X : AV} {K : AV → List AObj → Prop} (s : List Nat)
   (h : ACall P f args0 H0 fun r H' => r = X ∧ takeX H' (lenX H1) = H1) (hs : onceX s = true) (hl : lenX H1 = lenX s) (hr : args = AV.renL s args0) (hH : optL (nth H) s = some (mapX (AObj.ren s) H0)) (hlt : (AV.ltL (lenX s) args0 && ltH (lenX s) H0 && (AV.ltB (lenX s) X && ltH (lenX s) H1)) = true)
   (k : K (AV.ren s X) (backX s s H1 H)) : cc f args H K := by
 subst hcc
 rw [lenX_eq s] at hl hlt
 rw [Bool.and_eq_true, Bool.and_eq_true (AV.ltB _ _)] at hlt
 refine h.frame s hs hr hH hlt.1 ?_
 rintro r H' ⟨rfl, hH'⟩
 rw [hl] at hH'
 rw [hH']
 exact ⟨hlt.2.1, by rw [← lenX_eq]; exact hl, hlt.2.2, k⟩
abbrev bl (l : List UInt8) : List (List PV) := l.map byteC
theorem okEs_bl (l : List UInt8) : okEs 1 (bl l) = true := okEs_bytes l
theorem putW_c (V : Int) (n : Int) (hn : 0 ≤ n) (hW : 1 ≤ V ∧ V ≤ 8) (b : List UInt8) (L0 : List (List PV)) (hL0 : bl b = L0) (m0 : Nat) (hm0 : L0.length = m0) (hs : m0 ≤ 1000000000) (L2 : List (List PV)) (m2 : Nat) (hL2 : bl (b ++ byW V n) = L2) (hm2 : L2.length = m2) :
   ACall Try.prog 35 [.tok 0 L0, .p (.int .u64 n), .p (.int .i64 V)] [.spare m0 1] fun r H' => r = .tok 0 L2 ∧ takeX H' 1 = [.spare m2 1] := by
 refine ACall.x (nt := ⟨23, []⟩) (res := [.tmp 6]) mixed tt_ok [] Try.func35 rfl rfl rfl c35 (Nat.le_of_ble_eq_true rfl) ?_
 intro cp cc lp Q' hcp hcc hlp hQ
 repeat' (first
   | (with_reducible refine Nm.mk ?_; intro z hz)
   | (with_reducible refine IfB.mk ?_ ?_ <;> (intro h; cases h))
   | (with_reducible refine Two.l ?_; refine Asm.mk ?_ ?_; focus (decide +kernel))
   | (with_reducible refine Two.r ?_)
   | (with_reducible refine TwoT.r ?_)
   | (with_reducible refine TwoU.r ?_)
   | (with_reducible refine Asm.mk ?_ ?_; focus (show (_ : Bool) = true; kernel_rfl))
   | (with_reducible refine Asm.mk2 ?_ ?_)
   | ((fail_if_success (with_reducible first | refine hQ _ _ ?_ | refine Side.mk ?_ | refine isCP hcp ?_ | refine isCC hcc ?_ | refine isLP hlp ?_ | refine Ix.mk ?_ | refine SIx.mk ?_ | refine SEx.mk ?_ | refine EIx.mk ?_ | refine RIx.mk ?_ | refine LkX.mk ?_ | show False | refine hR ?_ _ ?_ ?_ ?_ ?_ ?_ | refine hR2 ?_ _ ?_ ?_ ?_ ?_ ?_)); cbv))
 have hz7 : z = V - 1 := by rw [← hz, wrap_in (by omega)]
 clear hz
 generalize z = zz at *
 subst hz7
 refine loopT (ι := Int × List (List PV) × Nat) mixed tt_ok hcp hcc hlp [1] (fun p => [(0, .tok 0 p.2.1), (7, .p (.int .i64 p.1))]) (fun p => [.spare p.2.2 1]) (fun p => -1 ≤ p.1 ∧ p.1 ≤ V - 1 ∧ p.2.1.length = p.2.2 ∧ bl (b ++ upW V n p.1) = p.2.1) (fun p => (p.1 + 1).toNat) (V - 1, L0, m0) 1 (fun _ => rfl) ⟨by show (-1 : Int) ≤ V - 1; omega, Int.le_refl _, hm0, by rw [← hL0]; simp [upW]⟩ ⟨rfl, rfl, trivial⟩ rfl ?_
 rintro R ⟨i, L, m⟩ ⟨hi0, hi1, hm, hL⟩ hR
 replace hi0 : -1 ≤ i := hi0
 replace hi1 : i ≤ V - 1 := hi1
 replace hm : L.length = m := hm
 replace hL : bl (b ++ upW V n i) = L := hL
 have hok : okEs 1 L = true := by rw [← hL]; exact okEs_bl _
 have hll : L.length ≤ 1000000008 := by
   have : b.length = m0 := by rw [← hm0, ← hL0]; simp
   rw [← hL, List.length_map, List.length_append, upW_len]; omega
 have hng : ∀ w : Int, IntKind.i64.wrap (8 * i) = w → decide (0 ≤ i) = true → ¬ w < 0 := by
   intro w h h0
   simp only [decide_eq_true_eq] at h0
   rw [wrap_in (by omega)] at h
   omega
 repeat' (first
   | (with_reducible refine Nm.mk ?_; intro z hz)
   | (with_reducible refine IfB.mk ?_ ?_ <;> (intro h; cases h))
   | (with_reducible refine Two.l ?_; refine Asm.mk ?_ ?_; focus (decide +kernel))
   | (with_reducible refine Two.r ?_)
   | (with_reducible refine TwoT.r ?_)
   | (with_reducible refine TwoU.r ?_)
   | (with_reducible refine Asm.mk ?_ ?_; focus (first | exact hng _ (by assumption) (by assumption) | (refine ⟨hm.symm, rfl, hok, rfl, ?_, ?_⟩ <;> (clear hR hQ hng; simp only [List.length_cons, List.length_nil, maxLen]; omega)) | (show (_ : Bool) = true; kernel_rfl)))
   | (with_reducible refine Asm.mk2 ?_ ?_)
   | ((fail_if_success (with_reducible first | refine hQ _ _ ?_ | refine Side.mk ?_ | refine isCP hcp ?_ | refine isCC hcc ?_ | refine isLP hlp ?_ | refine Ix.mk ?_ | refine SIx.mk ?_ | refine SEx.mk ?_ | refine EIx.mk ?_ | refine RIx.mk ?_ | refine LkX.mk ?_ | show False | refine hR ?_ _ ?_ ?_ ?_ ?_ ?_ | refine hR2 ?_ _ ?_ ?_ ?_ ?_ ?_)); cbv))
 · rename_i z3 h3 z2 h2 z1 h1 L3 hL3 m3 hm3
   have h0 : decide (0 ≤ i) = true := by assumption
   simp only [decide_eq_true_eq] at h0
   have hb := byte_eq hn h0 (by omega) h3 h2 h1
   rw [wrap_in (by omega)] at hz
   subst hz
   refine hR (i - 1, L3, m3) _ ⟨by show -1 ≤ i - 1; omega, by show i - 1 ≤ V - 1; omega, by show L3.length = m3; rw [← hL3, ← hm3, List.length_append], ?_⟩ (by show (i - 1 + 1).toNat < (i + 1).toNat; omega) ⟨rfl, rfl, trivial⟩ ⟨rfl, trivial⟩ rfl
   show bl (b ++ upW V n (i - 1)) = L3
   rw [upW_succ h0 hi1, ← List.append_assoc, bl, List.map_append, ← hL3, ← hL, hb]; rfl
 · have h0 : decide (0 ≤ i) = false := by assumption
   simp only [decide_eq_false_iff_not] at h0
   have hi : i = -1 := by omega
   rw [hi, upW_end] at hL
   have e : L = L2 := by rw [← hL, ← hL2]
   subst e
   refine hQ _ _ ⟨rfl, ?_⟩
   rw [← hm2, hm]; rfl
theorem putWCC {cc : FuncId → List AV → List AObj → (AV → List AObj → Prop) → Prop} (hcc : ACall Try.prog = cc) (id : Nat) (V : Int) {n : Int} (b : List UInt8) {L : List (List PV)} {m : Nat} {H : List AObj} {args : List AV} {K : AV → List AObj → Prop} (ha : args = [.tok id L, .p (.int .u64 n), .p (.int .i64 V)]) (hn : 0 ≤ n) (hW : 1 ≤ V ∧ V ≤ 8) (hb : bl b = L) (hm : L.length = m) (hN : m ≤ 1000000000) (hH : nth H id = some (.spare m 1))
   (k : ∀ L2 m2, bl (b ++ byW V n) = L2 → L2.length = m2 → K (.tok id L2) (setX H id (.spare m2 1))) : cc 35 args H K := by
 subst ha
 refine frameT (H1 := [.spare (bl (b ++ byW V n)).length 1]) hcc [id] (putW_c V n hn hW b L hb m hm hN _ _ rfl rfl) (by simp [onceX, idxX]) rfl rfl ?_ rfl (k _ _ rfl rfl)
 simp only [optL, hH]; rfl
theorem putWFr {cc : FuncId → List AV → List AObj → (AV → List AObj → Prop) → Prop} (hcc : ACall Try.prog = cc) (id : Nat) (V : Int) {n : Int} (b : List UInt8) {L : List (List PV)} {m : Nat} {H : List AObj} {args : List AV} {K : AV → Nat → AObj → Prop} (ha : args = [.tok id L, .p (.int .u64 n), .p (.int .i64 V)]) (hn : 0 ≤ n) (hW : 1 ≤ V ∧ V ≤ 8) (hb : bl b = L) (hm : L.length = m) (hN : m ≤ 1000000000) (hH : nth H id = some (.spare m 1))
   (k : ∀ L2 m2, bl (b ++ byW V n) = L2 → L2.length = m2 → K (.tok id L2) id (.spare m2 1)) : FrT cc 35 args H K := by
 rw [nth_eq] at hH
 refine ⟨⟨id, m, _, 1, _, hH, fun H' h => ?_, k _ _ rfl rfl⟩⟩
 rw [hH] at h
 have hlt := (List.getElem?_eq_some_iff.1 h).1
 refine putWCC hcc id V b ha hn hW hb hm hN (by rw [nth_eq]; exact h) fun L2 m2 h1 h2 => ⟨by rw [← h1], ?_⟩
 rw [setX_eq _ _ _ (by omega), if_pos hlt, ← h2, ← h1]
end Go.Proofs.Ytcajncmjlmpkgaa

namespace Go.Proofs.Ytcajncmjlmpkgaa
open Go Go.RowKit
set_option maxRecDepth 100000
set_option linter.unusedSimpArgs false
set_option linter.unusedVariables false
def u64 (n : Int) : Int := IntKind.u64.wrap n
theorem u64_pos (n : Int) : 0 ≤ u64 n := by simp [u64, IntKind.wrap, IntKind.bits, IntKind.signed]; omega
theorem u64_lt (n : Int) : u64 n < 18446744073709551616 := by simp [u64, IntKind.wrap, IntKind.bits, IntKind.signed]; omega
def valB (v : Val) : List UInt8 := if v.k = 1 then byW 8 (u64 v.n) else byW 2 (u64 (v.s.size : Int)) ++ byts v.s
structure OwnB (N : Nat) (b : List UInt8) (L : List (List PV)) (m : Nat) : Prop where
 e : bl b = L
 len : L.length = m
 le : m ≤ N
theorem OwnB.blen {N : Nat} {b : List UInt8} {L : List (List PV)} {m : Nat} (h : OwnB N b L m) : b.length = m := by rw [← h.len, ← h.e]; simp
theorem OwnB.mk' {N : Nat} {b : List UInt8} {L : List (List PV)} {m : Nat} (e : bl b = L) (e2 : L.length = m) (h : b.length ≤ N) : OwnB N b L m := ⟨e, e2, by rw [← e2, ← e, List.length_map]; exact h⟩
theorem OwnB.side {N : Nat} {b : List UInt8} {L xs : List (List PV)} {m : Nat} (h : OwnB N b L m) (hN : N ≤ 1000000000) (ok : okEs 1 xs = true) (hk : xs.length ≤ 1000000000) : m = L.length ∧ 1 = 1 ∧ okEs 1 L = true ∧ okEs 1 xs = true ∧ L.length + xs.length ≤ maxLen ∧ (L.length + xs.length) * 1 ≤ 140737488355328 := by
 have := h.len
 have := h.le
 refine ⟨h.len.symm, rfl, by rw [← h.e]; exact okEs_bl _, ok, ?_, ?_⟩
 · show L.length + xs.length ≤ 9223372036854775807; omega
 · omega
set_option maxHeartbeats 1000000 in
theorem value_c (k n : Int) (s : ByteArray) (b : List UInt8) (L0 : List (List PV)) (m0 : Nat) (hb : OwnB 100000000 b L0 m0) (hs : s.size ≤ 2000000) (L2 : List (List PV)) (m2 : Nat) (hL2 : bl (b ++ valB ⟨k, n, s⟩) = L2) (hm2 : L2.length = m2) :
   ACall Try.prog 68 [.tok 0 L0, .p (.agg [.int .i64 k, .int .i64 n, .str s])] [.spare m0 1] fun r H' => r = .tok 0 L2 ∧ takeX H' 1 = [.spare m2 1] := by
 have hb1 := hb.len
 have hb2 := hb.le
 have hpos : ∀ {x m : Int}, IntKind.u64.wrap x = m → 0 ≤ m := fun h => h ▸ u64_pos _
 have hbl := hb.blen
 have hlen : ∀ {z : Int}, (b ++ byW 2 z).length ≤ 100000008 := by intro z; rw [List.length_append, byW_len]; show b.length + 2 ≤ _; omega
 have hsl : ∀ {xs : List (List PV)}, List.map (fun c : UInt8 => [PV.int .u8 (c.toNat : Int)]) s.data.toList = xs → okEs 1 xs = true ∧ xs.length ≤ 1000000000 ∧ xs = bl (byts s) := by
   rintro xs rfl
   refine ⟨okEs_bytesL s, ?_, rfl⟩
   rw [List.length_map, Array.length_toList]
   have : s.data.size = s.size := rfl
   omega
 refine ACall.x (nt := ⟨22, []⟩) (res := [.tmp 4]) mixed tt_ok [] Try.func68 rfl rfl rfl c68 (Nat.le_of_ble_eq_true rfl) ?_
 intro cp cc lp Q' hcp hcc hlp hQ
 repeat' (first
   | (with_reducible refine TwoU.l ?_; refine putWFr hcc 0 2 b rfl (hpos (by assumption)) (by decide) hb.e hb.len (by omega) rfl ?_; intro Lp mp hLp hmp)
   | (with_reducible refine Nm.mk ?_; intro z hz)
   | (with_reducible refine IfB.mk ?_ ?_ <;> (intro h; cases h))
   | (with_reducible refine Two.l ?_; refine Asm.mk ?_ ?_; focus (decide +kernel))
   | (with_reducible refine Two.r ?_)
   | (with_reducible refine TwoT.r ?_)
   | (with_reducible refine TwoU.r ?_)
   | (with_reducible refine Asm.mk ?_ ?_; focus (first | exact (OwnB.mk' (N := 100000008) (by assumption) (by assumption) hlen).side (by decide) (hsl (by assumption)).1 (hsl (by assumption)).2.1 | (show (_ : Bool) = true; kernel_rfl)))
   | (with_reducible refine isCC hcc ?_; refine putWCC hcc 0 8 b rfl (hpos (by assumption)) (by decide) hb.e hb.len (by omega) rfl ?_; intro Lp mp hLp hmp)
   | (with_reducible refine Asm.mk2 ?_ ?_)
   | ((fail_if_success (with_reducible first | refine hQ _ _ ?_ | refine Side.mk ?_ | refine isCP hcp ?_ | refine isCC hcc ?_ | refine isLP hlp ?_ | refine Ix.mk ?_ | refine SIx.mk ?_ | refine SEx.mk ?_ | refine EIx.mk ?_ | refine RIx.mk ?_ | refine LkX.mk ?_ | show False | refine hR ?_ _ ?_ ?_ ?_ ?_ ?_ | refine hR2 ?_ _ ?_ ?_ ?_ ?_ ?_)); cbv))
 · have hk : k = 1 := of_decide_eq_true (by assumption)
   have e : Lp = L2 := by rw [← hLp, ← hL2, valB, if_pos hk, ← hz]; rfl
   subst e
   refine hQ _ _ ⟨rfl, ?_⟩
   rw [← hm2, hmp]; rfl
 · have hk : ¬ k = 1 := of_decide_eq_false (by assumption)
   rename_i zs hzs zu hzu xs hxs L4 hL4
   have e : L4 = L2 := by
     rw [← hL4, (hsl hxs).2.2, ← hLp, ← hL2, valB, if_neg hk, ← hzu, ← hzs, ← List.append_assoc]; exact List.map_append.symm
   subst e
   refine hQ _ _ ⟨rfl, ?_⟩
   rw [← hm2, ← hz, ← hL4, List.length_append]; rfl
theorem ACall.pureArg {P : Program} {f : FuncId} {a x : AV} {y : PV} {H : List AObj} {Q : AV → List AObj → Prop} (hx : x.pure = some y) (h : ACall P f [a, .p y] H Q) : ACall P f [a, x] H Q := by
 refine ⟨fun B G w vals wr rv => h.run B G w vals wr ⟨rv.1, fun i z v hz hv => ?_⟩⟩
 match i with
 | 0 => exact rv.2 0 z v hz hv
 | 1 =>
   simp only [List.getElem?_cons_succ, List.getElem?_cons_zero, Option.some.injEq] at hz
   subst hz
   exact .p (pure_ok (rv.2 1 x v rfl hv) hx)
 | i + 2 => simp at hz
theorem valueCC {cc : FuncId → List AV → List AObj → (AV → List AObj → Prop) → Prop} (hcc : ACall Try.prog = cc) (id : Nat) (v : Val) (b : List UInt8) {L : List (List PV)} {m : Nat} {H : List AObj} {args : List AV} {X : AV} {K : AV → List AObj → Prop} (ha : args = [.tok id L, X]) (hX : X.pure = some (.agg [.int .i64 v.k, .int .i64 v.n, .str v.s])) (hb : OwnB 100000000 b L m) (hs : v.s.size ≤ 2000000) (hH : nth H id = some (.spare m 1))
   (k : ∀ L2 m2, bl (b ++ valB v) = L2 → L2.length = m2 → K (.tok id L2) (setX H id (.spare m2 1))) : cc 68 args H K := by
 subst ha
 subst hcc
 refine ACall.pureArg hX ?_
 refine frameT (H1 := [.spare (bl (b ++ valB v)).length 1]) rfl [id] (value_c v.k v.n v.s b L m hb hs _ _ rfl rfl) (by simp [onceX, idxX]) rfl rfl ?_ rfl (k _ _ rfl rfl)
 simp only [optL, hH]; rfl
theorem valueFr {cc : FuncId → List AV → List AObj → (AV → List AObj → Prop) → Prop} (hcc : ACall Try.prog = cc) (id : Nat) (v : Val) (b : List UInt8) {L : List (List PV)} {m : Nat} {H : List AObj} {args : List AV} {X : AV} {K : AV → Nat → AObj → Prop} (ha : args = [.tok id L, X]) (hX : X.pure = some (.agg [.int .i64 v.k, .int .i64 v.n, .str v.s])) (hb : OwnB 100000000 b L m) (hs : v.s.size ≤ 2000000) (hH : nth H id = some (.spare m 1))
   (k : ∀ L2 m2, bl (b ++ valB v) = L2 → L2.length = m2 → K (.tok id L2) id (.spare m2 1)) : FrT cc 68 args H K := by
 rw [nth_eq] at hH
 refine ⟨⟨id, m, _, 1, _, hH, fun H' h => ?_, k _ _ rfl rfl⟩⟩
 rw [hH] at h
 have hlt := (List.getElem?_eq_some_iff.1 h).1
 refine valueCC hcc id v b ha hX hb hs (by rw [nth_eq]; exact h) fun L2 m2 h1 h2 => ⟨by rw [← h1], ?_⟩
 rw [setX_eq _ _ _ (by omega), if_pos hlt, ← h2, ← h1]
end Go.Proofs.Ytcajncmjlmpkgaa

namespace Go.Proofs.Ytcajncmjlmpkgaa
open Go Go.RowKit
set_option maxRecDepth 100000
set_option linter.unusedSimpArgs false
set_option linter.unusedVariables false
theorem ci (a b : Nat) : ((a : Int) = (b : Int)) = (a = b) := by simp only [eq_iff_iff]; omega
theorem ci0 (a : Nat) : ((a : Int) = 0) = (a = 0) := by simp only [eq_iff_iff]; omega
def allUp (f : Nat → Bool) : Nat → Bool
 | 0 => true
 | n + 1 => allUp f n && f n
theorem allUp_false {f : Nat → Bool} : ∀ {n i : Nat}, i < n → f i = false → allUp f n = false
 | n + 1, i, h, hf => by
   simp only [allUp]
   rcases Nat.lt_or_ge i n with g | g
   · rw [allUp_false g hf]; rfl
   · rw [show i = n by omega] at hf; rw [hf]; simp
theorem allUp_succ {f : Nat → Bool} {n : Nat} (h : allUp f n = true) (hf : f n = true) : allUp f (n + 1) = true := by simp [allUp, h, hf]
def okN (B : List Bool) (N : List Int) (i : Nat) : Bool := !((B[i]?).getD false && !decide ((N[i]?).getD 0 = 0))
def okS (B : List Bool) (S : List ByteArray) (i : Nat) : Bool :=
 !((B[i]?).getD false && !decide ((S[i]?).getD ⟨⟨[]⟩⟩ = ⟨⟨[]⟩⟩)) && !decide ((1000 : Int) < (((S[i]?).getD ⟨⟨[]⟩⟩).size : Int))
def goodV (v : Vec) : Bool :=
 if v.kind = 1 then decide (v.ns.length = v.null.length) && decide (v.ss.length = 0) && allUp (okN v.null v.ns) v.ns.length
 else if v.kind = 2 then decide (v.ss.length = v.null.length) && decide (v.ns.length = 0) && allUp (okS v.null v.ss) v.ss.length
 else false
theorem good_c (a : Int) (B : List Bool) (N : List Int) (S : List ByteArray) (n1 n2 n3 : List (List PV)) (h1 : B.map boolc = n1) (h2 : N.map i64c = n2) (h3 : S.map strc = n3) :
   PCall Try.prog 12 [.agg [.int .i64 a, .sl n1, .sl n2, .sl n3]] fun r => r = [.bool (goodV ⟨a, B, N, S⟩)] := by
 refine PCall.know c12 fun hkn => ?_
 have k1 : n1.length ≤ maxLen := hkn (.agg [.int .i64 a, .sl n1, .sl n2, .sl n3]) (by simp) (.sl n1) (by simp)
 have k2 : n2.length ≤ maxLen := hkn (.agg [.int .i64 a, .sl n1, .sl n2, .sl n3]) (by simp) (.sl n2) (by simp)
 have k3 : n3.length ≤ maxLen := hkn (.agg [.int .i64 a, .sl n1, .sl n2, .sl n3]) (by simp) (.sl n3) (by simp)
 clear hkn
 rw [maxLen_eq] at k1 k2 k3
 have b1 : n1.length = B.length := by rw [← h1]; simp
 have b2 : n2.length = N.length := by rw [← h2]; simp
 have b3 : n3.length = S.length := by rw [← h3]; simp
 refine PCall.x (nt := ⟨80, []⟩) (res := [.tmp 2]) mixed tt_ok [] Try.func12 rfl rfl rfl c12 (Nat.le_of_ble_eq_true rfl) ?_
 intro cp cc lp Q' hcp hcc hlp hQ
 repeat' (first
   | (with_reducible refine Nm.mk ?_; intro z hz)
   | (with_reducible refine IfB.mk ?_ ?_ <;> (intro h; cases h))
   | (with_reducible refine Two.l ?_; refine Asm.mk ?_ ?_; focus (decide +kernel))
   | (with_reducible refine Two.r ?_)
   | (with_reducible refine TwoT.r ?_)
   | (with_reducible refine TwoU.r ?_)
   | (with_reducible refine Asm.mk ?_ ?_; focus (first | kernel_rfl | decide))
   | (with_reducible refine Asm.mk2 ?_ ?_)
   | ((fail_if_success (with_reducible first | refine hQ _ ?_ | refine Side.mk ?_ | refine isCP hcp ?_ | refine isCC hcc ?_ | refine isLP hlp ?_ | refine Ix.mk ?_ | refine SIx.mk ?_ | refine SEx.mk ?_ | refine EIx.mk ?_ | refine RIx.mk ?_ | refine LkX.mk ?_ | show False | refine hR ?_ _ ?_ ?_ ?_ ?_ ?_ | refine hR2 ?_ _ ?_ ?_ ?_ ?_ ?_)); cbv))
 all_goals (try simp only [nc] at *)
 all_goals (try simp only [nc'] at *)
 all_goals first
   | (refine hQ _ ?_; clear hQ hcp hcc hlp; subst_vars; simp_all [goodV, ci, ci0]; done)
   | skip
 · have ha : a = 1 := of_decide_eq_true (by assumption)
   have hBN : N.length = B.length := by clear hQ hcp hcc hlp; subst_vars; simp_all [ci, ci0]
   have hO : S.length = 0 := by clear hQ hcp hcc hlp; subst_vars; simp_all [ci, ci0]
   refine loopK (ι := Int) mixed tt_ok hcp hcc hlp [1, 25, 26] (fun i => [(27, .p (.int .i64 i))]) (fun i => (0 ≤ i ∧ i ≤ z) ∧ allUp (okN B N) i.toNat = true) (fun i => (z - i).toNat) 0 (fun _ => rfl) ⟨by omega, rfl⟩ ⟨rfl, trivial⟩ ?_
   intro R i hi hR
   have hi0 : 0 ≤ i := hi.1.1
   have hi1 : i ≤ z := hi.1.2
   have hup := hi.2
   have hk1 : decide (i < z) = true → i < B.length := by simp only [decide_eq_true_eq]; omega
   have hk2 : decide (i < z) = true → i < N.length := by simp only [decide_eq_true_eq]; omega
   have hbad : decide (i < z) = true → okN B N i.toNat = false → goodV ⟨a, B, N, S⟩ = false := by
     intro h g
     simp only [decide_eq_true_eq] at h
     have := allUp_false (n := N.length) (i := i.toNat) (by omega) g
     subst ha
     simp [goodV, this]
   have hgood : decide (i < z) = false → goodV ⟨a, B, N, S⟩ = true := by
     intro h
     simp only [decide_eq_false_iff_not] at h
     have : i.toNat = N.length := by omega
     rw [this, hBN] at hup
     subst ha
     simp [goodV, hup, hBN, hO]
   have hst : decide (i < z) = true → okN B N i.toNat = true → IntKind.i64.wrap (i + 1) = i + 1 ∧ ((0 ≤ i + 1 ∧ i + 1 ≤ z) ∧ allUp (okN B N) (i + 1).toNat = true) ∧ (z - (i + 1)).toNat < (z - i).toNat := by
     intro h g
     simp only [decide_eq_true_eq] at h
     refine ⟨wrap_in (by omega), ⟨by omega, ?_⟩, by omega⟩
     rw [show (i + 1).toNat = i.toNat + 1 by omega]
     exact allUp_succ hup g
   clear hup
   repeat' (first
     | (with_reducible refine Nm.mk ?_; intro z hz)
     | (with_reducible refine IfB.mk ?_ ?_ <;> (intro h; cases h))
     | (with_reducible refine Two.l ?_; refine Asm.mk ?_ ?_; focus (decide +kernel))
     | (with_reducible refine Two.r ?_)
     | (with_reducible refine TwoT.r ?_)
     | (with_reducible refine TwoU.r ?_)
     | (with_reducible refine Asm.mk ?_ ?_; focus kernel_rfl)
     | (with_reducible refine Ix.map h2 i64c_len (by decide) hi0 (hk2 (by assumption)) ?_; intro x hx)
     | (with_reducible refine Ix.map h1 boolc_len (by decide) hi0 (hk1 (by assumption)) ?_; intro y hy)
     | (with_reducible refine Asm.mk2 ?_ ?_)
     | ((fail_if_success (with_reducible first | refine hQ _ ?_ | refine Side.mk ?_ | refine isCP hcp ?_ | refine isCC hcc ?_ | refine isLP hlp ?_ | refine Ix.mk ?_ | refine SIx.mk ?_ | refine SEx.mk ?_ | refine EIx.mk ?_ | refine RIx.mk ?_ | refine LkX.mk ?_ | show False | refine hR ?_ _ ?_ ?_ ?_ ?_ ?_ | refine hR2 ?_ _ ?_ ?_ ?_ ?_ ?_)); cbv))
   all_goals (try simp only [nc] at *)
   all_goals (try simp only [nc'] at *)
   all_goals first
     | (refine hQ _ ?_; rw [hgood (by assumption)]; done)
     | (refine hQ _ ?_
        rw [hbad (by assumption) (by simp only [okN]; clear hQ hcp hcc hlp hR hst hbad hgood hi; simp_all [sbeq_eq])]; done)
     | (obtain ⟨e1, e2, e3⟩ := hst (by assumption) (by simp only [okN]; clear hQ hcp hcc hlp hR hst hbad hgood hi; simp_all [sbeq_eq])
        clear hst hbad hgood hk1 hk2
        subst_vars
        exact hR (i + 1) _ e2 e3 ⟨congrArg (fun z => some (AV.p (PV.int IntKind.i64 z))) e1, trivial⟩ ⟨rfl, rfl, rfl, trivial⟩ rfl)
 · have ha : a = 2 := of_decide_eq_true (by assumption)
   have hBN : S.length = B.length := by clear hQ hcp hcc hlp; subst_vars; simp_all [ci, ci0]
   have hO : N.length = 0 := by clear hQ hcp hcc hlp; subst_vars; simp_all [ci, ci0]
   refine loopK (ι := Int) mixed tt_ok hcp hcc hlp [1, 58, 59] (fun i => [(60, .p (.int .i64 i))]) (fun i => (0 ≤ i ∧ i ≤ z) ∧ allUp (okS B S) i.toNat = true) (fun i => (z - i).toNat) 0 (fun _ => rfl) ⟨by omega, rfl⟩ ⟨rfl, trivial⟩ ?_
   intro R i hi hR
   have hi0 : 0 ≤ i := hi.1.1
   have hi1 : i ≤ z := hi.1.2
   have hup := hi.2
   have hk1 : decide (i < z) = true → i < B.length := by simp only [decide_eq_true_eq]; omega
   have hk2 : decide (i < z) = true → i < S.length := by simp only [decide_eq_true_eq]; omega
   have hbad : decide (i < z) = true → okS B S i.toNat = false → goodV ⟨a, B, N, S⟩ = false := by
     intro h g
     simp only [decide_eq_true_eq] at h
     have := allUp_false (n := S.length) (i := i.toNat) (by omega) g
     subst ha
     simp [goodV, this]
   have hgood : decide (i < z) = false → goodV ⟨a, B, N, S⟩ = true := by
     intro h
     simp only [decide_eq_false_iff_not] at h
     have : i.toNat = S.length := by omega
     rw [this, hBN] at hup
     subst ha
     simp [goodV, hup, hBN, hO]
   have hst : decide (i < z) = true → okS B S i.toNat = true → IntKind.i64.wrap (i + 1) = i + 1 ∧ ((0 ≤ i + 1 ∧ i + 1 ≤ z) ∧ allUp (okS B S) (i + 1).toNat = true) ∧ (z - (i + 1)).toNat < (z - i).toNat := by
     intro h g
     simp only [decide_eq_true_eq] at h
     refine ⟨wrap_in (by omega), ⟨by omega, ?_⟩, by omega⟩
     rw [show (i + 1).toNat = i.toNat + 1 by omega]
     exact allUp_succ hup g
   clear hup
   repeat' (first
     | (with_reducible refine Nm.mk ?_; intro z hz)
     | (with_reducible refine IfB.mk ?_ ?_ <;> (intro h; cases h))
     | (with_reducible refine Two.l ?_; refine Asm.mk ?_ ?_; focus (decide +kernel))
     | (with_reducible refine Two.r ?_)
     | (with_reducible refine TwoT.r ?_)
     | (with_reducible refine TwoU.r ?_)
     | (with_reducible refine Asm.mk ?_ ?_; focus kernel_rfl)
     | (with_reducible refine Ix.map h3 strc_len (by decide) hi0 (hk2 (by assumption)) ?_; intro x hx)
     | (with_reducible refine Ix.map h1 boolc_len (by decide) hi0 (hk1 (by assumption)) ?_; intro y hy)
     | (with_reducible refine Asm.mk2 ?_ ?_)
     | ((fail_if_success (with_reducible first | refine hQ _ ?_ | refine Side.mk ?_ | refine isCP hcp ?_ | refine isCC hcc ?_ | refine isLP hlp ?_ | refine Ix.mk ?_ | refine SIx.mk ?_ | refine SEx.mk ?_ | refine EIx.mk ?_ | refine RIx.mk ?_ | refine LkX.mk ?_ | show False | refine hR ?_ _ ?_ ?_ ?_ ?_ ?_ | refine hR2 ?_ _ ?_ ?_ ?_ ?_ ?_)); cbv))
   all_goals (try simp only [nc] at *)
   all_goals (try simp only [nc'] at *)
   all_goals first
     | (refine hQ _ ?_; rw [hgood (by assumption)]; done)
     | (refine hQ _ ?_
        rw [hbad (by assumption) (by simp only [okS]; clear hQ hcp hcc hlp hR hst hbad hgood hi; simp_all [sbeq_eq])]; done)
     | (obtain ⟨e1, e2, e3⟩ := hst (by assumption) (by simp only [okS]; clear hQ hcp hcc hlp hR hst hbad hgood hi; simp_all [sbeq_eq])
        clear hst hbad hgood hk1 hk2
        subst_vars
        exact hR (i + 1) _ e2 e3 ⟨congrArg (fun z => some (AV.p (PV.int IntKind.i64 z))) e1, trivial⟩ ⟨rfl, rfl, rfl, trivial⟩ rfl)
end Go.Proofs.Ytcajncmjlmpkgaa

namespace Go.Proofs.Ytcajncmjlmpkgaa
open Go Go.RowKit
set_option maxRecDepth 100000
set_option linter.unusedSimpArgs false
set_option linter.unusedVariables false
def atV (a : Int) (B : List Bool) (N : List Int) (S : List ByteArray) (i : Nat) : Val :=
 if (B[i]?).getD false = true then Val.zero else if a = 1 then num ((N[i]?).getD 0) else str ((S[i]?).getD ⟨⟨[]⟩⟩)
theorem goodV_1 {a : Int} {B : List Bool} {N : List Int} {S : List ByteArray} (h : goodV ⟨a, B, N, S⟩ = true) (ha : a = 1) : N.length = B.length := by
 subst ha; simp [goodV] at h; exact h.1.1
theorem goodV_2 {a : Int} {B : List Bool} {N : List Int} {S : List ByteArray} (h : goodV ⟨a, B, N, S⟩ = true) (ha : ¬ a = 1) : S.length = B.length := by
 by_cases h2 : a = 2
 · subst h2; simp [goodV] at h; exact h.1.1
 · simp [goodV, ha, h2] at h
theorem atP_c (a : Int) (B : List Bool) (N : List Int) (S : List ByteArray) (n1 n2 n3 : List (List PV)) (h1 : B.map boolc = n1) (h2 : N.map i64c = n2) (h3 : S.map strc = n3) (i : Int) (hi0 : 0 ≤ i) (hi : i < B.length) (hg : goodV ⟨a, B, N, S⟩ = true) :
   PCall Try.prog 47 [.ip [.int .i64 a, .sl n1, .sl n2, .sl n3], .int .i64 i] fun r => r = [(atV a B N S i.toNat).enc] := by
 have hk2 : decide (a = 1) = true → i < N.length := by intro h; rw [goodV_1 hg (of_decide_eq_true h)]; exact hi
 have hk3 : decide (a = 1) = false → i < S.length := by intro h; rw [goodV_2 hg (of_decide_eq_false h)]; exact hi
 clear hg
 refine PCall.x (nt := ⟨36, []⟩) (res := [.cell 4 24]) mixed tt_ok [] Try.func47 rfl rfl rfl c47 (Nat.le_of_ble_eq_true rfl) ?_
 intro cp cc lp Q' hcp hcc hlp hQ
 repeat' (first
   | (with_reducible refine Nm.mk ?_; intro z hz)
   | (with_reducible refine IfB.mk ?_ ?_ <;> (intro h; cases h))
   | (with_reducible refine Two.l ?_; refine Asm.mk ?_ ?_; focus (decide +kernel))
   | (with_reducible refine Two.r ?_)
   | (with_reducible refine TwoT.r ?_)
   | (with_reducible refine TwoU.r ?_)
   | (with_reducible refine Asm.mk ?_ ?_; focus kernel_rfl)
   | (with_reducible refine Ix.map h1 boolc_len (by decide) hi0 hi ?_; intro y hy)
   | (with_reducible refine Ix.map h2 i64c_len (by decide) hi0 (hk2 (by assumption)) ?_; intro x hx)
   | (with_reducible refine Ix.map h3 strc_len (by decide) hi0 (hk3 (by assumption)) ?_; intro x hx)
   | (with_reducible refine Asm.mk2 ?_ ?_)
   | ((fail_if_success (with_reducible first | refine hQ _ ?_ | refine Side.mk ?_ | refine isCP hcp ?_ | refine isCC hcc ?_ | refine isLP hlp ?_ | refine Ix.mk ?_ | refine SIx.mk ?_ | refine SEx.mk ?_ | refine EIx.mk ?_ | refine RIx.mk ?_ | refine LkX.mk ?_ | show False | refine hR ?_ _ ?_ ?_ ?_ ?_ ?_ | refine hR2 ?_ _ ?_ ?_ ?_ ?_ ?_)); cbv))
 all_goals (refine hQ _ ?_; clear hQ hcp hcc hlp hk2 hk3 hi hi0 h1 h2 h3; simp_all [atV, num, str, Val.zero, Val.enc])
def atM (v : Vec) (i : Int) : Val := if goodV v = true ∧ 0 ≤ i ∧ i < v.null.length then atV v.kind v.null v.ns v.ss i.toNat else Val.zero
theorem vat_c (a : Int) (B : List Bool) (N : List Int) (S : List ByteArray) (n1 n2 n3 : List (List PV)) (h1 : B.map boolc = n1) (h2 : N.map i64c = n2) (h3 : S.map strc = n3) (i : Int) :
   PCall Try.prog 74 [.agg [.int .i64 a, .sl n1, .sl n2, .sl n3], .int .i64 i] fun r => r = [(atM ⟨a, B, N, S⟩ i).enc] := by
 have b1 : n1.length = B.length := by rw [← h1]; simp
 refine PCall.x (nt := ⟨22, []⟩) (res := [.cell 4 24]) mixed tt_ok [] Try.func74 rfl rfl rfl c74 (Nat.le_of_ble_eq_true rfl) ?_
 intro cp cc lp Q' hcp hcc hlp hQ
 repeat' (first
   | (with_reducible refine Nm.mk ?_; intro z hz)
   | (with_reducible refine IfB.mk ?_ ?_ <;> (intro h; cases h))
   | (with_reducible refine Two.l ?_; refine Asm.mk ?_ ?_; focus (decide +kernel))
   | (with_reducible refine Two.r ?_)
   | (with_reducible refine TwoT.r ?_)
   | (with_reducible refine TwoU.r ?_)
   | (with_reducible refine Asm.mk ?_ ?_; focus (first | kernel_rfl | decide))
   | (with_reducible refine isCP hcp ?_; first | (refine bP hcp (good_c a B N S n1 n2 n3 h1 h2 h3) ?_; intro z hz))
   | (with_reducible refine isCC hcc ?_; first | (refine bA hcc (good_c a B N S n1 n2 n3 h1 h2 h3) rfl ?_; intro z hz) | (refine bR hcc (good_c a B N S n1 n2 n3 h1 h2 h3) rfl ?_; intro z hz))
   | (with_reducible refine Asm.mk2 ?_ ?_)
   | ((fail_if_success (with_reducible first | refine hQ _ ?_ | refine Side.mk ?_ | refine isCP hcp ?_ | refine isCC hcc ?_ | refine isLP hlp ?_ | refine Ix.mk ?_ | refine SIx.mk ?_ | refine SEx.mk ?_ | refine EIx.mk ?_ | refine RIx.mk ?_ | refine LkX.mk ?_ | show False | refine hR ?_ _ ?_ ?_ ?_ ?_ ?_ | refine hR2 ?_ _ ?_ ?_ ?_ ?_ ?_)); cbv))
 all_goals (try simp only [nc] at *)
 all_goals (try simp only [nc'] at *)
 all_goals first
   | (refine hQ _ ?_; clear hQ hcp hcc hlp; simp_all [atM, Val.zero, Val.enc]; done)
   | (refine hQ _ ?_
      have : ¬ (0 ≤ i ∧ i < (B.length : Int)) := by clear hQ hcp hcc hlp; simp_all; try omega
      simp only [atM]; rw [if_neg (fun h => this h.2)]; rfl)
   | skip
 have hg : goodV ⟨a, B, N, S⟩ = true := by clear hQ hcp hcc hlp; simp_all
 have hi0 : 0 ≤ i := by clear hQ hcp hcc hlp; simp_all
 have hi : i < (B.length : Int) := by clear hQ hcp hcc hlp; simp_all; try omega
 refine vR hcc (atP_c a B N S n1 n2 n3 h1 h2 h3 i hi0 hi hg) rfl ?_
 intro v hv
 repeat' (first
   | (with_reducible refine Nm.mk ?_; intro z hz)
   | (with_reducible refine IfB.mk ?_ ?_ <;> (intro h; cases h))
   | (with_reducible refine Two.l ?_; refine Asm.mk ?_ ?_; focus (decide +kernel))
   | (with_reducible refine Two.r ?_)
   | (with_reducible refine TwoT.r ?_)
   | (with_reducible refine TwoU.r ?_)
   | (with_reducible refine Asm.mk ?_ ?_; focus (first | kernel_rfl | decide))
   | (with_reducible refine Asm.mk2 ?_ ?_)
   | ((fail_if_success (with_reducible first | refine hQ _ ?_ | refine Side.mk ?_ | refine isCP hcp ?_ | refine isCC hcc ?_ | refine isLP hlp ?_ | refine Ix.mk ?_ | refine SIx.mk ?_ | refine SEx.mk ?_ | refine EIx.mk ?_ | refine RIx.mk ?_ | refine LkX.mk ?_ | show False | refine hR ?_ _ ?_ ?_ ?_ ?_ ?_ | refine hR2 ?_ _ ?_ ?_ ?_ ?_ ?_)); cbv))
 refine hQ _ ?_
 simp only [atM]
 rw [if_pos ⟨hg, hi0, hi⟩, hv]; rfl
end Go.Proofs.Ytcajncmjlmpkgaa

namespace Go.Proofs.Ytcajncmjlmpkgaa
open Go Go.RowKit
set_option maxRecDepth 100000
set_option linter.unusedSimpArgs false
set_option linter.unusedVariables false
def valuesM (v : Vec) : List Val := if goodV v = true then (List.range v.null.length).map (atV v.kind v.null v.ns v.ss) else []
theorem vvalues_c (a : Int) (B : List Bool) (N : List Int) (S : List ByteArray) (n1 n2 n3 : List (List PV)) (h1 : B.map boolc = n1) (h2 : N.map i64c = n2) (h3 : S.map strc = n3) (hsz : B.length ≤ 1048577) :
   PCall Try.prog 17 [.agg [.int .i64 a, .sl n1, .sl n2, .sl n3]] fun r => r = [.sl ((valuesM ⟨a, B, N, S⟩).map Val.cells)] := by
 have b1 : n1.length = B.length := by rw [← h1]; simp
 refine PCall.x (nt := ⟨24, []⟩) (res := [.tmp 2]) mixed tt_ok [] Try.func17 rfl rfl rfl c17 (Nat.le_of_ble_eq_true rfl) ?_
 intro cp cc lp Q' hcp hcc hlp hQ
 repeat' (first
   | (with_reducible refine Nm.mk ?_; intro z hz)
   | (with_reducible refine IfB.mk ?_ ?_ <;> (intro h; cases h))
   | (with_reducible refine Two.l ?_; refine Asm.mk ?_ ?_; focus (decide +kernel))
   | (with_reducible refine Two.r ?_)
   | (with_reducible refine TwoT.r ?_)
   | (with_reducible refine TwoU.r ?_)
   | (with_reducible refine Asm.mk ?_ ?_; focus (first | kernel_rfl | decide | (refine ⟨?_, rfl, ?_, ?_⟩ <;> (clear hQ hcp hcc hlp; simp only [nc] at *; simp only [nc'] at *; (try simp only [maxLen]); omega))))
   | (with_reducible refine isCP hcp ?_; first | (refine bP hcp (good_c a B N S n1 n2 n3 h1 h2 h3) ?_; intro z hz))
   | (with_reducible refine isCC hcc ?_; first | (refine bA hcc (good_c a B N S n1 n2 n3 h1 h2 h3) rfl ?_; intro z hz) | (refine bR hcc (good_c a B N S n1 n2 n3 h1 h2 h3) rfl ?_; intro z hz))
   | (with_reducible refine Asm.mk2 ?_ ?_)
   | ((fail_if_success (with_reducible first | refine hQ _ ?_ | refine Side.mk ?_ | refine isCP hcp ?_ | refine isCC hcc ?_ | refine isLP hlp ?_ | refine Ix.mk ?_ | refine SIx.mk ?_ | refine SEx.mk ?_ | refine EIx.mk ?_ | refine RIx.mk ?_ | refine LkX.mk ?_ | show False | refine hR ?_ _ ?_ ?_ ?_ ?_ ?_ | refine hR2 ?_ _ ?_ ?_ ?_ ?_ ?_)); cbv))
 all_goals (try simp only [nc] at *)
 all_goals (try simp only [nc'] at *)
 all_goals first
   | (refine hQ _ ?_; clear hQ hcp hcc hlp; simp_all [valuesM]; done)
   | skip
 rename_i g hg0 hg1 zz hzz m hm L hL
 have hg : goodV ⟨a, B, N, S⟩ = true := by clear hQ hcp hcc hlp; simp_all
 have hmB : m = B.length := by omega
 have hzB : z = (B.length : Int) := by omega
 have hLl : L.length = B.length := by rw [← hL, List.length_replicate, hmB]
 clear hg0 hg1 hzz hm hz
 generalize z = zn at *
 have hzN : zn.toNat = B.length ∧ 0 ≤ zn := by omega
 obtain ⟨hzN, hz0⟩ := hzN
 refine loopT (ι := Int × List (List PV)) mixed tt_ok hcp hcc hlp [1, 3, 13] (fun p => [(14, .p (.int .i64 p.1))])
   (fun p => [.cells [.p (.int .i64 a), .p (.sl n1), .p (.sl n2), .p (.sl n3)], .elts p.2 3])
   (fun p => (0 ≤ p.1 ∧ p.1 ≤ zn) ∧ p.2.length = B.length ∧ ∀ j : Nat, j < p.1.toNat → p.2[j]? = some (atV a B N S j).cells) (fun p => (zn - p.1).toNat)
   (0, L) 2 (fun _ => rfl) ⟨⟨by omega, by omega⟩, hLl, fun j hj => by simp at hj⟩ ⟨rfl, trivial⟩ rfl ?_
 rintro R ⟨i, L⟩ ⟨⟨hi0, hi1⟩, hl, hat⟩ hR
 have hi0 : 0 ≤ i := hi0
 have hi1 : i ≤ zn := hi1
 have hl : L.length = B.length := hl
 have hat : ∀ j : Nat, j < i.toNat → L[j]? = some (atV a B N S j).cells := hat
 have hcall : decide (i < zn) = true → PCall Try.prog 47 [.ip [.int .i64 a, .sl n1, .sl n2, .sl n3], .int .i64 i] fun r => r = [(atV a B N S i.toNat).enc] := by
   intro h
   simp only [decide_eq_true_eq] at h
   exact atP_c a B N S n1 n2 n3 h1 h2 h3 i hi0 (by omega) hg
 have him : decide (i < zn) = true → i < (m : Int) := by intro h; simp only [decide_eq_true_eq] at h; omega
 have hiL : decide (i < zn) = true → i.toNat < L.length := by intro h; simp only [decide_eq_true_eq] at h; omega
 have hmL : m = L.length := by omega
 repeat' (first
   | (with_reducible refine Nm.mk ?_; intro z hz)
   | (with_reducible refine IfB.mk ?_ ?_ <;> (intro h; cases h))
   | (with_reducible refine Two.l ?_; refine Asm.mk ?_ ?_; focus (decide +kernel))
   | (with_reducible refine Two.r ?_)
   | (with_reducible refine TwoT.r ?_)
   | (with_reducible refine TwoU.r ?_)
   | (with_reducible refine Asm.mk ?_ ?_; focus (first | exact hmL | (refine ⟨hi0, him (by assumption), by decide⟩) | kernel_rfl))
   | (with_reducible refine isCP hcp ?_; first | (refine vP hcp (hcall (by assumption)) ?_; intro v hv))
   | (with_reducible refine isCC hcc ?_; first | (refine vA hcc (hcall (by assumption)) rfl ?_; intro v hv) | (refine vR hcc (hcall (by assumption)) rfl ?_; intro v hv))
   | (with_reducible refine SEx.at_ i.toNat (by assumption) (hiL (by assumption)) rfl ?_; intro L2 hL2)
   | (with_reducible refine Asm.mk2 ?_ ?_)
   | ((fail_if_success (with_reducible first | refine hQ _ ?_ | refine Side.mk ?_ | refine isCP hcp ?_ | refine isCC hcc ?_ | refine isLP hlp ?_ | refine Ix.mk ?_ | refine SIx.mk ?_ | refine SEx.mk ?_ | refine EIx.mk ?_ | refine RIx.mk ?_ | refine LkX.mk ?_ | show False | refine hR ?_ _ ?_ ?_ ?_ ?_ ?_ | refine hR2 ?_ _ ?_ ?_ ?_ ?_ ?_)); cbv))
 · have hlt : decide (i < zn) = true := by assumption
   simp only [decide_eq_true_eq] at hlt
   have e1 : IntKind.i64.wrap (i + 1) = i + 1 := wrap_in (by omega)
   rw [e1] at hz
   have hv : atV a B N S i.toNat = v := by assumption
   refine hR (i + 1, L2) _ ⟨⟨by show 0 ≤ i + 1; omega, by show i + 1 ≤ zn; omega⟩, by show L2.length = _; rw [← hL2, List.length_set]; exact hl, fun j hj => ?_⟩ (by show (zn - (i + 1)).toNat < (zn - i).toNat; omega) ⟨hz ▸ rfl, trivial⟩ ⟨rfl, rfl, rfl, trivial⟩ rfl
   have hj : j < (i + 1).toNat := hj
   show L2[j]? = _
   rw [← hL2]
   by_cases e : i.toNat = j
   · subst e
     rw [List.getElem?_set_self (hiL (by simp only [decide_eq_true_eq]; exact hlt)), hv]; rfl
   · rw [getElem?_set_ne' e]
     exact hat j (by omega)
 · refine hQ _ ?_
   have hge : decide (i < zn) = false := by assumption
   simp only [decide_eq_false_iff_not] at hge
   have : L = (valuesM ⟨a, B, N, S⟩).map Val.cells := by
     apply List.ext_getElem?
     intro j
     simp only [valuesM, hg, if_true]
     by_cases hj : j < B.length
     · rw [hat j (by omega)]; simp [hj]
     · rw [List.getElem?_eq_none (by omega)]; simp [hj]
   rw [this]
end Go.Proofs.Ytcajncmjlmpkgaa

namespace Go.Proofs.Ytcajncmjlmpkgaa
open Go Go.RowKit
set_option maxRecDepth 100000
set_option linter.unusedSimpArgs false
set_option linter.unusedVariables false
end Go.Proofs.Ytcajncmjlmpkgaa

namespace Go.Proofs.Ytcajncmjlmpkgaa
open Go Go.RowKit
set_option maxRecDepth 100000
set_option linter.unusedSimpArgs false
set_option linter.unusedVariables false
end Go.Proofs.Ytcajncmjlmpkgaa

namespace Go.Proofs.Ytcajncmjlmpkgaa
open Go Go.RowKit
set_option maxRecDepth 100000
set_option linter.unusedSimpArgs false
set_option linter.unusedVariables false
end Go.Proofs.Ytcajncmjlmpkgaa

namespace Go.Proofs.Ytcajncmjlmpkgaa
open Go Go.RowKit
set_option maxRecDepth 100000
set_option linter.unusedSimpArgs false
set_option linter.unusedVariables false
theorem valuesM_len (v : Vec) : (valuesM v).length ≤ v.null.length := by unfold valuesM; split <;> simp
end Go.Proofs.Ytcajncmjlmpkgaa

namespace Go.Proofs.Ytcajncmjlmpkgaa
open Go Go.RowKit
theorem allUp_at {f : Nat → Bool} {n i : Nat} (h : allUp f n = true) (hi : i < n) : f i = true := by
 cases hf : f i with
 | true => rfl
 | false => rw [allUp_false hi hf] at h; cases h
end Go.Proofs.Ytcajncmjlmpkgaa

namespace Go.Proofs.Ytcajncmjlmpkgaa
open Go Go.RowKit
set_option maxRecDepth 100000
set_option linter.unusedSimpArgs false
set_option linter.unusedVariables false
end Go.Proofs.Ytcajncmjlmpkgaa

namespace Go.Proofs.Ytcajncmjlmpkgaa
open Go Go.RowKit
set_option maxRecDepth 100000
set_option linter.unusedSimpArgs false
set_option linter.unusedVariables false
theorem size0 : ((⟨#[]⟩ : ByteArray).size : Int) = 0 := rfl
theorem goodV_cases {a : Int} {B : List Bool} {N : List Int} {S : List ByteArray} (h : goodV ⟨a, B, N, S⟩ = true) :
   (a = 1 ∧ N.length = B.length ∧ S = [] ∧ ∀ i, i < B.length → okN B N i = true) ∨ (a = 2 ∧ S.length = B.length ∧ N = [] ∧ ∀ i, i < B.length → okS B S i = true) := by
 by_cases ha : a = 1
 · subst ha
   simp [goodV] at h
   exact .inl ⟨rfl, h.1.1, h.1.2, fun i hi => allUp_at h.2 (by omega)⟩
 · by_cases hb : a = 2
   · subst hb
     simp [goodV] at h
     exact .inr ⟨rfl, h.1.1, h.1.2, fun i hi => allUp_at h.2 (by omega)⟩
   · simp [goodV, ha, hb] at h
theorem clean_at (a : Int) (B : List Bool) (N : List Int) (S : List ByteArray) (i : Nat) : clean (atV a B N S i) = atV a B N S i := by
 unfold atV
 split
 · simp [clean, Val.zero]
 · split <;> simp [clean, num, str]
theorem at_null (a : Int) (B : List Bool) (N : List Int) (S : List ByteArray) (i : Nat) : decide ((clean (atV a B N S i)).k = 0) = (B[i]?).getD false := by
 rw [clean_at]; unfold atV
 split
 · rename_i h; simp [h, Val.zero]
 · rename_i h
   have : (B[i]?).getD false = false := by simpa using h
   rw [this]
   split <;> simp [num, str]
theorem at_n {B : List Bool} {N : List Int} {S : List ByteArray} {i : Nat} (h : okN B N i = true) : (clean (atV 1 B N S i)).n = (N[i]?).getD 0 := by
 rw [clean_at]; unfold atV
 split
 · rename_i hb
   simp only [okN, hb] at h
   simp at h
   simp [Val.zero, h]
 · simp [num]
theorem at_s {B : List Bool} {N : List Int} {S : List ByteArray} {i : Nat} (h : okS B S i = true) : (clean (atV 2 B N S i)).s = (S[i]?).getD ⟨⟨[]⟩⟩ := by
 rw [clean_at]; unfold atV
 split
 · rename_i hb
   simp only [okS, hb] at h
   simp at h
   simp [Val.zero, h.1]
 · simp [str]
def pickL (v : Vec) (p : List Nat) : List Val := p.map (atV v.kind v.null v.ns v.ss)
theorem pick_parts {v : Vec} (hg : goodV v = true) (p : List Nat) (hp : ∀ i, i ∈ p → i < v.null.length) :
   nullsOf (pickL v p) = p.map (fun i => (v.null[i]?).getD false) ∧ numsOf v.kind (pickL v p) = (if v.kind = 1 then p.map (fun i => (v.ns[i]?).getD 0) else []) ∧
   textsOf v.kind (pickL v p) = (if v.kind = 1 then [] else p.map (fun i => (v.ss[i]?).getD ⟨⟨[]⟩⟩)) ∧ kinds v.kind (pickL v p) = true ∧ bigs (pickL v p) = false := by
 obtain ⟨a, B, N, S⟩ := v
 have hn : nullsOf (pickL ⟨a, B, N, S⟩ p) = p.map (fun i => (B[i]?).getD false) := by
   simp only [nullsOf, pickL, List.map_map]
   refine List.map_congr_left fun i _ => ?_
   exact at_null a B N S i
 refine ⟨hn, ?_, ?_, ?_, ?_⟩
 · rcases goodV_cases hg with ⟨rfl, _, _, hok⟩ | ⟨rfl, _, _, hok⟩
   · simp only [numsOf, if_true, pickL, List.map_map]
     exact List.map_congr_left fun i hi => at_n (hok i (hp i hi))
   · simp [numsOf]
 · rcases goodV_cases hg with ⟨rfl, _, _, hok⟩ | ⟨rfl, _, _, hok⟩
   · simp [textsOf]
   · simp only [textsOf, pickL, List.map_map]
     rw [if_neg (by decide), if_neg (by decide)]
     exact List.map_congr_left fun i hi => at_s (hok i (hp i hi))
 · simp only [kinds, pickL, List.all_map, List.all_eq_true]
   intro i hi
   simp only [Function.comp, clean_at]
   rcases goodV_cases hg with ⟨rfl, _, _, hok⟩ | ⟨rfl, _, _, hok⟩ <;> (unfold atV; split <;> simp [Val.zero, num, str])
 · simp only [bigs, pickL, List.any_map]
   rw [List.any_eq_false]
   intro i hi
   simp only [Function.comp, clean_at]
   rcases goodV_cases hg with ⟨rfl, _, _, hok⟩ | ⟨rfl, _, _, hok⟩
   · unfold atV; split <;> simp [Val.zero, num, size0]
   · have := hok i (hp i hi)
     simp only [okS, Bool.and_eq_true, Bool.not_eq_true', decide_eq_false_iff_not] at this
     unfold atV; split
     · simp [Val.zero, size0]
     · simp only [str]; simpa using this.2
theorem range_map {α : Type} (l : List α) (d : α) : (List.range l.length).map (fun i => (l[i]?).getD d) = l := by
 apply List.ext_getElem?
 intro i
 rw [List.getElem?_map]
 by_cases h : i < l.length
 · simp [h]
 · rw [List.getElem?_eq_none (by simp; omega), List.getElem?_eq_none (by omega)]; rfl
theorem good_parts {v : Vec} (hg : goodV v = true) : nullsOf (valuesM v) = v.null ∧ numsOf v.kind (valuesM v) = v.ns ∧ textsOf v.kind (valuesM v) = v.ss ∧ kinds v.kind (valuesM v) = true ∧ bigs (valuesM v) = false := by
 have e : valuesM v = pickL v (List.range v.null.length) := by simp [valuesM, hg, pickL]
 obtain ⟨h1, h2, h3, h4, h5⟩ := pick_parts hg (List.range v.null.length) (fun i hi => by simpa using hi)
 rw [e]
 refine ⟨by rw [h1, range_map], ?_, ?_, h4, h5⟩
 · rw [h2]
   obtain ⟨a, B, N, S⟩ := v
   rcases goodV_cases hg with ⟨rfl, hl, _, _⟩ | ⟨rfl, _, rfl, _⟩
   · simp only [if_true]; rw [← hl, range_map]
   · simp
 · rw [h3]
   obtain ⟨a, B, N, S⟩ := v
   rcases goodV_cases hg with ⟨rfl, _, rfl, _⟩ | ⟨rfl, hl, _, _⟩
   · simp
   · simp only; rw [if_neg (by decide), ← hl, range_map]
end Go.Proofs.Ytcajncmjlmpkgaa
