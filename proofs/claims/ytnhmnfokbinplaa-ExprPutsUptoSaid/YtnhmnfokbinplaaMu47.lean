/- cell: Order, Test, Cat, True, with what they call; cell: Test, Cat, True; Expressions: what they are to the walk; their size; Expressions: their size, the walk; Expressions: Size, built; Expressions: mapped; Expressions: what they mean; what is built; parts; Expressions: the workers that compile makes; Expressions: compile, what it makes; Expressions: what is certainly null, what is certainly not true; Expressions: nodes, height, what is built; what is worked out ahead; Expressions: others put in for columns; Expressions: Eval; Expressions: Parts; the law ExprParts; Expressions: tallyref's number of arguments; Expressions: tallyref's Size, plain: it is the other one's; Expressions: tallyref's Size, walked; Expressions: tallyref's Neat and Parts; Expressions: tallyref's kindOf, its functions; tallyref: SameExpr of the same; both All; Expressions: tallyref's ColumnsOf, its function; Expressions: tallyref's ColumnsOf; Expressions: tallyref's Kind; expr: Columns, what each does; Expressions that came in: what they read as; Expressions: Fold. Own work; no condition. -/
import Derived.Test.YtnhmnfokbinplaaMu43
import Derived.Test.YtnhmnfokbinplaaMu46
import Derived.Test.YtnhmnfokbinplaaAbsX
import Derived.Test.YtnhmnfokbinplaaAbs25
import Derived.Test.YtnhmnfokbinplaaAbsQ
import Derived.Test.YtnhmnfokbinplaaAbsF
import Derived.Test.YtnhmnfokbinplaaAbsP
namespace Go.Proofs.Ytnhmnfokbinplaa
open Go Go.RowKit
set_option maxRecDepth 100000
set_option linter.unusedSimpArgs false
set_option linter.unusedVariables false

end Go.Proofs.Ytnhmnfokbinplaa

namespace Go.Proofs.Ytnhmnfokbinplaa
open Go Go.RowKit
set_option maxRecDepth 100000
set_option linter.unusedSimpArgs false
set_option linter.unusedVariables false

end Go.Proofs.Ytnhmnfokbinplaa

namespace Go.Proofs.Ytnhmnfokbinplaa
open Go Go.RowKit
set_option maxRecDepth 100000
set_option linter.unusedSimpArgs false
set_option linter.unusedVariables false

inductive Ex where
  | mk (op n : Int) (v : Val) (ar : List Ex)
mutual
def Ex.cells : Ex → List PV
  | .mk op n v ar => [.int .i64 op, .int .i64 n, .int .i64 v.k, .int .i64 v.n, .str v.s, .sl (cellsL ar)]
def cellsL : List Ex → List (List PV)
  | [] => []
  | e :: r => e.cells :: cellsL r
end
theorem cellsL_eq : ∀ l : List Ex, cellsL l = l.map Ex.cells
  | [] => rfl
  | e :: r => by simp [cellsL, cellsL_eq r]
theorem cells_mk (op n : Int) (v : Val) (ar : List Ex) : (Ex.mk op n v ar).cells = [.int .i64 op, .int .i64 n, .int .i64 v.k, .int .i64 v.n, .str v.s, .sl (ar.map Ex.cells)] := by rw [Ex.cells, cellsL_eq]
theorem ex_len (e : Ex) : e.cells.length = 6 := by cases e; rfl
mutual
def Ex.sz : Ex → Nat
  | .mk _ _ _ ar => szL ar + 1
def szL : List Ex → Nat
  | [] => 0
  | e :: r => e.sz + szL r
end
theorem sz_mem : ∀ {l : List Ex} {e : Ex}, e ∈ l → e.sz ≤ szL l
  | [], _, h => by simp at h
  | a :: r, e, h => by
    simp only [szL]
    rcases List.mem_cons.1 h with g | g
    · subst g; omega
    · have := sz_mem g; omega

theorem Ix.ex {es : List (List PV)} {ar : List Ex} {i : Int} {K : List PV → Prop} (hl : ar.map Ex.cells = es) (h0 : 0 ≤ i) (hn : i < ar.length)
    (g : ∀ op n vk vn vs ar' es', ar[i.toNat]? = some (.mk op n ⟨vk, vn, vs⟩ ar') → ar'.map Ex.cells = es' → K [.int .i64 op, .int .i64 n, .int .i64 vk, .int .i64 vn, .str vs, .sl es']) : Ix 6 es i K := by
  refine Ix.map hl ex_len (by decide) h0 hn fun x hx => ?_
  obtain ⟨op, n, ⟨vk, vn, vs⟩, ar'⟩ := x
  rw [cells_mk]
  exact g op n vk vn vs ar' _ hx rfl

def arityE (op : Int) : Int := if op = 1 ∨ op = 2 then 0 else if op = 3 ∨ op = 4 ∨ op = 5 ∨ op = 6 then 1 else if op = 21 then 3 else if 7 ≤ op ∧ op ≤ 20 then 2 else -1
set_option maxHeartbeats 4000000 in
theorem arity_c (op : Int) : PCall Try.prog 132 [.int .i64 op] fun r => r = [.int .i64 (arityE op)] := by
  refine PCall.x (nt := 20) (res := [.tmp 2]) mixed tt_ok [] Try.func132 rfl rfl rfl c132 (Nat.le_of_ble_eq_true rfl) ?_
  intro cp cc lp Q' hcp hcc hlp hQ
  repeat' (first
    | (with_reducible refine Nm.mk ?_; intro z hz)
    | (with_reducible refine IfB.mk ?_ ?_ <;> (intro h; cases h))
    | (with_reducible refine Two.l ?_; refine Asm.mk ?_ ?_; focus (decide +kernel))
    | (with_reducible refine Two.r ?_)
    | (with_reducible refine Asm.mk ?_ ?_; focus (first | kernel_rfl | decide))
    | (with_reducible refine Asm.mk2 ?_ ?_)
    | ((fail_if_success (with_reducible first | refine hQ _ ?_ | refine Side.mk ?_ | refine isCP hcp ?_ | refine isCC hcc ?_ | refine isLP hlp ?_ | refine Ix.mk ?_ | refine SIx.mk ?_ | refine SEx.mk ?_ | refine EIx.mk ?_ | refine RIx.mk ?_ | show False | refine hR ?_ _ ?_ ?_ ?_ ?_ ?_ | refine hR2 ?_ _ ?_ ?_ ?_ ?_ ?_)); cbv))
  all_goals (refine hQ _ ?_; clear hQ hcp hcc hlp; simp only [decide_eq_true_eq, decide_eq_false_iff_not] at *; congr 2; unfold arityE; (repeat' split) <;> first | omega | (intros; omega))

def mx (a b : Int) : Int := if a < b then b else a
def badE (op n : Int) (v : Val) (len : Nat) : Bool := !decide (arityE op = (len : Int)) || (decide (op = 1) && decide (n < 0)) || (decide (op = 2) && decide (v.k = 2) && decide ((1000 : Int) < (v.s.size : Int)))
mutual
def walkE : Ex → Int → Int → Int → Bool × Int × Int
  | .mk op n v ar, d, nodes, high =>
    if decide (400 < nodes + 1) || decide (40 < d) || badE op n v ar.length then (false, nodes + 1, mx high d) else walkL ar (d + 1) (nodes + 1) (mx high d)
def walkL : List Ex → Int → Int → Int → Bool × Int × Int
  | [], _, n, h => (true, n, h)
  | a :: r, d, n, h => match walkE a d n h with
    | (true, n', h') => walkL r d n' h'
    | (false, n', h') => (false, n', h')
end
mutual
theorem walkE_nodes : ∀ (e : Ex) (d n h : Int) (b : Bool) (n' h' : Int), 0 ≤ n → n ≤ 400 → walkE e d n h = (b, n', h') → 0 ≤ n' ∧ n' ≤ 401 ∧ (b = true → n < n' ∧ n' ≤ 400)
  | .mk op m v ar, d, n, h, b, n', h', h0, h1, he => by
    rw [walkE] at he
    split at he
    · simp only [Prod.mk.injEq] at he
      obtain ⟨rfl, rfl, rfl⟩ := he
      exact ⟨by omega, by omega, fun h => by cases h⟩
    · rename_i hc
      have hn : n + 1 ≤ 400 := by
        simp only [Bool.or_eq_true, decide_eq_true_eq, not_or] at hc
        omega
      have := walkL_nodes ar (d + 1) (n + 1) (mx h d) b n' h' (by omega) hn he
      exact ⟨this.1, this.2.1, fun hb => by have := this.2.2 hb; omega⟩
theorem walkL_nodes : ∀ (l : List Ex) (d n h : Int) (b : Bool) (n' h' : Int), 0 ≤ n → n ≤ 400 → walkL l d n h = (b, n', h') → 0 ≤ n' ∧ n' ≤ 401 ∧ (b = true → n ≤ n' ∧ n' ≤ 400)
  | [], d, n, h, b, n', h', h0, h1, he => by
    simp only [walkL, Prod.mk.injEq] at he
    obtain ⟨rfl, rfl, rfl⟩ := he
    exact ⟨h0, by omega, fun _ => ⟨Int.le_refl _, h1⟩⟩
  | a :: r, d, n, h, b, n', h', h0, h1, he => by
    rw [walkL] at he
    split at he
    · rename_i n1 h2 hw
      have h3 := walkE_nodes a d n h _ _ _ h0 h1 hw
      have h4 := walkL_nodes r d n1 h2 b n' h' h3.1 (h3.2.2 rfl).2 he
      exact ⟨h4.1, h4.2.1, fun hb => by have := h3.2.2 rfl; have := h4.2.2 hb; omega⟩
    · rename_i n1 h2 hw
      have h3 := walkE_nodes a d n h _ _ _ h0 h1 hw
      simp only [Prod.mk.injEq] at he
      obtain ⟨rfl, rfl, rfl⟩ := he
      exact ⟨h3.1, h3.2.1, fun h => by cases h⟩
end

def wH (n h : Int) : List AObj := [.cells [.p (.int .i64 n)], .cells [.p (.int .i64 h)], .cells [.fn 131 [.ref 0 0, .ref 1 0, .ref 2 0]]]
def WalkC (e : Ex) : Prop := ∀ (cells : List PV) (d n h : Int), e.cells = cells → 0 ≤ d → d ≤ 41 → 0 ≤ n → n ≤ 400 → ∃ b n' h', walkE e d n h = (b, n', h') ∧
  ACall Try.prog 131 [.p (.ip cells), .p (.int .i64 d), .ref 0 0, .ref 1 0, .ref 2 0] (wH n h) fun r H' => r = .p (.bool b) ∧ takeX H' 3 = wH n' h'

end Go.Proofs.Ytnhmnfokbinplaa

namespace Go.Proofs.Ytnhmnfokbinplaa
open Go Go.RowKit
set_option maxRecDepth 100000
set_option linter.unusedSimpArgs false
set_option linter.unusedVariables false

set_option maxHeartbeats 4000000 in
theorem walk_c (op m : Int) (v : Val) (ar : List Ex) (es : List (List PV)) (hes : ar.map Ex.cells = es) (IH : ∀ x, x ∈ ar → WalkC x) (d n h : Int) (hd0 : 0 ≤ d) (hd1 : d ≤ 41) (hn0 : 0 ≤ n) (hn1 : n ≤ 400) :
    ACall Try.prog 131 [.p (.ip [.int .i64 op, .int .i64 m, .int .i64 v.k, .int .i64 v.n, .str v.s, .sl es]), .p (.int .i64 d), .ref 0 0, .ref 1 0, .ref 2 0] (wH n h) fun r H' => r = .p (.bool (walkE (.mk op m v ar) d n h).1) ∧ takeX H' 3 = wH (walkE (.mk op m v ar) d n h).2.1 (walkE (.mk op m v ar) d n h).2.2 := by
  have hel : es.length = ar.length := by rw [← hes]; simp
  obtain ⟨q, hq⟩ : ∃ q, walkE (.mk op m v ar) d n h = q := ⟨_, rfl⟩
  rw [hq]
  rw [walkE] at hq
  obtain ⟨vk, vn, vs⟩ := v
  have hw1 : IntKind.i64.wrap (n + 1) = n + 1 := wrap_in (by omega)
  have hsz : ((⟨vk, vn, vs⟩ : Val).s.size : Int) = vs.size := rfl
  have hfail : ∀ (zn zh : Int), IntKind.i64.wrap (n + 1) = zn → (if h < d then d else h) = zh →
      (decide (400 < zn) = true ∨ decide (40 < d) = true ∨ (∃ za zl, (!decide (za = zl)) = true ∧ arityE op = za ∧ (es.length : Int) = zl) ∨ (decide (op = 1) = true ∧ decide (m < 0) = true) ∨ (decide (op = 2) = true ∧ decide (vk = 2) = true ∧ ∃ zs, decide ((1000 : Int) < zs) = true ∧ (vs.size : Int) = zs)) → q = (false, zn, zh) := by
    intro zn zh h1 h2 h3
    rw [hw1] at h1
    subst h1 h2
    rw [← hq, if_pos]
    · rfl
    · simp only [badE, Bool.or_eq_true, Bool.and_eq_true, decide_eq_true_eq, Bool.not_eq_true', decide_eq_false_iff_not] at h3 ⊢
      rcases h3 with h3 | h3 | ⟨za, zl, h3, h4, h5⟩ | ⟨h3, h4⟩ | ⟨h3, h4, zs, h5, h6⟩
      · exact .inl (.inl h3)
      · exact .inl (.inr h3)
      · right; left; left; rw [h4, ← hel, h5]; exact h3
      · right; left; right; exact ⟨h3, h4⟩
      · right; right; exact ⟨⟨h3, h4⟩, by rw [hsz, h6]; exact h5⟩
  have hgo : ∀ (zn zh za zl : Int), IntKind.i64.wrap (n + 1) = zn → (if h < d then d else h) = zh → decide (400 < zn) = false → decide (40 < d) = false → (!decide (za = zl)) = false → arityE op = za → (es.length : Int) = zl →
      (decide (op = 1) = false ∨ decide (m < 0) = false) → (decide (op = 2) = false ∨ decide (vk = 2) = false ∨ ∃ zs, decide ((1000 : Int) < zs) = false ∧ (vs.size : Int) = zs) → walkL ar (d + 1) zn zh = q ∧ 0 ≤ zn ∧ zn ≤ 400 ∧ d ≤ 40 ∧ (es.length : Int) ≤ 3 := by
    intro zn zh za zl h1 h2 h3 h4 h5 h6 h7 h8 h9
    rw [hw1] at h1
    subst h1 h2
    simp only [decide_eq_false_iff_not, Bool.not_eq_false', decide_eq_true_eq] at h3 h4 h5
    have ha3 : arityE op ≤ 3 := by unfold arityE; (repeat' split) <;> omega
    refine ⟨?_, by omega, by omega, by omega, by omega⟩
    show walkL ar (d + 1) (n + 1) (mx h d) = q
    rw [← hq, if_neg]
    · simp only [badE, Bool.or_eq_true, Bool.and_eq_true, decide_eq_true_eq, Bool.not_eq_true', decide_eq_false_iff_not, not_or, not_and, Decidable.not_not]
      simp only [decide_eq_false_iff_not] at h8 h9
      refine ⟨⟨h3, h4⟩, ⟨by rw [h6, ← hel, h7]; exact h5, fun a b => ?_⟩, fun a b => ?_⟩
      · rcases h8 with g | g
        · exact g a
        · exact g b
      · rcases h9 with g | g | ⟨zs, g, k⟩
        · exact absurd a.1 g
        · exact absurd a.2 g
        · rw [hsz, k] at b; exact g b
  clear hq
  refine ACall.x (nt := 91) (res := [.tmp 7]) mixed tt_ok [] Try.func131 rfl rfl rfl c131 (Nat.le_of_ble_eq_true rfl) ?_
  intro cp cc lp Q' hcp hcc hlp hQ
  repeat' (first
    | (with_reducible refine Nm.mk ?_; intro z hz)
    | (with_reducible refine IfB.mk ?_ ?_ <;> (intro h; cases h))
    | (with_reducible refine Two.l ?_; refine Asm.mk ?_ ?_; focus (decide +kernel))
    | (with_reducible refine Two.r ?_)
    | (with_reducible refine Asm.mk ?_ ?_; focus (first | kernel_rfl | decide))
    | (with_reducible refine isCP hcp ?_; first | (refine iP hcp (arity_c op) ?_; intro z hz))
    | (with_reducible refine isCC hcc ?_; first | (refine iA hcc (arity_c op) rfl ?_; intro z hz))
    | (with_reducible refine Asm.mk2 ?_ ?_)
    | ((fail_if_success (with_reducible first | refine hQ _ _ ?_ | refine Side.mk ?_ | refine isCP hcp ?_ | refine isCC hcc ?_ | refine isLP hlp ?_ | refine Ix.mk ?_ | refine SIx.mk ?_ | refine SEx.mk ?_ | refine EIx.mk ?_ | refine RIx.mk ?_ | show False | refine hR ?_ _ ?_ ?_ ?_ ?_ ?_ | refine hR2 ?_ _ ?_ ?_ ?_ ?_ ?_)); cbv))
  all_goals first
    | (have e : q = _ := hfail _ _ (by assumption) (by assumption) (by first | exact .inl (by assumption) | exact .inr (.inl (by assumption)) | exact .inr (.inr (.inl ⟨_, _, by assumption, by assumption, by assumption⟩)) | exact .inr (.inr (.inr (.inl ⟨by assumption, by assumption⟩))) | exact .inr (.inr (.inr (.inr ⟨by assumption, by assumption, _, by assumption, by assumption⟩))))
       refine hQ _ _ ⟨?_, ?_⟩
       · rw [e]; rfl
       · rw [e]; rfl)
    | (obtain ⟨e, hzn0, hzn1, hd40, hl3⟩ := hgo _ _ _ _ (by assumption) (by assumption) (by assumption) (by assumption) (by assumption) (by assumption) (by assumption) (by first | exact .inl (by assumption) | exact .inr (by assumption)) (by first | exact .inl (by assumption) | exact .inr (.inl (by assumption)) | exact .inr (.inr ⟨_, by assumption, by assumption⟩))
       have hwd : IntKind.i64.wrap (d + 1) = d + 1 := wrap_in (by omega)
       simp only [nc] at hz
       simp only [nc'] at hz
       have hzl := hz
       clear hz
       rename Int => zl
       refine loopX (ι := Int × Int × Int) mixed tt_ok hcp hcc hlp [0, 1, 2, 3, 4, 75] (fun p => [(76, .p (.int .i64 p.1))]) (fun p => wH p.2.1 p.2.2)
         (fun p => 0 ≤ p.1 ∧ p.1 ≤ zl ∧ 0 ≤ p.2.1 ∧ p.2.1 ≤ 400 ∧ walkL (ar.drop p.1.toNat) (d + 1) p.2.1 p.2.2 = q) (fun p => (zl - p.1).toNat) (0, _, _)
         ⟨by show (0 : Int) ≤ 0; omega, by show (0 : Int) ≤ zl; omega, hzn0, hzn1, e⟩ ⟨rfl, trivial⟩ rfl ?_
       rintro R ⟨i, n1, h1⟩ ⟨hi0, hi1, hb0, hb1, hw⟩ hR
       have hi0 : 0 ≤ i := hi0
       have hi1 : i ≤ zl := hi1
       have hb0 : 0 ≤ n1 := hb0
       have hb1 : n1 ≤ 400 := hb1
       have hw : walkL (ar.drop i.toNat) (d + 1) n1 h1 = q := hw
       have hk : decide (i < zl) = true → i < ar.length := by simp only [decide_eq_true_eq]; omega
       have hdr : ∀ x, ar[i.toNat]? = some x → ar.drop i.toNat = x :: ar.drop (i + 1).toNat := by
         intro x hx
         have hlt := (List.getElem?_eq_some_iff.1 hx).1
         rw [List.drop_eq_getElem_cons hlt, show (i + 1).toNat = i.toNat + 1 by omega]
         congr 1
         exact (List.getElem?_eq_some_iff.1 hx).2
       have hend : decide (i < zl) = false → q = (true, n1, h1) := by
         intro hf
         simp only [decide_eq_false_iff_not] at hf
         rw [← hw, List.drop_eq_nil_of_le (by omega)]; rfl
       have hstep : ∀ x b n2 h2, ar[i.toNat]? = some x → walkE x (d + 1) n1 h1 = (b, n2, h2) → (b = false → q = (false, n2, h2)) ∧ (b = true → walkL (ar.drop (i + 1).toNat) (d + 1) n2 h2 = q ∧ 0 ≤ n2 ∧ n2 ≤ 400) := by
         intro x b n2 h2 hx he
         have hn := walkE_nodes _ _ _ _ _ _ _ hb0 hb1 he
         rw [hdr x hx, walkL, he] at hw
         constructor
         · intro hb; subst hb; exact hw.symm
         · intro hb; subst hb; exact ⟨hw, hn.1, (hn.2.2 rfl).2⟩
       have hcallr : ∀ (op' m' vk' vn' : Int) (vs' : ByteArray) (ar' : List Ex) (es' : List (List PV)) (z' : Int), ar[i.toNat]? = some (.mk op' m' ⟨vk', vn', vs'⟩ ar') → ar'.map Ex.cells = es' → IntKind.i64.wrap (d + 1) = z' → ∃ b n2 h2, (walkE (.mk op' m' ⟨vk', vn', vs'⟩ ar') (d + 1) n1 h1 = (b, n2, h2) ∧ z' = d + 1) ∧
           ACall Try.prog 131 [.p (.ip [.int .i64 op', .int .i64 m', .int .i64 vk', .int .i64 vn', .str vs', .sl es']), .p (.int .i64 z'), .ref 0 0, .ref 1 0, .ref 2 0] (wH n1 h1) fun r H' => r = .p (.bool b) ∧ takeX H' 3 = wH n2 h2 := by
         intro op' m' vk' vn' vs' ar' es' z' hx he hz'
         rw [hwd] at hz'
         subst hz'
         obtain ⟨b, n2, h2, k1, k2⟩ := IH _ (List.mem_of_getElem? hx) _ (d + 1) n1 h1 (by rw [cells_mk, he]) (by omega) (by omega) hb0 hb1
         exact ⟨b, n2, h2, ⟨k1, rfl⟩, k2⟩
       repeat' (first
         | (with_reducible refine Nm.mk ?_; intro z hz)
         | (with_reducible refine IfB.mk ?_ ?_ <;> (intro h; cases h))
         | (with_reducible refine Two.l ?_; refine Asm.mk ?_ ?_; focus (decide +kernel))
         | (with_reducible refine Two.r ?_)
         | (with_reducible refine Asm.mk ?_ ?_; focus kernel_rfl)
         | (with_reducible refine Ix.ex hes hi0 (hk (by assumption)) ?_; intro op' m' vk' vn' vs' ar' es' hx hes')
         | (with_reducible refine isCC hcc ?_; obtain ⟨b', n2, h2, ⟨hwe, hz'⟩, hcall⟩ := hcallr _ _ _ _ _ _ _ _ hx hes' (by assumption); refine frameA (H1 := wH n2 h2) hcc [0, 1, 2] hcall rfl rfl rfl rfl rfl ?_)
         | (with_reducible refine Asm.mk2 ?_ ?_)
         | ((fail_if_success (with_reducible first | refine hQ _ _ ?_ | refine Side.mk ?_ | refine isCP hcp ?_ | refine isCC hcc ?_ | refine isLP hlp ?_ | refine Ix.mk ?_ | refine SIx.mk ?_ | refine SEx.mk ?_ | refine EIx.mk ?_ | refine RIx.mk ?_ | show False | refine hR ?_ _ ?_ ?_ ?_ ?_ ?_ | refine hR2 ?_ _ ?_ ?_ ?_ ?_ ?_)); cbv))
       all_goals first
         | (have hb' : (!b') = true := by assumption
            have e : q = (false, n2, h2) := (hstep _ _ _ _ hx hwe).1 (by simpa using hb')
            refine hQ _ _ ⟨?_, ?_⟩
            · rw [e]; rfl
            · rw [e]; rfl)
         | (have hb' : (!b') = false := by assumption
            obtain ⟨g1, g2, g3⟩ := (hstep _ _ _ _ hx hwe).2 (by simpa using hb')
            have hlt := hk (by assumption)
            have e1 : IntKind.i64.wrap (i + 1) = i + 1 := wrap_in (by omega)
            rw [e1] at hz
            refine hR (i + 1, n2, h2) _ ⟨by show 0 ≤ i + 1; omega, by show i + 1 ≤ _; clear hR hQ; simp only [decide_eq_true_eq] at *; omega, g2, g3, g1⟩ (by show Int.toNat _ < Int.toNat _; clear hR hQ; simp only [decide_eq_true_eq] at *; omega) ⟨hz ▸ rfl, trivial⟩ ⟨rfl, rfl, rfl, rfl, rfl, rfl, trivial⟩ rfl)
         | (have e : q = (true, n1, h1) := hend (by assumption)
            refine hQ _ _ ⟨?_, ?_⟩
            · rw [e]; rfl
            · rw [e]; rfl))
end Go.Proofs.Ytnhmnfokbinplaa

namespace Go.Proofs.Ytnhmnfokbinplaa
open Go Go.RowKit
set_option maxRecDepth 100000
set_option linter.unusedSimpArgs false
set_option linter.unusedVariables false

theorem walk_all : ∀ (k : Nat) (e : Ex), e.sz ≤ k → WalkC e
  | 0, .mk op m v ar, h => by simp [Ex.sz] at h
  | k + 1, .mk op m v ar, h => by
    intro cells d n h' he hd0 hd1 hn0 hn1
    refine ⟨_, _, _, rfl, ?_⟩
    rw [cells_mk] at he
    subst he
    refine walk_c op m v ar _ rfl (fun x hx => walk_all k x ?_) d n h' hd0 hd1 hn0 hn1
    have := sz_mem hx
    simp only [Ex.sz] at h; omega
def sizeM (e : Ex) : Int × Int := if (walkE e 1 0 0).1 = true then ((walkE e 1 0 0).2.1, (walkE e 1 0 0).2.2) else (401, 41)
def builtM (e : Ex) : Bool := decide ((sizeM e).1 ≤ 400)

theorem esize_c (op n vk vn : Int) (vs : ByteArray) (ar : List Ex) (es : List (List PV)) (hes : ar.map Ex.cells = es) :
    PCall Try.prog 67 [.agg [.int .i64 op, .int .i64 n, .int .i64 vk, .int .i64 vn, .str vs, .sl es]] fun r => r = [.int .i64 (sizeM (.mk op n ⟨vk, vn, vs⟩ ar)).1, .int .i64 (sizeM (.mk op n ⟨vk, vn, vs⟩ ar)).2] := by
  obtain ⟨b, n', h', hw, hcall⟩ := walk_all _ (.mk op n ⟨vk, vn, vs⟩ ar) (Nat.le_refl _) _ 1 0 0 (by rw [cells_mk]) (by decide) (by decide) (by decide) (by decide)
  have hs : sizeM (.mk op n ⟨vk, vn, vs⟩ ar) = if b = true then (n', h') else (401, 41) := by unfold sizeM; rw [hw]
  rw [hes] at hcall
  refine PCall.x (nt := 13) (res := [.tmp 2, .tmp 3]) mixed tt_ok [(131, [0])] Try.func67 rfl rfl rfl c67 (Nat.le_of_ble_eq_true rfl) ?_
  intro cp cc lp Q' hcp hcc hlp hQ
  repeat' (first
    | (with_reducible refine Nm.mk ?_; intro z hz)
    | (with_reducible refine IfB.mk ?_ ?_ <;> (intro h; cases h))
    | (with_reducible refine Two.l ?_; refine Asm.mk ?_ ?_; focus (decide +kernel))
    | (with_reducible refine Two.r ?_)
    | (with_reducible refine Asm.mk ?_ ?_; focus kernel_rfl)
    | (with_reducible refine isCC hcc ?_; refine frameA (H1 := wH n' h') hcc [1, 2, 3] hcall rfl rfl rfl rfl rfl ?_)
    | (with_reducible refine Asm.mk2 ?_ ?_)
    | ((fail_if_success (with_reducible first | refine hQ _ ?_ | refine Side.mk ?_ | refine isCP hcp ?_ | refine isCC hcc ?_ | refine isLP hlp ?_ | refine Ix.mk ?_ | refine SIx.mk ?_ | refine SEx.mk ?_ | refine EIx.mk ?_ | refine RIx.mk ?_ | show False | refine hR ?_ _ ?_ ?_ ?_ ?_ ?_ | refine hR2 ?_ _ ?_ ?_ ?_ ?_ ?_)); cbv))
  all_goals (refine hQ _ ?_; clear hQ hcp hcc hlp; rw [hs]; cases b <;> first | rfl | (simp at hz; done))
theorem ebuilt_c (op n vk vn : Int) (vs : ByteArray) (ar : List Ex) (es : List (List PV)) (hes : ar.map Ex.cells = es) :
    PCall Try.prog 115 [.agg [.int .i64 op, .int .i64 n, .int .i64 vk, .int .i64 vn, .str vs, .sl es]] fun r => r = [.bool (builtM (.mk op n ⟨vk, vn, vs⟩ ar))] := by
  have hs := esize_c op n vk vn vs ar es hes
  unfold builtM
  obtain ⟨q, hq⟩ : ∃ q, sizeM (.mk op n ⟨vk, vn, vs⟩ ar) = q := ⟨_, rfl⟩
  rw [hq] at hs ⊢
  refine PCall.x (nt := 12) (res := [.tmp 2]) mixed tt_ok [] Try.func115 rfl rfl rfl c115 (Nat.le_of_ble_eq_true rfl) ?_
  intro cp cc lp Q' hcp hcc hlp hQ
  repeat' (first
    | (with_reducible refine Nm.mk ?_; intro z hz)
    | (with_reducible refine IfB.mk ?_ ?_ <;> (intro h; cases h))
    | (with_reducible refine Two.l ?_; refine Asm.mk ?_ ?_; focus (decide +kernel))
    | (with_reducible refine Two.r ?_)
    | (with_reducible refine Asm.mk ?_ ?_; focus (first | kernel_rfl | decide))
    | (with_reducible refine isCP hcp ?_; first | (refine iiP hcp (hs) ?_; intro z w hz hw))
    | (with_reducible refine isCC hcc ?_; first | (refine iiA hcc (hs) rfl ?_; intro z w hz hw))
    | (with_reducible refine Asm.mk2 ?_ ?_)
    | ((fail_if_success (with_reducible first | refine hQ _ ?_ | refine Side.mk ?_ | refine isCP hcp ?_ | refine isCC hcc ?_ | refine isLP hlp ?_ | refine Ix.mk ?_ | refine SIx.mk ?_ | refine SEx.mk ?_ | refine EIx.mk ?_ | refine RIx.mk ?_ | show False | refine hR ?_ _ ?_ ?_ ?_ ?_ ?_ | refine hR2 ?_ _ ?_ ?_ ?_ ?_ ?_)); cbv))
  all_goals (refine hQ _ ?_; clear hQ hcp hcc hlp hs; subst_vars; rfl)
end Go.Proofs.Ytnhmnfokbinplaa

namespace Go.Proofs.Ytnhmnfokbinplaa
open Go Go.RowKit
set_option maxRecDepth 100000
set_option linter.unusedSimpArgs false
set_option linter.unusedVariables false

section
variable {P : Program} {cp : FuncId → List PV → (CR → Prop) → Prop} {cc : FuncId → List AV → List AObj → (AV → List AObj → Prop) → Prop} {f : FuncId} {args : List PV} {aargs : List AV} {H : List AObj}
theorem exP (hcp : PC1 P = cp) {X : Ex} {K : CR → Prop} (h : PCall P f args fun r => r = [.agg X.cells]) (k : ∀ op n vk vn vs ar es, X = .mk op n ⟨vk, vn, vs⟩ ar → ar.map Ex.cells = es → K (.pure [.agg [.int .i64 op, .int .i64 n, .int .i64 vk, .int .i64 vn, .str vs, .sl es]])) : cp f args K := by
  obtain ⟨op, n, ⟨vk, vn, vs⟩, ar⟩ := X
  rw [cells_mk] at h
  exact callP hcp h fun _ e => e ▸ k op n vk vn vs ar _ rfl rfl
theorem exA (hcc : ACall P = cc) {X : Ex} {K : AV → List AObj → Prop} (h : PCall P f args fun r => r = [.agg X.cells]) (ha : optL pureX aargs = some args) (k : ∀ op n vk vn vs ar es, X = .mk op n ⟨vk, vn, vs⟩ ar → ar.map Ex.cells = es → K (.p (.agg [.int .i64 op, .int .i64 n, .int .i64 vk, .int .i64 vn, .str vs, .sl es])) H) : cc f aargs H K := by
  obtain ⟨op, n, ⟨vk, vn, vs⟩, ar⟩ := X
  rw [cells_mk] at h
  exact callA hcc ha h fun _ e => e ▸ k op n vk vn vs ar _ rfl rfl
theorem pure_p : ∀ cs : List PV, optL pureX (mapX .p cs) = some cs
  | [] => rfl
  | c :: r => by
    have : pureX (.p c) = some c := by rw [pureX_eq]; cases c <;> rfl
    simp only [mapX, optL, this, pure_p r]
theorem ha1 {x : AV} {y : PV} {cs : List PV} (hx : pureX x = some y) : optL pureX (x :: mapX .p cs) = some (y :: cs) := by simp only [optL, hx, pure_p]
theorem hb1 {x : AV} {y : PV} {cs : List PV} (hx : pureX x = some y) : optL pureX (catX [x] (mapX .p cs)) = some (y :: cs) := ha1 hx
theorem hb2 {x x' : AV} {y y' : PV} {cs : List PV} (hx : pureX x = some y) (hx' : pureX x' = some y') : optL pureX (catX [x, x'] (mapX .p cs)) = some (y :: y' :: cs) := by
  show optL pureX (x :: x' :: mapX .p cs) = _
  simp only [optL, hx, hx', pure_p]
end

mutual
def mapE (g : Ex → Ex) : Ex → Ex
  | .mk op n v ar => g (.mk op (if op = 1 then n else 0) (if op = 1 then Val.zero else if op = 2 then clean v else Val.zero) (mapL g ar))
def mapL (g : Ex → Ex) : List Ex → List Ex
  | [] => []
  | e :: r => mapE g e :: mapL g r
end
theorem mapL_eq (g : Ex → Ex) : ∀ l : List Ex, mapL g l = l.map (mapE g)
  | [] => rfl
  | e :: r => by simp [mapL, mapL_eq g r]

theorem same_c (op n : Int) (vk vn : Int) (vs : ByteArray) (es : List (List PV)) : PCall Try.prog 117 [.agg [.int .i64 op, .int .i64 n, .int .i64 vk, .int .i64 vn, .str vs, .sl es]] fun r => r = [.agg [.int .i64 op, .int .i64 n, .int .i64 vk, .int .i64 vn, .str vs, .sl es]] := by
  refine PCall.x (nt := 4) (res := [.cell 2 80]) mixed tt_ok [] Try.func117 rfl rfl rfl c117 (Nat.le_of_ble_eq_true rfl) ?_
  intro cp cc lp Q' hcp hcc hlp hQ
  repeat' (first
    | (with_reducible refine Nm.mk ?_; intro z hz)
    | (with_reducible refine IfB.mk ?_ ?_ <;> (intro h; cases h))
    | (with_reducible refine Two.l ?_; refine Asm.mk ?_ ?_; focus (decide +kernel))
    | (with_reducible refine Two.r ?_)
    | (with_reducible refine Asm.mk ?_ ?_; focus (first | kernel_rfl | decide))
    | (with_reducible refine Asm.mk2 ?_ ?_)
    | ((fail_if_success (with_reducible first | refine hQ _ ?_ | refine Side.mk ?_ | refine isCP hcp ?_ | refine isCC hcc ?_ | refine isLP hlp ?_ | refine Ix.mk ?_ | refine SIx.mk ?_ | refine SEx.mk ?_ | refine EIx.mk ?_ | refine RIx.mk ?_ | show False | refine hR ?_ _ ?_ ?_ ?_ ?_ ?_ | refine hR2 ?_ _ ?_ ?_ ?_ ?_ ?_)); cbv))
  all_goals (refine hQ _ ?_; clear hQ hcp hcc hlp; subst_vars; simp_all [])

theorem takeS {α : Type} {l : List α} {i : Nat} {x : α} (h : l[i]? = some x) : l.take (i + 1) = l.take i ++ [x] := by rw [List.take_add_one, h]; rfl
theorem okEs_cells (l : List Ex) : okEs 6 (l.map Ex.cells) = true := by
  simp only [okEs, List.all_map, List.all_eq_true]
  intro e _
  obtain ⟨a, b, c, d⟩ := e
  simp [cells_mk, PV.one]
def wideN (n : Nat) : Prop := n * 72 ≤ 140737488355328
set_option maxHeartbeats 1000000 in
theorem mapped_c (g : Ex → Ex) (k : Nat) (caps : List PV) (C : Ex → Prop) (hg : ∀ (op n vk vn : Int) (vs : ByteArray) (ar : List Ex) (es : List (List PV)), C (.mk op n ⟨vk, vn, vs⟩ ar) → ar.map Ex.cells = es → PCall Try.prog k (.agg [.int .i64 op, .int .i64 n, .int .i64 vk, .int .i64 vn, .str vs, .sl es] :: caps) fun r => r = [.agg (g (.mk op n ⟨vk, vn, vs⟩ ar)).cells])
    (op n : Int) (v : Val) (ar : List Ex) (es : List (List PV)) (hes : ar.map Ex.cells = es) (hs : wideN ar.length) (hC : C (.mk op (if op = 1 then n else 0) (if op = 1 then Val.zero else if op = 2 then clean v else Val.zero) (ar.map (mapE g))))
    (IH : ∀ x, x ∈ ar → PCall Try.prog 116 [.agg x.cells, .fn k caps] fun r => r = [.agg (mapE g x).cells]) :
    PCall Try.prog 116 [.agg [.int .i64 op, .int .i64 n, .int .i64 v.k, .int .i64 v.n, .str v.s, .sl es], .fn k caps] fun r => r = [.agg (mapE g (.mk op n v ar)).cells] := by
  have hel : es.length = ar.length := by rw [← hes]; simp
  obtain ⟨q, hq⟩ : ∃ q, mapE g (.mk op n v ar) = q := ⟨_, rfl⟩
  rw [hq]
  rw [mapE, mapL_eq] at hq
  obtain ⟨vk, vn, vs⟩ := v
  unfold wideN at hs
  have hmc : ∀ (op' m' vk' vn' : Int) (vs' : ByteArray) (ar' : List Ex) (es' : List (List PV)) (i : Nat), ar[i]? = some (.mk op' m' ⟨vk', vn', vs'⟩ ar') → ar'.map Ex.cells = es' →
      PCall Try.prog 116 [.agg [.int .i64 op', .int .i64 m', .int .i64 vk', .int .i64 vn', .str vs', .sl es'], .fn k caps] fun r => r = [.agg (mapE g (.mk op' m' ⟨vk', vn', vs'⟩ ar')).cells] := by
    intro op' m' vk' vn' vs' ar' es' i hx he
    have := IH _ (List.mem_of_getElem? hx)
    rw [cells_mk, he] at this
    exact this
  refine PCall.x (nt := 43) (res := [.cell 4 80]) mixed tt_ok [] Try.func116 rfl rfl rfl c116 (Nat.le_of_ble_eq_true rfl) ?_
  intro cp cc lp Q' hcp hcc hlp hQ
  repeat' (first
    | (with_reducible refine Nm.mk ?_; intro z hz)
    | (with_reducible refine IfB.mk ?_ ?_ <;> (intro h; cases h))
    | (with_reducible refine Two.l ?_; refine Asm.mk ?_ ?_; focus (decide +kernel))
    | (with_reducible refine Two.r ?_)
    | (with_reducible refine Asm.mk ?_ ?_; focus (first | kernel_rfl | decide))
    | (with_reducible refine isCP hcp ?_; first | (refine vP hcp (clean_c vk vn vs) ?_; intro v hv))
    | (with_reducible refine isCC hcc ?_; first | (refine vA hcc (clean_c vk vn vs) rfl ?_; intro v hv))
    | (with_reducible refine Asm.mk2 ?_ ?_)
    | ((fail_if_success (with_reducible first | refine hQ _ ?_ | refine Side.mk ?_ | refine isCP hcp ?_ | refine isCC hcc ?_ | refine isLP hlp ?_ | refine Ix.mk ?_ | refine SIx.mk ?_ | refine SEx.mk ?_ | refine EIx.mk ?_ | refine RIx.mk ?_ | show False | refine hR ?_ _ ?_ ?_ ?_ ?_ ?_ | refine hR2 ?_ _ ?_ ?_ ?_ ?_ ?_)); cbv))
  · have hq' : g (.mk op n ⟨0, 0, ⟨⟨[]⟩⟩⟩ (ar.map (mapE g))) = q := by
      rw [← hq]
      clear hQ hcp hcc hlp hmc hg IH
      first
        | (have e : op = 1 := of_decide_eq_true (by assumption)
           subst e; rfl)
        | (have e : op = 2 := of_decide_eq_true (by assumption)
           subst e; subst_vars; rfl)
        | (have e1 : ¬ op = 1 := of_decide_eq_false (by assumption)
           have e2 : ¬ op = 2 := of_decide_eq_false (by assumption)
           rw [if_neg e1, if_neg e1, if_neg e2]; rfl)
    have hC' : C (.mk op n ⟨0, 0, ⟨⟨[]⟩⟩⟩ (ar.map (mapE g))) := by
      clear hQ hcp hcc hlp hmc hg IH hq hq'
      first
        | (have e : op = 1 := of_decide_eq_true (by assumption)
           subst e; exact hC)
        | (have e : op = 2 := of_decide_eq_true (by assumption)
           subst e; subst_vars; exact hC)
        | (have e1 : ¬ op = 1 := of_decide_eq_false (by assumption)
           have e2 : ¬ op = 2 := of_decide_eq_false (by assumption)
           rw [if_neg e1, if_neg e1, if_neg e2] at hC; exact hC)
    clear hq
    simp only [nc] at hz
    simp only [nc'] at hz
    have hzl := hz
    clear hz
    rename Int => zl
    refine mintX hlp 6 2 5 rfl rfl ?_
    refine loopT (ι := Int × List (List PV) × Nat) mixed tt_ok hcp hcc hlp [1, 2, 4, 5, 25, 26] (fun p => [(27, .p (.int .i64 p.1))])
      (fun p => [.cells [.p (.int .i64 op), .p (.int .i64 n), .p (.int .i64 vk), .p (.int .i64 vn), .p (.str vs), .p (.sl es)], .cells [.p (.int .i64 0), .p (.int .i64 0), .p (.int .i64 0), .p (.int .i64 0), .p (.str ⟨⟨[]⟩⟩), .full []],
        .cells [.p (.int .i64 op), .p (.int .i64 n), .p (.int .i64 0), .p (.int .i64 0), .p (.str ⟨⟨[]⟩⟩), .tok 3 p.2.1], .spare p.2.2 6])
      (fun p => 0 ≤ p.1 ∧ p.1 ≤ zl ∧ (ar.take p.1.toNat).map (fun e => (mapE g e).cells) = p.2.1 ∧ p.2.1.length = p.2.2) (fun p => (zl - p.1).toNat)
      (0, [], 0) 4 (fun _ => rfl) ⟨by show (0 : Int) ≤ 0; omega, by show (0 : Int) ≤ zl; omega, by simp, rfl⟩ ⟨rfl, trivial⟩ rfl ?_
    rintro R ⟨i, L, m⟩ ⟨hi0, hi1, hl, hm⟩ hR
    have hi0 : 0 ≤ i := hi0
    have hi1 : i ≤ zl := hi1
    have hl : (ar.take i.toNat).map (fun e => (mapE g e).cells) = L := hl
    have hm : L.length = m := hm
    have hll : L.length ≤ i.toNat := by rw [← hl]; simp; omega
    have hok : okEs 6 L = true := by
      rw [← hl, show (fun e => (mapE g e).cells) = Ex.cells ∘ mapE g from rfl, ← List.map_map]; exact okEs_cells _
    have hk : decide (i < zl) = true → i < ar.length := by simp only [decide_eq_true_eq]; omega
    have hst : decide (i < zl) = true → L.length + 1 ≤ maxLen ∧ (L.length + 1) * 72 ≤ 140737488355328 ∧ IntKind.i64.wrap (i + 1) = i + 1 ∧ (0 ≤ i + 1 ∧ i + 1 ≤ zl) ∧ (zl - (i + 1)).toNat < (zl - i).toNat := by
      intro h
      have hlt := hk h
      simp only [decide_eq_true_eq] at h
      refine ⟨by simp only [maxLen]; omega, by omega, wrap_in (by omega), by omega, by omega⟩
    have hfin : decide (i < zl) = false → (ar.map (mapE g)).map Ex.cells = L := by
      simp only [decide_eq_false_iff_not]; intro h
      rw [← hl, List.take_of_length_le (by omega), List.map_map]; rfl
    repeat' (first
      | (with_reducible refine Nm.mk ?_; intro z hz)
      | (with_reducible refine IfB.mk ?_ ?_ <;> (intro h; cases h))
      | (with_reducible refine Two.l ?_; refine Asm.mk ?_ ?_; focus (decide +kernel))
      | (with_reducible refine Two.r ?_)
      | (with_reducible refine Asm.mk ?_ ?_; focus (first | kernel_rfl | (have hlt := hk (by assumption); clear hR hQ hk hfin; refine ⟨hm.symm, rfl, hok, rfl, ?_, ?_⟩ <;> simp only [List.length_cons, List.length_nil, maxLen] <;> omega)))
      | (with_reducible refine isCP hcp ?_; first | (refine exP hcp (hmc _ _ _ _ _ _ _ i.toNat (by assumption) (by assumption)) ?_; intro op2 n2 vk2 vn2 vs2 ar2 es2 hX hes2))
      | (with_reducible refine isCC hcc ?_; first | (refine exA hcc (hmc _ _ _ _ _ _ _ i.toNat (by assumption) (by assumption)) rfl ?_; intro op2 n2 vk2 vn2 vs2 ar2 es2 hX hes2))
      | (with_reducible refine Ix.ex hes hi0 (hk (by assumption)) ?_; intro op' m' vk' vn' vs' ar' es' hx hes')
      | (with_reducible refine isCC hcc ?_; refine exA hcc (hg _ _ _ _ _ (ar.map (mapE g)) _ hC' (hfin (by assumption))) (hb1 rfl) ?_; intro op2 n2 vk2 vn2 vs2 ar2 es2 hX hes2)
      | (with_reducible refine Asm.mk2 ?_ ?_)
      | ((fail_if_success (with_reducible first | refine hQ _ ?_ | refine Side.mk ?_ | refine isCP hcp ?_ | refine isCC hcc ?_ | refine isLP hlp ?_ | refine Ix.mk ?_ | refine SIx.mk ?_ | refine SEx.mk ?_ | refine EIx.mk ?_ | refine RIx.mk ?_ | show False | refine hR ?_ _ ?_ ?_ ?_ ?_ ?_ | refine hR2 ?_ _ ?_ ?_ ?_ ?_ ?_)); cbv))
    · refine Side.mk ?_
      obtain ⟨u1, u2, u3⟩ := hst (by assumption)
      exact ⟨hm.symm, rfl, hok, rfl, u1, u2⟩
    · obtain ⟨u1, u2, e1, u3, u4⟩ := hst (by assumption)
      rw [e1] at hz
      rename_i L2 hL2 m2 hm2
      have et : ar.take (i + 1).toNat = ar.take i.toNat ++ [.mk op' m' ⟨vk', vn', vs'⟩ ar'] := by rw [show (i + 1).toNat = i.toNat + 1 by omega, takeS hx]
      refine hR (i + 1, _, _) _ ⟨u3.1, u3.2, ?_, ?_⟩ u4 ⟨hz ▸ rfl, trivial⟩ ⟨rfl, rfl, rfl, rfl, rfl, rfl, trivial⟩ rfl
      · show (ar.take (i + 1).toNat).map (fun e => (mapE g e).cells) = L2
        rw [et, List.map_append, hl, ← hL2]
        simp only [List.map_cons, List.map_nil, hX, cells_mk, hes2]
      · show L2.length = m2
        rw [← hL2, ← hm2, List.length_append]
    · refine hQ _ ?_
      rw [← hq']
      have hX' := hX
      rw [hX', cells_mk, hes2]
  · have hq' : g (.mk op 0 ⟨v.k, v.n, v.s⟩ (ar.map (mapE g))) = q := by
      rw [← hq]
      clear hQ hcp hcc hlp hmc hg IH
      first
        | (have e : op = 1 := of_decide_eq_true (by assumption)
           subst e; rfl)
        | (have e : op = 2 := of_decide_eq_true (by assumption)
           subst e; subst_vars; rfl)
        | (have e1 : ¬ op = 1 := of_decide_eq_false (by assumption)
           have e2 : ¬ op = 2 := of_decide_eq_false (by assumption)
           rw [if_neg e1, if_neg e1, if_neg e2]; rfl)
    have hC' : C (.mk op 0 ⟨v.k, v.n, v.s⟩ (ar.map (mapE g))) := by
      clear hQ hcp hcc hlp hmc hg IH hq hq'
      first
        | (have e : op = 1 := of_decide_eq_true (by assumption)
           subst e; exact hC)
        | (have e : op = 2 := of_decide_eq_true (by assumption)
           subst e; subst_vars; exact hC)
        | (have e1 : ¬ op = 1 := of_decide_eq_false (by assumption)
           have e2 : ¬ op = 2 := of_decide_eq_false (by assumption)
           rw [if_neg e1, if_neg e1, if_neg e2] at hC; exact hC)
    clear hq
    simp only [nc] at hz
    simp only [nc'] at hz
    have hzl := hz
    clear hz
    rename Int => zl
    refine mintX hlp 6 2 5 rfl rfl ?_
    refine loopT (ι := Int × List (List PV) × Nat) mixed tt_ok hcp hcc hlp [1, 2, 4, 5, 25, 26] (fun p => [(27, .p (.int .i64 p.1))])
      (fun p => [.cells [.p (.int .i64 op), .p (.int .i64 n), .p (.int .i64 vk), .p (.int .i64 vn), .p (.str vs), .p (.sl es)], .cells [.p (.int .i64 0), .p (.int .i64 0), .p (.int .i64 0), .p (.int .i64 0), .p (.str ⟨⟨[]⟩⟩), .full []],
        .cells [.p (.int .i64 op), .p (.int .i64 0), .p (.int .i64 v.k), .p (.int .i64 v.n), .p (.str v.s), .tok 3 p.2.1], .spare p.2.2 6])
      (fun p => 0 ≤ p.1 ∧ p.1 ≤ zl ∧ (ar.take p.1.toNat).map (fun e => (mapE g e).cells) = p.2.1 ∧ p.2.1.length = p.2.2) (fun p => (zl - p.1).toNat)
      (0, [], 0) 4 (fun _ => rfl) ⟨by show (0 : Int) ≤ 0; omega, by show (0 : Int) ≤ zl; omega, by simp, rfl⟩ ⟨rfl, trivial⟩ rfl ?_
    rintro R ⟨i, L, m⟩ ⟨hi0, hi1, hl, hm⟩ hR
    have hi0 : 0 ≤ i := hi0
    have hi1 : i ≤ zl := hi1
    have hl : (ar.take i.toNat).map (fun e => (mapE g e).cells) = L := hl
    have hm : L.length = m := hm
    have hll : L.length ≤ i.toNat := by rw [← hl]; simp; omega
    have hok : okEs 6 L = true := by
      rw [← hl, show (fun e => (mapE g e).cells) = Ex.cells ∘ mapE g from rfl, ← List.map_map]; exact okEs_cells _
    have hk : decide (i < zl) = true → i < ar.length := by simp only [decide_eq_true_eq]; omega
    have hst : decide (i < zl) = true → L.length + 1 ≤ maxLen ∧ (L.length + 1) * 72 ≤ 140737488355328 ∧ IntKind.i64.wrap (i + 1) = i + 1 ∧ (0 ≤ i + 1 ∧ i + 1 ≤ zl) ∧ (zl - (i + 1)).toNat < (zl - i).toNat := by
      intro h
      have hlt := hk h
      simp only [decide_eq_true_eq] at h
      refine ⟨by simp only [maxLen]; omega, by omega, wrap_in (by omega), by omega, by omega⟩
    have hfin : decide (i < zl) = false → (ar.map (mapE g)).map Ex.cells = L := by
      simp only [decide_eq_false_iff_not]; intro h
      rw [← hl, List.take_of_length_le (by omega), List.map_map]; rfl
    repeat' (first
      | (with_reducible refine Nm.mk ?_; intro z hz)
      | (with_reducible refine IfB.mk ?_ ?_ <;> (intro h; cases h))
      | (with_reducible refine Two.l ?_; refine Asm.mk ?_ ?_; focus (decide +kernel))
      | (with_reducible refine Two.r ?_)
      | (with_reducible refine Asm.mk ?_ ?_; focus (first | kernel_rfl | (have hlt := hk (by assumption); clear hR hQ hk hfin; refine ⟨hm.symm, rfl, hok, rfl, ?_, ?_⟩ <;> simp only [List.length_cons, List.length_nil, maxLen] <;> omega)))
      | (with_reducible refine isCP hcp ?_; first | (refine exP hcp (hmc _ _ _ _ _ _ _ i.toNat (by assumption) (by assumption)) ?_; intro op2 n2 vk2 vn2 vs2 ar2 es2 hX hes2))
      | (with_reducible refine isCC hcc ?_; first | (refine exA hcc (hmc _ _ _ _ _ _ _ i.toNat (by assumption) (by assumption)) rfl ?_; intro op2 n2 vk2 vn2 vs2 ar2 es2 hX hes2))
      | (with_reducible refine Ix.ex hes hi0 (hk (by assumption)) ?_; intro op' m' vk' vn' vs' ar' es' hx hes')
      | (with_reducible refine isCC hcc ?_; refine exA hcc (hg _ _ _ _ _ (ar.map (mapE g)) _ hC' (hfin (by assumption))) (hb1 rfl) ?_; intro op2 n2 vk2 vn2 vs2 ar2 es2 hX hes2)
      | (with_reducible refine Asm.mk2 ?_ ?_)
      | ((fail_if_success (with_reducible first | refine hQ _ ?_ | refine Side.mk ?_ | refine isCP hcp ?_ | refine isCC hcc ?_ | refine isLP hlp ?_ | refine Ix.mk ?_ | refine SIx.mk ?_ | refine SEx.mk ?_ | refine EIx.mk ?_ | refine RIx.mk ?_ | show False | refine hR ?_ _ ?_ ?_ ?_ ?_ ?_ | refine hR2 ?_ _ ?_ ?_ ?_ ?_ ?_)); cbv))
    · refine Side.mk ?_
      obtain ⟨u1, u2, u3⟩ := hst (by assumption)
      exact ⟨hm.symm, rfl, hok, rfl, u1, u2⟩
    · obtain ⟨u1, u2, e1, u3, u4⟩ := hst (by assumption)
      rw [e1] at hz
      rename_i L2 hL2 m2 hm2
      have et : ar.take (i + 1).toNat = ar.take i.toNat ++ [.mk op' m' ⟨vk', vn', vs'⟩ ar'] := by rw [show (i + 1).toNat = i.toNat + 1 by omega, takeS hx]
      refine hR (i + 1, _, _) _ ⟨u3.1, u3.2, ?_, ?_⟩ u4 ⟨hz ▸ rfl, trivial⟩ ⟨rfl, rfl, rfl, rfl, rfl, rfl, trivial⟩ rfl
      · show (ar.take (i + 1).toNat).map (fun e => (mapE g e).cells) = L2
        rw [et, List.map_append, hl, ← hL2]
        simp only [List.map_cons, List.map_nil, hX, cells_mk, hes2]
      · show L2.length = m2
        rw [← hL2, ← hm2, List.length_append]
    · refine hQ _ ?_
      rw [← hq']
      have hX' := hX
      rw [hX', cells_mk, hes2]
  · have hq' : g (.mk op 0 ⟨0, 0, ⟨⟨[]⟩⟩⟩ (ar.map (mapE g))) = q := by
      rw [← hq]
      clear hQ hcp hcc hlp hmc hg IH
      first
        | (have e : op = 1 := of_decide_eq_true (by assumption)
           subst e; rfl)
        | (have e : op = 2 := of_decide_eq_true (by assumption)
           subst e; subst_vars; rfl)
        | (have e1 : ¬ op = 1 := of_decide_eq_false (by assumption)
           have e2 : ¬ op = 2 := of_decide_eq_false (by assumption)
           rw [if_neg e1, if_neg e1, if_neg e2]; rfl)
    have hC' : C (.mk op 0 ⟨0, 0, ⟨⟨[]⟩⟩⟩ (ar.map (mapE g))) := by
      clear hQ hcp hcc hlp hmc hg IH hq hq'
      first
        | (have e : op = 1 := of_decide_eq_true (by assumption)
           subst e; exact hC)
        | (have e : op = 2 := of_decide_eq_true (by assumption)
           subst e; subst_vars; exact hC)
        | (have e1 : ¬ op = 1 := of_decide_eq_false (by assumption)
           have e2 : ¬ op = 2 := of_decide_eq_false (by assumption)
           rw [if_neg e1, if_neg e1, if_neg e2] at hC; exact hC)
    clear hq
    simp only [nc] at hz
    simp only [nc'] at hz
    have hzl := hz
    clear hz
    rename Int => zl
    refine mintX hlp 6 2 5 rfl rfl ?_
    refine loopT (ι := Int × List (List PV) × Nat) mixed tt_ok hcp hcc hlp [1, 2, 4, 5, 25, 26] (fun p => [(27, .p (.int .i64 p.1))])
      (fun p => [.cells [.p (.int .i64 op), .p (.int .i64 n), .p (.int .i64 vk), .p (.int .i64 vn), .p (.str vs), .p (.sl es)], .cells [.p (.int .i64 0), .p (.int .i64 0), .p (.int .i64 0), .p (.int .i64 0), .p (.str ⟨⟨[]⟩⟩), .full []],
        .cells [.p (.int .i64 op), .p (.int .i64 0), .p (.int .i64 0), .p (.int .i64 0), .p (.str ⟨⟨[]⟩⟩), .tok 3 p.2.1], .spare p.2.2 6])
      (fun p => 0 ≤ p.1 ∧ p.1 ≤ zl ∧ (ar.take p.1.toNat).map (fun e => (mapE g e).cells) = p.2.1 ∧ p.2.1.length = p.2.2) (fun p => (zl - p.1).toNat)
      (0, [], 0) 4 (fun _ => rfl) ⟨by show (0 : Int) ≤ 0; omega, by show (0 : Int) ≤ zl; omega, by simp, rfl⟩ ⟨rfl, trivial⟩ rfl ?_
    rintro R ⟨i, L, m⟩ ⟨hi0, hi1, hl, hm⟩ hR
    have hi0 : 0 ≤ i := hi0
    have hi1 : i ≤ zl := hi1
    have hl : (ar.take i.toNat).map (fun e => (mapE g e).cells) = L := hl
    have hm : L.length = m := hm
    have hll : L.length ≤ i.toNat := by rw [← hl]; simp; omega
    have hok : okEs 6 L = true := by
      rw [← hl, show (fun e => (mapE g e).cells) = Ex.cells ∘ mapE g from rfl, ← List.map_map]; exact okEs_cells _
    have hk : decide (i < zl) = true → i < ar.length := by simp only [decide_eq_true_eq]; omega
    have hst : decide (i < zl) = true → L.length + 1 ≤ maxLen ∧ (L.length + 1) * 72 ≤ 140737488355328 ∧ IntKind.i64.wrap (i + 1) = i + 1 ∧ (0 ≤ i + 1 ∧ i + 1 ≤ zl) ∧ (zl - (i + 1)).toNat < (zl - i).toNat := by
      intro h
      have hlt := hk h
      simp only [decide_eq_true_eq] at h
      refine ⟨by simp only [maxLen]; omega, by omega, wrap_in (by omega), by omega, by omega⟩
    have hfin : decide (i < zl) = false → (ar.map (mapE g)).map Ex.cells = L := by
      simp only [decide_eq_false_iff_not]; intro h
      rw [← hl, List.take_of_length_le (by omega), List.map_map]; rfl
    repeat' (first
      | (with_reducible refine Nm.mk ?_; intro z hz)
      | (with_reducible refine IfB.mk ?_ ?_ <;> (intro h; cases h))
      | (with_reducible refine Two.l ?_; refine Asm.mk ?_ ?_; focus (decide +kernel))
      | (with_reducible refine Two.r ?_)
      | (with_reducible refine Asm.mk ?_ ?_; focus (first | kernel_rfl | (have hlt := hk (by assumption); clear hR hQ hk hfin; refine ⟨hm.symm, rfl, hok, rfl, ?_, ?_⟩ <;> simp only [List.length_cons, List.length_nil, maxLen] <;> omega)))
      | (with_reducible refine isCP hcp ?_; first | (refine exP hcp (hmc _ _ _ _ _ _ _ i.toNat (by assumption) (by assumption)) ?_; intro op2 n2 vk2 vn2 vs2 ar2 es2 hX hes2))
      | (with_reducible refine isCC hcc ?_; first | (refine exA hcc (hmc _ _ _ _ _ _ _ i.toNat (by assumption) (by assumption)) rfl ?_; intro op2 n2 vk2 vn2 vs2 ar2 es2 hX hes2))
      | (with_reducible refine Ix.ex hes hi0 (hk (by assumption)) ?_; intro op' m' vk' vn' vs' ar' es' hx hes')
      | (with_reducible refine isCC hcc ?_; refine exA hcc (hg _ _ _ _ _ (ar.map (mapE g)) _ hC' (hfin (by assumption))) (hb1 rfl) ?_; intro op2 n2 vk2 vn2 vs2 ar2 es2 hX hes2)
      | (with_reducible refine Asm.mk2 ?_ ?_)
      | ((fail_if_success (with_reducible first | refine hQ _ ?_ | refine Side.mk ?_ | refine isCP hcp ?_ | refine isCC hcc ?_ | refine isLP hlp ?_ | refine Ix.mk ?_ | refine SIx.mk ?_ | refine SEx.mk ?_ | refine EIx.mk ?_ | refine RIx.mk ?_ | show False | refine hR ?_ _ ?_ ?_ ?_ ?_ ?_ | refine hR2 ?_ _ ?_ ?_ ?_ ?_ ?_)); cbv))
    · refine Side.mk ?_
      obtain ⟨u1, u2, u3⟩ := hst (by assumption)
      exact ⟨hm.symm, rfl, hok, rfl, u1, u2⟩
    · obtain ⟨u1, u2, e1, u3, u4⟩ := hst (by assumption)
      rw [e1] at hz
      rename_i L2 hL2 m2 hm2
      have et : ar.take (i + 1).toNat = ar.take i.toNat ++ [.mk op' m' ⟨vk', vn', vs'⟩ ar'] := by rw [show (i + 1).toNat = i.toNat + 1 by omega, takeS hx]
      refine hR (i + 1, _, _) _ ⟨u3.1, u3.2, ?_, ?_⟩ u4 ⟨hz ▸ rfl, trivial⟩ ⟨rfl, rfl, rfl, rfl, rfl, rfl, trivial⟩ rfl
      · show (ar.take (i + 1).toNat).map (fun e => (mapE g e).cells) = L2
        rw [et, List.map_append, hl, ← hL2]
        simp only [List.map_cons, List.map_nil, hX, cells_mk, hes2]
      · show L2.length = m2
        rw [← hL2, ← hm2, List.length_append]
    · refine hQ _ ?_
      rw [← hq']
      have hX' := hX
      rw [hX', cells_mk, hes2]
mutual
def Ex.wide : Ex → Prop
  | .mk _ _ _ ar => wideN ar.length ∧ wideL ar
def wideL : List Ex → Prop
  | [] => True
  | e :: r => e.wide ∧ wideL r
end
theorem wide_mem : ∀ {l : List Ex} {e : Ex}, wideL l → e ∈ l → e.wide
  | [], _, _, h => by simp at h
  | a :: r, e, hw, h => by
    rcases List.mem_cons.1 h with g | g
    · subst g; exact hw.1
    · exact wide_mem hw.2 g
mutual
def CondE (C : Ex → Prop) (g : Ex → Ex) : Ex → Prop
  | .mk op n v ar => C (.mk op (if op = 1 then n else 0) (if op = 1 then Val.zero else if op = 2 then clean v else Val.zero) (mapL g ar)) ∧ CondL C g ar
def CondL (C : Ex → Prop) (g : Ex → Ex) : List Ex → Prop
  | [] => True
  | e :: r => CondE C g e ∧ CondL C g r
end
theorem cond_mem {C : Ex → Prop} {g : Ex → Ex} : ∀ {l : List Ex} {e : Ex}, CondL C g l → e ∈ l → CondE C g e
  | [], _, _, h => by simp at h
  | a :: r, e, hw, h => by
    rcases List.mem_cons.1 h with q | q
    · subst q; exact hw.1
    · exact cond_mem hw.2 q
theorem cond_true {C : Ex → Prop} {g : Ex → Ex} (h : ∀ e, C e) : ∀ (m : Nat) (e : Ex), e.sz ≤ m → CondE C g e
  | 0, .mk op n v ar, hs => by simp [Ex.sz] at hs
  | m + 1, .mk op n v ar, hs => by
    refine ⟨h _, ?_⟩
    have : ∀ l : List Ex, (∀ x, x ∈ l → CondE C g x) → CondL C g l := by
      intro l
      induction l with
      | nil => intro _; trivial
      | cons a r ih => intro hl; exact ⟨hl a (by simp), ih fun x hx => hl x (by simp [hx])⟩
    refine this ar fun x hx => cond_true h m x ?_
    have := sz_mem hx
    simp only [Ex.sz] at hs; omega
theorem mapped_all (g : Ex → Ex) (k : Nat) (caps : List PV) (C : Ex → Prop) (hg : ∀ (op n vk vn : Int) (vs : ByteArray) (ar : List Ex) (es : List (List PV)), C (.mk op n ⟨vk, vn, vs⟩ ar) → ar.map Ex.cells = es → PCall Try.prog k (.agg [.int .i64 op, .int .i64 n, .int .i64 vk, .int .i64 vn, .str vs, .sl es] :: caps) fun r => r = [.agg (g (.mk op n ⟨vk, vn, vs⟩ ar)).cells]) :
    ∀ (m : Nat) (e : Ex), e.sz ≤ m → e.wide → CondE C g e → PCall Try.prog 116 [.agg e.cells, .fn k caps] fun r => r = [.agg (mapE g e).cells]
  | 0, .mk op n v ar, h, _, _ => by simp [Ex.sz] at h
  | m + 1, .mk op n v ar, h, hw, hc => by
    rw [cells_mk]
    refine mapped_c g k caps C hg op n v ar _ rfl hw.1 (by rw [← mapL_eq]; exact hc.1) fun x hx => mapped_all g k caps C hg m x ?_ (wide_mem hw.2 hx) (cond_mem hc.2 hx)
    have := sz_mem hx
    simp only [Ex.sz] at h; omega
theorem copy_c (op n vk vn : Int) (vs : ByteArray) (ar : List Ex) (es : List (List PV)) (hes : ar.map Ex.cells = es) (hw : (Ex.mk op n ⟨vk, vn, vs⟩ ar).wide) :
    PCall Try.prog 116 [.agg [.int .i64 op, .int .i64 n, .int .i64 vk, .int .i64 vn, .str vs, .sl es], .fn 117 []] fun r => r = [.agg (mapE id (.mk op n ⟨vk, vn, vs⟩ ar)).cells] := by
  have := mapped_all id 117 [] (fun _ => True) (fun op n vk vn vs ar es _ h => by rw [show id (Ex.mk op n ⟨vk, vn, vs⟩ ar) = Ex.mk op n ⟨vk, vn, vs⟩ ar from rfl, cells_mk, h]; exact same_c op n vk vn vs es) _ _ (Nat.le_refl _) hw (cond_true (fun _ => trivial) _ _ (Nat.le_refl _))
  rw [cells_mk, hes] at this
  exact this
end Go.Proofs.Ytnhmnfokbinplaa

namespace Go.Proofs.Ytnhmnfokbinplaa
open Go Go.RowKit
set_option linter.unusedSimpArgs false
set_option linter.unusedVariables false

theorem built_iff (e : Ex) : builtM e = (walkE e 1 0 0).1 := by
  unfold builtM sizeM
  cases hb : (walkE e 1 0 0).1 with
  | false => simp
  | true =>
    have := walkE_nodes e 1 0 0 _ _ _ (by omega) (by omega) (show walkE e 1 0 0 = (true, (walkE e 1 0 0).2.1, (walkE e 1 0 0).2.2) by rw [← hb])
    simp; exact (this.2.2 rfl).2
/-! ### a copy -/
/- All parts are true just where the whole is. -/
end Go.Proofs.Ytnhmnfokbinplaa

namespace Go.Proofs.Ytnhmnfokbinplaa
open Go Go.RowKit
set_option maxRecDepth 100000
set_option linter.unusedSimpArgs false
set_option linter.unusedVariables false

theorem Ix.el {L : List (List PV)} {es : Nat} {i : Int} {K : List PV → Prop} (n : Nat) {e : List PV} (hi : 0 ≤ i) (hn : i.toNat = n) (h : L[n]? = some e) (he : e.length = es) (hes : es ≠ 0) (k : K e) : Ix es L i K := ⟨e, hi, by rw [hn]; exact h, he, hes, k⟩

end Go.Proofs.Ytnhmnfokbinplaa

namespace Go.Proofs.Ytnhmnfokbinplaa
open Go Go.RowKit
set_option maxRecDepth 100000
set_option linter.unusedSimpArgs false
set_option linter.unusedVariables false

section
variable {P : Program} {cp : FuncId → List PV → (CR → Prop) → Prop} {cc : FuncId → List AV → List AObj → (AV → List AObj → Prop) → Prop} {f : FuncId} {args : List PV} {aargs : List AV} {H : List AObj}
end

end Go.Proofs.Ytnhmnfokbinplaa

namespace Go.Proofs.Ytnhmnfokbinplaa
open Go Go.RowKit
set_option linter.unusedSimpArgs false
set_option linter.unusedVariables false

end Go.Proofs.Ytnhmnfokbinplaa

namespace Go.Proofs.Ytnhmnfokbinplaa
open Go Go.RowKit
set_option linter.unusedSimpArgs false
set_option linter.unusedVariables false

mutual
def Ex.ht : Ex → Nat
  | .mk _ _ _ ar => htL ar + 1
def htL : List Ex → Nat
  | [] => 0
  | e :: r => max e.ht (htL r)
end
mutual
def goodE : Ex → Bool
  | .mk op n v ar => !badE op n v ar.length && goodL ar
def goodL : List Ex → Bool
  | [] => true
  | e :: r => goodE e && goodL r
end
theorem goodL_all : ∀ l : List Ex, goodL l = l.all goodE
  | [] => rfl
  | e :: r => by simp [goodL, goodL_all r]
theorem sz_pos : ∀ e : Ex, 0 < e.sz
  | .mk _ _ _ _ => by simp [Ex.sz]
theorem ht_pos : ∀ e : Ex, 0 < e.ht
  | .mk _ _ _ _ => by simp [Ex.ht]
theorem mx_max (a b : Int) : mx a b = max a b := by unfold mx; split <;> omega

mutual
theorem walkE_eq : ∀ (e : Ex) (d n h : Int), 0 ≤ n → (((walkE e d n h).1 = true ↔ (goodE e = true ∧ n + (e.sz : Int) ≤ 400 ∧ d + (e.ht : Int) ≤ 41)) ∧ ((walkE e d n h).1 = true → walkE e d n h = (true, n + (e.sz : Int), max h (d + (e.ht : Int) - 1))))
  | .mk op m v ar, d, n, h, h0 => by
    rw [walkE]
    have hs := sz_pos (.mk op m v ar)
    have hh := ht_pos (.mk op m v ar)
    simp only [Ex.sz, Ex.ht] at hs hh
    simp only [goodE, Ex.sz, Ex.ht, Bool.and_eq_true, Bool.not_eq_true']
    split
    · rename_i hc
      simp only [Bool.or_eq_true, decide_eq_true_eq] at hc
      refine ⟨⟨fun h => (by cases h), fun h => ?_⟩, fun h => by cases h⟩
      obtain ⟨⟨h1, h2⟩, h3, h4⟩ := h
      rcases hc with (hc | hc) | hc
      · omega
      · omega
      · rw [h1] at hc; cases hc
    · rename_i hc
      simp only [Bool.or_eq_true, decide_eq_true_eq, not_or] at hc
      have hb : badE op m v ar.length = false := by simpa using hc.2
      have ih := walkL_eq ar (d + 1) (n + 1) (mx h d) (by omega) (by omega) (by omega) (by rw [mx_max]; omega)
      refine ⟨ih.1.trans ⟨fun ⟨a, b, c⟩ => ⟨⟨hb, a⟩, by omega, by omega⟩, fun ⟨⟨_, a⟩, b, c⟩ => ⟨a, by omega, by omega⟩⟩, fun ht => ?_⟩
      rw [ih.2 ht, mx_max]
      simp only [Prod.mk.injEq, true_and]
      omega
theorem walkL_eq : ∀ (l : List Ex) (d n h : Int), 0 ≤ n → n ≤ 400 → d ≤ 41 → d - 1 ≤ h → (((walkL l d n h).1 = true ↔ (goodL l = true ∧ n + (szL l : Int) ≤ 400 ∧ d + (htL l : Int) ≤ 41)) ∧ ((walkL l d n h).1 = true → walkL l d n h = (true, n + (szL l : Int), max h (d + (htL l : Int) - 1))))
  | [], d, n, h, h0, h1, h2, h3 => by
    simp only [walkL, goodL, szL, htL, true_iff, true_and, true_implies, Prod.mk.injEq]
    omega
  | a :: r, d, n, h, h0, h1, h2, h3 => by
    have ia := walkE_eq a d n h h0
    have hs := sz_pos a
    rw [walkL]
    simp only [goodL, szL, htL, Bool.and_eq_true]
    rcases h4 : walkE a d n h with ⟨b1, n1, h5⟩
    cases b1 with
    | false =>
      rw [h4] at ia
      refine ⟨⟨fun h => (by cases h), fun h => ?_⟩, fun h => by cases h⟩
      obtain ⟨⟨p, q⟩, u, v⟩ := h
      have := ia.1.2 ⟨p, by omega, by omega⟩
      cases this
    | true =>
      rw [h4] at ia
      have e := ia.2 rfl
      simp only [Prod.mk.injEq, true_and] at e
      obtain ⟨e1, e2⟩ := e
      have i1 := ia.1.1 rfl
      have ir := walkL_eq r d n1 h5 (by omega) (by omega) h2 (by omega)
      refine ⟨ir.1.trans ⟨fun ⟨p, q, u⟩ => ⟨⟨i1.1, p⟩, by omega, by omega⟩, fun ⟨⟨_, p⟩, q, u⟩ => ⟨p, by omega, by omega⟩⟩, fun ht => ?_⟩
      show walkL r d n1 h5 = _
      rw [ir.2 ht]
      simp only [Prod.mk.injEq, true_and]
      omega
end
theorem built_eq (e : Ex) : builtM e = true ↔ (goodE e = true ∧ e.sz ≤ 400 ∧ e.ht ≤ 40) := by
  rw [built_iff]
  have := (walkE_eq e 1 0 0 (by omega)).1
  rw [this]
  constructor
  · rintro ⟨a, b, c⟩; exact ⟨a, by omega, by omega⟩
  · rintro ⟨a, b, c⟩; exact ⟨a, by omega, by omega⟩
/-! ### values are clean, their texts are short -/
/-! ### folding -/
def Ex.val : Ex → Val
  | .mk _ _ v _ => v
def zeroE : Ex := .mk 0 0 Val.zero []
theorem good_of_built {e : Ex} (h : builtM e = true) : goodE e = true := ((built_eq e).1 h).1
end Go.Proofs.Ytnhmnfokbinplaa

namespace Go.Proofs.Ytnhmnfokbinplaa
open Go Go.RowKit
set_option linter.unusedSimpArgs false
set_option linter.unusedVariables false

mutual
def colsM : Ex → List Int
  | .mk op n v ar => colsL ar ++ (if op = 1 then [n] else [])
def colsL : List Ex → List Int
  | [] => []
  | e :: r => colsM e ++ colsL r
end
mutual
theorem cols_sz : ∀ e : Ex, (colsM e).length ≤ e.sz
  | .mk op n v ar => by
    have := cols_szL ar
    simp only [colsM, Ex.sz, List.length_append]
    split <;> simp <;> omega
theorem cols_szL : ∀ l : List Ex, (colsL l).length ≤ szL l
  | [] => by simp [colsL]
  | e :: r => by
    have := cols_sz e
    have := cols_szL r
    simp only [colsL, szL, List.length_append]; omega
end
mutual
theorem cols_pos : ∀ e : Ex, goodE e = true → ∀ n, n ∈ colsM e → 0 ≤ n
  | .mk op m v ar, hg, n, hn => by
    simp only [goodE, Bool.and_eq_true, Bool.not_eq_true'] at hg
    simp only [colsM, List.mem_append] at hn
    rcases hn with hn | hn
    · exact cols_posL ar hg.2 n hn
    · split at hn
      · rename_i h1; subst h1
        simp only [List.mem_singleton] at hn; subst hn
        have := hg.1
        simp only [badE, Bool.or_eq_false_iff, Bool.and_eq_false_iff, decide_eq_false_iff_not] at this
        rcases this.1.2 with h | h
        · exact absurd trivial h
        · omega
      · simp at hn
theorem cols_posL : ∀ l : List Ex, goodL l = true → ∀ n, n ∈ colsL l → 0 ≤ n
  | [], _, n, h => by simp [colsL] at h
  | e :: r, hg, n, h => by
    simp only [goodL, Bool.and_eq_true] at hg
    simp only [colsL, List.mem_append] at h
    rcases h with h | h
    · exact cols_pos e hg.1 n h
    · exact cols_posL r hg.2 n h
end
def putN (by' : List Ex) : Ex → Ex
  | .mk op n v ar => if op = 1 then mapE id ((by'[n.toNat]?).getD zeroE) else .mk op n v ar
/-- Put: what it makes, and how it is refused. -/
def putOk (e : Ex) (by' : List Ex) : Bool := builtM e && by'.all builtM && (colsM e).all (fun n => decide (n < (by'.length : Int)))
def zeroX : Ex := .mk 0 0 Val.zero []
def putM (e : Ex) (by' : List Ex) : Ex × Int :=
  if putOk e by' = true then (if builtM (mapE (putN by') e) = true then (mapE (putN by') e, 0) else (zeroX, 3)) else (zeroX, 1)
end Go.Proofs.Ytnhmnfokbinplaa

namespace Go.Proofs.Ytnhmnfokbinplaa
open Go Go.RowKit
set_option maxRecDepth 100000
set_option linter.unusedSimpArgs false
set_option linter.unusedVariables false

/-- What the model's numbers and texts are bounded by. -/
def okV (v : Val) : Prop := (-9223372036854775808 ≤ v.n ∧ v.n ≤ 9223372036854775807) ∧ v.s.size ≤ 140737488355328
mutual
def Ex.okc : Ex → Prop
  | .mk _ _ v ar => okV v ∧ okcL ar
def okcL : List Ex → Prop
  | [] => True
  | e :: r => e.okc ∧ okcL r
end
theorem good_mem {l : List Ex} (h : goodL l = true) {e : Ex} (he : e ∈ l) : goodE e = true := by
  rw [goodL_all] at h; exact List.all_eq_true.1 h e he

end Go.Proofs.Ytnhmnfokbinplaa

namespace Go.Proofs.Ytnhmnfokbinplaa
open Go Go.RowKit
set_option maxRecDepth 100000
set_option linter.unusedSimpArgs false
set_option linter.unusedVariables false

mutual
theorem wide_copy : ∀ e : Ex, e.wide → (mapE id e).wide
  | .mk op n v ar, h => by
    rw [mapE]
    show wideN (mapL id ar).length ∧ wideL (mapL id ar)
    exact ⟨by rw [mapL_eq, List.length_map]; exact h.1, wide_copyL ar h.2⟩
theorem wide_copyL : ∀ l : List Ex, wideL l → wideL (mapL id l)
  | [], _ => trivial
  | e :: r, h => ⟨wide_copy e h.1, wide_copyL r h.2⟩
end
end Go.Proofs.Ytnhmnfokbinplaa

namespace Go.Proofs.Ytnhmnfokbinplaa
open Go Go.RowKit
set_option maxRecDepth 100000
set_option linter.unusedSimpArgs false
set_option linter.unusedVariables false

set_option maxHeartbeats 4000000 in
theorem rarity_c (op : Int) : PCall Try.prog 205 [.int .i64 op] fun r => r = [.int .i64 (arityE op)] := by
  refine PCall.x (nt := 27) (res := [.tmp 2]) mixed tt_ok [] Try.func205 rfl rfl rfl c205 (Nat.le_of_ble_eq_true rfl) ?_
  intro cp cc lp Q' hcp hcc hlp hQ
  repeat' (first
    | (with_reducible refine Nm.mk ?_; intro z hz)
    | (with_reducible refine IfB.mk ?_ ?_ <;> (intro h; cases h))
    | (with_reducible refine Two.l ?_; refine Asm.mk ?_ ?_; focus (decide +kernel))
    | (with_reducible refine Two.r ?_)
    | (with_reducible refine Asm.mk ?_ ?_; focus (first | kernel_rfl | decide))
    | (with_reducible refine Asm.mk2 ?_ ?_)
    | ((fail_if_success (with_reducible first | refine hQ _ ?_ | refine Side.mk ?_ | refine isCP hcp ?_ | refine isCC hcc ?_ | refine isLP hlp ?_ | refine Ix.mk ?_ | refine SIx.mk ?_ | refine SEx.mk ?_ | refine EIx.mk ?_ | refine RIx.mk ?_ | show False | refine hR ?_ _ ?_ ?_ ?_ ?_ ?_ | refine hR2 ?_ _ ?_ ?_ ?_ ?_ ?_)); cbv))
  all_goals (refine hQ _ ?_; clear hQ hcp hcc hlp; simp only [decide_eq_true_eq, decide_eq_false_iff_not] at *; congr 2; unfold arityE; (repeat' split) <;> first | omega | (intros; omega))
end Go.Proofs.Ytnhmnfokbinplaa

namespace Go.Proofs.Ytnhmnfokbinplaa
open Go Go.RowKit
set_option maxRecDepth 100000
set_option linter.unusedSimpArgs false
set_option linter.unusedVariables false

def goodK (op m : Int) (v : Val) (len : Nat) : Bool := decide (arityE op = (len : Int)) && !(decide (op = 1) && decide (m < 0)) && !(decide (op = 2) && decide ((1000 : Int) < ((clean v).s.size : Int)))
theorem goodE_bad (op m : Int) (v : Val) (len : Nat) : goodK op m v len = !badE op m v len := by
  have hc : decide ((1000 : Int) < ((clean v).s.size : Int)) = (decide (v.k = 2) && decide ((1000 : Int) < (v.s.size : Int))) := by
    unfold clean
    by_cases h1 : v.k = 1
    · rw [if_pos h1, h1]
      rfl
    · rw [if_neg h1]
      by_cases h2 : v.k = 2
      · rw [if_pos h2, h2]; rfl
      · rw [if_neg h2, decide_eq_false h2]; rfl
  unfold goodK badE
  rw [hc]
  cases decide (arityE op = (len : Int)) <;> cases decide (op = 1) <;> cases decide (m < 0) <;> cases decide (op = 2) <;> cases decide (v.k = 2) <;> cases decide ((1000 : Int) < (v.s.size : Int)) <;> rfl
mutual
def measE : Ex → Int → Int → Int × Int × Bool
  | .mk op m v ar, n, d => if (decide (400 < n) || decide (40 < d)) = true then (n + 1, d, false) else measL (goodK op m v ar.length) ar (n + 1) d d
def measL : Bool → List Ex → Int → Int → Int → Int × Int × Bool
  | g, [], n, d, h => (n, h, g)
  | g, a :: r, n, d, h => match measE a n (d + 1) with
    | (n', h', true) => measL g r n' d (mx h h')
    | (n', h', false) => (n', mx h h', false)
end
theorem mx_assoc (a b c : Int) : mx (mx a b) c = mx a (mx b c) := by unfold mx; (repeat' split) <;> omega
theorem mx_l (a b : Int) : a ≤ mx a b := by unfold mx; split <;> omega
theorem mx_le {a b c : Int} (h : a ≤ c) (h' : b ≤ c) : mx a b ≤ c := by unfold mx; split <;> omega
mutual
theorem measE_up : ∀ (e : Ex) (n d : Int), n < (measE e n d).1 ∧ d ≤ (measE e n d).2.1
  | .mk op m v ar, n, d => by
    rw [measE]
    split
    · exact ⟨by show n < n + 1; omega, Int.le_refl _⟩
    · have := measL_up (goodK op m v ar.length) ar (n + 1) d d
      exact ⟨by omega, this.2.1⟩
theorem measL_up : ∀ (g : Bool) (l : List Ex) (n d h : Int), n ≤ (measL g l n d h).1 ∧ h ≤ (measL g l n d h).2.1 ∧ ((measL g l n d h).2.2 = true → g = true)
  | g, [], n, d, h => ⟨Int.le_refl _, Int.le_refl _, fun h => h⟩
  | g, a :: r, n, d, h => by
    have h1 := measE_up a n (d + 1)
    rw [measL]
    split
    · rename_i n' h' he
      rw [he] at h1
      have h2 := measL_up g r n' d (mx h h')
      have h3 := mx_l h h'
      exact ⟨by have : n < n' := h1.1; omega, by omega, h2.2.2⟩
    · rename_i n' h' he
      rw [he] at h1
      exact ⟨by have : n < n' := h1.1; show n ≤ n'; omega, mx_l h h', fun h => by cases h⟩
end
mutual
theorem meas_walk : ∀ (e : Ex) (n d H : Int), ((walkE e d n H).1 = true → (measE e n d).2.2 = true ∧ (measE e n d).1 ≤ 400 ∧ (measE e n d).2.1 ≤ 40 ∧ (walkE e d n H).2.1 = (measE e n d).1 ∧ (walkE e d n H).2.2 = mx H (measE e n d).2.1) ∧
    ((measE e n d).2.2 = true → (measE e n d).1 ≤ 400 → (walkE e d n H).1 = true)
  | .mk op m v ar, n, d, H => by
    have hu := measL_up (goodK op m v ar.length) ar (n + 1) d d
    rw [walkE, measE]
    by_cases h1 : (decide (400 < n) || decide (40 < d)) = true
    · rw [if_pos h1, if_pos (by simp only [Bool.or_eq_true, decide_eq_true_eq] at h1 ⊢; omega)]
      exact ⟨fun h => (by cases h), fun h => (by cases h)⟩
    · rw [if_neg h1]
      simp only [Bool.or_eq_true, decide_eq_true_eq, not_or] at h1
      cases hb : badE op m v ar.length with
      | true =>
        rw [if_pos (by simp)]
        refine ⟨fun h => (by cases h), fun h _ => ?_⟩
        have := hu.2.2 h
        rw [goodE_bad, hb] at this
        cases this
      | false =>
        rw [goodE_bad, hb] at hu ⊢
        by_cases h4 : 400 < n + 1
        · rw [if_pos (by simp [h4])]
          exact ⟨fun h => (by cases h), fun _ h => absurd h (by have := hu.1; omega)⟩
        · rw [if_neg (by simp; omega)]
          exact meas_walkL ar (n + 1) d d H (by omega) (by omega)
theorem meas_walkL : ∀ (l : List Ex) (n d h H : Int), n ≤ 400 → h ≤ 40 → ((walkL l (d + 1) n (mx H h)).1 = true → (measL (!false) l n d h).2.2 = true ∧ (measL (!false) l n d h).1 ≤ 400 ∧ (measL (!false) l n d h).2.1 ≤ 40 ∧ (walkL l (d + 1) n (mx H h)).2.1 = (measL (!false) l n d h).1 ∧ (walkL l (d + 1) n (mx H h)).2.2 = mx H (measL (!false) l n d h).2.1) ∧
    ((measL (!false) l n d h).2.2 = true → (measL (!false) l n d h).1 ≤ 400 → (walkL l (d + 1) n (mx H h)).1 = true)
  | [], n, d, h, H, hn, hh => by
    rw [walkL, measL]
    exact ⟨fun _ => ⟨rfl, hn, hh, rfl, rfl⟩, fun _ _ => rfl⟩
  | a :: r, n, d, h, H, hn, hh => by
    have he := meas_walk a n (d + 1) (mx H h)
    have hup := fun n' h' => measL_up (!false) r n' d h'
    rw [walkL, measL]
    rcases hm : measE a n (d + 1) with ⟨n1, h1, ok1⟩
    rcases hw : walkE a (d + 1) n (mx H h) with ⟨b1, nw, hw1⟩
    rw [hm, hw] at he
    dsimp only at he
    cases b1 with
    | true =>
      obtain ⟨e1, e2, e3, e4, e5⟩ := he.1 rfl
      subst e1
      dsimp only
      rw [e4, e5, mx_assoc]
      exact meas_walkL r n1 d (mx h h1) H e2 (mx_le hh e3)
    | false =>
      dsimp only
      refine ⟨fun h => (by cases h), fun h1' h2' => ?_⟩
      cases ok1 with
      | false => cases h1'
      | true =>
        dsimp only at h1' h2'
        have := hup n1 (mx h h1)
        have h5 : n1 ≤ 400 := by omega
        exact absurd (he.2 rfl h5) (by decide)
end
def rsizeM (e : Ex) : Int × Int := if (!(measE e 0 1).2.2 || decide (400 < (measE e 0 1).1) || decide (40 < (measE e 0 1).2.1)) = true then (401, 41) else ((measE e 0 1).1, (measE e 0 1).2.1)
theorem rsizeM_eq (e : Ex) : rsizeM e = sizeM e := by
  have h := meas_walk e 0 1 0
  have hu := measE_up e 0 1
  rw [rsizeM, sizeM]
  cases hb : (walkE e 1 0 0).1 with
  | true =>
    obtain ⟨h1, h2, h3, h4, h5⟩ := h.1 hb
    rw [if_neg (by simp [h1]; omega), if_pos rfl, h4, h5]
    have : mx 0 (measE e 0 1).2.1 = (measE e 0 1).2.1 := by unfold mx; split <;> omega
    rw [this]
  | false =>
    have hc : (!(measE e 0 1).2.2 || decide (400 < (measE e 0 1).1) || decide (40 < (measE e 0 1).2.1)) = true := by
      cases h1 : (measE e 0 1).2.2 with
      | false => rfl
      | true =>
        by_cases h2 : (measE e 0 1).1 ≤ 400
        · rw [h.2 h1 h2] at hb; cases hb
        · have : decide (400 < (measE e 0 1).1) = true := by simp only [decide_eq_true_eq]; omega
          rw [this]; rfl
    rw [if_pos hc]; rfl
end Go.Proofs.Ytnhmnfokbinplaa

namespace Go.Proofs.Ytnhmnfokbinplaa
open Go Go.RowKit
set_option maxRecDepth 100000
set_option linter.unusedSimpArgs false
set_option linter.unusedVariables false

mutual
theorem measE_ok : ∀ (e : Ex) (n d : Int), (measE e n d).2.2 = true → (measE e n d).1 ≤ 401
  | .mk op m v ar, n, d, h => by
    rw [measE] at h ⊢
    split at h
    · cases h
    · rename_i hc
      rw [if_neg hc]
      simp only [Bool.or_eq_true, decide_eq_true_eq, not_or] at hc
      exact measL_ok _ ar (n + 1) d d (by omega) h
theorem measL_ok : ∀ (g : Bool) (l : List Ex) (n d h : Int), n ≤ 401 → (measL g l n d h).2.2 = true → (measL g l n d h).1 ≤ 401
  | g, [], n, d, h, hn, _ => hn
  | g, a :: r, n, d, h, hn, hk => by
    have he := measE_ok a n (d + 1)
    rw [measL] at hk ⊢
    rcases hm : measE a n (d + 1) with ⟨n1, h1, ok1⟩
    rw [hm] at hk he
    cases ok1 with
    | true => exact measL_ok g r n1 d (mx h h1) (he rfl) hk
    | false => cases hk
end
def MeasC (e : Ex) : Prop := ∀ (cells : List PV) (n d : Int), e.cells = cells → 0 ≤ n → n ≤ 401 → 0 ≤ d → d ≤ 41 → ∃ n' h' k, measE e n d = (n', h', k) ∧ PCall Try.prog 191 [.agg cells, .int .i64 n, .int .i64 d] fun r => r = [.int .i64 n', .int .i64 h', .bool k]

set_option maxHeartbeats 4000000 in
theorem meas_c (op m vk vn : Int) (vs : ByteArray) (ar : List Ex) (es : List (List PV)) (hes : ar.map Ex.cells = es) (hal : ar.length ≤ 140737488355328) (IH : ∀ x, x ∈ ar → MeasC x) (n d n' h' : Int) (k : Bool) (hn0 : 0 ≤ n) (hn1 : n ≤ 401) (hd0 : 0 ≤ d) (hd1 : d ≤ 41) (hq : measE (.mk op m ⟨vk, vn, vs⟩ ar) n d = (n', h', k)) :
    PCall Try.prog 191 [.agg [.int .i64 op, .int .i64 m, .int .i64 vk, .int .i64 vn, .str vs, .sl es], .int .i64 n, .int .i64 d] fun r => r = [.int .i64 n', .int .i64 h', .bool k] := by
  have hel : es.length = ar.length := by rw [← hes]; simp
  rw [measE] at hq
  have hw1 : IntKind.i64.wrap (n + 1) = n + 1 := wrap_in (by omega)
  have hwd : IntKind.i64.wrap (d + 1) = d + 1 := wrap_in (by omega)
  refine PCall.x (nt := 88) (res := [.tmp 6, .tmp 7, .tmp 8]) mixed tt_ok [] Try.func191 rfl rfl rfl c191 (Nat.le_of_ble_eq_true rfl) ?_
  intro cp cc lp Q' hcp hcc hlp hQ
  repeat' (first
    | (with_reducible refine Nm.mk ?_; intro z hz)
    | (with_reducible refine IfB.mk ?_ ?_ <;> (intro h; cases h))
    | (with_reducible refine Two.l ?_; refine Asm.mk ?_ ?_; focus (decide +kernel))
    | (with_reducible refine Two.r ?_)
    | (with_reducible refine Asm.mk ?_ ?_; focus (first | kernel_rfl | decide))
    | (with_reducible refine isCP hcp ?_; first | (refine iP hcp (rarity_c op) ?_; intro z hz) | (refine vP hcp (rclean_c vk vn vs) ?_; intro v hv))
    | (with_reducible refine isCC hcc ?_; first | (refine iA hcc (rarity_c op) rfl ?_; intro z hz) | (refine vA hcc (rclean_c vk vn vs) rfl ?_; intro v hv))
    | (with_reducible refine Asm.mk2 ?_ ?_)
    | ((fail_if_success (with_reducible first | refine hQ _ ?_ | refine Side.mk ?_ | refine isCP hcp ?_ | refine isCC hcc ?_ | refine isLP hlp ?_ | refine Ix.mk ?_ | refine SIx.mk ?_ | refine SEx.mk ?_ | refine EIx.mk ?_ | refine RIx.mk ?_ | show False | refine hR ?_ _ ?_ ?_ ?_ ?_ ?_ | refine hR2 ?_ _ ?_ ?_ ?_ ?_ ?_)); cbv))
  all_goals first
    | (refine hQ _ ?_
       rw [hw1] at hz
       rw [if_pos (by simp_all), Prod.mk.injEq, Prod.mk.injEq] at hq
       obtain ⟨q1, q2, q3⟩ := hq
       rw [← hz, q1, q2, q3])
    | skip
  all_goals
    (rw [if_neg (by simp_all)] at hq
     have hd40 : d ≤ 40 := by
       have : decide (40 < d) = false := by assumption
       simp only [decide_eq_false_iff_not] at this
       omega
     have hn400 : n ≤ 400 := by
       have : decide (400 < n) = false := by assumption
       simp only [decide_eq_false_iff_not] at this
       omega
     simp only [nc] at hz
     simp only [nc'] at hz
     have hzl : z.toNat = ar.length ∧ 0 ≤ z := by omega
     obtain ⟨hzl, hzl0⟩ := hzl
     clear hz
     generalize z = zl at *
     refine loopT (ι := Int × Int × Int × Bool) mixed tt_ok hcp hcc hlp [2, 3, 61, 62] (fun p => [(1, .p (.int .i64 p.2.1)), (10, .p (.int .i64 p.2.2.1)), (63, .p (.int .i64 p.1)), (9, .p (.bool p.2.2.2))]) (fun _ => [.cells [.p (.int .i64 op), .p (.int .i64 m), .p (.int .i64 vk), .p (.int .i64 vn), .p (.str vs), .p (.sl es)]])
       (fun p => (0 ≤ p.1 ∧ p.1 ≤ zl) ∧ (0 ≤ p.2.1 ∧ p.2.1 ≤ 401) ∧ measL p.2.2.2 (ar.drop p.1.toNat) p.2.1 d p.2.2.1 = (n', h', k)) (fun p => (zl - p.1).toNat) (0, _, d, _) 1 (fun _ => rfl) ?_ ⟨rfl, rfl, rfl, rfl, trivial⟩ rfl ?_
     · rw [hw1] at hz
       refine ⟨⟨by show (0 : Int) ≤ 0; omega, by show (0 : Int) ≤ zl; omega⟩, ⟨?_, ?_⟩, Eq.trans ?_ hq⟩
       · rw [← hz]; show 0 ≤ n + 1; omega
       · rw [← hz]; show n + 1 ≤ 401; omega
       · show measL _ ar _ d d = measL _ ar (n + 1) d d
         rw [← hz]
         congr 1
         clear IH hq hQ hcp hcc hlp hd40 hn400 hn0 hn1 hd0 hd1 hwd hw1 hz
         symm
         simp only [goodK, ← hel]
         simp_all
     · rintro R ⟨i, n1, h1, g⟩ ⟨⟨hi0, hi1⟩, ⟨hb0, hb1⟩, hw⟩ hR
       replace hi0 : 0 ≤ i := hi0
       replace hi1 : i ≤ zl := hi1
       replace hb0 : 0 ≤ n1 := hb0
       replace hb1 : n1 ≤ 401 := hb1
       replace hw : measL g (ar.drop i.toNat) n1 d h1 = (n', h', k) := hw
       have hk : decide (i < zl) = true → i < ar.length := by simp only [decide_eq_true_eq]; omega
       have hki : decide (i < zl) = true → i + 1 ≤ zl ∧ i < 9223372036854775806 := by simp only [decide_eq_true_eq]; omega
       have hpc : ∀ (op' m' vk' vn' : Int) (vs' : ByteArray) (ar' : List Ex) (es' : List (List PV)), ar[i.toNat]? = some (.mk op' m' ⟨vk', vn', vs'⟩ ar') → ar'.map Ex.cells = es' → ∀ w, IntKind.i64.wrap (d + 1) = w → ∃ n2 h2 k2, measE (.mk op' m' ⟨vk', vn', vs'⟩ ar') n1 (d + 1) = (n2, h2, k2) ∧
           PCall Try.prog 191 [.agg [.int .i64 op', .int .i64 m', .int .i64 vk', .int .i64 vn', .str vs', .sl es'], .int .i64 n1, .int .i64 w] fun r => r = [.int .i64 n2, .int .i64 h2, .bool k2] := by
         intro op' m' vk' vn' vs' ar' es' hx he w hwe
         rw [hwd] at hwe
         subst hwe
         exact IH _ (List.mem_of_getElem? hx) _ n1 (d + 1) (by rw [cells_mk, he]) hb0 hb1 (by omega) (by omega)
       have hdr : ∀ x, ar[i.toNat]? = some x → ar.drop i.toNat = x :: ar.drop (i + 1).toNat := by
         intro x hx
         rw [List.drop_eq_getElem_cons (List.getElem?_eq_some_iff.1 hx).1, (List.getElem?_eq_some_iff.1 hx).2, show (i + 1).toNat = i.toNat + 1 by omega]
       repeat' (first
         | (with_reducible refine Nm.mk ?_; intro z hz)
         | (with_reducible refine IfB.mk ?_ ?_ <;> (intro h; cases h))
         | (with_reducible refine Two.l ?_; refine Asm.mk ?_ ?_; focus (decide +kernel))
         | (with_reducible refine Two.r ?_)
         | (with_reducible refine Asm.mk ?_ ?_; focus (show (_ : Bool) = true; kernel_rfl))
         | (with_reducible refine Ix.ex hes hi0 (hk (by assumption)) ?_; intro op' m' vk' vn' vs' ar' es' hx hes')
         | (with_reducible refine isCC hcc ?_; obtain ⟨n2, h2, k2, hm2, hcall⟩ := hpc _ _ _ _ _ _ _ hx hes' _ (by assumption); refine xA hcc hcall rfl ?_)
         | (with_reducible refine Asm.mk2 ?_ ?_)
         | ((fail_if_success (with_reducible first | refine hQ _ ?_ | refine Side.mk ?_ | refine isCP hcp ?_ | refine isCC hcc ?_ | refine isLP hlp ?_ | refine Ix.mk ?_ | refine SIx.mk ?_ | refine SEx.mk ?_ | refine EIx.mk ?_ | refine RIx.mk ?_ | show False | refine hR ?_ _ ?_ ?_ ?_ ?_ ?_ | refine hR2 ?_ _ ?_ ?_ ?_ ?_ ?_)); cbv))
       all_goals first
         | (have hk2 : k2 = false := by simpa using (show (!k2) = true from hz)
            refine hQ _ ?_
            rename_i zm hzm
            rw [hdr _ hx, measL, hm2, hk2] at hw
            simp only [Prod.mk.injEq] at hw
            obtain ⟨q1, q2, q3⟩ := hw
            rw [q1, ← hzm, ← q3, ← q2]
            rfl)
         | (refine hQ _ ?_
            have hge : ar.length ≤ i.toNat := by
              have : decide (i < zl) = false := by assumption
              simp only [decide_eq_false_iff_not] at this
              omega
            rw [List.drop_eq_nil_of_le hge, measL] at hw
            simp only [Prod.mk.injEq] at hw
            obtain ⟨q1, q2, q3⟩ := hw
            rw [q1, q2, q3])
         | (have hk2 : k2 = true := by simpa using (show (!k2) = false by assumption)
            have hlt := hki (by assumption)
            rename_i zm hzm _
            rw [hdr _ hx, measL, hm2, hk2] at hw
            have hm3 := measE_ok (.mk op' m' ⟨vk', vn', vs'⟩ ar') n1 (d + 1)
            have hm4 := measE_up (.mk op' m' ⟨vk', vn', vs'⟩ ar') n1 (d + 1)
            rw [hm2] at hm3 hm4
            have hm3' : n2 ≤ 401 := hm3 hk2
            have hm4' : n1 < n2 := hm4.1
            have hwi : IntKind.i64.wrap (i + 1) = i + 1 := wrap_in (by omega)
            rw [hwi] at hz
            refine hR (i + 1, n2, zm, g) _ ⟨⟨by show 0 ≤ i + 1; omega, by show i + 1 ≤ zl; omega⟩, ⟨by show 0 ≤ n2; omega, hm3'⟩, ?_⟩ (by show (zl - (i + 1)).toNat < (zl - i).toNat; omega) ⟨rfl, rfl, hz ▸ rfl, rfl, trivial⟩ ⟨rfl, rfl, rfl, rfl, trivial⟩ rfl
            show measL g (ar.drop (i + 1).toNat) n2 d zm = (n', h', k)
            rw [← hw, ← hzm]
            rfl))
theorem meas_all : ∀ (m : Nat) (e : Ex), e.sz ≤ m → e.wide → MeasC e
  | 0, .mk op m v ar, h, _ => by simp [Ex.sz] at h
  | k + 1, .mk op m ⟨vk, vn, vs⟩ ar, h, hw => by
    intro cells n d he hn0 hn1 hd0 hd1
    rw [cells_mk] at he
    subst he
    have hwi : wideN ar.length ∧ wideL ar := by rw [Ex.wide] at hw; exact hw
    have hwn : wideN ar.length := hwi.1
    unfold wideN at hwn
    refine ⟨_, _, _, rfl, meas_c op m vk vn vs ar _ rfl (by omega) (fun x hx => meas_all k x ?_ (wide_mem hwi.2 hx)) n d _ _ _ hn0 hn1 hd0 hd1 rfl⟩
    have := sz_mem hx
    simp only [Ex.sz] at h; omega
theorem rsize_c (op n vk vn : Int) (vs : ByteArray) (ar : List Ex) (es : List (List PV)) (hes : ar.map Ex.cells = es) (hw : (Ex.mk op n ⟨vk, vn, vs⟩ ar).wide) :
    PCall Try.prog 182 [.agg [.int .i64 op, .int .i64 n, .int .i64 vk, .int .i64 vn, .str vs, .sl es]] fun r => r = [.int .i64 (sizeM (.mk op n ⟨vk, vn, vs⟩ ar)).1, .int .i64 (sizeM (.mk op n ⟨vk, vn, vs⟩ ar)).2] := by
  obtain ⟨n', h', k, hm, hcall⟩ := meas_all _ (.mk op n ⟨vk, vn, vs⟩ ar) (Nat.le_refl _) hw _ 0 1 (by rw [cells_mk]) (by decide) (by decide) (by decide) (by decide)
  rw [← rsizeM_eq, rsizeM, hm]
  rw [hes] at hcall
  refine PCall.x (nt := 25) (res := [.tmp 2, .tmp 3]) mixed tt_ok [] Try.func182 rfl rfl rfl c182 (Nat.le_of_ble_eq_true rfl) ?_
  intro cp cc lp Q' hcp hcc hlp hQ
  repeat' (first
    | (with_reducible refine Nm.mk ?_; intro z hz)
    | (with_reducible refine IfB.mk ?_ ?_ <;> (intro h; cases h))
    | (with_reducible refine Two.l ?_; refine Asm.mk ?_ ?_; focus (decide +kernel))
    | (with_reducible refine Two.r ?_)
    | (with_reducible refine Asm.mk ?_ ?_; focus (first | kernel_rfl | decide))
    | (with_reducible refine isCP hcp ?_; first | (refine xP hcp (hcall) ?_; skip))
    | (with_reducible refine isCC hcc ?_; first | (refine xA hcc (hcall) rfl ?_; skip))
    | (with_reducible refine Asm.mk2 ?_ ?_)
    | ((fail_if_success (with_reducible first | refine hQ _ ?_ | refine Side.mk ?_ | refine isCP hcp ?_ | refine isCC hcc ?_ | refine isLP hlp ?_ | refine Ix.mk ?_ | refine SIx.mk ?_ | refine SEx.mk ?_ | refine EIx.mk ?_ | refine RIx.mk ?_ | show False | refine hR ?_ _ ?_ ?_ ?_ ?_ ?_ | refine hR2 ?_ _ ?_ ?_ ?_ ?_ ?_)); cbv))
  all_goals (refine hQ _ ?_; clear hQ hcp hcc hlp; simp_all)
  all_goals (rw [if_neg (by omega)]; exact ⟨rfl, rfl⟩)
theorem rbuilt_c (op n vk vn : Int) (vs : ByteArray) (ar : List Ex) (es : List (List PV)) (hes : ar.map Ex.cells = es) (hw : (Ex.mk op n ⟨vk, vn, vs⟩ ar).wide) :
    PCall Try.prog 138 [.agg [.int .i64 op, .int .i64 n, .int .i64 vk, .int .i64 vn, .str vs, .sl es]] fun r => r = [.bool (builtM (.mk op n ⟨vk, vn, vs⟩ ar))] := by
  have h := rsize_c op n vk vn vs ar es hes hw
  rw [builtM]
  generalize sizeM (.mk op n ⟨vk, vn, vs⟩ ar) = p at *
  obtain ⟨a, b⟩ := p
  refine PCall.x (nt := 12) (res := [.tmp 2]) mixed tt_ok [] Try.func138 rfl rfl rfl c138 (Nat.le_of_ble_eq_true rfl) ?_
  intro cp cc lp Q' hcp hcc hlp hQ
  repeat' (first
    | (with_reducible refine Nm.mk ?_; intro z hz)
    | (with_reducible refine IfB.mk ?_ ?_ <;> (intro h; cases h))
    | (with_reducible refine Two.l ?_; refine Asm.mk ?_ ?_; focus (decide +kernel))
    | (with_reducible refine Two.r ?_)
    | (with_reducible refine Asm.mk ?_ ?_; focus (first | kernel_rfl | decide))
    | (with_reducible refine isCP hcp ?_; first | (refine xP hcp (h) ?_; skip))
    | (with_reducible refine isCC hcc ?_; first | (refine xA hcc (h) rfl ?_; skip))
    | (with_reducible refine Asm.mk2 ?_ ?_)
    | ((fail_if_success (with_reducible first | refine hQ _ ?_ | refine Side.mk ?_ | refine isCP hcp ?_ | refine isCC hcc ?_ | refine isLP hlp ?_ | refine Ix.mk ?_ | refine SIx.mk ?_ | refine SEx.mk ?_ | refine EIx.mk ?_ | refine RIx.mk ?_ | show False | refine hR ?_ _ ?_ ?_ ?_ ?_ ?_ | refine hR2 ?_ _ ?_ ?_ ?_ ?_ ?_)); cbv))
  all_goals (refine hQ _ ?_; clear hQ hcp hcc hlp; simp_all)
end Go.Proofs.Ytnhmnfokbinplaa

namespace Go.Proofs.Ytnhmnfokbinplaa
open Go Go.RowKit
set_option maxRecDepth 100000
set_option linter.unusedSimpArgs false
set_option linter.unusedVariables false

set_option maxHeartbeats 1000000 in
theorem neat_c (op n : Int) (v : Val) (ar : List Ex) (es : List (List PV)) (hes : ar.map Ex.cells = es) (hs : wideN ar.length)
    (IH : ∀ x, x ∈ ar → PCall Try.prog 141 [.agg x.cells] fun r => r = [.agg (mapE id x).cells]) :
    PCall Try.prog 141 [.agg [.int .i64 op, .int .i64 n, .int .i64 v.k, .int .i64 v.n, .str v.s, .sl es]] fun r => r = [.agg (mapE id (.mk op n v ar)).cells] := by
  have hel : es.length = ar.length := by rw [← hes]; simp
  obtain ⟨q, hq⟩ : ∃ q, mapE id (.mk op n v ar) = q := ⟨_, rfl⟩
  rw [hq]
  rw [mapE, mapL_eq] at hq
  obtain ⟨vk, vn, vs⟩ := v
  unfold wideN at hs
  have hmc : ∀ (op' m' vk' vn' : Int) (vs' : ByteArray) (ar' : List Ex) (es' : List (List PV)) (i : Nat), ar[i]? = some (.mk op' m' ⟨vk', vn', vs'⟩ ar') → ar'.map Ex.cells = es' →
      PCall Try.prog 141 [.agg [.int .i64 op', .int .i64 m', .int .i64 vk', .int .i64 vn', .str vs', .sl es']] fun r => r = [.agg (mapE id (.mk op' m' ⟨vk', vn', vs'⟩ ar')).cells] := by
    intro op' m' vk' vn' vs' ar' es' i hx he
    have := IH _ (List.mem_of_getElem? hx)
    rw [cells_mk, he] at this
    exact this
  refine PCall.x (nt := 38) (res := [.cell 2 80]) mixed tt_ok [] Try.func141 rfl rfl rfl c141 (Nat.le_of_ble_eq_true rfl) ?_
  intro cp cc lp Q' hcp hcc hlp hQ
  repeat' (first
    | (with_reducible refine Nm.mk ?_; intro z hz)
    | (with_reducible refine IfB.mk ?_ ?_ <;> (intro h; cases h))
    | (with_reducible refine Two.l ?_; refine Asm.mk ?_ ?_; focus (decide +kernel))
    | (with_reducible refine Two.r ?_)
    | (with_reducible refine Asm.mk ?_ ?_; focus (first | kernel_rfl | decide))
    | (with_reducible refine isCP hcp ?_; first | (refine vP hcp (rclean_c vk vn vs) ?_; intro v hv))
    | (with_reducible refine isCC hcc ?_; first | (refine vA hcc (rclean_c vk vn vs) rfl ?_; intro v hv))
    | (with_reducible refine Asm.mk2 ?_ ?_)
    | ((fail_if_success (with_reducible first | refine hQ _ ?_ | refine Side.mk ?_ | refine isCP hcp ?_ | refine isCC hcc ?_ | refine isLP hlp ?_ | refine Ix.mk ?_ | refine SIx.mk ?_ | refine SEx.mk ?_ | refine EIx.mk ?_ | refine RIx.mk ?_ | show False | refine hR ?_ _ ?_ ?_ ?_ ?_ ?_ | refine hR2 ?_ _ ?_ ?_ ?_ ?_ ?_)); cbv))
  · exfalso
    have e1 : op = 2 := of_decide_eq_true (by assumption)
    have e2 : op = 1 := of_decide_eq_true (by assumption)
    omega
  · have hq' : Ex.mk op 0 ⟨v.k, v.n, v.s⟩ (ar.map (mapE id)) = q := by
      rw [← hq]
      clear hQ hcp hcc hlp hmc IH
      first
        | (have e : op = 1 := of_decide_eq_true (by assumption)
           subst e; rfl)
        | (have e : op = 2 := of_decide_eq_true (by assumption)
           subst e; subst_vars; rfl)
        | (have e1 : ¬ op = 1 := of_decide_eq_false (by assumption)
           have e2 : ¬ op = 2 := of_decide_eq_false (by assumption)
           rw [if_neg e1, if_neg e1, if_neg e2]; rfl)
    clear hq
    simp only [nc] at hz
    simp only [nc'] at hz
    have hzl := lenZ (n := ar.length) hel hz
    clear hz
    rename Int => zl
    refine mintX hlp 6 2 5 rfl rfl ?_
    refine loopT (ι := Int × List (List PV) × Nat) mixed tt_ok hcp hcc hlp [2, 3, 23, 24] (fun p => [(25, .p (.int .i64 p.1))])
      (fun p => [.cells [.p (.int .i64 op), .p (.int .i64 n), .p (.int .i64 vk), .p (.int .i64 vn), .p (.str vs), .p (.sl es)], .cells [.p (.int .i64 0), .p (.int .i64 0), .p (.int .i64 0), .p (.int .i64 0), .p (.str ⟨⟨[]⟩⟩), .full []],
        .cells [.p (.int .i64 op), .p (.int .i64 0), .p (.int .i64 v.k), .p (.int .i64 v.n), .p (.str v.s), .tok 3 p.2.1], .spare p.2.2 6])
      (fun p => Rng ar.length zl p.1 ∧ (ar.take p.1.toNat).map (fun e => (mapE id e).cells) = p.2.1 ∧ p.2.1.length = p.2.2) (fun p => (zl - p.1).toNat)
      (0, [], 0) 4 (fun _ => rfl) ⟨Rng.start hzl (by omega), by simp, rfl⟩ ⟨rfl, trivial⟩ rfl ?_
    rintro R ⟨i, L, m⟩ ⟨rg, hl, hm⟩ hR
    replace rg : Rng ar.length zl i := rg
    replace hl : (ar.take i.toNat).map (fun e => (mapE id e).cells) = L := hl
    replace hm : L.length = m := hm
    have hll : L.length ≤ i.toNat := by rw [← hl]; simp; omega
    have hok : okEs 6 L = true := by
      rw [← hl, show (fun e => (mapE id e).cells) = Ex.cells ∘ mapE id from rfl, ← List.map_map]; exact okEs_cells _
    have hst : decide (i < zl) = true → L.length + 1 ≤ maxLen ∧ (L.length + 1) * 72 ≤ 140737488355328 := by
      intro h
      have hlt := rg.ltN h
      refine ⟨by simp only [maxLen]; omega, by omega⟩
    have hfin : decide (i < zl) = false → (ar.map (mapE id)).map Ex.cells = L := by
      intro h
      rw [← hl, rg.take_ rfl h, List.map_map]; rfl
    repeat' (first
      | (with_reducible refine Nm.mk ?_; intro z hz)
      | (with_reducible refine IfB.mk ?_ ?_ <;> (intro h; cases h))
      | (with_reducible refine Two.l ?_; refine Asm.mk ?_ ?_; focus (decide +kernel))
      | (with_reducible refine Two.r ?_)
      | (with_reducible refine Asm.mk ?_ ?_; focus kernel_rfl)
      | (with_reducible refine isCP hcp ?_; first | (refine exP hcp (hmc _ _ _ _ _ _ _ i.toNat (by assumption) (by assumption)) ?_; intro op2 n2 vk2 vn2 vs2 ar2 es2 hX hes2))
      | (with_reducible refine isCC hcc ?_; first | (refine exA hcc (hmc _ _ _ _ _ _ _ i.toNat (by assumption) (by assumption)) rfl ?_; intro op2 n2 vk2 vn2 vs2 ar2 es2 hX hes2))
      | (with_reducible refine Ix.ex hes rg.lo (rg.lt (by assumption)) ?_; intro op' m' vk' vn' vs' ar' es' hx hes')
      | (with_reducible refine Asm.mk2 ?_ ?_)
      | ((fail_if_success (with_reducible first | refine hQ _ ?_ | refine Side.mk ?_ | refine isCP hcp ?_ | refine isCC hcc ?_ | refine isLP hlp ?_ | refine Ix.mk ?_ | refine SIx.mk ?_ | refine SEx.mk ?_ | refine EIx.mk ?_ | refine RIx.mk ?_ | show False | refine hR ?_ _ ?_ ?_ ?_ ?_ ?_ | refine hR2 ?_ _ ?_ ?_ ?_ ?_ ?_)); cbv))
    · refine Side.mk ?_
      obtain ⟨u1, u2⟩ := hst (by assumption)
      exact ⟨hm.symm, rfl, hok, rfl, u1, u2⟩
    · have hlt : decide (i < zl) = true := by assumption
      rw [rg.wrap hlt] at hz
      rename_i L2 hL2 m2 hm2
      refine hR (i + 1, _, _) _ ⟨rg.next hlt, ?_, ?_⟩ (rg.less hlt) ⟨hz ▸ rfl, trivial⟩ ⟨rfl, rfl, rfl, rfl, trivial⟩ rfl
      · show (ar.take (i + 1).toNat).map (fun e => (mapE id e).cells) = L2
        rw [rg.take hx, List.map_append, hl, ← hL2]
        simp only [List.map_cons, List.map_nil, hX, cells_mk, hes2]
      · show L2.length = m2
        rw [← hL2, ← hm2, List.length_append]
    · refine hQ _ ?_
      rw [← hq', cells_mk, hfin (by assumption)]
  · have hq' : Ex.mk op n ⟨0, 0, ⟨⟨[]⟩⟩⟩ (ar.map (mapE id)) = q := by
      rw [← hq]
      clear hQ hcp hcc hlp hmc IH
      first
        | (have e : op = 1 := of_decide_eq_true (by assumption)
           subst e; rfl)
        | (have e : op = 2 := of_decide_eq_true (by assumption)
           subst e; subst_vars; rfl)
        | (have e1 : ¬ op = 1 := of_decide_eq_false (by assumption)
           have e2 : ¬ op = 2 := of_decide_eq_false (by assumption)
           rw [if_neg e1, if_neg e1, if_neg e2]; rfl)
    clear hq
    simp only [nc] at hz
    simp only [nc'] at hz
    have hzl := lenZ (n := ar.length) hel hz
    clear hz
    rename Int => zl
    refine mintX hlp 6 2 5 rfl rfl ?_
    refine loopT (ι := Int × List (List PV) × Nat) mixed tt_ok hcp hcc hlp [2, 3, 23, 24] (fun p => [(25, .p (.int .i64 p.1))])
      (fun p => [.cells [.p (.int .i64 op), .p (.int .i64 n), .p (.int .i64 vk), .p (.int .i64 vn), .p (.str vs), .p (.sl es)], .cells [.p (.int .i64 0), .p (.int .i64 0), .p (.int .i64 0), .p (.int .i64 0), .p (.str ⟨⟨[]⟩⟩), .full []],
        .cells [.p (.int .i64 op), .p (.int .i64 n), .p (.int .i64 0), .p (.int .i64 0), .p (.str ⟨⟨[]⟩⟩), .tok 3 p.2.1], .spare p.2.2 6])
      (fun p => Rng ar.length zl p.1 ∧ (ar.take p.1.toNat).map (fun e => (mapE id e).cells) = p.2.1 ∧ p.2.1.length = p.2.2) (fun p => (zl - p.1).toNat)
      (0, [], 0) 4 (fun _ => rfl) ⟨Rng.start hzl (by omega), by simp, rfl⟩ ⟨rfl, trivial⟩ rfl ?_
    rintro R ⟨i, L, m⟩ ⟨rg, hl, hm⟩ hR
    replace rg : Rng ar.length zl i := rg
    replace hl : (ar.take i.toNat).map (fun e => (mapE id e).cells) = L := hl
    replace hm : L.length = m := hm
    have hll : L.length ≤ i.toNat := by rw [← hl]; simp; omega
    have hok : okEs 6 L = true := by
      rw [← hl, show (fun e => (mapE id e).cells) = Ex.cells ∘ mapE id from rfl, ← List.map_map]; exact okEs_cells _
    have hst : decide (i < zl) = true → L.length + 1 ≤ maxLen ∧ (L.length + 1) * 72 ≤ 140737488355328 := by
      intro h
      have hlt := rg.ltN h
      refine ⟨by simp only [maxLen]; omega, by omega⟩
    have hfin : decide (i < zl) = false → (ar.map (mapE id)).map Ex.cells = L := by
      intro h
      rw [← hl, rg.take_ rfl h, List.map_map]; rfl
    repeat' (first
      | (with_reducible refine Nm.mk ?_; intro z hz)
      | (with_reducible refine IfB.mk ?_ ?_ <;> (intro h; cases h))
      | (with_reducible refine Two.l ?_; refine Asm.mk ?_ ?_; focus (decide +kernel))
      | (with_reducible refine Two.r ?_)
      | (with_reducible refine Asm.mk ?_ ?_; focus kernel_rfl)
      | (with_reducible refine isCP hcp ?_; first | (refine exP hcp (hmc _ _ _ _ _ _ _ i.toNat (by assumption) (by assumption)) ?_; intro op2 n2 vk2 vn2 vs2 ar2 es2 hX hes2))
      | (with_reducible refine isCC hcc ?_; first | (refine exA hcc (hmc _ _ _ _ _ _ _ i.toNat (by assumption) (by assumption)) rfl ?_; intro op2 n2 vk2 vn2 vs2 ar2 es2 hX hes2))
      | (with_reducible refine Ix.ex hes rg.lo (rg.lt (by assumption)) ?_; intro op' m' vk' vn' vs' ar' es' hx hes')
      | (with_reducible refine Asm.mk2 ?_ ?_)
      | ((fail_if_success (with_reducible first | refine hQ _ ?_ | refine Side.mk ?_ | refine isCP hcp ?_ | refine isCC hcc ?_ | refine isLP hlp ?_ | refine Ix.mk ?_ | refine SIx.mk ?_ | refine SEx.mk ?_ | refine EIx.mk ?_ | refine RIx.mk ?_ | show False | refine hR ?_ _ ?_ ?_ ?_ ?_ ?_ | refine hR2 ?_ _ ?_ ?_ ?_ ?_ ?_)); cbv))
    · refine Side.mk ?_
      obtain ⟨u1, u2⟩ := hst (by assumption)
      exact ⟨hm.symm, rfl, hok, rfl, u1, u2⟩
    · have hlt : decide (i < zl) = true := by assumption
      rw [rg.wrap hlt] at hz
      rename_i L2 hL2 m2 hm2
      refine hR (i + 1, _, _) _ ⟨rg.next hlt, ?_, ?_⟩ (rg.less hlt) ⟨hz ▸ rfl, trivial⟩ ⟨rfl, rfl, rfl, rfl, trivial⟩ rfl
      · show (ar.take (i + 1).toNat).map (fun e => (mapE id e).cells) = L2
        rw [rg.take hx, List.map_append, hl, ← hL2]
        simp only [List.map_cons, List.map_nil, hX, cells_mk, hes2]
      · show L2.length = m2
        rw [← hL2, ← hm2, List.length_append]
    · refine hQ _ ?_
      rw [← hq', cells_mk, hfin (by assumption)]
  · have hq' : Ex.mk op 0 ⟨0, 0, ⟨⟨[]⟩⟩⟩ (ar.map (mapE id)) = q := by
      rw [← hq]
      clear hQ hcp hcc hlp hmc IH
      first
        | (have e : op = 1 := of_decide_eq_true (by assumption)
           subst e; rfl)
        | (have e : op = 2 := of_decide_eq_true (by assumption)
           subst e; subst_vars; rfl)
        | (have e1 : ¬ op = 1 := of_decide_eq_false (by assumption)
           have e2 : ¬ op = 2 := of_decide_eq_false (by assumption)
           rw [if_neg e1, if_neg e1, if_neg e2]; rfl)
    clear hq
    simp only [nc] at hz
    simp only [nc'] at hz
    have hzl := lenZ (n := ar.length) hel hz
    clear hz
    rename Int => zl
    refine mintX hlp 6 2 5 rfl rfl ?_
    refine loopT (ι := Int × List (List PV) × Nat) mixed tt_ok hcp hcc hlp [2, 3, 23, 24] (fun p => [(25, .p (.int .i64 p.1))])
      (fun p => [.cells [.p (.int .i64 op), .p (.int .i64 n), .p (.int .i64 vk), .p (.int .i64 vn), .p (.str vs), .p (.sl es)], .cells [.p (.int .i64 0), .p (.int .i64 0), .p (.int .i64 0), .p (.int .i64 0), .p (.str ⟨⟨[]⟩⟩), .full []],
        .cells [.p (.int .i64 op), .p (.int .i64 0), .p (.int .i64 0), .p (.int .i64 0), .p (.str ⟨⟨[]⟩⟩), .tok 3 p.2.1], .spare p.2.2 6])
      (fun p => Rng ar.length zl p.1 ∧ (ar.take p.1.toNat).map (fun e => (mapE id e).cells) = p.2.1 ∧ p.2.1.length = p.2.2) (fun p => (zl - p.1).toNat)
      (0, [], 0) 4 (fun _ => rfl) ⟨Rng.start hzl (by omega), by simp, rfl⟩ ⟨rfl, trivial⟩ rfl ?_
    rintro R ⟨i, L, m⟩ ⟨rg, hl, hm⟩ hR
    replace rg : Rng ar.length zl i := rg
    replace hl : (ar.take i.toNat).map (fun e => (mapE id e).cells) = L := hl
    replace hm : L.length = m := hm
    have hll : L.length ≤ i.toNat := by rw [← hl]; simp; omega
    have hok : okEs 6 L = true := by
      rw [← hl, show (fun e => (mapE id e).cells) = Ex.cells ∘ mapE id from rfl, ← List.map_map]; exact okEs_cells _
    have hst : decide (i < zl) = true → L.length + 1 ≤ maxLen ∧ (L.length + 1) * 72 ≤ 140737488355328 := by
      intro h
      have hlt := rg.ltN h
      refine ⟨by simp only [maxLen]; omega, by omega⟩
    have hfin : decide (i < zl) = false → (ar.map (mapE id)).map Ex.cells = L := by
      intro h
      rw [← hl, rg.take_ rfl h, List.map_map]; rfl
    repeat' (first
      | (with_reducible refine Nm.mk ?_; intro z hz)
      | (with_reducible refine IfB.mk ?_ ?_ <;> (intro h; cases h))
      | (with_reducible refine Two.l ?_; refine Asm.mk ?_ ?_; focus (decide +kernel))
      | (with_reducible refine Two.r ?_)
      | (with_reducible refine Asm.mk ?_ ?_; focus kernel_rfl)
      | (with_reducible refine isCP hcp ?_; first | (refine exP hcp (hmc _ _ _ _ _ _ _ i.toNat (by assumption) (by assumption)) ?_; intro op2 n2 vk2 vn2 vs2 ar2 es2 hX hes2))
      | (with_reducible refine isCC hcc ?_; first | (refine exA hcc (hmc _ _ _ _ _ _ _ i.toNat (by assumption) (by assumption)) rfl ?_; intro op2 n2 vk2 vn2 vs2 ar2 es2 hX hes2))
      | (with_reducible refine Ix.ex hes rg.lo (rg.lt (by assumption)) ?_; intro op' m' vk' vn' vs' ar' es' hx hes')
      | (with_reducible refine Asm.mk2 ?_ ?_)
      | ((fail_if_success (with_reducible first | refine hQ _ ?_ | refine Side.mk ?_ | refine isCP hcp ?_ | refine isCC hcc ?_ | refine isLP hlp ?_ | refine Ix.mk ?_ | refine SIx.mk ?_ | refine SEx.mk ?_ | refine EIx.mk ?_ | refine RIx.mk ?_ | show False | refine hR ?_ _ ?_ ?_ ?_ ?_ ?_ | refine hR2 ?_ _ ?_ ?_ ?_ ?_ ?_)); cbv))
    · refine Side.mk ?_
      obtain ⟨u1, u2⟩ := hst (by assumption)
      exact ⟨hm.symm, rfl, hok, rfl, u1, u2⟩
    · have hlt : decide (i < zl) = true := by assumption
      rw [rg.wrap hlt] at hz
      rename_i L2 hL2 m2 hm2
      refine hR (i + 1, _, _) _ ⟨rg.next hlt, ?_, ?_⟩ (rg.less hlt) ⟨hz ▸ rfl, trivial⟩ ⟨rfl, rfl, rfl, rfl, trivial⟩ rfl
      · show (ar.take (i + 1).toNat).map (fun e => (mapE id e).cells) = L2
        rw [rg.take hx, List.map_append, hl, ← hL2]
        simp only [List.map_cons, List.map_nil, hX, cells_mk, hes2]
      · show L2.length = m2
        rw [← hL2, ← hm2, List.length_append]
    · refine hQ _ ?_
      rw [← hq', cells_mk, hfin (by assumption)]
theorem neat_all : ∀ (m : Nat) (e : Ex), e.sz ≤ m → e.wide → PCall Try.prog 141 [.agg e.cells] fun r => r = [.agg (mapE id e).cells]
  | 0, .mk op n v ar, h, _ => by simp [Ex.sz] at h
  | m + 1, .mk op n v ar, h, hw => by
    rw [cells_mk]
    refine neat_c op n v ar _ rfl hw.1 fun x hx => neat_all m x ?_ (wide_mem hw.2 hx)
    have := sz_mem hx
    simp only [Ex.sz] at h; omega
theorem rneat_c (op n vk vn : Int) (vs : ByteArray) (ar : List Ex) (es : List (List PV)) (hes : ar.map Ex.cells = es) (hw : (Ex.mk op n ⟨vk, vn, vs⟩ ar).wide) :
    PCall Try.prog 141 [.agg [.int .i64 op, .int .i64 n, .int .i64 vk, .int .i64 vn, .str vs, .sl es]] fun r => r = [.agg (mapE id (.mk op n ⟨vk, vn, vs⟩ ar)).cells] := by
  have := neat_all _ _ (Nat.le_refl _) hw
  rw [cells_mk, hes] at this
  exact this

end Go.Proofs.Ytnhmnfokbinplaa

namespace Go.Proofs.Ytnhmnfokbinplaa
open Go Go.RowKit
set_option maxRecDepth 100000
set_option linter.unusedSimpArgs false
set_option linter.unusedVariables false

theorem Ix.giveK {es : Nat} {l : List (List PV)} {n : Int} {K : List PV → Prop} {e : List PV} (h0 : 0 ≤ n) (h : l[n.toNat]? = some e) (he : e.length = es) (hes : es ≠ 0) (k : K e) : Ix es l n K := ⟨⟨e, h0, h, he, hes, k⟩⟩
/- Where a kind may be asked for. -/
/- What the columns of an expression are. -/
mutual
def Ex.cols : Ex → List Int
  | .mk op m _ ar => (if op = 1 then [m] else []) ++ colsOf ar
def colsOf : List Ex → List Int
  | [] => []
  | e :: r => e.cols ++ colsOf r
end
end Go.Proofs.Ytnhmnfokbinplaa

namespace Go.Proofs.Ytnhmnfokbinplaa
open Go Go.RowKit
set_option maxRecDepth 100000
set_option linter.unusedSimpArgs false
set_option linter.unusedVariables false

def SameC (e : Ex) : Prop := PCall Try.prog 72 [.agg e.cells, .agg e.cells] fun r => r = [.bool true]
theorem same1_c (op m vk vn : Int) (vs : ByteArray) (ar : List Ex) (es : List (List PV)) (hes : ar.map Ex.cells = es) (hs : wideN ar.length) (IH : ∀ x, x ∈ ar → SameC x) :
    PCall Try.prog 72 [.agg [.int .i64 op, .int .i64 m, .int .i64 vk, .int .i64 vn, .str vs, .sl es], .agg [.int .i64 op, .int .i64 m, .int .i64 vk, .int .i64 vn, .str vs, .sl es]] fun r => r = [.bool true] := by
  have hel : es.length = ar.length := by rw [← hes]; simp
  unfold wideN at hs
  refine PCall.x (nt := 53) (res := [.tmp 4]) mixed tt_ok [] Try.func72 rfl rfl rfl c72 (Nat.le_of_ble_eq_true rfl) ?_
  intro cp cc lp Q' hcp hcc hlp hQ
  repeat' (first
    | (with_reducible refine Nm.mk ?_; intro z hz)
    | (with_reducible refine IfB.mk ?_ ?_ <;> (intro h; cases h))
    | (with_reducible refine Two.l ?_; refine Asm.mk ?_ ?_; focus (decide +kernel))
    | (with_reducible refine Two.r ?_)
    | (with_reducible refine Asm.mk ?_ ?_; focus (first | kernel_rfl | decide))
    | (with_reducible refine Asm.mk2 ?_ ?_)
    | ((fail_if_success (with_reducible first | refine hQ _ ?_ | refine Side.mk ?_ | refine isCP hcp ?_ | refine isCC hcc ?_ | refine isLP hlp ?_ | refine Ix.mk ?_ | refine SIx.mk ?_ | refine SEx.mk ?_ | refine EIx.mk ?_ | refine RIx.mk ?_ | show False | refine hR ?_ _ ?_ ?_ ?_ ?_ ?_ | refine hR2 ?_ _ ?_ ?_ ?_ ?_ ?_)); cbv))
  all_goals first
    | (exfalso; rw [eqB_val] at hz; simp at hz; done)
    | (exfalso; clear hQ hcp hcc hlp IH; simp_all; done)
    | skip
  simp only [nc] at hz
  simp only [nc'] at hz
  have hzl := lenZ (n := ar.length) hel hz
  clear hz
  generalize z = zl at *
  refine loopK (ι := Int) mixed tt_ok hcp hcc hlp [2, 3, 36] (fun i => [(37, .p (.int .i64 i))]) (fun i => Rng ar.length zl i) (fun i => (zl - i).toNat) 0 (fun _ => rfl) (Rng.start hzl (by omega)) ⟨rfl, trivial⟩ ?_
  intro R i rg hR
  have hget : ∀ (op' m' vk' vn' : Int) (vs' : ByteArray) (ar' : List Ex) (es' : List (List PV)), ar[i.toNat]? = some (.mk op' m' ⟨vk', vn', vs'⟩ ar') → ar'.map Ex.cells = es' → es[i.toNat]? = some [.int .i64 op', .int .i64 m', .int .i64 vk', .int .i64 vn', .str vs', .sl es'] := by
    intro op' m' vk' vn' vs' ar' es' hx he
    rw [← hes, List.getElem?_map, hx, Option.map_some, cells_mk, he]
  have hpc : ∀ (op' m' vk' vn' : Int) (vs' : ByteArray) (ar' : List Ex) (es' : List (List PV)), ar[i.toNat]? = some (.mk op' m' ⟨vk', vn', vs'⟩ ar') → ar'.map Ex.cells = es' → PCall Try.prog 72 [.agg [.int .i64 op', .int .i64 m', .int .i64 vk', .int .i64 vn', .str vs', .sl es'], .agg [.int .i64 op', .int .i64 m', .int .i64 vk', .int .i64 vn', .str vs', .sl es']] fun r => r = [.bool true] := by
    intro op' m' vk' vn' vs' ar' es' hx he
    have := IH _ (List.mem_of_getElem? hx)
    rw [SameC, cells_mk, he] at this
    exact this
  repeat' (first
    | (with_reducible refine Nm.mk ?_; intro z hz)
    | (with_reducible refine IfB.mk ?_ ?_ <;> (intro h; cases h))
    | (with_reducible refine Two.l ?_; refine Asm.mk ?_ ?_; focus (decide +kernel))
    | (with_reducible refine Two.r ?_)
    | (with_reducible refine Asm.mk ?_ ?_; focus kernel_rfl)
    | (with_reducible refine isCP hcp ?_; first | (refine xP hcp (hpc _ _ _ _ _ _ _ (by assumption) (by assumption)) ?_; skip))
    | (with_reducible refine isCC hcc ?_; first | (refine xA hcc (hpc _ _ _ _ _ _ _ (by assumption) (by assumption)) rfl ?_; skip))
    | (with_reducible refine Ix.giveK rg.lo (by assumption) rfl (by decide) ?_)
    | (with_reducible refine Ix.ex hes rg.lo (rg.lt (by assumption)) ?_; intro op' m' vk' vn' vs' ar' es' hx hes'; have hg2 := hget _ _ _ _ _ _ _ hx hes')
    | (with_reducible refine Asm.mk2 ?_ ?_)
    | ((fail_if_success (with_reducible first | refine hQ _ ?_ | refine Side.mk ?_ | refine isCP hcp ?_ | refine isCC hcc ?_ | refine isLP hlp ?_ | refine Ix.mk ?_ | refine SIx.mk ?_ | refine SEx.mk ?_ | refine EIx.mk ?_ | refine RIx.mk ?_ | show False | refine hR ?_ _ ?_ ?_ ?_ ?_ ?_ | refine hR2 ?_ _ ?_ ?_ ?_ ?_ ?_)); cbv))
  · exfalso; simp at hz
  · have hlt : decide (i < zl) = true := by assumption
    rw [rg.wrap hlt] at hz
    exact hR (i + 1) _ (rg.next hlt) (rg.less hlt) ⟨hz ▸ rfl, trivial⟩ ⟨rfl, rfl, rfl, trivial⟩ rfl
  · exact hQ _ rfl
theorem same_all : ∀ (k : Nat) (e : Ex), e.sz ≤ k → e.wide → SameC e
  | 0, .mk op m v ar, h, _ => by simp [Ex.sz] at h
  | k + 1, .mk op m ⟨vk, vn, vs⟩ ar, h, hw => by
    rw [SameC, cells_mk]
    refine same1_c op m vk vn vs ar _ rfl hw.1 fun x hx => same_all k x ?_ (wide_mem hw.2 hx)
    have := sz_mem hx
    simp only [Ex.sz] at h; omega

/-- All parts as one. -/
def allM : List Ex → Ex
  | [] => .mk 2 0 ⟨1, 1, ⟨⟨[]⟩⟩⟩ []
  | a :: r => r.foldl (fun o e => .mk 19 0 Val.zero [o, mapE id e]) (mapE id a)
theorem all_wide : ∀ (l : List Ex), wideL l → (allM l).wide
  | [], _ => ⟨by unfold wideN; decide, trivial⟩
  | a :: r, h => by
    rw [wideL] at h
    have key : ∀ (r : List Ex) (o : Ex), o.wide → wideL r → (r.foldl (fun o e => Ex.mk 19 0 Val.zero [o, mapE id e]) o).wide := by
      intro r
      induction r with
      | nil => intro o ho _; exact ho
      | cons x r ih =>
        intro o ho hr
        rw [wideL] at hr
        exact ih _ ⟨by unfold wideN; simp, ho, wide_copy x hr.1, trivial⟩ hr.2
    exact key r _ (wide_copy a h.1) h.2
theorem allM_snoc (a x : Ex) (l : List Ex) : allM (a :: (l ++ [x])) = .mk 19 0 Val.zero [allM (a :: l), mapE id x] := by
  rw [allM, List.foldl_append]; rfl
theorem num1_c : PCall Try.prog 93 [.int .i64 1] fun r => r = [.agg [.int .i64 1, .int .i64 1, .str ⟨⟨[]⟩⟩]] := num_r 1
def outC (op m vk vn : Int) (vs : ByteArray) (es : List (List PV)) (b : Bool) : List AV := match b with
  | true => [.p (.int .i64 op), .p (.int .i64 m), .p (.int .i64 vk), .p (.int .i64 vn), .p (.str vs), .full es]
  | false => [.p (.int .i64 op), .p (.int .i64 m), .p (.int .i64 vk), .p (.int .i64 vn), .p (.str vs), .p (.sl es)]
set_option maxHeartbeats 2000000 in
theorem all_c (l : List Ex) (L : List (List PV)) (hL : l.map Ex.cells = L) (hw : wideL l) (hn : wideN l.length) : PCall Try.prog 75 [.sl L] fun r => r = [.agg (allM l).cells] := by
  cases l with
  | nil =>
    subst hL
    show PCall Try.prog 75 [.sl []] _
    have hnum := num1_c
    refine PCall.x (nt := 29) (res := [.cell 2 80]) mixed tt_ok [] Try.func75 rfl rfl rfl c75 (Nat.le_of_ble_eq_true rfl) ?_
    intro cp cc lp Q' hcp hcc hlp hQ
    repeat' (first
      | (with_reducible refine Nm.mk ?_; intro z hz)
      | (with_reducible refine IfB.mk ?_ ?_ <;> (intro h; cases h))
      | (with_reducible refine Two.l ?_; refine Asm.mk ?_ ?_; focus (decide +kernel))
      | (with_reducible refine Two.r ?_)
      | (with_reducible refine Asm.mk ?_ ?_; focus (first | kernel_rfl | decide))
      | (with_reducible refine isCP hcp ?_; first | (refine xP hcp (hnum) ?_; skip))
      | (with_reducible refine isCC hcc ?_; first | (refine xA hcc (hnum) rfl ?_; skip))
      | (with_reducible refine Asm.mk2 ?_ ?_)
      | ((fail_if_success (with_reducible first | refine hQ _ ?_ | refine Side.mk ?_ | refine isCP hcp ?_ | refine isCC hcc ?_ | refine isLP hlp ?_ | refine Ix.mk ?_ | refine SIx.mk ?_ | refine SEx.mk ?_ | refine EIx.mk ?_ | refine RIx.mk ?_ | show False | refine hR ?_ _ ?_ ?_ ?_ ?_ ?_ | refine hR2 ?_ _ ?_ ?_ ?_ ?_ ?_)); cbv))
    all_goals first
      | exact hQ _ rfl
      | (exfalso; clear hQ hcp hcc hlp; simp_all; done)
      | skip
  | cons a r =>
    unfold wideN at hn
    rw [wideL] at hw
    obtain ⟨op, m, ⟨vk, vn, vs⟩, ar⟩ := a
    obtain ⟨es, hes⟩ : ∃ l, ar.map Ex.cells = l := ⟨_, rfl⟩
    obtain ⟨RL, hRL⟩ : ∃ l, r.map Ex.cells = l := ⟨_, rfl⟩
    rw [List.map_cons, cells_mk, hes, hRL] at hL
    have hcp0 := copy_c op m vk vn vs ar es hes hw.1
    have hrl : RL.length = r.length := by rw [← hRL]; simp
    have hrb : r.length ≤ 1954687338999 := by simp only [List.length_cons] at hn; omega
    have hLl : L.length = RL.length + 1 := by rw [← hL]; rfl
    have hg0 : L[Int.toNat 0]? = some [.int .i64 op, .int .i64 m, .int .i64 vk, .int .i64 vn, .str vs, .sl es] := by rw [← hL]; rfl
    have hdr : (L.drop 1) = RL := by rw [← hL]; rfl
    have hall6 : (L.all fun e => e.length == 6) = true := by
      rw [List.all_eq_true, ← hL]
      intro e he
      rcases List.mem_cons.1 he with rfl | he
      · rfl
      · rw [← hRL] at he
        obtain ⟨x, _, rfl⟩ := List.mem_map.1 he
        obtain ⟨_, _, ⟨_, _, _⟩, _⟩ := x
        rfl
    clear hL
    have hnum := num1_c
    refine PCall.x (nt := 29) (res := [.cell 2 80]) mixed tt_ok [] Try.func75 rfl rfl rfl c75 (Nat.le_of_ble_eq_true rfl) ?_
    intro cp cc lp Q' hcp hcc hlp hQ
    repeat' (first
      | (with_reducible refine Nm.mk ?_; intro z hz)
      | (with_reducible refine IfB.mk ?_ ?_ <;> (intro h; cases h))
      | (with_reducible refine Two.l ?_; refine Asm.mk ?_ ?_; focus (decide +kernel))
      | (with_reducible refine Two.r ?_)
      | (with_reducible refine Asm.mk ?_ ?_; focus kernel_rfl)
      | (with_reducible refine isCP hcp ?_; first | (refine xP hcp (hnum) ?_; skip) | (refine exP hcp (hcp0) ?_; intro op2 m2 vk2 vn2 vs2 ar2 es2 hX hes2))
      | (with_reducible refine isCC hcc ?_; first | (refine xA hcc (hnum) rfl ?_; skip) | (refine exA hcc (hcp0) rfl ?_; intro op2 m2 vk2 vn2 vs2 ar2 es2 hX hes2))
      | (with_reducible refine Ix.giveK (by decide) hg0 rfl (by decide) ?_)
      | (with_reducible refine Asm.mk2 ?_ ?_)
      | ((fail_if_success (with_reducible first | refine hQ _ ?_ | refine Side.mk ?_ | refine isCP hcp ?_ | refine isCC hcc ?_ | refine isLP hlp ?_ | refine Ix.mk ?_ | refine SIx.mk ?_ | refine SEx.mk ?_ | refine EIx.mk ?_ | refine RIx.mk ?_ | show False | refine hR ?_ _ ?_ ?_ ?_ ?_ ?_ | refine hR2 ?_ _ ?_ ?_ ?_ ?_ ?_)); cbv))
    · exfalso
      have h1 := of_decide_eq_true hz
      have h2 : (L.length : Int) = z := by assumption
      simp only [nc] at h2
      simp only [nc'] at h2
      omega
    · exact Side.mk ⟨by show (0 : Int) ≤ 1; omega, by show (1 : Int) ≤ L.length; omega, Int.le_refl _, hall6, by decide⟩
    rename_i SL hSL
    obtain rfl : SL = RL := by
      rw [← hSL]
      show List.take ((L.length : Int).toNat - 1) (L.drop 1) = RL
      rw [hdr, List.take_of_length_le (by omega)]
    simp only [nc] at hz
    simp only [nc'] at hz
    have hzl := lenZ (n := r.length) hrl hz
    clear hz hSL
    generalize z = zl at *
    refine loopT (ι := Int × (Int × Int × Int × Int × ByteArray × List Ex × List (List PV)) × Bool) mixed tt_ok hcp hcc hlp [2, 3, 16, 17] (fun p => [(18, .p (.int .i64 p.1))])
      (fun p => [.cells [.p (.int .i64 0), .p (.int .i64 0), .p (.int .i64 0), .p (.int .i64 0), .p (.str ⟨⟨[]⟩⟩), .full []], .cells (outC p.2.1.1 p.2.1.2.1 p.2.1.2.2.1 p.2.1.2.2.2.1 p.2.1.2.2.2.2.1 p.2.1.2.2.2.2.2.2 p.2.2)])
      (fun p => Rng r.length zl p.1 ∧ allM (.mk op m ⟨vk, vn, vs⟩ ar :: r.take p.1.toNat) = .mk p.2.1.1 p.2.1.2.1 ⟨p.2.1.2.2.1, p.2.1.2.2.2.1, p.2.1.2.2.2.2.1⟩ p.2.1.2.2.2.2.2.1 ∧ p.2.1.2.2.2.2.2.1.map Ex.cells = p.2.1.2.2.2.2.2.2) (fun p => (zl - p.1).toNat)
      (0, (op2, m2, vk2, vn2, vs2, ar2, es2), false) 2 (fun p => by obtain ⟨_, _, b⟩ := p; cases b <;> rfl) ⟨Rng.start hzl (by omega), hX, hes2⟩ ⟨rfl, trivial⟩ rfl ?_
    rintro Q2 ⟨i, ⟨o1, m1, k1, n1, s1, A1, e1⟩, b⟩ ⟨rg, hA, he1⟩ hR
    replace rg : Rng r.length zl i := rg
    replace hA : allM (.mk op m ⟨vk, vn, vs⟩ ar :: r.take i.toNat) = .mk o1 m1 ⟨k1, n1, s1⟩ A1 := hA
    replace he1 : A1.map Ex.cells = e1 := he1
    have hcpy : ∀ (op' m' vk' vn' : Int) (vs' : ByteArray) (ar' : List Ex) (es' : List (List PV)), r[i.toNat]? = some (.mk op' m' ⟨vk', vn', vs'⟩ ar') → ar'.map Ex.cells = es' → PCall Try.prog 116 [.agg [.int .i64 op', .int .i64 m', .int .i64 vk', .int .i64 vn', .str vs', .sl es'], .fn 117 []] fun r => r = [.agg (mapE id (.mk op' m' ⟨vk', vn', vs'⟩ ar')).cells] := fun op' m' vk' vn' vs' ar' es' hx he => copy_c op' m' vk' vn' vs' ar' es' he (wide_mem hw.2 (List.mem_of_getElem? hx))
    have hfin : decide (i < zl) = false → (allM (.mk op m ⟨vk, vn, vs⟩ ar :: r)).cells = [.int .i64 o1, .int .i64 m1, .int .i64 k1, .int .i64 n1, .str s1, .sl e1] := fun h => by
      rw [rg.take_ rfl h] at hA
      rw [hA, cells_mk, he1]
    cases b
    case false =>
      repeat' (first
        | (with_reducible refine Nm.mk ?_; intro z hz)
        | (with_reducible refine IfB.mk ?_ ?_ <;> (intro h; cases h))
        | (with_reducible refine Two.l ?_; refine Asm.mk ?_ ?_; focus (decide +kernel))
        | (with_reducible refine Two.r ?_)
        | (with_reducible refine Asm.mk ?_ ?_; focus kernel_rfl)
        | (with_reducible refine isCP hcp ?_; first | (refine exP hcp (hcpy _ _ _ _ _ _ _ (by assumption) (by assumption)) ?_; intro op3 m3 vk3 vn3 vs3 ar3 es3 hX3 hes3))
        | (with_reducible refine isCC hcc ?_; first | (refine exA hcc (hcpy _ _ _ _ _ _ _ (by assumption) (by assumption)) rfl ?_; intro op3 m3 vk3 vn3 vs3 ar3 es3 hX3 hes3))
        | (with_reducible refine Ix.ex hRL rg.lo (rg.lt (by assumption)) ?_; intro op' m' vk' vn' vs' ar' es' hx hes')
        | (with_reducible refine Asm.mk2 ?_ ?_)
        | ((fail_if_success (with_reducible first | refine hQ _ ?_ | refine Side.mk ?_ | refine isCP hcp ?_ | refine isCC hcc ?_ | refine isLP hlp ?_ | refine Ix.mk ?_ | refine SIx.mk ?_ | refine SEx.mk ?_ | refine EIx.mk ?_ | refine RIx.mk ?_ | show False | refine hR ?_ _ ?_ ?_ ?_ ?_ ?_ | refine hR2 ?_ _ ?_ ?_ ?_ ?_ ?_)); cbv))
      · have hlt : decide (i < zl) = true := by assumption
        rw [rg.wrap hlt] at hz
        refine hR (i + 1, (19, 0, 0, 0, ⟨⟨[]⟩⟩, [.mk o1 m1 ⟨k1, n1, s1⟩ A1, .mk op3 m3 ⟨vk3, vn3, vs3⟩ ar3], _), true) _ ⟨rg.next hlt, ?_, rfl⟩ (rg.less hlt) ⟨hz ▸ rfl, trivial⟩ ⟨rfl, rfl, rfl, rfl, trivial⟩ ?_
        · show allM (.mk op m ⟨vk, vn, vs⟩ ar :: r.take (i + 1).toNat) = _
          rw [rg.take hx, allM_snoc, hA, hX3]; rfl
        · simp only [List.map_cons, List.map_nil, cells_mk, he1, hes3]; rfl
      · refine hQ _ ?_
        rw [hfin (by assumption)]
    case true =>
      repeat' (first
        | (with_reducible refine Nm.mk ?_; intro z hz)
        | (with_reducible refine IfB.mk ?_ ?_ <;> (intro h; cases h))
        | (with_reducible refine Two.l ?_; refine Asm.mk ?_ ?_; focus (decide +kernel))
        | (with_reducible refine Two.r ?_)
        | (with_reducible refine Asm.mk ?_ ?_; focus kernel_rfl)
        | (with_reducible refine isCP hcp ?_; first | (refine exP hcp (hcpy _ _ _ _ _ _ _ (by assumption) (by assumption)) ?_; intro op3 m3 vk3 vn3 vs3 ar3 es3 hX3 hes3))
        | (with_reducible refine isCC hcc ?_; first | (refine exA hcc (hcpy _ _ _ _ _ _ _ (by assumption) (by assumption)) rfl ?_; intro op3 m3 vk3 vn3 vs3 ar3 es3 hX3 hes3))
        | (with_reducible refine Ix.ex hRL rg.lo (rg.lt (by assumption)) ?_; intro op' m' vk' vn' vs' ar' es' hx hes')
        | (with_reducible refine Asm.mk2 ?_ ?_)
        | ((fail_if_success (with_reducible first | refine hQ _ ?_ | refine Side.mk ?_ | refine isCP hcp ?_ | refine isCC hcc ?_ | refine isLP hlp ?_ | refine Ix.mk ?_ | refine SIx.mk ?_ | refine SEx.mk ?_ | refine EIx.mk ?_ | refine RIx.mk ?_ | show False | refine hR ?_ _ ?_ ?_ ?_ ?_ ?_ | refine hR2 ?_ _ ?_ ?_ ?_ ?_ ?_)); cbv))
      · have hlt : decide (i < zl) = true := by assumption
        rw [rg.wrap hlt] at hz
        refine hR (i + 1, (19, 0, 0, 0, ⟨⟨[]⟩⟩, [.mk o1 m1 ⟨k1, n1, s1⟩ A1, .mk op3 m3 ⟨vk3, vn3, vs3⟩ ar3], _), true) _ ⟨rg.next hlt, ?_, rfl⟩ (rg.less hlt) ⟨hz ▸ rfl, trivial⟩ ⟨rfl, rfl, rfl, rfl, trivial⟩ ?_
        · show allM (.mk op m ⟨vk, vn, vs⟩ ar :: r.take (i + 1).toNat) = _
          rw [rg.take hx, allM_snoc, hA, hX3]; rfl
        · simp only [List.map_cons, List.map_nil, cells_mk, he1, hes3]; rfl
      · refine hQ _ ?_
        rw [hfin (by assumption)]
set_option maxHeartbeats 2000000 in
theorem rall_c (l : List Ex) (L : List (List PV)) (hL : l.map Ex.cells = L) (hw : wideL l) (hn : wideN l.length) : PCall Try.prog 76 [.sl L] fun r => r = [.agg (allM l).cells] := by
  cases l with
  | nil =>
    subst hL
    show PCall Try.prog 76 [.sl []] _
    have hnum := num1_c
    refine PCall.x (nt := 29) (res := [.cell 2 80]) mixed tt_ok [] Try.func76 rfl rfl rfl c76 (Nat.le_of_ble_eq_true rfl) ?_
    intro cp cc lp Q' hcp hcc hlp hQ
    repeat' (first
      | (with_reducible refine Nm.mk ?_; intro z hz)
      | (with_reducible refine IfB.mk ?_ ?_ <;> (intro h; cases h))
      | (with_reducible refine Two.l ?_; refine Asm.mk ?_ ?_; focus (decide +kernel))
      | (with_reducible refine Two.r ?_)
      | (with_reducible refine Asm.mk ?_ ?_; focus (first | kernel_rfl | decide))
      | (with_reducible refine isCP hcp ?_; first | (refine xP hcp (hnum) ?_; skip))
      | (with_reducible refine isCC hcc ?_; first | (refine xA hcc (hnum) rfl ?_; skip))
      | (with_reducible refine Asm.mk2 ?_ ?_)
      | ((fail_if_success (with_reducible first | refine hQ _ ?_ | refine Side.mk ?_ | refine isCP hcp ?_ | refine isCC hcc ?_ | refine isLP hlp ?_ | refine Ix.mk ?_ | refine SIx.mk ?_ | refine SEx.mk ?_ | refine EIx.mk ?_ | refine RIx.mk ?_ | show False | refine hR ?_ _ ?_ ?_ ?_ ?_ ?_ | refine hR2 ?_ _ ?_ ?_ ?_ ?_ ?_)); cbv))
    all_goals first
      | exact hQ _ rfl
      | (exfalso; clear hQ hcp hcc hlp; simp_all; done)
      | skip
  | cons a r =>
    unfold wideN at hn
    rw [wideL] at hw
    obtain ⟨op, m, ⟨vk, vn, vs⟩, ar⟩ := a
    obtain ⟨es, hes⟩ : ∃ l, ar.map Ex.cells = l := ⟨_, rfl⟩
    obtain ⟨RL, hRL⟩ : ∃ l, r.map Ex.cells = l := ⟨_, rfl⟩
    rw [List.map_cons, cells_mk, hes, hRL] at hL
    have hcp0 := rneat_c op m vk vn vs ar es hes hw.1
    have hrl : RL.length = r.length := by rw [← hRL]; simp
    have hrb : r.length ≤ 1954687338999 := by simp only [List.length_cons] at hn; omega
    have hLl : L.length = RL.length + 1 := by rw [← hL]; rfl
    have hg0 : L[Int.toNat 0]? = some [.int .i64 op, .int .i64 m, .int .i64 vk, .int .i64 vn, .str vs, .sl es] := by rw [← hL]; rfl
    have hdr : (L.drop 1) = RL := by rw [← hL]; rfl
    have hall6 : (L.all fun e => e.length == 6) = true := by
      rw [List.all_eq_true, ← hL]
      intro e he
      rcases List.mem_cons.1 he with rfl | he
      · rfl
      · rw [← hRL] at he
        obtain ⟨x, _, rfl⟩ := List.mem_map.1 he
        obtain ⟨_, _, ⟨_, _, _⟩, _⟩ := x
        rfl
    clear hL
    have hnum := num1_c
    refine PCall.x (nt := 29) (res := [.cell 2 80]) mixed tt_ok [] Try.func76 rfl rfl rfl c76 (Nat.le_of_ble_eq_true rfl) ?_
    intro cp cc lp Q' hcp hcc hlp hQ
    repeat' (first
      | (with_reducible refine Nm.mk ?_; intro z hz)
      | (with_reducible refine IfB.mk ?_ ?_ <;> (intro h; cases h))
      | (with_reducible refine Two.l ?_; refine Asm.mk ?_ ?_; focus (decide +kernel))
      | (with_reducible refine Two.r ?_)
      | (with_reducible refine Asm.mk ?_ ?_; focus kernel_rfl)
      | (with_reducible refine isCP hcp ?_; first | (refine xP hcp (hnum) ?_; skip) | (refine exP hcp (hcp0) ?_; intro op2 m2 vk2 vn2 vs2 ar2 es2 hX hes2))
      | (with_reducible refine isCC hcc ?_; first | (refine xA hcc (hnum) rfl ?_; skip) | (refine exA hcc (hcp0) rfl ?_; intro op2 m2 vk2 vn2 vs2 ar2 es2 hX hes2))
      | (with_reducible refine Ix.giveK (by decide) hg0 rfl (by decide) ?_)
      | (with_reducible refine Asm.mk2 ?_ ?_)
      | ((fail_if_success (with_reducible first | refine hQ _ ?_ | refine Side.mk ?_ | refine isCP hcp ?_ | refine isCC hcc ?_ | refine isLP hlp ?_ | refine Ix.mk ?_ | refine SIx.mk ?_ | refine SEx.mk ?_ | refine EIx.mk ?_ | refine RIx.mk ?_ | show False | refine hR ?_ _ ?_ ?_ ?_ ?_ ?_ | refine hR2 ?_ _ ?_ ?_ ?_ ?_ ?_)); cbv))
    · exfalso
      have h1 := of_decide_eq_true hz
      have h2 : (L.length : Int) = z := by assumption
      simp only [nc] at h2
      simp only [nc'] at h2
      omega
    · exact Side.mk ⟨by show (0 : Int) ≤ 1; omega, by show (1 : Int) ≤ L.length; omega, Int.le_refl _, hall6, by decide⟩
    rename_i SL hSL
    obtain rfl : SL = RL := by
      rw [← hSL]
      show List.take ((L.length : Int).toNat - 1) (L.drop 1) = RL
      rw [hdr, List.take_of_length_le (by omega)]
    simp only [nc] at hz
    simp only [nc'] at hz
    have hzl := lenZ (n := r.length) hrl hz
    clear hz hSL
    generalize z = zl at *
    refine loopT (ι := Int × (Int × Int × Int × Int × ByteArray × List Ex × List (List PV)) × Bool) mixed tt_ok hcp hcc hlp [2, 3, 16, 17] (fun p => [(18, .p (.int .i64 p.1))])
      (fun p => [.cells [.p (.int .i64 0), .p (.int .i64 0), .p (.int .i64 0), .p (.int .i64 0), .p (.str ⟨⟨[]⟩⟩), .full []], .cells (outC p.2.1.1 p.2.1.2.1 p.2.1.2.2.1 p.2.1.2.2.2.1 p.2.1.2.2.2.2.1 p.2.1.2.2.2.2.2.2 p.2.2)])
      (fun p => Rng r.length zl p.1 ∧ allM (.mk op m ⟨vk, vn, vs⟩ ar :: r.take p.1.toNat) = .mk p.2.1.1 p.2.1.2.1 ⟨p.2.1.2.2.1, p.2.1.2.2.2.1, p.2.1.2.2.2.2.1⟩ p.2.1.2.2.2.2.2.1 ∧ p.2.1.2.2.2.2.2.1.map Ex.cells = p.2.1.2.2.2.2.2.2) (fun p => (zl - p.1).toNat)
      (0, (op2, m2, vk2, vn2, vs2, ar2, es2), false) 2 (fun p => by obtain ⟨_, _, b⟩ := p; cases b <;> rfl) ⟨Rng.start hzl (by omega), hX, hes2⟩ ⟨rfl, trivial⟩ rfl ?_
    rintro Q2 ⟨i, ⟨o1, m1, k1, n1, s1, A1, e1⟩, b⟩ ⟨rg, hA, he1⟩ hR
    replace rg : Rng r.length zl i := rg
    replace hA : allM (.mk op m ⟨vk, vn, vs⟩ ar :: r.take i.toNat) = .mk o1 m1 ⟨k1, n1, s1⟩ A1 := hA
    replace he1 : A1.map Ex.cells = e1 := he1
    have hcpy : ∀ (op' m' vk' vn' : Int) (vs' : ByteArray) (ar' : List Ex) (es' : List (List PV)), r[i.toNat]? = some (.mk op' m' ⟨vk', vn', vs'⟩ ar') → ar'.map Ex.cells = es' → PCall Try.prog 141 [.agg [.int .i64 op', .int .i64 m', .int .i64 vk', .int .i64 vn', .str vs', .sl es']] fun r => r = [.agg (mapE id (.mk op' m' ⟨vk', vn', vs'⟩ ar')).cells] := fun op' m' vk' vn' vs' ar' es' hx he => rneat_c op' m' vk' vn' vs' ar' es' he (wide_mem hw.2 (List.mem_of_getElem? hx))
    have hfin : decide (i < zl) = false → (allM (.mk op m ⟨vk, vn, vs⟩ ar :: r)).cells = [.int .i64 o1, .int .i64 m1, .int .i64 k1, .int .i64 n1, .str s1, .sl e1] := fun h => by
      rw [rg.take_ rfl h] at hA
      rw [hA, cells_mk, he1]
    cases b
    case false =>
      repeat' (first
        | (with_reducible refine Nm.mk ?_; intro z hz)
        | (with_reducible refine IfB.mk ?_ ?_ <;> (intro h; cases h))
        | (with_reducible refine Two.l ?_; refine Asm.mk ?_ ?_; focus (decide +kernel))
        | (with_reducible refine Two.r ?_)
        | (with_reducible refine Asm.mk ?_ ?_; focus kernel_rfl)
        | (with_reducible refine isCP hcp ?_; first | (refine exP hcp (hcpy _ _ _ _ _ _ _ (by assumption) (by assumption)) ?_; intro op3 m3 vk3 vn3 vs3 ar3 es3 hX3 hes3))
        | (with_reducible refine isCC hcc ?_; first | (refine exA hcc (hcpy _ _ _ _ _ _ _ (by assumption) (by assumption)) rfl ?_; intro op3 m3 vk3 vn3 vs3 ar3 es3 hX3 hes3))
        | (with_reducible refine Ix.ex hRL rg.lo (rg.lt (by assumption)) ?_; intro op' m' vk' vn' vs' ar' es' hx hes')
        | (with_reducible refine Asm.mk2 ?_ ?_)
        | ((fail_if_success (with_reducible first | refine hQ _ ?_ | refine Side.mk ?_ | refine isCP hcp ?_ | refine isCC hcc ?_ | refine isLP hlp ?_ | refine Ix.mk ?_ | refine SIx.mk ?_ | refine SEx.mk ?_ | refine EIx.mk ?_ | refine RIx.mk ?_ | show False | refine hR ?_ _ ?_ ?_ ?_ ?_ ?_ | refine hR2 ?_ _ ?_ ?_ ?_ ?_ ?_)); cbv))
      · have hlt : decide (i < zl) = true := by assumption
        rw [rg.wrap hlt] at hz
        refine hR (i + 1, (19, 0, 0, 0, ⟨⟨[]⟩⟩, [.mk o1 m1 ⟨k1, n1, s1⟩ A1, .mk op3 m3 ⟨vk3, vn3, vs3⟩ ar3], _), true) _ ⟨rg.next hlt, ?_, rfl⟩ (rg.less hlt) ⟨hz ▸ rfl, trivial⟩ ⟨rfl, rfl, rfl, rfl, trivial⟩ ?_
        · show allM (.mk op m ⟨vk, vn, vs⟩ ar :: r.take (i + 1).toNat) = _
          rw [rg.take hx, allM_snoc, hA, hX3]; rfl
        · simp only [List.map_cons, List.map_nil, cells_mk, he1, hes3]; rfl
      · refine hQ _ ?_
        rw [hfin (by assumption)]
    case true =>
      repeat' (first
        | (with_reducible refine Nm.mk ?_; intro z hz)
        | (with_reducible refine IfB.mk ?_ ?_ <;> (intro h; cases h))
        | (with_reducible refine Two.l ?_; refine Asm.mk ?_ ?_; focus (decide +kernel))
        | (with_reducible refine Two.r ?_)
        | (with_reducible refine Asm.mk ?_ ?_; focus kernel_rfl)
        | (with_reducible refine isCP hcp ?_; first | (refine exP hcp (hcpy _ _ _ _ _ _ _ (by assumption) (by assumption)) ?_; intro op3 m3 vk3 vn3 vs3 ar3 es3 hX3 hes3))
        | (with_reducible refine isCC hcc ?_; first | (refine exA hcc (hcpy _ _ _ _ _ _ _ (by assumption) (by assumption)) rfl ?_; intro op3 m3 vk3 vn3 vs3 ar3 es3 hX3 hes3))
        | (with_reducible refine Ix.ex hRL rg.lo (rg.lt (by assumption)) ?_; intro op' m' vk' vn' vs' ar' es' hx hes')
        | (with_reducible refine Asm.mk2 ?_ ?_)
        | ((fail_if_success (with_reducible first | refine hQ _ ?_ | refine Side.mk ?_ | refine isCP hcp ?_ | refine isCC hcc ?_ | refine isLP hlp ?_ | refine Ix.mk ?_ | refine SIx.mk ?_ | refine SEx.mk ?_ | refine EIx.mk ?_ | refine RIx.mk ?_ | show False | refine hR ?_ _ ?_ ?_ ?_ ?_ ?_ | refine hR2 ?_ _ ?_ ?_ ?_ ?_ ?_)); cbv))
      · have hlt : decide (i < zl) = true := by assumption
        rw [rg.wrap hlt] at hz
        refine hR (i + 1, (19, 0, 0, 0, ⟨⟨[]⟩⟩, [.mk o1 m1 ⟨k1, n1, s1⟩ A1, .mk op3 m3 ⟨vk3, vn3, vs3⟩ ar3], _), true) _ ⟨rg.next hlt, ?_, rfl⟩ (rg.less hlt) ⟨hz ▸ rfl, trivial⟩ ⟨rfl, rfl, rfl, rfl, trivial⟩ ?_
        · show allM (.mk op m ⟨vk, vn, vs⟩ ar :: r.take (i + 1).toNat) = _
          rw [rg.take hx, allM_snoc, hA, hX3]; rfl
        · simp only [List.map_cons, List.map_nil, cells_mk, he1, hes3]; rfl
      · refine hQ _ ?_
        rw [hfin (by assumption)]
end Go.Proofs.Ytnhmnfokbinplaa

namespace Go.Proofs.Ytnhmnfokbinplaa
open Go Go.RowKit
set_option maxRecDepth 100000
set_option linter.unusedSimpArgs false
set_option linter.unusedVariables false

def insAt (x : Int) : List Int → Nat
  | [] => 0
  | y :: r => if y < x then insAt x r + 1 else 0
def insC (x : Int) (L : List Int) : List Int := if L[insAt x L]? = some x then L else L.take (insAt x L) ++ x :: L.drop (insAt x L)
mutual
def colsE : Ex → List Int → List Int
  | .mk op n _ ar, L => colsKL ar (if op = 1 then insC n L else L)
def colsKL : List Ex → List Int → List Int
  | [], L => L
  | e :: r, L => colsKL r (colsE e L)
end
theorem insAt_le (x : Int) : ∀ L : List Int, insAt x L ≤ L.length
  | [] => Nat.le_refl _
  | y :: r => by
    have := insAt_le x r
    rw [insAt]; split <;> simp; omega
theorem insAt_lt (x : Int) : ∀ (L : List Int) (i : Nat) (y : Int), i < insAt x L → L[i]? = some y → y < x
  | [], i, y, h, _ => by simp [insAt] at h
  | z :: r, i, y, h, hy => by
    rw [insAt] at h
    split at h
    · cases i with
      | zero => simp at hy; omega
      | succ i => exact insAt_lt x r i y (by omega) (by simpa using hy)
    · omega
theorem insAt_at (x : Int) : ∀ (L : List Int) (y : Int), L[insAt x L]? = some y → ¬ y < x
  | [], y, h => by simp [insAt] at h
  | z :: r, y, h => by
    rw [insAt] at h
    split at h
    · exact insAt_at x r y (by simpa using h)
    · simp at h; omega
theorem insC_len (x : Int) (L : List Int) : (insC x L).length ≤ L.length + 1 := by
  have := insAt_le x L
  rw [insC]; split
  · omega
  · simp; omega

/-- An argument told by its parts is the whole. -/
theorem ACall.headK {P : Program} {f : FuncId} {x : AV} {y : PV} {args : List AV} {H : List AObj} {Q : AV → List AObj → Prop} (h : ACall P f (.p y :: args) H Q) (hx : pureX x = some y) : ACall P f (x :: args) H Q :=
  ⟨fun B G w vals wr rv => h.run B G w vals wr ⟨rv.1, fun i z v hz hv => by
    cases i with
    | zero =>
      simp only [List.getElem?_cons_zero, Option.some.injEq] at hz
      subst hz
      rw [pureX_eq] at hx
      exact .p (pure_ok (rv.2 0 x v rfl hv) hx)
    | succ i => exact rv.2 (i + 1) z v hz hv⟩⟩
theorem frameK {P : Program} {cc : FuncId → List AV → List AObj → (AV → List AObj → Prop) → Prop} (hcc : ACall P = cc) {f : FuncId} {args0 args rest : List AV} {x : AV} {y : PV} {H0 H1 H : List AObj} {X : AV} {K : AV → List AObj → Prop} (s : List Nat)
    (h : ACall P f (.p y :: args0) H0 fun r H' => r = X ∧ takeX H' (lenX H1) = H1) (hs : onceX s = true) (hl : lenX H1 = lenX s) (ha : args = x :: rest) (hx : pureX x = some y) (hr : rest = AV.renL s args0) (hH : optL (nth H) s = some (mapX (AObj.ren s) H0)) (hlt : (AV.ltL (lenX s) (.p y :: args0) && ltH (lenX s) H0 && (AV.ltB (lenX s) X && ltH (lenX s) H1)) = true)
    (k : K (AV.ren s X) (backX s s H1 H)) : cc f args H K := by
  subst hcc ha
  rw [lenX_eq s] at hl hlt
  rw [Bool.and_eq_true, Bool.and_eq_true (AV.ltB _ _)] at hlt
  refine ACall.headK ?_ hx
  rw [show (AV.p y :: rest) = AV.renL s (.p y :: args0) by rw [hr]; rfl]
  refine h.frame s hs rfl hH hlt.1 ?_
  rintro r H' ⟨rfl, hH'⟩
  rw [hl] at hH'
  rw [hH']
  exact ⟨hlt.2.1, by rw [← lenX_eq]; exact hl, hlt.2.2, k⟩


def colH (g n : Nat) (C : List (List PV)) : List AObj := [.cells [.vec 2 g 1 0 n], .cells [.fn 183 [.ref 0 0, .ref 1 0]], .vec g C 1]
def insG (x : Int) (p : Nat × List Int) : Nat × List Int := if p.2[insAt x p.2]? = some x then p else (p.1 + 1, p.2.take (insAt x p.2) ++ x :: p.2.drop (insAt x p.2))
mutual
def colsG : Ex → Nat × List Int → Nat × List Int
  | .mk op n _ ar, p => colsGL ar (if op = 1 then insG n p else p)
def colsGL : List Ex → Nat × List Int → Nat × List Int
  | [], p => p
  | e :: r, p => colsGL r (colsG e p)
end
theorem insG_2 (x : Int) (p : Nat × List Int) : (insG x p).2 = insC x p.2 := by
  rw [insG, insC]; split <;> rfl
mutual
theorem colsG_2 : ∀ (e : Ex) (p : Nat × List Int), (colsG e p).2 = colsE e p.2
  | .mk op n v ar, p => by
    rw [colsG, colsE, colsGL_2]
    split
    · rw [insG_2]
    · rfl
theorem colsGL_2 : ∀ (l : List Ex) (p : Nat × List Int), (colsGL l p).2 = colsKL l p.2
  | [], p => rfl
  | e :: r, p => by rw [colsGL, colsKL, colsGL_2, colsG_2]
end
mutual
theorem colsG_len : ∀ (e : Ex) (p : Nat × List Int), (colsG e p).2.length ≤ p.2.length + e.sz
  | .mk op n v ar, p => by
    rw [colsG, Ex.sz]
    have := colsGL_len ar (if op = 1 then insG n p else p)
    have h : (if op = 1 then insG n p else p).2.length ≤ p.2.length + 1 := by
      split
      · rw [insG_2]; exact insC_len n p.2
      · omega
    omega
theorem colsGL_len : ∀ (l : List Ex) (p : Nat × List Int), (colsGL l p).2.length ≤ p.2.length + szL l
  | [], p => by simp [colsGL, szL]
  | e :: r, p => by
    rw [colsGL, szL]
    have := colsGL_len r (colsG e p)
    have := colsG_len e p
    omega
end
def ColC (e : Ex) : Prop := ∀ (cells : List PV) (g : Nat) (L : List Int) (n : Nat) (C : List (List PV)), e.cells = cells → L.map i64c = C → C.length = n → L.length + e.sz ≤ 1000000 →
  ∃ g' L' n' C', colsG e (g, L) = (g', L') ∧ L'.map i64c = C' ∧ C'.length = n' ∧ ACall Try.prog 183 [.p (.agg cells), .ref 0 0, .ref 1 0] (colH g n C) fun r H' => r = .tup [] ∧ takeX H' 3 = colH g' n' C'

set_option maxHeartbeats 4000000 in
theorem col_c (op m vk vn : Int) (vs : ByteArray) (ar : List Ex) (es : List (List PV)) (hes : ar.map Ex.cells = es) (hal : ar.length ≤ 140737488355328) (IH : ∀ x, x ∈ ar → ColC x) (g : Nat) (L : List Int) (n : Nat) (C : List (List PV)) (hC : L.map i64c = C) (hn : C.length = n) (hsz : L.length + (szL ar + 1) ≤ 1000000)
    (g' : Nat) (L' : List Int) (n' : Nat) (C' : List (List PV)) (hq : colsG (.mk op m ⟨vk, vn, vs⟩ ar) (g, L) = (g', L')) (hC' : L'.map i64c = C') (hn' : C'.length = n') :
    ACall Try.prog 183 [.p (.agg [.int .i64 op, .int .i64 m, .int .i64 vk, .int .i64 vn, .str vs, .sl es]), .ref 0 0, .ref 1 0] (colH g n C) fun r H' => r = .tup [] ∧ takeX H' 3 = colH g' n' C' := by
  have hel : es.length = ar.length := by rw [← hes]; simp
  rw [colsG] at hq
  have hCl : C.length = L.length := by rw [← hC]; simp
  refine ACall.x (nt := 60) (res := []) mixed tt_ok [] Try.func183 rfl rfl rfl c183 (Nat.le_of_ble_eq_true rfl) ?_
  intro cp cc lp Q' hcp hcc hlp hQ
  repeat' (first
    | (with_reducible refine Nm.mk ?_; intro z hz)
    | (with_reducible refine IfB.mk ?_ ?_ <;> (intro h; cases h))
    | (with_reducible refine Two.l ?_; refine Asm.mk ?_ ?_; focus (decide +kernel))
    | (with_reducible refine Two.r ?_)
    | (with_reducible refine Asm.mk ?_ ?_; focus (first | kernel_rfl | decide))
    | (with_reducible refine Asm.mk2 ?_ ?_)
    | ((fail_if_success (with_reducible first | refine hQ _ _ ?_ | refine Side.mk ?_ | refine isCP hcp ?_ | refine isCC hcc ?_ | refine isLP hlp ?_ | refine Ix.mk ?_ | refine SIx.mk ?_ | refine SEx.mk ?_ | refine EIx.mk ?_ | refine RIx.mk ?_ | show False | refine hR ?_ _ ?_ ?_ ?_ ?_ ?_ | refine hR2 ?_ _ ?_ ?_ ?_ ?_ ?_)); cbv))
  · have hop : op = 1 := by simpa using (show decide (op = 1) = true by assumption)
    rw [if_pos hop] at hq
    obtain ⟨at0, hat⟩ : ∃ a, insAt m L = a := ⟨_, rfl⟩
    have hatl : at0 ≤ L.length := by rw [← hat]; exact insAt_le m L
    have hget : ∀ (k : Nat) (y : Int), L[k]? = some y → C[k]? = some [.int .i64 y] := by
      intro k y h; rw [← hC, List.getElem?_map, h]; rfl
    refine loopK (ι := Int) mixed tt_ok hcp hcc hlp [1, 2, 3] (fun i => [(4, .p (.int .i64 i))]) (fun i => 0 ≤ i ∧ i.toNat ≤ at0) (fun i => at0 - i.toNat) 0 (fun _ => rfl) ⟨by decide, Nat.zero_le _⟩ ⟨rfl, trivial⟩ ?_
    rintro R i ⟨hi0, hi1⟩ hR
    obtain ⟨y0, hy0⟩ : ∃ y, (L[i.toNat]?).getD 0 = y := ⟨_, rfl⟩
    have hidx : ∀ z : Int, (n : Int) = z → decide (i < z) = true → C[i.toNat]? = some [.int .i64 y0] := by
      intro z h1 h2
      simp only [decide_eq_true_eq] at h2
      have hlt : i.toNat < L.length := by omega
      refine hget _ _ ?_
      rw [← hy0, List.getElem?_eq_getElem hlt]; rfl
    have hoff : ∀ {z : Nat}, (0 + i.toNat) * 1 = z → i.toNat * 1 = z := by intro z h; omega
    have hin : ∀ {z : Int}, decide (i < z) = true → (n : Int) = z → 0 ≤ i ∧ i < (n : Int) := by
      intro z h1 h2; simp only [decide_eq_true_eq] at h1; omega
    have hin2 : ∀ {z : Int}, decide (i = z) = false → (n : Int) = z → 0 ≤ i ∧ i < (n : Int) := by
      intro z h1 h2; simp only [decide_eq_false_iff_not] at h1; omega
    have hidx2 : ∀ {z : Int}, decide (i = z) = false → (n : Int) = z → C[i.toNat]? = some [.int .i64 y0] := by
      intro z h1 h2
      simp only [decide_eq_false_iff_not] at h1
      refine hidx z h2 ?_
      simp only [decide_eq_true_eq]; omega
    have hile : i ≤ (n : Int) := by omega
    have hnl : n = L.length := by omega
    have hposA : ∀ {z : Int}, decide (i = z) = true → (n : Int) = z → i.toNat = at0 := by
      intro z h1 h2; simp only [decide_eq_true_eq] at h1; omega
    have hLy : i.toNat < L.length → L[i.toNat]? = some y0 := by
      intro h; rw [← hy0, List.getElem?_eq_getElem h]; rfl
    have hposB : ∀ {z : Int}, decide (y0 < m) = false → decide (i < z) = true → (n : Int) = z → i.toNat = at0 := by
      intro z h1 h2 h3
      simp only [decide_eq_true_eq, decide_eq_false_iff_not] at h1 h2
      rcases Nat.lt_or_ge i.toNat at0 with h | h
      · exact absurd (insAt_lt m L i.toNat y0 (by rw [hat]; exact h) (hLy (by omega))) h1
      · omega
    have hnotA : ∀ {z : Int}, decide (i = z) = true → (n : Int) = z → ¬ L[at0]? = some m := by
      intro z h1 h2 h3
      have := hposA h1 h2
      simp only [decide_eq_true_eq] at h1
      have := (List.getElem?_eq_some_iff.1 h3).1
      omega
    have hnotB : ∀ {z : Int}, (!decide (y0 = m)) = true → decide (y0 < m) = false → decide (i < z) = true → (n : Int) = z → ¬ L[at0]? = some m := by
      intro z h1 h2 h3 h4 h5
      have hp := hposB h2 h3 h4
      simp only [decide_eq_true_eq] at h3
      have e : ¬ y0 = m := by simpa using h1
      rw [← hp, hLy (by omega)] at h5
      simp only [Option.some.injEq] at h5
      exact e h5
    have hyes : ∀ {z : Int}, (!decide (y0 = m)) = false → decide (y0 < m) = false → decide (i < z) = true → (n : Int) = z → L[at0]? = some m := by
      intro z h1 h2 h3 h4
      have hp := hposB h2 h3 h4
      simp only [decide_eq_true_eq] at h3
      have e : y0 = m := by simpa using h1
      rw [← hp, ← e]; exact hLy (by omega)
    have hno : ∀ {z z2 : Int}, decide (i < z) = false → decide (i = z2) = false → (n : Int) = z → (n : Int) = z2 → False := by
      intro z z2 h1 h2 h3 h4
      simp only [decide_eq_false_iff_not] at h1 h2
      omega
    have hstep : ∀ {z : Int}, decide (i < z) = true → (n : Int) = z → decide (y0 < m) = true → IntKind.i64.wrap (i + 1) = i + 1 ∧ (i + 1).toNat ≤ at0 := by
      intro z h1 h2 h3
      simp only [decide_eq_true_eq] at h1 h3
      refine ⟨wrap_in (by omega), ?_⟩
      rcases Nat.lt_or_ge i.toNat at0 with h | h
      · omega
      · have he : i.toNat = at0 := by omega
        have := hLy (by omega)
        rw [he, ← hat] at this
        exact absurd h3 (insAt_at m L y0 this)
    have hok : okEs 1 C = true := by rw [← hC]; exact List.all_eq_true.2 fun e he => by obtain ⟨c, _, rfl⟩ := List.mem_map.1 he; rfl
    have hokt : ∀ k, okEs 1 (C.take k) = true := fun k => List.all_eq_true.2 fun e he => List.all_eq_true.1 hok e (List.mem_of_mem_take he)
    have hokd : ∀ k j, okEs 1 ((C.drop k).take j) = true := fun k j => List.all_eq_true.2 fun e he => List.all_eq_true.1 hok e (List.mem_of_mem_drop (List.mem_of_mem_take he))
    have hokm : okEs 1 [[PV.int .i64 m]] = true := rfl
    have hA : (0 : Int) ≤ 0 ∧ 0 ≤ i ∧ i ≤ (n : Int) := ⟨by decide, hi0, hile⟩
    have hB : 0 ≤ i ∧ i ≤ Int.ofNat n ∧ Int.ofNat n ≤ (n : Int) := ⟨hi0, hile, Int.le_refl _⟩
    have hC3 : ∀ {x y : Nat}, 0 + i.toNat = x → (Int.ofNat n).toNat - i.toNat = y → g = g ∧ 1 = 1 ∧ x + y ≤ C.length := by
      intro x y h1 h2
      have : (Int.ofNat n).toNat = n := rfl
      exact ⟨rfl, rfl, by omega⟩
    have hD : ∀ {x y : Nat} {z : List (List PV)}, (C.drop x).take y = z → okEs 1 [[PV.int .i64 m]] = true ∧ okEs 1 z = true ∧ [[PV.int .i64 m]].length + z.length ≤ maxLen ∧ ([[PV.int .i64 m]].length + z.length) * 8 ≤ 140737488355328 := by
      intro x y z h
      have hl : z.length ≤ 1000000 := by rw [← h, List.length_take, List.length_drop]; omega
      exact ⟨rfl, by rw [← h]; exact hokd x y, by simp only [List.length_cons, List.length_nil, maxLen]; omega, by simp only [List.length_cons, List.length_nil]; omega⟩
    have hE : ∀ {x y u v : Nat} {z z' : List (List PV)}, 0 + Int.toNat 0 = x → i.toNat - Int.toNat 0 = y → (C.drop u).take v = z → [[PV.int .i64 m]] ++ z = z' → g = g ∧ 1 = 1 ∧ x = 0 ∧ y ≤ C.length ∧ okEs 1 (C.take y) = true ∧ okEs 1 z' = true ∧ y + z'.length ≤ maxLen ∧ (y + z'.length) * 8 ≤ 140737488355328 := by
      intro x y u v z z' h1 h2 h3 h4
      have hl : z.length ≤ 1000000 := by rw [← h3, List.length_take, List.length_drop]; omega
      have h0 : Int.toNat 0 = 0 := rfl
      have hl2 : z'.length = 1 + z.length := by rw [← h4, List.length_append]; rfl
      refine ⟨rfl, rfl, by omega, by omega, hokt y, ?_, by simp only [maxLen]; omega, by omega⟩
      rw [← h4, ← h3]
      exact List.all_eq_true.2 fun e he => by
        rcases List.mem_append.1 he with h | h
        · exact List.all_eq_true.1 hokm e h
        · exact List.all_eq_true.1 (hokd u v) e h
    repeat' (first
      | (with_reducible refine Nm.mk ?_; intro z hz)
      | (with_reducible refine IfB.mk ?_ ?_ <;> (intro h; cases h))
      | (with_reducible refine Two.l ?_; refine Asm.mk ?_ ?_; focus (decide +kernel))
      | (with_reducible refine Two.r ?_)
      | (with_reducible refine Asm.mk ?_ ?_; focus (first | rfl | exact hin (by assumption) (by assumption) | exact hin2 (by assumption) (by assumption) | exact hA | exact hB | exact hC3 (by assumption) (by assumption) | exact hD (by assumption) | exact hE (by assumption) (by assumption) (by assumption) (by assumption) | (show (_ : Bool) = true; kernel_rfl)))
      | (with_reducible refine EIx.at_ i.toNat [.int .i64 y0] (hoff (by assumption)) (hidx _ (by assumption) (by assumption)) ?_)
      | (with_reducible refine EIx.at_ i.toNat [.int .i64 y0] (hoff (by assumption)) (hidx2 (by assumption) (by assumption)) ?_)
      | (with_reducible refine Asm.mk2 ?_ ?_)
      | ((fail_if_success (with_reducible first | refine hQ _ _ ?_ | refine Side.mk ?_ | refine isCP hcp ?_ | refine isCC hcc ?_ | refine isLP hlp ?_ | refine Ix.mk ?_ | refine SIx.mk ?_ | refine SEx.mk ?_ | refine EIx.mk ?_ | refine RIx.mk ?_ | show False | refine hR ?_ _ ?_ ?_ ?_ ?_ ?_ | refine hR2 ?_ _ ?_ ?_ ?_ ?_ ?_)); cbv))
    · have hlt : decide (y0 < m) = true := by assumption
      have hst := hstep (by assumption) (by assumption) hlt
      rw [hst.1] at hz
      exact hR (i + 1) _ ⟨by omega, hst.2⟩ (by omega) ⟨hz ▸ rfl, trivial⟩ ⟨rfl, rfl, rfl, trivial⟩ rfl
    · skip
      rename_i pz hpz pb hpb pu hpu pv hpv pd hpd pe hpe p3 hp3 pg hpg pn hpn pC hpC
      have hie : i.toNat = at0 := by first | exact hposA (by assumption) (by assumption) | exact hposB (by assumption) (by assumption) (by assumption)
      have hnot : ¬ L[at0]? = some m := by first | exact hnotA (by assumption) (by assumption) | exact hnotB (by assumption) (by assumption) (by assumption) (by assumption)
      rw [insG, hat, if_neg hnot] at hq
      have hb0 : pb = at0 := by
        have : Int.toNat 0 = 0 := rfl
        omega
      have hu0 : pu = at0 := by omega
      have hv0 : pv = n - at0 := by
        have : (Int.ofNat n).toNat = n := rfl
        omega
      have hcg : colsGL (ar.drop 0) (pg, L.take at0 ++ m :: L.drop at0) = (g', L') := by rw [List.drop_zero, ← hpg]; exact hq
      have hC1 : (L.take at0 ++ m :: L.drop at0).map i64c = pC := by
        rw [← hpC, ← hpe, ← hpd, hb0, hu0, hv0, ← hC, List.map_append, List.map_take, List.map_cons, List.map_drop, List.take_of_length_le (l := List.drop at0 (L.map i64c)) (by rw [List.length_drop, List.length_map]; omega)]
        rfl
      have hn1 : pC.length = pn := by rw [← hpC, ← hpn, List.length_append, List.length_take, Nat.min_eq_left (by omega)]
      have hsz1 : (L.take at0 ++ m :: L.drop at0).length + szL (ar.drop 0) ≤ 1000000 := by
        rw [List.drop_zero, List.length_append, List.length_take, List.length_cons, List.length_drop]; omega
      clear hpz hpb hpu hpv hpd hpe hp3 hpg hpn hpC hidx hoff hin hin2 hidx2 hok hokt hokd hokm hA hB hC3 hD hE hposA hposB hnotA hnotB hget hile hR
      all_goals (try simp only [nc] at hz)
      all_goals (try simp only [nc'] at hz)
      have hzl : z.toNat = ar.length ∧ 0 ≤ z := by omega
      obtain ⟨hzl, hzl0⟩ := hzl
      clear hz
      generalize z = zl at *
      refine loopT (ι := Int × Nat × List Int × Nat × List (List PV)) mixed tt_ok hcp hcc hlp [1, 2, 50, 51] (fun p => [(52, .p (.int .i64 p.1))]) (fun p => [.cells [.vec 2 p.2.1 1 0 p.2.2.2.1], .cells [.fn 183 [.ref 0 0, .ref 1 0]], .vec p.2.1 p.2.2.2.2 1, .cells [.p (.int .i64 op), .p (.int .i64 m), .p (.int .i64 vk), .p (.int .i64 vn), .p (.str vs), .p (.sl es)], .spare p3 1])
        (fun p => (0 ≤ p.1 ∧ p.1 ≤ zl) ∧ p.2.2.1.map i64c = p.2.2.2.2 ∧ p.2.2.2.2.length = p.2.2.2.1 ∧ p.2.2.1.length + szL (ar.drop p.1.toNat) ≤ 1000000 ∧ colsGL (ar.drop p.1.toNat) (p.2.1, p.2.2.1) = (g', L')) (fun p => (zl - p.1).toNat) (0, _, _, _, _) 5 (fun _ => rfl) ⟨⟨by show (0 : Int) ≤ 0; omega, by show (0 : Int) ≤ zl; omega⟩, hC1, hn1, hsz1, hcg⟩ ⟨rfl, trivial⟩ rfl ?_
      rintro R ⟨i, g2, L2, n2, C2⟩ ⟨⟨hi0, hi1⟩, hC2, hn2, hsz2, hcg2⟩ hR
      replace hi0 : 0 ≤ i := hi0
      replace hi1 : i ≤ zl := hi1
      replace hC2 : L2.map i64c = C2 := hC2
      replace hn2 : C2.length = n2 := hn2
      replace hsz2 : L2.length + szL (ar.drop i.toNat) ≤ 1000000 := hsz2
      replace hcg2 : colsGL (ar.drop i.toNat) (g2, L2) = (g', L') := hcg2
      have hk : decide (i < zl) = true → i < ar.length := by simp only [decide_eq_true_eq]; omega
      have hki : decide (i < zl) = true → i + 1 ≤ zl ∧ i < 9223372036854775806 := by simp only [decide_eq_true_eq]; omega
      have hdr : ∀ x, ar[i.toNat]? = some x → ar.drop i.toNat = x :: ar.drop (i + 1).toNat := by
        intro x hx
        rw [List.drop_eq_getElem_cons (List.getElem?_eq_some_iff.1 hx).1, (List.getElem?_eq_some_iff.1 hx).2, show (i + 1).toNat = i.toNat + 1 by omega]
      have hpc : ∀ (op' m' vk' vn' : Int) (vs' : ByteArray) (ar' : List Ex) (es' : List (List PV)), ar[i.toNat]? = some (.mk op' m' ⟨vk', vn', vs'⟩ ar') → ar'.map Ex.cells = es' → ∃ g3 L3 n3 C3, colsG (.mk op' m' ⟨vk', vn', vs'⟩ ar') (g2, L2) = (g3, L3) ∧ L3.map i64c = C3 ∧ C3.length = n3 ∧
          ACall Try.prog 183 [.p (.agg [.int .i64 op', .int .i64 m', .int .i64 vk', .int .i64 vn', .str vs', .sl es']), .ref 0 0, .ref 1 0] (colH g2 n2 C2) fun r H' => r = .tup [] ∧ takeX H' 3 = colH g3 n3 C3 := by
        intro op' m' vk' vn' vs' ar' es' hx he
        have hb : L2.length + (Ex.mk op' m' ⟨vk', vn', vs'⟩ ar').sz ≤ 1000000 := by
          rw [hdr _ hx, szL] at hsz2; omega
        exact IH _ (List.mem_of_getElem? hx) _ g2 L2 n2 C2 (by rw [cells_mk, he]) hC2 hn2 hb
      repeat' (first
        | (with_reducible refine Nm.mk ?_; intro z hz)
        | (with_reducible refine IfB.mk ?_ ?_ <;> (intro h; cases h))
        | (with_reducible refine Two.l ?_; refine Asm.mk ?_ ?_; focus (decide +kernel))
        | (with_reducible refine Two.r ?_)
        | (with_reducible refine Asm.mk ?_ ?_; focus (show (_ : Bool) = true; kernel_rfl))
        | (with_reducible refine Ix.ex hes hi0 (hk (by assumption)) ?_; intro op' m' vk' vn' vs' ar' es' hx hes')
        | (with_reducible refine isCC hcc ?_; obtain ⟨g3, L3, n3, C3, hc3, hC3, hn3, hcall⟩ := hpc _ _ _ _ _ _ _ hx hes'; refine frameK (H1 := colH g3 n3 C3) hcc [0, 1, 2] hcall rfl rfl rfl rfl rfl rfl rfl ?_)
        | (with_reducible refine Asm.mk2 ?_ ?_)
        | ((fail_if_success (with_reducible first | refine hQ _ _ ?_ | refine Side.mk ?_ | refine isCP hcp ?_ | refine isCC hcc ?_ | refine isLP hlp ?_ | refine Ix.mk ?_ | refine SIx.mk ?_ | refine SEx.mk ?_ | refine EIx.mk ?_ | refine RIx.mk ?_ | show False | refine hR ?_ _ ?_ ?_ ?_ ?_ ?_ | refine hR2 ?_ _ ?_ ?_ ?_ ?_ ?_)); cbv))
      all_goals first
        | (have hlt := hki (by assumption)
           have hwi : IntKind.i64.wrap (i + 1) = i + 1 := wrap_in (by omega)
           rw [hwi] at hz
           have hl3 := colsG_len (.mk op' m' ⟨vk', vn', vs'⟩ ar') (g2, L2)
           rw [hc3] at hl3
           have hl3' : L3.length ≤ L2.length + (Ex.mk op' m' ⟨vk', vn', vs'⟩ ar').sz := hl3
           rw [hdr _ hx, szL] at hsz2
           rw [hdr _ hx, colsGL, hc3] at hcg2
           exact hR (i + 1, g3, L3, n3, C3) _ ⟨⟨by show 0 ≤ i + 1; omega, by show i + 1 ≤ zl; omega⟩, hC3, hn3, by show L3.length + szL (ar.drop (i + 1).toNat) ≤ 1000000; omega, hcg2⟩ (by show (zl - (i + 1)).toNat < (zl - i).toNat; omega) ⟨hz ▸ rfl, trivial⟩ ⟨rfl, rfl, rfl, rfl, trivial⟩ rfl)
        | (have hge : ar.length ≤ i.toNat := by
             have : decide (i < zl) = false := by assumption
             simp only [decide_eq_false_iff_not] at this
             omega
           rw [List.drop_eq_nil_of_le hge, colsGL] at hcg2
           simp only [Prod.mk.injEq] at hcg2
           obtain ⟨q1, q2⟩ := hcg2
           refine hQ _ _ ⟨rfl, ?_⟩
           rw [← hn', ← hC', ← q1, ← q2, hC2, hn2]
           rfl)
    · skip
      rename_i pz hpz pb hpb pu hpu pv hpv pd hpd pe hpe p3 hp3 pg hpg pn hpn pC hpC
      have hie : i.toNat = at0 := by first | exact hposA (by assumption) (by assumption) | exact hposB (by assumption) (by assumption) (by assumption)
      have hnot : ¬ L[at0]? = some m := by first | exact hnotA (by assumption) (by assumption) | exact hnotB (by assumption) (by assumption) (by assumption) (by assumption)
      rw [insG, hat, if_neg hnot] at hq
      have hb0 : pb = at0 := by
        have : Int.toNat 0 = 0 := rfl
        omega
      have hu0 : pu = at0 := by omega
      have hv0 : pv = n - at0 := by
        have : (Int.ofNat n).toNat = n := rfl
        omega
      have hcg : colsGL (ar.drop 0) (pg, L.take at0 ++ m :: L.drop at0) = (g', L') := by rw [List.drop_zero, ← hpg]; exact hq
      have hC1 : (L.take at0 ++ m :: L.drop at0).map i64c = pC := by
        rw [← hpC, ← hpe, ← hpd, hb0, hu0, hv0, ← hC, List.map_append, List.map_take, List.map_cons, List.map_drop, List.take_of_length_le (l := List.drop at0 (L.map i64c)) (by rw [List.length_drop, List.length_map]; omega)]
        rfl
      have hn1 : pC.length = pn := by rw [← hpC, ← hpn, List.length_append, List.length_take, Nat.min_eq_left (by omega)]
      have hsz1 : (L.take at0 ++ m :: L.drop at0).length + szL (ar.drop 0) ≤ 1000000 := by
        rw [List.drop_zero, List.length_append, List.length_take, List.length_cons, List.length_drop]; omega
      clear hpz hpb hpu hpv hpd hpe hp3 hpg hpn hpC hidx hoff hin hin2 hidx2 hok hokt hokd hokm hA hB hC3 hD hE hposA hposB hnotA hnotB hget hile hR
      all_goals (try simp only [nc] at hz)
      all_goals (try simp only [nc'] at hz)
      have hzl : z.toNat = ar.length ∧ 0 ≤ z := by omega
      obtain ⟨hzl, hzl0⟩ := hzl
      clear hz
      generalize z = zl at *
      refine loopT (ι := Int × Nat × List Int × Nat × List (List PV)) mixed tt_ok hcp hcc hlp [1, 2, 50, 51] (fun p => [(52, .p (.int .i64 p.1))]) (fun p => [.cells [.vec 2 p.2.1 1 0 p.2.2.2.1], .cells [.fn 183 [.ref 0 0, .ref 1 0]], .vec p.2.1 p.2.2.2.2 1, .cells [.p (.int .i64 op), .p (.int .i64 m), .p (.int .i64 vk), .p (.int .i64 vn), .p (.str vs), .p (.sl es)], .spare p3 1])
        (fun p => (0 ≤ p.1 ∧ p.1 ≤ zl) ∧ p.2.2.1.map i64c = p.2.2.2.2 ∧ p.2.2.2.2.length = p.2.2.2.1 ∧ p.2.2.1.length + szL (ar.drop p.1.toNat) ≤ 1000000 ∧ colsGL (ar.drop p.1.toNat) (p.2.1, p.2.2.1) = (g', L')) (fun p => (zl - p.1).toNat) (0, _, _, _, _) 5 (fun _ => rfl) ⟨⟨by show (0 : Int) ≤ 0; omega, by show (0 : Int) ≤ zl; omega⟩, hC1, hn1, hsz1, hcg⟩ ⟨rfl, trivial⟩ rfl ?_
      rintro R ⟨i, g2, L2, n2, C2⟩ ⟨⟨hi0, hi1⟩, hC2, hn2, hsz2, hcg2⟩ hR
      replace hi0 : 0 ≤ i := hi0
      replace hi1 : i ≤ zl := hi1
      replace hC2 : L2.map i64c = C2 := hC2
      replace hn2 : C2.length = n2 := hn2
      replace hsz2 : L2.length + szL (ar.drop i.toNat) ≤ 1000000 := hsz2
      replace hcg2 : colsGL (ar.drop i.toNat) (g2, L2) = (g', L') := hcg2
      have hk : decide (i < zl) = true → i < ar.length := by simp only [decide_eq_true_eq]; omega
      have hki : decide (i < zl) = true → i + 1 ≤ zl ∧ i < 9223372036854775806 := by simp only [decide_eq_true_eq]; omega
      have hdr : ∀ x, ar[i.toNat]? = some x → ar.drop i.toNat = x :: ar.drop (i + 1).toNat := by
        intro x hx
        rw [List.drop_eq_getElem_cons (List.getElem?_eq_some_iff.1 hx).1, (List.getElem?_eq_some_iff.1 hx).2, show (i + 1).toNat = i.toNat + 1 by omega]
      have hpc : ∀ (op' m' vk' vn' : Int) (vs' : ByteArray) (ar' : List Ex) (es' : List (List PV)), ar[i.toNat]? = some (.mk op' m' ⟨vk', vn', vs'⟩ ar') → ar'.map Ex.cells = es' → ∃ g3 L3 n3 C3, colsG (.mk op' m' ⟨vk', vn', vs'⟩ ar') (g2, L2) = (g3, L3) ∧ L3.map i64c = C3 ∧ C3.length = n3 ∧
          ACall Try.prog 183 [.p (.agg [.int .i64 op', .int .i64 m', .int .i64 vk', .int .i64 vn', .str vs', .sl es']), .ref 0 0, .ref 1 0] (colH g2 n2 C2) fun r H' => r = .tup [] ∧ takeX H' 3 = colH g3 n3 C3 := by
        intro op' m' vk' vn' vs' ar' es' hx he
        have hb : L2.length + (Ex.mk op' m' ⟨vk', vn', vs'⟩ ar').sz ≤ 1000000 := by
          rw [hdr _ hx, szL] at hsz2; omega
        exact IH _ (List.mem_of_getElem? hx) _ g2 L2 n2 C2 (by rw [cells_mk, he]) hC2 hn2 hb
      repeat' (first
        | (with_reducible refine Nm.mk ?_; intro z hz)
        | (with_reducible refine IfB.mk ?_ ?_ <;> (intro h; cases h))
        | (with_reducible refine Two.l ?_; refine Asm.mk ?_ ?_; focus (decide +kernel))
        | (with_reducible refine Two.r ?_)
        | (with_reducible refine Asm.mk ?_ ?_; focus (show (_ : Bool) = true; kernel_rfl))
        | (with_reducible refine Ix.ex hes hi0 (hk (by assumption)) ?_; intro op' m' vk' vn' vs' ar' es' hx hes')
        | (with_reducible refine isCC hcc ?_; obtain ⟨g3, L3, n3, C3, hc3, hC3, hn3, hcall⟩ := hpc _ _ _ _ _ _ _ hx hes'; refine frameK (H1 := colH g3 n3 C3) hcc [0, 1, 2] hcall rfl rfl rfl rfl rfl rfl rfl ?_)
        | (with_reducible refine Asm.mk2 ?_ ?_)
        | ((fail_if_success (with_reducible first | refine hQ _ _ ?_ | refine Side.mk ?_ | refine isCP hcp ?_ | refine isCC hcc ?_ | refine isLP hlp ?_ | refine Ix.mk ?_ | refine SIx.mk ?_ | refine SEx.mk ?_ | refine EIx.mk ?_ | refine RIx.mk ?_ | show False | refine hR ?_ _ ?_ ?_ ?_ ?_ ?_ | refine hR2 ?_ _ ?_ ?_ ?_ ?_ ?_)); cbv))
      all_goals first
        | (have hlt := hki (by assumption)
           have hwi : IntKind.i64.wrap (i + 1) = i + 1 := wrap_in (by omega)
           rw [hwi] at hz
           have hl3 := colsG_len (.mk op' m' ⟨vk', vn', vs'⟩ ar') (g2, L2)
           rw [hc3] at hl3
           have hl3' : L3.length ≤ L2.length + (Ex.mk op' m' ⟨vk', vn', vs'⟩ ar').sz := hl3
           rw [hdr _ hx, szL] at hsz2
           rw [hdr _ hx, colsGL, hc3] at hcg2
           exact hR (i + 1, g3, L3, n3, C3) _ ⟨⟨by show 0 ≤ i + 1; omega, by show i + 1 ≤ zl; omega⟩, hC3, hn3, by show L3.length + szL (ar.drop (i + 1).toNat) ≤ 1000000; omega, hcg2⟩ (by show (zl - (i + 1)).toNat < (zl - i).toNat; omega) ⟨hz ▸ rfl, trivial⟩ ⟨rfl, rfl, rfl, rfl, trivial⟩ rfl)
        | (have hge : ar.length ≤ i.toNat := by
             have : decide (i < zl) = false := by assumption
             simp only [decide_eq_false_iff_not] at this
             omega
           rw [List.drop_eq_nil_of_le hge, colsGL] at hcg2
           simp only [Prod.mk.injEq] at hcg2
           obtain ⟨q1, q2⟩ := hcg2
           refine hQ _ _ ⟨rfl, ?_⟩
           rw [← hn', ← hC', ← q1, ← q2, hC2, hn2]
           rfl)
    · have hye : L[at0]? = some m := hyes (by assumption) (by assumption) (by assumption) (by assumption)
      rw [insG, hat, if_pos hye] at hq
      have hcg : colsGL (ar.drop 0) (g, L) = (g', L') := hq
      have hC1 := hC
      have hn1 := hn
      have hsz1 : L.length + szL (ar.drop 0) ≤ 1000000 := by rw [List.drop_zero]; omega
      clear hidx hoff hin hin2 hidx2 hok hokt hokd hokm hA hB hC3 hD hE hposA hposB hnotA hnotB hget hile hR
      all_goals (try simp only [nc] at hz)
      all_goals (try simp only [nc'] at hz)
      have hzl : z.toNat = ar.length ∧ 0 ≤ z := by omega
      obtain ⟨hzl, hzl0⟩ := hzl
      clear hz
      generalize z = zl at *
      refine loopT (ι := Int × Nat × List Int × Nat × List (List PV)) mixed tt_ok hcp hcc hlp [1, 2, 50, 51] (fun p => [(52, .p (.int .i64 p.1))]) (fun p => [.cells [.vec 2 p.2.1 1 0 p.2.2.2.1], .cells [.fn 183 [.ref 0 0, .ref 1 0]], .vec p.2.1 p.2.2.2.2 1, .cells [.p (.int .i64 op), .p (.int .i64 m), .p (.int .i64 vk), .p (.int .i64 vn), .p (.str vs), .p (.sl es)]])
        (fun p => (0 ≤ p.1 ∧ p.1 ≤ zl) ∧ p.2.2.1.map i64c = p.2.2.2.2 ∧ p.2.2.2.2.length = p.2.2.2.1 ∧ p.2.2.1.length + szL (ar.drop p.1.toNat) ≤ 1000000 ∧ colsGL (ar.drop p.1.toNat) (p.2.1, p.2.2.1) = (g', L')) (fun p => (zl - p.1).toNat) (0, _, _, _, _) 4 (fun _ => rfl) ⟨⟨by show (0 : Int) ≤ 0; omega, by show (0 : Int) ≤ zl; omega⟩, hC1, hn1, hsz1, hcg⟩ ⟨rfl, trivial⟩ rfl ?_
      rintro R ⟨i, g2, L2, n2, C2⟩ ⟨⟨hi0, hi1⟩, hC2, hn2, hsz2, hcg2⟩ hR
      replace hi0 : 0 ≤ i := hi0
      replace hi1 : i ≤ zl := hi1
      replace hC2 : L2.map i64c = C2 := hC2
      replace hn2 : C2.length = n2 := hn2
      replace hsz2 : L2.length + szL (ar.drop i.toNat) ≤ 1000000 := hsz2
      replace hcg2 : colsGL (ar.drop i.toNat) (g2, L2) = (g', L') := hcg2
      have hk : decide (i < zl) = true → i < ar.length := by simp only [decide_eq_true_eq]; omega
      have hki : decide (i < zl) = true → i + 1 ≤ zl ∧ i < 9223372036854775806 := by simp only [decide_eq_true_eq]; omega
      have hdr : ∀ x, ar[i.toNat]? = some x → ar.drop i.toNat = x :: ar.drop (i + 1).toNat := by
        intro x hx
        rw [List.drop_eq_getElem_cons (List.getElem?_eq_some_iff.1 hx).1, (List.getElem?_eq_some_iff.1 hx).2, show (i + 1).toNat = i.toNat + 1 by omega]
      have hpc : ∀ (op' m' vk' vn' : Int) (vs' : ByteArray) (ar' : List Ex) (es' : List (List PV)), ar[i.toNat]? = some (.mk op' m' ⟨vk', vn', vs'⟩ ar') → ar'.map Ex.cells = es' → ∃ g3 L3 n3 C3, colsG (.mk op' m' ⟨vk', vn', vs'⟩ ar') (g2, L2) = (g3, L3) ∧ L3.map i64c = C3 ∧ C3.length = n3 ∧
          ACall Try.prog 183 [.p (.agg [.int .i64 op', .int .i64 m', .int .i64 vk', .int .i64 vn', .str vs', .sl es']), .ref 0 0, .ref 1 0] (colH g2 n2 C2) fun r H' => r = .tup [] ∧ takeX H' 3 = colH g3 n3 C3 := by
        intro op' m' vk' vn' vs' ar' es' hx he
        have hb : L2.length + (Ex.mk op' m' ⟨vk', vn', vs'⟩ ar').sz ≤ 1000000 := by
          rw [hdr _ hx, szL] at hsz2; omega
        exact IH _ (List.mem_of_getElem? hx) _ g2 L2 n2 C2 (by rw [cells_mk, he]) hC2 hn2 hb
      repeat' (first
        | (with_reducible refine Nm.mk ?_; intro z hz)
        | (with_reducible refine IfB.mk ?_ ?_ <;> (intro h; cases h))
        | (with_reducible refine Two.l ?_; refine Asm.mk ?_ ?_; focus (decide +kernel))
        | (with_reducible refine Two.r ?_)
        | (with_reducible refine Asm.mk ?_ ?_; focus (show (_ : Bool) = true; kernel_rfl))
        | (with_reducible refine Ix.ex hes hi0 (hk (by assumption)) ?_; intro op' m' vk' vn' vs' ar' es' hx hes')
        | (with_reducible refine isCC hcc ?_; obtain ⟨g3, L3, n3, C3, hc3, hC3, hn3, hcall⟩ := hpc _ _ _ _ _ _ _ hx hes'; refine frameK (H1 := colH g3 n3 C3) hcc [0, 1, 2] hcall rfl rfl rfl rfl rfl rfl rfl ?_)
        | (with_reducible refine Asm.mk2 ?_ ?_)
        | ((fail_if_success (with_reducible first | refine hQ _ _ ?_ | refine Side.mk ?_ | refine isCP hcp ?_ | refine isCC hcc ?_ | refine isLP hlp ?_ | refine Ix.mk ?_ | refine SIx.mk ?_ | refine SEx.mk ?_ | refine EIx.mk ?_ | refine RIx.mk ?_ | show False | refine hR ?_ _ ?_ ?_ ?_ ?_ ?_ | refine hR2 ?_ _ ?_ ?_ ?_ ?_ ?_)); cbv))
      all_goals first
        | (have hlt := hki (by assumption)
           have hwi : IntKind.i64.wrap (i + 1) = i + 1 := wrap_in (by omega)
           rw [hwi] at hz
           have hl3 := colsG_len (.mk op' m' ⟨vk', vn', vs'⟩ ar') (g2, L2)
           rw [hc3] at hl3
           have hl3' : L3.length ≤ L2.length + (Ex.mk op' m' ⟨vk', vn', vs'⟩ ar').sz := hl3
           rw [hdr _ hx, szL] at hsz2
           rw [hdr _ hx, colsGL, hc3] at hcg2
           exact hR (i + 1, g3, L3, n3, C3) _ ⟨⟨by show 0 ≤ i + 1; omega, by show i + 1 ≤ zl; omega⟩, hC3, hn3, by show L3.length + szL (ar.drop (i + 1).toNat) ≤ 1000000; omega, hcg2⟩ (by show (zl - (i + 1)).toNat < (zl - i).toNat; omega) ⟨hz ▸ rfl, trivial⟩ ⟨rfl, rfl, rfl, rfl, trivial⟩ rfl)
        | (have hge : ar.length ≤ i.toNat := by
             have : decide (i < zl) = false := by assumption
             simp only [decide_eq_false_iff_not] at this
             omega
           rw [List.drop_eq_nil_of_le hge, colsGL] at hcg2
           simp only [Prod.mk.injEq] at hcg2
           obtain ⟨q1, q2⟩ := hcg2
           refine hQ _ _ ⟨rfl, ?_⟩
           rw [← hn', ← hC', ← q1, ← q2, hC2, hn2]
           rfl)
    · skip
      rename_i pz hpz pb hpb pu hpu pv hpv pd hpd pe hpe p3 hp3 pg hpg pn hpn pC hpC
      have hie : i.toNat = at0 := by first | exact hposA (by assumption) (by assumption) | exact hposB (by assumption) (by assumption) (by assumption)
      have hnot : ¬ L[at0]? = some m := by first | exact hnotA (by assumption) (by assumption) | exact hnotB (by assumption) (by assumption) (by assumption) (by assumption)
      rw [insG, hat, if_neg hnot] at hq
      have hb0 : pb = at0 := by
        have : Int.toNat 0 = 0 := rfl
        omega
      have hu0 : pu = at0 := by omega
      have hv0 : pv = n - at0 := by
        have : (Int.ofNat n).toNat = n := rfl
        omega
      have hcg : colsGL (ar.drop 0) (pg, L.take at0 ++ m :: L.drop at0) = (g', L') := by rw [List.drop_zero, ← hpg]; exact hq
      have hC1 : (L.take at0 ++ m :: L.drop at0).map i64c = pC := by
        rw [← hpC, ← hpe, ← hpd, hb0, hu0, hv0, ← hC, List.map_append, List.map_take, List.map_cons, List.map_drop, List.take_of_length_le (l := List.drop at0 (L.map i64c)) (by rw [List.length_drop, List.length_map]; omega)]
        rfl
      have hn1 : pC.length = pn := by rw [← hpC, ← hpn, List.length_append, List.length_take, Nat.min_eq_left (by omega)]
      have hsz1 : (L.take at0 ++ m :: L.drop at0).length + szL (ar.drop 0) ≤ 1000000 := by
        rw [List.drop_zero, List.length_append, List.length_take, List.length_cons, List.length_drop]; omega
      clear hpz hpb hpu hpv hpd hpe hp3 hpg hpn hpC hidx hoff hin hin2 hidx2 hok hokt hokd hokm hA hB hC3 hD hE hposA hposB hnotA hnotB hget hile hR
      all_goals (try simp only [nc] at hz)
      all_goals (try simp only [nc'] at hz)
      have hzl : z.toNat = ar.length ∧ 0 ≤ z := by omega
      obtain ⟨hzl, hzl0⟩ := hzl
      clear hz
      generalize z = zl at *
      refine loopT (ι := Int × Nat × List Int × Nat × List (List PV)) mixed tt_ok hcp hcc hlp [1, 2, 50, 51] (fun p => [(52, .p (.int .i64 p.1))]) (fun p => [.cells [.vec 2 p.2.1 1 0 p.2.2.2.1], .cells [.fn 183 [.ref 0 0, .ref 1 0]], .vec p.2.1 p.2.2.2.2 1, .cells [.p (.int .i64 op), .p (.int .i64 m), .p (.int .i64 vk), .p (.int .i64 vn), .p (.str vs), .p (.sl es)], .spare p3 1])
        (fun p => (0 ≤ p.1 ∧ p.1 ≤ zl) ∧ p.2.2.1.map i64c = p.2.2.2.2 ∧ p.2.2.2.2.length = p.2.2.2.1 ∧ p.2.2.1.length + szL (ar.drop p.1.toNat) ≤ 1000000 ∧ colsGL (ar.drop p.1.toNat) (p.2.1, p.2.2.1) = (g', L')) (fun p => (zl - p.1).toNat) (0, _, _, _, _) 5 (fun _ => rfl) ⟨⟨by show (0 : Int) ≤ 0; omega, by show (0 : Int) ≤ zl; omega⟩, hC1, hn1, hsz1, hcg⟩ ⟨rfl, trivial⟩ rfl ?_
      rintro R ⟨i, g2, L2, n2, C2⟩ ⟨⟨hi0, hi1⟩, hC2, hn2, hsz2, hcg2⟩ hR
      replace hi0 : 0 ≤ i := hi0
      replace hi1 : i ≤ zl := hi1
      replace hC2 : L2.map i64c = C2 := hC2
      replace hn2 : C2.length = n2 := hn2
      replace hsz2 : L2.length + szL (ar.drop i.toNat) ≤ 1000000 := hsz2
      replace hcg2 : colsGL (ar.drop i.toNat) (g2, L2) = (g', L') := hcg2
      have hk : decide (i < zl) = true → i < ar.length := by simp only [decide_eq_true_eq]; omega
      have hki : decide (i < zl) = true → i + 1 ≤ zl ∧ i < 9223372036854775806 := by simp only [decide_eq_true_eq]; omega
      have hdr : ∀ x, ar[i.toNat]? = some x → ar.drop i.toNat = x :: ar.drop (i + 1).toNat := by
        intro x hx
        rw [List.drop_eq_getElem_cons (List.getElem?_eq_some_iff.1 hx).1, (List.getElem?_eq_some_iff.1 hx).2, show (i + 1).toNat = i.toNat + 1 by omega]
      have hpc : ∀ (op' m' vk' vn' : Int) (vs' : ByteArray) (ar' : List Ex) (es' : List (List PV)), ar[i.toNat]? = some (.mk op' m' ⟨vk', vn', vs'⟩ ar') → ar'.map Ex.cells = es' → ∃ g3 L3 n3 C3, colsG (.mk op' m' ⟨vk', vn', vs'⟩ ar') (g2, L2) = (g3, L3) ∧ L3.map i64c = C3 ∧ C3.length = n3 ∧
          ACall Try.prog 183 [.p (.agg [.int .i64 op', .int .i64 m', .int .i64 vk', .int .i64 vn', .str vs', .sl es']), .ref 0 0, .ref 1 0] (colH g2 n2 C2) fun r H' => r = .tup [] ∧ takeX H' 3 = colH g3 n3 C3 := by
        intro op' m' vk' vn' vs' ar' es' hx he
        have hb : L2.length + (Ex.mk op' m' ⟨vk', vn', vs'⟩ ar').sz ≤ 1000000 := by
          rw [hdr _ hx, szL] at hsz2; omega
        exact IH _ (List.mem_of_getElem? hx) _ g2 L2 n2 C2 (by rw [cells_mk, he]) hC2 hn2 hb
      repeat' (first
        | (with_reducible refine Nm.mk ?_; intro z hz)
        | (with_reducible refine IfB.mk ?_ ?_ <;> (intro h; cases h))
        | (with_reducible refine Two.l ?_; refine Asm.mk ?_ ?_; focus (decide +kernel))
        | (with_reducible refine Two.r ?_)
        | (with_reducible refine Asm.mk ?_ ?_; focus (show (_ : Bool) = true; kernel_rfl))
        | (with_reducible refine Ix.ex hes hi0 (hk (by assumption)) ?_; intro op' m' vk' vn' vs' ar' es' hx hes')
        | (with_reducible refine isCC hcc ?_; obtain ⟨g3, L3, n3, C3, hc3, hC3, hn3, hcall⟩ := hpc _ _ _ _ _ _ _ hx hes'; refine frameK (H1 := colH g3 n3 C3) hcc [0, 1, 2] hcall rfl rfl rfl rfl rfl rfl rfl ?_)
        | (with_reducible refine Asm.mk2 ?_ ?_)
        | ((fail_if_success (with_reducible first | refine hQ _ _ ?_ | refine Side.mk ?_ | refine isCP hcp ?_ | refine isCC hcc ?_ | refine isLP hlp ?_ | refine Ix.mk ?_ | refine SIx.mk ?_ | refine SEx.mk ?_ | refine EIx.mk ?_ | refine RIx.mk ?_ | show False | refine hR ?_ _ ?_ ?_ ?_ ?_ ?_ | refine hR2 ?_ _ ?_ ?_ ?_ ?_ ?_)); cbv))
      all_goals first
        | (have hlt := hki (by assumption)
           have hwi : IntKind.i64.wrap (i + 1) = i + 1 := wrap_in (by omega)
           rw [hwi] at hz
           have hl3 := colsG_len (.mk op' m' ⟨vk', vn', vs'⟩ ar') (g2, L2)
           rw [hc3] at hl3
           have hl3' : L3.length ≤ L2.length + (Ex.mk op' m' ⟨vk', vn', vs'⟩ ar').sz := hl3
           rw [hdr _ hx, szL] at hsz2
           rw [hdr _ hx, colsGL, hc3] at hcg2
           exact hR (i + 1, g3, L3, n3, C3) _ ⟨⟨by show 0 ≤ i + 1; omega, by show i + 1 ≤ zl; omega⟩, hC3, hn3, by show L3.length + szL (ar.drop (i + 1).toNat) ≤ 1000000; omega, hcg2⟩ (by show (zl - (i + 1)).toNat < (zl - i).toNat; omega) ⟨hz ▸ rfl, trivial⟩ ⟨rfl, rfl, rfl, rfl, trivial⟩ rfl)
        | (have hge : ar.length ≤ i.toNat := by
             have : decide (i < zl) = false := by assumption
             simp only [decide_eq_false_iff_not] at this
             omega
           rw [List.drop_eq_nil_of_le hge, colsGL] at hcg2
           simp only [Prod.mk.injEq] at hcg2
           obtain ⟨q1, q2⟩ := hcg2
           refine hQ _ _ ⟨rfl, ?_⟩
           rw [← hn', ← hC', ← q1, ← q2, hC2, hn2]
           rfl)
    · exact (hno (by assumption) (by assumption) (by assumption) (by assumption)).elim
    · exact (hno (by assumption) (by assumption) (by assumption) (by assumption)).elim
  · have hop : ¬ op = 1 := by simpa using (show decide (op = 1) = false by assumption)
    rw [if_neg hop] at hq
    have hcg := hq
    have hC1 := hC
    have hn1 := hn
    have hsz1 : L.length + szL (ar.drop 0) ≤ 1000000 := by rw [List.drop_zero]; omega
    all_goals (try simp only [nc] at hz)
    all_goals (try simp only [nc'] at hz)
    have hzl : z.toNat = ar.length ∧ 0 ≤ z := by omega
    obtain ⟨hzl, hzl0⟩ := hzl
    clear hz
    generalize z = zl at *
    refine loopT (ι := Int × Nat × List Int × Nat × List (List PV)) mixed tt_ok hcp hcc hlp [1, 2, 50, 51] (fun p => [(52, .p (.int .i64 p.1))]) (fun p => [.cells [.vec 2 p.2.1 1 0 p.2.2.2.1], .cells [.fn 183 [.ref 0 0, .ref 1 0]], .vec p.2.1 p.2.2.2.2 1, .cells [.p (.int .i64 op), .p (.int .i64 m), .p (.int .i64 vk), .p (.int .i64 vn), .p (.str vs), .p (.sl es)]])
      (fun p => (0 ≤ p.1 ∧ p.1 ≤ zl) ∧ p.2.2.1.map i64c = p.2.2.2.2 ∧ p.2.2.2.2.length = p.2.2.2.1 ∧ p.2.2.1.length + szL (ar.drop p.1.toNat) ≤ 1000000 ∧ colsGL (ar.drop p.1.toNat) (p.2.1, p.2.2.1) = (g', L')) (fun p => (zl - p.1).toNat) (0, _, _, _, _) 4 (fun _ => rfl) ⟨⟨by show (0 : Int) ≤ 0; omega, by show (0 : Int) ≤ zl; omega⟩, hC1, hn1, hsz1, hcg⟩ ⟨rfl, trivial⟩ rfl ?_
    rintro R ⟨i, g2, L2, n2, C2⟩ ⟨⟨hi0, hi1⟩, hC2, hn2, hsz2, hcg2⟩ hR
    replace hi0 : 0 ≤ i := hi0
    replace hi1 : i ≤ zl := hi1
    replace hC2 : L2.map i64c = C2 := hC2
    replace hn2 : C2.length = n2 := hn2
    replace hsz2 : L2.length + szL (ar.drop i.toNat) ≤ 1000000 := hsz2
    replace hcg2 : colsGL (ar.drop i.toNat) (g2, L2) = (g', L') := hcg2
    have hk : decide (i < zl) = true → i < ar.length := by simp only [decide_eq_true_eq]; omega
    have hki : decide (i < zl) = true → i + 1 ≤ zl ∧ i < 9223372036854775806 := by simp only [decide_eq_true_eq]; omega
    have hdr : ∀ x, ar[i.toNat]? = some x → ar.drop i.toNat = x :: ar.drop (i + 1).toNat := by
      intro x hx
      rw [List.drop_eq_getElem_cons (List.getElem?_eq_some_iff.1 hx).1, (List.getElem?_eq_some_iff.1 hx).2, show (i + 1).toNat = i.toNat + 1 by omega]
    have hpc : ∀ (op' m' vk' vn' : Int) (vs' : ByteArray) (ar' : List Ex) (es' : List (List PV)), ar[i.toNat]? = some (.mk op' m' ⟨vk', vn', vs'⟩ ar') → ar'.map Ex.cells = es' → ∃ g3 L3 n3 C3, colsG (.mk op' m' ⟨vk', vn', vs'⟩ ar') (g2, L2) = (g3, L3) ∧ L3.map i64c = C3 ∧ C3.length = n3 ∧
        ACall Try.prog 183 [.p (.agg [.int .i64 op', .int .i64 m', .int .i64 vk', .int .i64 vn', .str vs', .sl es']), .ref 0 0, .ref 1 0] (colH g2 n2 C2) fun r H' => r = .tup [] ∧ takeX H' 3 = colH g3 n3 C3 := by
      intro op' m' vk' vn' vs' ar' es' hx he
      have hb : L2.length + (Ex.mk op' m' ⟨vk', vn', vs'⟩ ar').sz ≤ 1000000 := by
        rw [hdr _ hx, szL] at hsz2; omega
      exact IH _ (List.mem_of_getElem? hx) _ g2 L2 n2 C2 (by rw [cells_mk, he]) hC2 hn2 hb
    repeat' (first
      | (with_reducible refine Nm.mk ?_; intro z hz)
      | (with_reducible refine IfB.mk ?_ ?_ <;> (intro h; cases h))
      | (with_reducible refine Two.l ?_; refine Asm.mk ?_ ?_; focus (decide +kernel))
      | (with_reducible refine Two.r ?_)
      | (with_reducible refine Asm.mk ?_ ?_; focus (show (_ : Bool) = true; kernel_rfl))
      | (with_reducible refine Ix.ex hes hi0 (hk (by assumption)) ?_; intro op' m' vk' vn' vs' ar' es' hx hes')
      | (with_reducible refine isCC hcc ?_; obtain ⟨g3, L3, n3, C3, hc3, hC3, hn3, hcall⟩ := hpc _ _ _ _ _ _ _ hx hes'; refine frameK (H1 := colH g3 n3 C3) hcc [0, 1, 2] hcall rfl rfl rfl rfl rfl rfl rfl ?_)
      | (with_reducible refine Asm.mk2 ?_ ?_)
      | ((fail_if_success (with_reducible first | refine hQ _ _ ?_ | refine Side.mk ?_ | refine isCP hcp ?_ | refine isCC hcc ?_ | refine isLP hlp ?_ | refine Ix.mk ?_ | refine SIx.mk ?_ | refine SEx.mk ?_ | refine EIx.mk ?_ | refine RIx.mk ?_ | show False | refine hR ?_ _ ?_ ?_ ?_ ?_ ?_ | refine hR2 ?_ _ ?_ ?_ ?_ ?_ ?_)); cbv))
    all_goals first
      | (have hlt := hki (by assumption)
         have hwi : IntKind.i64.wrap (i + 1) = i + 1 := wrap_in (by omega)
         rw [hwi] at hz
         have hl3 := colsG_len (.mk op' m' ⟨vk', vn', vs'⟩ ar') (g2, L2)
         rw [hc3] at hl3
         have hl3' : L3.length ≤ L2.length + (Ex.mk op' m' ⟨vk', vn', vs'⟩ ar').sz := hl3
         rw [hdr _ hx, szL] at hsz2
         rw [hdr _ hx, colsGL, hc3] at hcg2
         exact hR (i + 1, g3, L3, n3, C3) _ ⟨⟨by show 0 ≤ i + 1; omega, by show i + 1 ≤ zl; omega⟩, hC3, hn3, by show L3.length + szL (ar.drop (i + 1).toNat) ≤ 1000000; omega, hcg2⟩ (by show (zl - (i + 1)).toNat < (zl - i).toNat; omega) ⟨hz ▸ rfl, trivial⟩ ⟨rfl, rfl, rfl, rfl, trivial⟩ rfl)
      | (have hge : ar.length ≤ i.toNat := by
           have : decide (i < zl) = false := by assumption
           simp only [decide_eq_false_iff_not] at this
           omega
         rw [List.drop_eq_nil_of_le hge, colsGL] at hcg2
         simp only [Prod.mk.injEq] at hcg2
         obtain ⟨q1, q2⟩ := hcg2
         refine hQ _ _ ⟨rfl, ?_⟩
         rw [← hn', ← hC', ← q1, ← q2, hC2, hn2]
         rfl)
end Go.Proofs.Ytnhmnfokbinplaa

namespace Go.Proofs.Ytnhmnfokbinplaa
open Go Go.RowKit
set_option maxRecDepth 100000
set_option linter.unusedSimpArgs false
set_option linter.unusedVariables false

theorem col_all : ∀ (m : Nat) (e : Ex), e.sz ≤ m → e.wide → ColC e
  | 0, .mk op m v ar, h, _ => by simp [Ex.sz] at h
  | k + 1, .mk op m ⟨vk, vn, vs⟩ ar, h, hw => by
    intro cells g L n C he hC hn hsz
    rw [cells_mk] at he
    subst he
    have hwi : wideN ar.length ∧ wideL ar := by rw [Ex.wide] at hw; exact hw
    have hwn : wideN ar.length := hwi.1
    unfold wideN at hwn
    refine ⟨_, _, _, _, rfl, rfl, rfl, col_c op m vk vn vs ar _ rfl (by omega) (fun x hx => col_all k x ?_ (wide_mem hwi.2 hx)) g L n C hC hn (by rw [Ex.sz] at hsz; exact hsz) _ _ _ _ rfl rfl rfl⟩
    have := sz_mem hx
    simp only [Ex.sz] at h; omega
mutual
theorem walk_count : ∀ (e : Ex) (d k h : Int), (walkE e d k h).1 = true → (walkE e d k h).2.1 = k + e.sz
  | .mk op m v ar, d, k, h, hw => by
    rw [walkE] at hw ⊢
    split at hw
    · cases hw
    · rename_i hb
      rw [if_neg hb, walkL_count ar _ _ _ hw, Ex.sz]
      omega
theorem walkL_count : ∀ (l : List Ex) (d k h : Int), (walkL l d k h).1 = true → (walkL l d k h).2.1 = k + szL l
  | [], d, k, h, _ => by simp [walkL, szL]
  | a :: r, d, k, h, hw => by
    have he := walk_count a d k h
    rw [walkL] at hw ⊢
    rcases hx : walkE a d k h with ⟨b, k', h'⟩
    rw [hx] at hw he
    cases b with
    | false => cases hw
    | true =>
      have he2 : k' = k + a.sz := he rfl
      dsimp only at hw ⊢
      rw [walkL_count r d k' h' hw, szL, he2]
      omega
end
theorem built_szK {e : Ex} (hb : builtM e = true) : e.sz ≤ 400 := by
  have hb2 : (sizeM e).1 ≤ 400 := of_decide_eq_true hb
  cases hw : (walkE e 1 0 0).1 with
  | true =>
    rw [sizeM, if_pos hw] at hb2
    have := walk_count e 1 0 0 hw
    have hb3 : (walkE e 1 0 0).2.1 ≤ 400 := hb2
    omega
  | false =>
    rw [sizeM, if_neg (by rw [hw]; decide)] at hb2
    exact absurd hb2 (by decide)
def colsKM (e : Ex) : List Int := if builtM e = true then colsE e [] else []
theorem rcolumns_c (op n vk vn : Int) (vs : ByteArray) (ar : List Ex) (es : List (List PV)) (hes : ar.map Ex.cells = es) (hw : (Ex.mk op n ⟨vk, vn, vs⟩ ar).wide) :
    PCall Try.prog 139 [.agg [.int .i64 op, .int .i64 n, .int .i64 vk, .int .i64 vn, .str vs, .sl es]] fun r => r = [.sl ((colsKM (.mk op n ⟨vk, vn, vs⟩ ar)).map i64c)] := by
  have hbc := rbuilt_c op n vk vn vs ar es hes hw
  obtain ⟨bt, hbt⟩ : ∃ b, builtM (.mk op n ⟨vk, vn, vs⟩ ar) = b := ⟨_, rfl⟩
  obtain ⟨g', L', n', C', hc, hC', hn', hcall⟩ : ∃ g' L' n' C', colsG (.mk op n ⟨vk, vn, vs⟩ ar) (0, []) = (g', L') ∧ L'.map i64c = C' ∧ C'.length = n' ∧ (bt = true → ACall Try.prog 183 [.p (.agg [.int .i64 op, .int .i64 n, .int .i64 vk, .int .i64 vn, .str vs, .sl es]), .ref 0 0, .ref 1 0] (colH 0 0 []) fun r H' => r = .tup [] ∧ takeX H' 3 = colH g' n' C') := by
    cases hb : bt with
    | false => exact ⟨_, _, _, _, rfl, rfl, rfl, fun h => by cases h⟩
    | true =>
      rw [hb] at hbt
      obtain ⟨g', L', n', C', h1, h2, h3, h4⟩ := col_all _ (.mk op n ⟨vk, vn, vs⟩ ar) (Nat.le_refl _) hw _ 0 [] 0 [] (by rw [cells_mk, hes]) rfl rfl (by have := built_szK hbt; simp; omega)
      exact ⟨g', L', n', C', h1, h2, h3, fun _ => h4⟩
  have hL' : colsE (.mk op n ⟨vk, vn, vs⟩ ar) [] = L' := by
    have := colsG_2 (.mk op n ⟨vk, vn, vs⟩ ar) (0, [])
    rw [hc] at this
    exact this.symm
  rw [colsKM, hbt, hL']
  rw [hbt] at hbc
  have hbn : ∀ {z : Bool}, bt = z → (!z) = false → bt = true := by rintro z rfl h; simpa using h
  have hbf : ∀ {z : Bool}, bt = z → (!z) = true → bt = false := by rintro z rfl h; simpa using h
  refine PCall.x (nt := 13) (res := [.tmp 2]) mixed tt_ok [] Try.func139 rfl rfl rfl c139 (Nat.le_of_ble_eq_true rfl) ?_
  intro cp cc lp Q' hcp hcc hlp hQ
  repeat' (first
    | (with_reducible refine Nm.mk ?_; intro z hz)
    | (with_reducible refine IfB.mk ?_ ?_ <;> (intro h; cases h))
    | (with_reducible refine Two.l ?_; refine Asm.mk ?_ ?_; focus (decide +kernel))
    | (with_reducible refine Two.r ?_)
    | (with_reducible refine Asm.mk ?_ ?_; focus kernel_rfl)
    | (with_reducible refine isCP hcp ?_; first | (refine bP hcp (hbc) ?_; intro z hz))
    | (with_reducible refine isCC hcc ?_; first | (refine bA hcc (hbc) rfl ?_; intro z hz))
    | (with_reducible refine isCC hcc ?_; refine mintCC hcc 1 1 0 rfl rfl ?_; refine frameK (H1 := colH g' n' C') hcc [1, 2, 3] (hcall (hbn (by assumption) (by assumption))) rfl rfl rfl rfl rfl rfl rfl ?_)
    | (with_reducible refine Asm.mk2 ?_ ?_)
    | ((fail_if_success (with_reducible first | refine hQ _ ?_ | refine Side.mk ?_ | refine isCP hcp ?_ | refine isCC hcc ?_ | refine isLP hlp ?_ | refine Ix.mk ?_ | refine SIx.mk ?_ | refine SEx.mk ?_ | refine EIx.mk ?_ | refine RIx.mk ?_ | show False | refine hR ?_ _ ?_ ?_ ?_ ?_ ?_ | refine hR2 ?_ _ ?_ ?_ ?_ ?_ ?_)); cbv))
  · refine hQ _ ?_
    rw [hbf (by assumption) (by assumption), if_neg (by decide)]; rfl
  · exact ⟨⟨rfl, by omega⟩⟩
  · have hbt2 := hbn (by assumption) (by assumption)
    refine hQ _ ?_
    rw [if_pos hbt2, hC', ← hz, List.drop_zero, List.take_of_length_le (by omega)]
end Go.Proofs.Ytnhmnfokbinplaa

namespace Go.Proofs.Ytnhmnfokbinplaa
open Go Go.RowKit
set_option maxRecDepth 100000
set_option linter.unusedSimpArgs false
set_option linter.unusedVariables false

theorem mem_insC {x c : Int} {L : List Int} (h : c ∈ L ∨ c = x) : c ∈ insC x L := by
  rw [insC]
  split
  · rename_i hx
    rcases h with h | h
    · exact h
    · rw [h]; exact List.mem_of_getElem? hx
  · rcases h with h | h
    · rw [← List.take_append_drop (insAt x L) L] at h
      rcases List.mem_append.1 h with h | h
      · exact List.mem_append_left _ h
      · exact List.mem_append_right _ (List.mem_cons_of_mem _ h)
    · rw [h]; exact List.mem_append_right _ (List.mem_cons_self)
mutual
theorem mem_colsE : ∀ (e : Ex) (L : List Int) (c : Int), c ∈ L ∨ c ∈ e.cols → c ∈ colsE e L
  | .mk op m v ar, L, c, h => by
    rw [colsE]
    rw [Ex.cols] at h
    by_cases h1 : op = 1
    · rw [if_pos h1] at h ⊢
      refine mem_colsL ar _ c ?_
      rcases h with h | h
      · exact .inl (mem_insC (.inl h))
      · rcases List.mem_append.1 h with h | h
        · exact .inl (mem_insC (.inr (by simpa using h)))
        · exact .inr h
    · rw [if_neg h1] at h ⊢
      refine mem_colsL ar _ c ?_
      rcases h with h | h
      · exact .inl h
      · exact .inr (by simpa using h)
theorem mem_colsL : ∀ (l : List Ex) (L : List Int) (c : Int), c ∈ L ∨ c ∈ colsOf l → c ∈ colsKL l L
  | [], L, c, h => by
    rcases h with h | h
    · exact h
    · simp [colsOf] at h
  | e :: r, L, c, h => by
    rw [colsKL]
    rw [colsOf] at h
    refine mem_colsL r _ c ?_
    rcases h with h | h
    · exact .inl (mem_colsE e L c (.inl h))
    · rcases List.mem_append.1 h with h | h
      · exact .inl (mem_colsE e L c (.inr h))
      · exact .inr h
end
end Go.Proofs.Ytnhmnfokbinplaa

namespace Go.Proofs.Ytnhmnfokbinplaa
open Go Go.RowKit
set_option maxRecDepth 100000
set_option linter.unusedSimpArgs false
set_option linter.unusedVariables false

def colS (g n : Nat) (C : List (List PV)) : List AObj := [.cells [.vec 1 g 1 0 n], .vec g C 1]
def post1 (op m : Int) (L : List Int) : List Int := if op = 1 then L ++ [m] else L
theorem okEs_i64c (l : List Int) : okEs 1 (l.map i64c) = true := by
  simp only [okEs, List.all_map, List.all_eq_true]
  intro e _
  simp [i64c, PV.one]
theorem one_s (op m vk vn : Int) (vs : ByteArray) (es : List (List PV)) (g n : Nat) (L : List Int) (C : List (List PV)) (hC : L.map i64c = C) (hn : C.length = n) (hsz : n ≤ 1000000)
    (g' n' : Nat) (C' : List (List PV)) (hC' : (post1 op m L).map i64c = C') (hn' : C'.length = n') (hg' : g + (if op = 1 then 1 else 0) = g') : ACall Try.prog 143 [.p (.agg [.int .i64 op, .int .i64 m, .int .i64 vk, .int .i64 vn, .str vs, .sl es]), .ref 0 0] (colS g n C) fun r H' => r = .tup [] ∧ takeX H' 2 = colS g' n' C' := by
  by_cases hop : op = 1
  · rw [if_pos hop] at hg'
    have hC2 : C ++ [[.int .i64 m]] = C' := by rw [← hC', post1, if_pos hop, List.map_append, hC]; rfl
    have hok : okEs 1 (C.take n) = true := by rw [← hn, List.take_length, ← hC]; exact okEs_i64c _
    have sd : n + 1 ≤ maxLen ∧ (n + 1) * 8 ≤ 140737488355328 := by rw [maxLen_eq]; omega
    refine ACall.x (nt := 11) (res := []) mixed tt_ok [] Try.func143 rfl rfl rfl c143 (Nat.le_of_ble_eq_true rfl) ?_
    intro cp cc lp Q' hcp hcc hlp hQ
    repeat' (first
      | (with_reducible refine Nm.mk ?_; intro z hz)
      | (with_reducible refine IfB.mk ?_ ?_ <;> (intro h; cases h))
      | (with_reducible refine Two.l ?_; refine Asm.mk ?_ ?_; focus (decide +kernel))
      | (with_reducible refine Two.r ?_)
      | (with_reducible refine Asm.mk ?_ ?_; focus (first | kernel_rfl | decide))
      | (with_reducible refine Asm.mk2 ?_ ?_)
      | ((fail_if_success (with_reducible first | refine hQ _ _ ?_ | refine Side.mk ?_ | refine isCP hcp ?_ | refine isCC hcc ?_ | refine isLP hlp ?_ | refine Ix.mk ?_ | refine SIx.mk ?_ | refine SEx.mk ?_ | refine EIx.mk ?_ | refine RIx.mk ?_ | show False | refine hR ?_ _ ?_ ?_ ?_ ?_ ?_ | refine hR2 ?_ _ ?_ ?_ ?_ ?_ ?_)); cbv))
    · exact Side.mk ⟨rfl, rfl, rfl, by omega, hok, rfl, sd.1, sd.2⟩
    · rename_i g2 hg2 n2 hn2
      have e3 : z = C' := by rw [← hz, ← hC2, ← hn, List.take_length]
      have e2 : n2 = n' := by
        rw [← hn', ← hC2, ← hn2, List.length_append, ← hn]
      have e1 : g2 = g' := by omega
      subst e1 e2 e3
      exact hQ _ _ ⟨rfl, rfl⟩
    · exact absurd hop (by simpa using hz)
  · rw [if_neg hop] at hg'
    have hp : post1 op m L = L := by rw [post1, if_neg hop]
    rw [hp, hC] at hC'
    subst hC'
    rw [hn] at hn'
    subst hn'
    have hg2 : g = g' := by omega
    subst hg2
    clear hg' hp
    refine ACall.x (nt := 11) (res := []) mixed tt_ok [] Try.func143 rfl rfl rfl c143 (Nat.le_of_ble_eq_true rfl) ?_
    intro cp cc lp Q' hcp hcc hlp hQ
    repeat' (first
      | (with_reducible refine Nm.mk ?_; intro z hz)
      | (with_reducible refine IfB.mk ?_ ?_ <;> (intro h; cases h))
      | (with_reducible refine Two.l ?_; refine Asm.mk ?_ ?_; focus (decide +kernel))
      | (with_reducible refine Two.r ?_)
      | (with_reducible refine Asm.mk ?_ ?_; focus (first | kernel_rfl | decide))
      | (with_reducible refine Asm.mk2 ?_ ?_)
      | ((fail_if_success (with_reducible first | refine hQ _ _ ?_ | refine Side.mk ?_ | refine isCP hcp ?_ | refine isCC hcc ?_ | refine isLP hlp ?_ | refine Ix.mk ?_ | refine SIx.mk ?_ | refine SEx.mk ?_ | refine EIx.mk ?_ | refine RIx.mk ?_ | show False | refine hR ?_ _ ?_ ?_ ?_ ?_ ?_ | refine hR2 ?_ _ ?_ ?_ ?_ ?_ ?_)); cbv))
    · exact absurd (of_decide_eq_true (by assumption)) hop
    · exact absurd (of_decide_eq_true (by assumption)) hop
    · exact hQ _ _ ⟨rfl, rfl⟩

def EachS (e : Ex) : Prop := ∀ (cells : List PV) (g n : Nat) (L : List Int) (C : List (List PV)), e.cells = cells → L.map i64c = C → C.length = n → n + e.sz ≤ 1000000 →
  ∀ (g' n' : Nat) (C' : List (List PV)), (L ++ colsM e).map i64c = C' → C'.length = n' → g + (colsM e).length = g' → ACall Try.prog 142 [.p (.agg cells), .fn 143 [.ref 0 0]] (colS g n C) fun r H' => r = .tup [] ∧ takeX H' 2 = colS g' n' C'
set_option maxHeartbeats 2000000 in
theorem each_s (op m vk vn : Int) (vs : ByteArray) (ar : List Ex) (es : List (List PV)) (hes : ar.map Ex.cells = es) (hal : ar.length ≤ 140737488355328) (IH : ∀ x, x ∈ ar → EachS x) (g n : Nat) (L : List Int) (C : List (List PV)) (hC : L.map i64c = C) (hn : C.length = n) (hsz : n + (szL ar + 1) ≤ 1000000)
    (g' n' : Nat) (C' : List (List PV)) (hC' : (L ++ colsM (.mk op m ⟨vk, vn, vs⟩ ar)).map i64c = C') (hn' : C'.length = n') (hg' : g + (colsM (.mk op m ⟨vk, vn, vs⟩ ar)).length = g') : ACall Try.prog 142 [.p (.agg [.int .i64 op, .int .i64 m, .int .i64 vk, .int .i64 vn, .str vs, .sl es]), .fn 143 [.ref 0 0]] (colS g n C) fun r H' => r = .tup [] ∧ takeX H' 2 = colS g' n' C' := by
  have hel : es.length = ar.length := by rw [← hes]; simp
  have hLn : L.length = n := by rw [← hn, ← hC]; simp
  rw [colsM] at hC' hg'
  have hpl := cols_szL ar
  refine ACall.x (nt := 20) (res := []) mixed tt_ok [] Try.func142 rfl rfl rfl c142 (Nat.le_of_ble_eq_true rfl) ?_
  intro cp cc lp Q' hcp hcc hlp hQ
  repeat' (first
    | (with_reducible refine Nm.mk ?_; intro z hz)
    | (with_reducible refine IfB.mk ?_ ?_ <;> (intro h; cases h))
    | (with_reducible refine Two.l ?_; refine Asm.mk ?_ ?_; focus (decide +kernel))
    | (with_reducible refine Two.r ?_)
    | (with_reducible refine Asm.mk ?_ ?_; focus (first | kernel_rfl | decide))
    | (with_reducible refine Asm.mk2 ?_ ?_)
    | ((fail_if_success (with_reducible first | refine hQ _ _ ?_ | refine Side.mk ?_ | refine isCP hcp ?_ | refine isCC hcc ?_ | refine isLP hlp ?_ | refine Ix.mk ?_ | refine SIx.mk ?_ | refine SEx.mk ?_ | refine EIx.mk ?_ | refine RIx.mk ?_ | show False | refine hR ?_ _ ?_ ?_ ?_ ?_ ?_ | refine hR2 ?_ _ ?_ ?_ ?_ ?_ ?_)); cbv))
  simp only [nc] at hz
  simp only [nc'] at hz
  have hzl := lenZ (n := ar.length) hel hz
  clear hz
  generalize z = zl at *
  refine loopT (ι := Int × Nat × Nat × List (List PV) × List Int) mixed tt_ok hcp hcc hlp [1, 2, 7, 8] (fun p => [(9, .p (.int .i64 p.1))]) (fun p => [.cells [.vec 1 p.2.1 1 0 p.2.2.1], .vec p.2.1 p.2.2.2.1 1, .cells [.p (.int .i64 op), .p (.int .i64 m), .p (.int .i64 vk), .p (.int .i64 vn), .p (.str vs), .p (.sl es)]])
    (fun p => Rng ar.length zl p.1 ∧ p.2.2.2.2.map i64c = p.2.2.2.1 ∧ p.2.2.2.1.length = p.2.2.1 ∧ p.2.2.2.2 ++ colsL (ar.drop p.1.toNat) = L ++ colsL ar ∧ p.2.1 + (colsL (ar.drop p.1.toNat)).length = g + (colsL ar).length ∧ p.2.2.1 + szL (ar.drop p.1.toNat) ≤ 999999) (fun p => (zl - p.1).toNat) (0, g, n, C, L) 3 (fun _ => rfl) ⟨Rng.start hzl (by omega), hC, hn, rfl, rfl, by show n + szL ar ≤ 999999; omega⟩ ⟨rfl, trivial⟩ rfl ?_
  rintro R ⟨i, g1, n1, C1, L1⟩ ⟨rg, hC1, hn1, hL1, hg1, hs1⟩ hR
  replace rg : Rng ar.length zl i := rg
  replace hC1 : L1.map i64c = C1 := hC1
  replace hn1 : C1.length = n1 := hn1
  replace hL1 : L1 ++ colsL (ar.drop i.toNat) = L ++ colsL ar := hL1
  replace hg1 : g1 + (colsL (ar.drop i.toNat)).length = g + (colsL ar).length := hg1
  replace hs1 : n1 + szL (ar.drop i.toNat) ≤ 999999 := hs1
  have hLn1 : L1.length = n1 := by rw [← hn1, ← hC1]; simp
  have hpc : ∀ (op' m' vk' vn' : Int) (vs' : ByteArray) (ar' : List Ex) (es' : List (List PV)), ar[i.toNat]? = some (.mk op' m' ⟨vk', vn', vs'⟩ ar') → ar'.map Ex.cells = es' → ∃ g2 n2 C2 L2, (L1 ++ colsM (.mk op' m' ⟨vk', vn', vs'⟩ ar')) = L2 ∧ L2.map i64c = C2 ∧ C2.length = n2 ∧ g1 + (colsM (.mk op' m' ⟨vk', vn', vs'⟩ ar')).length = g2 ∧ n2 + szL (ar.drop (i + 1).toNat) ≤ 999999 ∧
      ACall Try.prog 142 [.p (.agg [.int .i64 op', .int .i64 m', .int .i64 vk', .int .i64 vn', .str vs', .sl es']), .fn 143 [.ref 0 0]] (colS g1 n1 C1) fun r H' => r = .tup [] ∧ takeX H' 2 = colS g2 n2 C2 := by
    intro op' m' vk' vn' vs' ar' es' hx he
    have hd := rg.step hx
    rw [hd, szL] at hs1
    refine ⟨_, _, _, _, rfl, rfl, rfl, rfl, ?_, IH _ (List.mem_of_getElem? hx) _ g1 n1 L1 C1 (by rw [cells_mk, he]) hC1 hn1 (by omega) _ _ _ rfl rfl rfl⟩
    have := cols_sz (.mk op' m' ⟨vk', vn', vs'⟩ ar')
    rw [List.length_map, List.length_append]; omega
  have hlast : decide (i < zl) = false → ACall Try.prog 143 [.p (.agg [.int .i64 op, .int .i64 m, .int .i64 vk, .int .i64 vn, .str vs, .sl es]), .ref 0 0] (colS g1 n1 C1) fun r H' => r = .tup [] ∧ takeX H' 2 = colS g' n' C' := by
    intro h
    have hd := rg.end_ rfl h
    rw [hd, colsL, List.append_nil] at hL1
    rw [hd] at hg1
    refine one_s op m vk vn vs es g1 n1 L1 C1 hC1 hn1 (by omega) g' n' C' ?_ hn' ?_
    · rw [← hC', post1, hL1, ← List.append_assoc]
      by_cases hop : op = 1
      · rw [if_pos hop, if_pos hop]
      · rw [if_neg hop, if_neg hop, List.append_nil]
    · rw [← hg', List.length_append]
      simp only [colsL, List.length_nil] at hg1
      by_cases hop : op = 1
      · rw [if_pos hop, if_pos hop]; simp; omega
      · rw [if_neg hop, if_neg hop]; simp; omega
  repeat' (first
    | (with_reducible refine Nm.mk ?_; intro z hz)
    | (with_reducible refine IfB.mk ?_ ?_ <;> (intro h; cases h))
    | (with_reducible refine Two.l ?_; refine Asm.mk ?_ ?_; focus (decide +kernel))
    | (with_reducible refine Two.r ?_)
    | (with_reducible refine Asm.mk ?_ ?_; focus (show (_ : Bool) = true; kernel_rfl))
    | (with_reducible refine Ix.ex hes rg.lo (rg.lt (by assumption)) ?_; intro op' m' vk' vn' vs' ar' es' hx hes')
    | (with_reducible refine isCC hcc ?_; obtain ⟨g2, n2, C2, L2, q1, q2, q3, q4, q5, hcall⟩ := hpc _ _ _ _ _ _ _ hx hes'; refine frameK (H1 := colS g2 n2 C2) hcc [0, 1] hcall rfl rfl rfl rfl rfl rfl rfl ?_)
    | (with_reducible refine isCC hcc ?_; refine frameK (H1 := colS g' n' C') hcc [0, 1] (hlast (by assumption)) rfl rfl rfl rfl rfl rfl rfl ?_)
    | (with_reducible refine Asm.mk2 ?_ ?_)
    | ((fail_if_success (with_reducible first | refine hQ _ _ ?_ | refine Side.mk ?_ | refine isCP hcp ?_ | refine isCC hcc ?_ | refine isLP hlp ?_ | refine Ix.mk ?_ | refine SIx.mk ?_ | refine SEx.mk ?_ | refine EIx.mk ?_ | refine RIx.mk ?_ | show False | refine hR ?_ _ ?_ ?_ ?_ ?_ ?_ | refine hR2 ?_ _ ?_ ?_ ?_ ?_ ?_)); cbv))
  · have hlt : decide (i < zl) = true := by assumption
    rw [rg.wrap hlt] at hz
    have hd := rg.step hx
    rw [hd, colsL] at hL1 hg1
    exact hR (i + 1, g2, n2, C2, L2) _ ⟨rg.next hlt, q2, q3, by show L2 ++ _ = _; rw [← q1, ← hL1, List.append_assoc], by show g2 + (colsL (ar.drop (i + 1).toNat)).length = _; rw [← hg1, ← q4, List.length_append]; omega, q5⟩ (rg.less hlt) ⟨hz ▸ rfl, trivial⟩ ⟨rfl, rfl, rfl, rfl, trivial⟩ rfl
  · exact hQ _ _ ⟨rfl, rfl⟩
theorem each_sall : ∀ (k : Nat) (e : Ex), e.sz ≤ k → e.wide → EachS e
  | 0, .mk op m v ar, h, _ => by simp [Ex.sz] at h
  | k + 1, .mk op m ⟨vk, vn, vs⟩ ar, h, hw => by
    intro cells g n L C he hC hn hsz g' n' C' h1 h2 h3
    rw [cells_mk] at he
    subst he
    have hwi : wideN ar.length ∧ wideL ar := by rw [Ex.wide] at hw; exact hw
    have hwn : wideN ar.length := hwi.1
    unfold wideN at hwn
    rw [Ex.sz] at hsz
    refine each_s op m vk vn vs ar _ rfl (by omega) (fun x hx => each_sall k x ?_ (wide_mem hwi.2 hx)) g n L C hC hn hsz g' n' C' h1 h2 h3
    have := sz_mem hx
    simp only [Ex.sz] at h; omega
end Go.Proofs.Ytnhmnfokbinplaa

namespace Go.Proofs.Ytnhmnfokbinplaa
open Go Go.RowKit
set_option maxRecDepth 100000
set_option linter.unusedVariables false

theorem cells80 : Try.prog.cellsOf 80 = 6 := by kernel_rfl
theorem cells78 : Try.prog.cellsOf 78 = 1 := by kernel_rfl
theorem bytes80 : Try.prog.bytesOf 80 = 72 := by kernel_rfl
theorem ok_okV {v : Val} (h : v.ok) : okV v := by
  obtain ⟨_, h2, h3⟩ := h
  simp only [Lit.wf, Bool.and_eq_true, decide_eq_true_eq] at h2
  have e1 : IntKind.min .i64 = -9223372036854775808 := by decide
  have e2 : IntKind.max .i64 = 9223372036854775807 := by decide
  have : reachBytes = 140737488351232 := by decide
  exact ⟨by omega, by omega⟩
theorem wideL_of : ∀ {l : List Ex}, (∀ x, x ∈ l → x.wide) → wideL l
  | [], _ => trivial
  | e :: r, h => ⟨h e (by simp), wideL_of (fun x hx => h x (by simp [hx]))⟩
theorem okcL_of : ∀ {l : List Ex}, (∀ x, x ∈ l → x.okc) → okcL l
  | [], _ => trivial
  | e :: r, h => ⟨h e (by simp), okcL_of (fun x hx => h x (by simp [hx]))⟩
theorem exOf : ∀ (n : Nat) (cs : List PV), Fits Try.prog n 80 cs → ∃ e : Ex, e.cells = cs ∧ e.wide ∧ e.okc := by
  intro n
  induction n using Nat.strongRecOn with
  | _ n ih =>
    intro cs h
    obtain ⟨m, rfl, hl, hf⟩ := h.struct Try.underlying80
    rw [cells80] at hl
    obtain ⟨a, b, c, d, e, f, rfl⟩ : ∃ a b c d e f, cs = [a, b, c, d, e, f] := by
      match cs, hl with
      | [a, b, c, d, e, f], _ => exact ⟨a, b, c, d, e, f, rfl⟩
    have h0 : Fits Try.prog m 3 (([a, b, c, d, e, f].drop 0).take (Try.prog.cellsOf 3)) := hf 0 _ rfl
    have h1 : Fits Try.prog m 3 (([a, b, c, d, e, f].drop 1).take (Try.prog.cellsOf 3)) := hf 1 _ rfl
    have h2 : Fits Try.prog m 25 (([a, b, c, d, e, f].drop 2).take (Try.prog.cellsOf 25)) := hf 2 _ rfl
    have h3 : Fits Try.prog m 78 (([a, b, c, d, e, f].drop 5).take (Try.prog.cellsOf 78)) := hf 3 _ rfl
    rw [cells3] at h0 h1
    rw [cells25] at h2
    rw [cells78] at h3
    have h0 : Fits Try.prog m 3 [a] := h0
    have h1 : Fits Try.prog m 3 [b] := h1
    have h2 : Fits Try.prog m 25 [c, d, e] := h2
    have h3 : Fits Try.prog m 78 [f] := h3
    obtain ⟨op, e0, _⟩ := h0.int Try.underlying3
    obtain ⟨nn, e1, _⟩ := h1.int Try.underlying3
    obtain ⟨v, e2, ov⟩ := cellsV h2
    obtain ⟨m', es, rfl, e3, ⟨_, hb⟩, hes⟩ := h3.slice Try.underlying78
    simp only [List.cons.injEq, and_true, Val.cells] at e0 e1 e2 e3
    obtain ⟨rfl, rfl, rfl⟩ := e2
    subst e0 e1 e3
    obtain ⟨l, rfl, hlk⟩ := elems_of (enc := Ex.cells) (ok := fun e => e.wide ∧ e.okc) (fun x hx => by
      obtain ⟨y, hy, h1, h2⟩ := ih m' (by omega) x (hes x hx).2
      exact ⟨y, hy, h1, h2⟩)
    rw [bytes80, List.length_map] at hb
    refine ⟨.mk op nn v l, ?_, ⟨?_, ?_⟩, ok_okV ov, ?_⟩
    · rw [cells_mk]
    · unfold wideN; have : reachBytes = 140737488351232 := by decide
      omega
    · exact wideL_of fun x hx => (hlk x hx).1
    · exact okcL_of fun x hx => (hlk x hx).2
theorem fits80 {n : Nat} {x : PV} (h : FitsA Try.prog n 80 x) : ∃ op m vk vn vs ar, x = .agg [.int .i64 op, .int .i64 m, .int .i64 vk, .int .i64 vn, .str vs, .sl (ar.map Ex.cells)] ∧ (Ex.mk op m ⟨vk, vn, vs⟩ ar).wide ∧ (Ex.mk op m ⟨vk, vn, vs⟩ ar).okc := by
  obtain ⟨cs, rfl, g⟩ := h.agg Try.underlying80
  obtain ⟨⟨op, m, ⟨vk, vn, vs⟩, ar⟩, rfl, h1, h2⟩ := exOf _ _ g
  exact ⟨op, m, vk, vn, vs, ar, by rw [cells_mk], h1, h2⟩
end Go.Proofs.Ytnhmnfokbinplaa

namespace Go.Proofs.Ytnhmnfokbinplaa
open Go Go.RowKit
set_option maxRecDepth 100000
set_option linter.unusedSimpArgs false
set_option linter.unusedVariables false

/-! ### plain -/
/-! ### the walk -/
def idxI {α : Type} (p : α → Bool) : List α → Int → Int
  | [], _ => -1
  | x :: r, i => if p x = true then i else idxI p r (i + 1)
theorem idxI_any {α : Type} (p : α → Bool) : ∀ (l : List α) (i : Int), 0 ≤ i → (0 ≤ idxI p l i ↔ l.any p = true)
  | [], i, h => by simp [idxI]
  | x :: r, i, h => by
    rw [idxI, List.any_cons]
    cases hx : p x with
    | true => simp [h]
    | false => simp [idxI_any p r (i + 1) (by omega)]
theorem indexFunc_c (k : Nat) (caps : List PV) (p : Ex → Bool) (ar : List Ex) (es : List (List PV)) (hes : ar.map Ex.cells = es) (hs : wideN ar.length)
    (hp : ∀ e, e ∈ ar → PCall Try.prog k (.agg e.cells :: caps) fun r => r = [.bool (p e)]) : PCall Try.prog 181 [.sl es, .fn k caps] fun r => r = [.int .i64 (idxI p ar 0)] := by
  have hel : es.length = ar.length := by rw [← hes]; simp
  unfold wideN at hs
  obtain ⟨q, hq⟩ : ∃ q, idxI p ar 0 = q := ⟨_, rfl⟩
  rw [hq]
  have hpc : ∀ (op' m' vk' vn' : Int) (vs' : ByteArray) (ar' : List Ex) (es' : List (List PV)) (i : Nat), ar[i]? = some (.mk op' m' ⟨vk', vn', vs'⟩ ar') → ar'.map Ex.cells = es' →
      PCall Try.prog k (.agg [.int .i64 op', .int .i64 m', .int .i64 vk', .int .i64 vn', .str vs', .sl es'] :: caps) fun r => r = [.bool (p (.mk op' m' ⟨vk', vn', vs'⟩ ar'))] := by
    intro op' m' vk' vn' vs' ar' es' i hx he
    have := hp _ (List.mem_of_getElem? hx)
    rw [cells_mk, he] at this
    exact this
  refine PCall.x (nt := 19) (res := [.tmp 4]) mixed tt_ok [] Try.func181 rfl rfl rfl c181 (Nat.le_of_ble_eq_true rfl) ?_
  intro cp cc lp Q' hcp hcc hlp hQ
  repeat' (first
    | (with_reducible refine Nm.mk ?_; intro z hz)
    | (with_reducible refine IfB.mk ?_ ?_ <;> (intro h; cases h))
    | (with_reducible refine Two.l ?_; refine Asm.mk ?_ ?_; focus (decide +kernel))
    | (with_reducible refine Two.r ?_)
    | (with_reducible refine Asm.mk ?_ ?_; focus (first | kernel_rfl | decide))
    | (with_reducible refine Asm.mk2 ?_ ?_)
    | ((fail_if_success (with_reducible first | refine hQ _ ?_ | refine Side.mk ?_ | refine isCP hcp ?_ | refine isCC hcc ?_ | refine isLP hlp ?_ | refine Ix.mk ?_ | refine SIx.mk ?_ | refine SEx.mk ?_ | refine EIx.mk ?_ | refine RIx.mk ?_ | show False | refine hR ?_ _ ?_ ?_ ?_ ?_ ?_ | refine hR2 ?_ _ ?_ ?_ ?_ ?_ ?_)); cbv))
  simp only [nc] at hz
  simp only [nc'] at hz
  have hzl := hz
  clear hz
  rename Int => zl
  refine loopK (ι := Int) mixed tt_ok hcp hcc hlp [0, 1, 7] (fun i => [(8, .p (.int .i64 i))]) (fun i => 0 ≤ i ∧ i ≤ zl ∧ idxI p (ar.drop i.toNat) i = q) (fun i => (zl - i).toNat) 0 (fun _ => rfl) ⟨by omega, by omega, hq⟩ ⟨rfl, trivial⟩ ?_
  rintro R i ⟨hi0, hi1, hiq⟩ hR
  have hk : decide (i < zl) = true → i < ar.length := by simp only [decide_eq_true_eq]; omega
  have hst : decide (i < zl) = true → IntKind.i64.wrap (i + 1) = i + 1 ∧ (0 ≤ i + 1 ∧ i + 1 ≤ zl) ∧ (zl - (i + 1)).toNat < (zl - i).toNat := by
    intro h
    have hlt := hk h
    simp only [decide_eq_true_eq] at h
    exact ⟨wrap_in (by omega), by omega, by omega⟩
  have hstep : ∀ x, ar[i.toNat]? = some x → q = if p x = true then i else idxI p (ar.drop (i + 1).toNat) (i + 1) := by
    intro x hx
    have hlt := (List.getElem?_eq_some_iff.1 hx).1
    rw [← hiq, List.drop_eq_getElem_cons hlt, show (i + 1).toNat = i.toNat + 1 by omega, idxI]
    rw [(List.getElem?_eq_some_iff.1 hx).2]
  have hfin : decide (i < zl) = false → q = -1 := by
    simp only [decide_eq_false_iff_not]; intro h
    rw [← hiq, List.drop_eq_nil_of_le (by omega)]; rfl
  repeat' (first
    | (with_reducible refine Nm.mk ?_; intro z hz)
    | (with_reducible refine IfB.mk ?_ ?_ <;> (intro h; cases h))
    | (with_reducible refine Two.l ?_; refine Asm.mk ?_ ?_; focus (decide +kernel))
    | (with_reducible refine Two.r ?_)
    | (with_reducible refine Asm.mk ?_ ?_; focus kernel_rfl)
    | (with_reducible refine Ix.ex hes hi0 (hk (by assumption)) ?_; intro op' m' vk' vn' vs' ar' es' hx hes')
    | (with_reducible refine isCC hcc ?_; refine bA hcc (hpc _ _ _ _ _ _ _ i.toNat (by assumption) (by assumption)) (hb1 rfl) ?_; intro z hz)
    | (with_reducible refine Asm.mk2 ?_ ?_)
    | ((fail_if_success (with_reducible first | refine hQ _ ?_ | refine Side.mk ?_ | refine isCP hcp ?_ | refine isCC hcc ?_ | refine isLP hlp ?_ | refine Ix.mk ?_ | refine SIx.mk ?_ | refine SEx.mk ?_ | refine EIx.mk ?_ | refine RIx.mk ?_ | show False | refine hR ?_ _ ?_ ?_ ?_ ?_ ?_ | refine hR2 ?_ _ ?_ ?_ ?_ ?_ ?_)); cbv))
  all_goals first
    | (have e := hstep _ hx
       obtain ⟨e1, u, mu⟩ := hst (by assumption)
       first
         | (refine hQ _ ?_
            rw [e, if_pos (by assumption)])
         | (rw [e1] at hz
            have hp0 : p (.mk op' m' ⟨vk', vn', vs'⟩ ar') = false := by assumption
            rw [hp0, if_neg (by decide)] at e
            exact hR (i + 1) _ ⟨u.1, u.2, e.symm⟩ mu ⟨hz ▸ rfl, trivial⟩ ⟨rfl, rfl, rfl, trivial⟩ rfl))
    | (refine hQ _ ?_
       rw [hfin (by assumption)])
theorem containsFunc_c (k : Nat) (caps : List PV) (p : Ex → Bool) (ar : List Ex) (es : List (List PV)) (hes : ar.map Ex.cells = es) (hs : wideN ar.length)
    (hp : ∀ e, e ∈ ar → PCall Try.prog k (.agg e.cells :: caps) fun r => r = [.bool (p e)]) : PCall Try.prog 122 [.sl es, .fn k caps] fun r => r = [.bool (ar.any p)] := by
  have h := indexFunc_c k caps p ar es hes hs hp
  have ha := idxI_any p ar 0 (by decide)
  refine PCall.x (nt := 9) (res := [.tmp 4]) mixed tt_ok [] Try.func122 rfl rfl rfl c122 (Nat.le_of_ble_eq_true rfl) ?_
  intro cp cc lp Q' hcp hcc hlp hQ
  repeat' (first
    | (with_reducible refine Nm.mk ?_; intro z hz)
    | (with_reducible refine IfB.mk ?_ ?_ <;> (intro h; cases h))
    | (with_reducible refine Two.l ?_; refine Asm.mk ?_ ?_; focus (decide +kernel))
    | (with_reducible refine Two.r ?_)
    | (with_reducible refine Asm.mk ?_ ?_; focus (first | kernel_rfl | decide))
    | (with_reducible refine isCP hcp ?_; first | (refine iP hcp (h) ?_; intro z hz))
    | (with_reducible refine isCC hcc ?_; first | (refine iA hcc (h) rfl ?_; intro z hz))
    | (with_reducible refine Asm.mk2 ?_ ?_)
    | ((fail_if_success (with_reducible first | refine hQ _ ?_ | refine Side.mk ?_ | refine isCP hcp ?_ | refine isCC hcc ?_ | refine isLP hlp ?_ | refine Ix.mk ?_ | refine SIx.mk ?_ | refine SEx.mk ?_ | refine EIx.mk ?_ | refine RIx.mk ?_ | show False | refine hR ?_ _ ?_ ?_ ?_ ?_ ?_ | refine hR2 ?_ _ ?_ ?_ ?_ ?_ ?_)); cbv))
  all_goals (refine hQ _ ?_; clear hQ hcp hcc hlp h hp; congr 2; subst_vars; rw [Bool.eq_iff_iff, ← ha]; simp)
end Go.Proofs.Ytnhmnfokbinplaa
