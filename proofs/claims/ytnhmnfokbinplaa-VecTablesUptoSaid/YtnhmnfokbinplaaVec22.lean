/- vec: rows that are the same; the law VecTables. Own work; no condition. -/
import Derived.Test.YtnhmnfokbinplaaVec17
import Derived.Test.YtnhmnfokbinplaaVec21
namespace Go.Proofs.Ytnhmnfokbinplaa
open Go Go.RowKit
set_option maxRecDepth 100000
set_option linter.unusedSimpArgs false
set_option linter.unusedVariables false

theorem Ix.give {es : Nat} {l : List (List PV)} {n : Int} {K : List PV → Prop} {e : List PV} (h0 : 0 ≤ n) (h : l[n.toNat]? = some e) (he : e.length = es) (hes : es ≠ 0) (k : K e) : Ix es l n K := ⟨⟨e, h0, h, he, hes, k⟩⟩

def rowc (r : List Val) : List PV := [.sl (r.map Val.cells)]
theorem sameRows_c (V : List (List Val)) (L : List (List PV)) (hL : V.map rowc = L) : PCall Try.prog 27 [.sl L, .sl L] fun r => r = [.bool true] := by
  refine PCall.know c27 fun hkn => ?_
  have k1 : L.length ≤ maxLen := hkn (.sl L) (by simp)
  clear hkn
  rw [maxLen_eq] at k1
  have b1 : L.length = V.length := by rw [← hL]; simp
  refine PCall.x (nt := 27) (res := [.tmp 4]) mixed tt_ok [] Try.func27 rfl rfl rfl c27 (Nat.le_of_ble_eq_true rfl) ?_
  intro cp cc lp Q' hcp hcc hlp hQ
  repeat' (first
    | (with_reducible refine Nm.mk ?_; intro z hz)
    | (with_reducible refine IfB.mk ?_ ?_ <;> (intro h; cases h))
    | (with_reducible refine Asm.mk ?_ ?_; focus (first | kernel_rfl | decide))
    | (with_reducible refine Asm.mk2 ?_ ?_)
    | ((fail_if_success (with_reducible refine hQ _ ?_)); (fail_if_success (with_reducible refine Side.mk ?_)); (fail_if_success (with_reducible refine isCP hcp ?_)); (fail_if_success (with_reducible refine isCC hcc ?_)); (fail_if_success (with_reducible refine isLP hlp ?_)); (fail_if_success (with_reducible refine Ix.mk ?_)); (fail_if_success (with_reducible refine SIx.mk ?_)); (fail_if_success (with_reducible refine SEx.mk ?_)); (fail_if_success (with_reducible refine EIx.mk ?_)); (fail_if_success (with_reducible refine RIx.mk ?_)); (fail_if_success (with_reducible show False)); (fail_if_success (with_reducible refine hR ?_ _ ?_ ?_ ?_ ?_ ?_)); (fail_if_success (with_reducible refine hR2 ?_ _ ?_ ?_ ?_ ?_ ?_)); cbv))
  all_goals first
    | (exfalso; clear hcp hcc hlp hQ; subst_vars; simp_all; done)
    | skip
  simp only [nc] at hz
  simp only [nc'] at hz
  refine loopK (ι := Int) mixed tt_ok hcp hcc hlp [0, 1, 12] (fun i => [(13, .p (.int .i64 i))]) (fun i => 0 ≤ i ∧ i ≤ z) (fun i => (z - i).toNat) 0 (fun _ => rfl) (by omega) ⟨rfl, trivial⟩ ?_
  intro R i hi hR
  have hi0 : 0 ≤ i := hi.1
  have hkl : decide (i < z) = true → i < V.length := by simp only [decide_eq_true_eq]; omega
  have hst : decide (i < z) = true → IntKind.i64.wrap (i + 1) = i + 1 ∧ (0 ≤ i + 1 ∧ i + 1 ≤ z) ∧ (z - (i + 1)).toNat < (z - i).toNat := by
    intro h
    simp only [decide_eq_true_eq] at h
    exact ⟨wrap_in (by omega), by omega, by omega⟩
  obtain ⟨r, hr⟩ : ∃ r, (V[i.toNat]?).getD [] = r := ⟨_, rfl⟩
  obtain ⟨m, hm⟩ : ∃ m, r.map Val.cells = m := ⟨_, rfl⟩
  have hrow : decide (i < z) = true → L[i.toNat]? = some [.sl m] := by
    intro h
    have := hkl h
    rw [← hL, List.getElem?_map, List.getElem?_eq_getElem (by omega), ← hm, ← hr, List.getElem?_eq_getElem (by omega)]
    rfl
  have hsr := sameRow_c r m hm
  repeat' (first
    | (with_reducible refine Nm.mk ?_; intro z hz)
    | (with_reducible refine IfB.mk ?_ ?_ <;> (intro h; cases h))
    | (with_reducible refine Asm.mk ?_ ?_; focus kernel_rfl)
    | (with_reducible refine isCP hcp ?_; first | (refine bP hcp (hsr) ?_; intro z hz))
    | (with_reducible refine isCC hcc ?_; first | (refine bA hcc (hsr) rfl ?_; intro z hz))
    | (with_reducible refine Ix.give hi0 (hrow (by assumption)) rfl (by decide) ?_)
    | (with_reducible refine Asm.mk2 ?_ ?_)
    | ((fail_if_success (with_reducible refine hQ _ ?_)); (fail_if_success (with_reducible refine Side.mk ?_)); (fail_if_success (with_reducible refine isCP hcp ?_)); (fail_if_success (with_reducible refine isCC hcc ?_)); (fail_if_success (with_reducible refine isLP hlp ?_)); (fail_if_success (with_reducible refine Ix.mk ?_)); (fail_if_success (with_reducible refine SIx.mk ?_)); (fail_if_success (with_reducible refine SEx.mk ?_)); (fail_if_success (with_reducible refine EIx.mk ?_)); (fail_if_success (with_reducible refine RIx.mk ?_)); (fail_if_success (with_reducible show False)); (fail_if_success (with_reducible refine hR ?_ _ ?_ ?_ ?_ ?_ ?_)); (fail_if_success (with_reducible refine hR2 ?_ _ ?_ ?_ ?_ ?_ ?_)); cbv))
  all_goals first
    | (exfalso; simp_all; done)
    | (obtain ⟨e1, e2, e3⟩ := hst (by assumption)
       rw [e1] at hz
       exact hR (i + 1) _ e2 e3 ⟨hz ▸ rfl, trivial⟩ ⟨rfl, rfl, rfl, trivial⟩ rfl)
    | exact hQ _ rfl

def atRow (cols : List Vec) (n : Nat) : List (List Val) := (List.range n).map fun j => cols.map fun c => atV c.kind c.null c.ns c.ss j
theorem rowsP_at (cols : List Vec) (n : Nat) : (atRow cols n).map rowc = rowsP (rowsAt cols n cols.length 0) := by
  simp [atRow, rowsP, rowsAt, rowc, cellAt, Function.comp_def]
theorem tableM_rows (cols : List Vec) : ∃ V : List (List Val), V.map rowc = rowsP (tableM cols).1 := by
  unfold tableM
  split
  · exact ⟨_, rowsP_at cols _⟩
  · exact ⟨[], rfl⟩

def zeroV : Vec := ⟨0, [], [], []⟩
theorem table0 : PCall Try.prog 25 [.sl [zeroV.cells]] fun r => r = [.sl [], .int .i64 1] := by
  have := table_c [zeroV] [zeroV.cells] rfl (by simp [zeroV]) (by simp)
  have e : tableM [zeroV] = ([], 1) := by simp [tableM, tokM, okCol, goodV, zeroV]
  rw [e] at this
  exact this

theorem vecTables_c (cols : List Vec) (L : List (List PV)) (hL : cols.map Vec.cells = L) (hn : ∀ c, c ∈ cols → c.null.length ≤ 1048577) (hlen : cols.length ≤ 1048577) :
    PCall Try.prog 6 [.sl L] fun r => r = [.bool true] := by
  have h1 := table_c cols L hL hn hlen
  have h2 := across_c cols L hL hn hlen
  obtain ⟨V, hV⟩ := tableM_rows cols
  have h0 : PCall Try.prog 25 [.sl [[.int .i64 0, .sl [], .sl [], .sl []]]] fun r => r = [.sl [], .int .i64 1] := table0
  generalize rowsP (tableM cols).1 = rl at h1 h2 hV
  generalize (tableM cols).2 = er at h1 h2
  have hs := sameRows_c V rl hV
  have hnm := num_c er
  have hn1 := num_c 1
  refine PCall.x (nt := 39) (res := [.tmp 2]) mixed tt_ok [] Try.func6 rfl rfl rfl c6 (Nat.le_of_ble_eq_true rfl) ?_
  intro cp cc lp Q' hcp hcc hlp hQ
  repeat' (first
    | (with_reducible refine Nm.mk ?_; intro z hz)
    | (with_reducible refine IfB.mk ?_ ?_ <;> (intro h; cases h))
    | (with_reducible refine Asm.mk ?_ ?_; focus (first | kernel_rfl | decide))
    | (with_reducible refine isCP hcp ?_; first | (refine xP hcp (h0) ?_; skip) | (refine xP hcp (h1) ?_; skip) | (refine xP hcp (h2) ?_; skip) | (refine bP hcp (hs) ?_; intro z hz) | (refine xP hcp (hnm) ?_; skip) | (refine xP hcp (hn1) ?_; skip))
    | (with_reducible refine isCC hcc ?_; first | (refine xA hcc (h0) rfl ?_; skip) | (refine xA hcc (h1) rfl ?_; skip) | (refine xA hcc (h2) rfl ?_; skip) | (refine bA hcc (hs) rfl ?_; intro z hz) | (refine xA hcc (hnm) rfl ?_; skip) | (refine xA hcc (hn1) rfl ?_; skip))
    | (with_reducible refine Asm.mk2 ?_ ?_)
    | ((fail_if_success (with_reducible refine hQ _ ?_)); (fail_if_success (with_reducible refine Side.mk ?_)); (fail_if_success (with_reducible refine isCP hcp ?_)); (fail_if_success (with_reducible refine isCC hcc ?_)); (fail_if_success (with_reducible refine isLP hlp ?_)); (fail_if_success (with_reducible refine Ix.mk ?_)); (fail_if_success (with_reducible refine SIx.mk ?_)); (fail_if_success (with_reducible refine SEx.mk ?_)); (fail_if_success (with_reducible refine EIx.mk ?_)); (fail_if_success (with_reducible refine RIx.mk ?_)); (fail_if_success (with_reducible show False)); (fail_if_success (with_reducible refine hR ?_ _ ?_ ?_ ?_ ?_ ?_)); (fail_if_success (with_reducible refine hR2 ?_ _ ?_ ?_ ?_ ?_ ?_)); cbv))
  all_goals first
    | (exfalso; simp_all; done)
    | (refine hQ _ ?_; rw [← hz]; rfl)

theorem fits43 {n : Nat} {x : PV} (h : FitsA Try.prog n 43 x) : ∃ l : List Vec, x = .sl (l.map Vec.cells) := by
  obtain ⟨m, es, rfl, h1, _, h4⟩ := (h.one Try.underlying43 rfl).slice Try.underlying43
  simp only [List.cons.injEq, and_true] at h1
  subst h1
  obtain ⟨l, rfl, hl⟩ := elems_of (enc := Vec.cells) (ok := fun _ => True) (fun x hx => by
    obtain ⟨a, B, N, S, rfl⟩ := cellsVec (h4 x hx).2
    exact ⟨⟨a, B, N, S⟩, rfl, trivial⟩)
  exact ⟨l, rfl⟩
theorem vecTables_lawU {k0 : Nat} {x0 : PV} (f0 : FitsA Try.prog k0 43 x0) (b0 : bk x0 ≤ 1048577) : PCall Try.prog 6 [x0] fun r => r = [.bool true] := by
  obtain ⟨l, rfl⟩ := fits43 f0
  have hb : bkLL (l.map Vec.cells) + 1 ≤ 1048577 := b0
  refine vecTables_c l _ rfl (fun c hc => ?_) ?_
  · obtain ⟨a, B, N, S⟩ := c
    have h1 := bkLL_mem (List.mem_map_of_mem (f := Vec.cells) hc)
    have h2 : bk (.agg [.int .i64 a, .sl (B.map boolc), .sl (N.map i64c), .sl (S.map strc)]) ≤ 1048577 := by
      have : bkL [.int .i64 a, .sl (B.map boolc), .sl (N.map i64c), .sl (S.map strc)] ≤ bkLL (l.map Vec.cells) := h1
      simp only [bk]; omega
    exact (vec_bk h2).1
  · have := bk_len (enc := Vec.cells) (fun x => by simp [Vec.cells]) l
    omega
end Go.Proofs.Ytnhmnfokbinplaa
