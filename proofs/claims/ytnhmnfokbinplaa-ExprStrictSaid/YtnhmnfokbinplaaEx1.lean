/- Expressions: what they are to the walk; their size. Own work; no condition. -/
import Derived.Test.YtnhmnfokbinplaaCmp2
import Derived.Test.YtnhmnfokbinplaaReck1
namespace Go.Proofs.Ytnhmnfokbinplaa
open Go Go.RowKit
set_option maxRecDepth 100000
set_option linter.unusedSimpArgs false
set_option linter.unusedVariables false

inductive Ex where
  | mk (op n : Int) (v : Val) (ar : List Ex)
mutual
def Ex.cells : Ex → List PV
  | .mk op n v ar => [.int .i64 op, .int .i64 n, .int .i64 v.k, .int .i64 v.n, .str v.s, .sl (cellsL ar)]
def cellsL : List Ex → List (List PV)
  | [] => []
  | e :: r => e.cells :: cellsL r
end
theorem cellsL_eq : ∀ l : List Ex, cellsL l = l.map Ex.cells
  | [] => rfl
  | e :: r => by simp [cellsL, cellsL_eq r]
theorem cells_mk (op n : Int) (v : Val) (ar : List Ex) : (Ex.mk op n v ar).cells = [.int .i64 op, .int .i64 n, .int .i64 v.k, .int .i64 v.n, .str v.s, .sl (ar.map Ex.cells)] := by rw [Ex.cells, cellsL_eq]
theorem ex_len (e : Ex) : e.cells.length = 6 := by cases e; rfl
mutual
def Ex.sz : Ex → Nat
  | .mk _ _ _ ar => szL ar + 1
def szL : List Ex → Nat
  | [] => 0
  | e :: r => e.sz + szL r
end
theorem sz_mem : ∀ {l : List Ex} {e : Ex}, e ∈ l → e.sz ≤ szL l
  | [], _, h => by simp at h
  | a :: r, e, h => by
    simp only [szL]
    rcases List.mem_cons.1 h with g | g
    · subst g; omega
    · have := sz_mem g; omega

theorem Ix.ex {es : List (List PV)} {ar : List Ex} {i : Int} {K : List PV → Prop} (hl : ar.map Ex.cells = es) (h0 : 0 ≤ i) (hn : i < ar.length)
    (g : ∀ op n vk vn vs ar' es', ar[i.toNat]? = some (.mk op n ⟨vk, vn, vs⟩ ar') → ar'.map Ex.cells = es' → K [.int .i64 op, .int .i64 n, .int .i64 vk, .int .i64 vn, .str vs, .sl es']) : Ix 6 es i K := by
  refine Ix.map hl ex_len (by decide) h0 hn fun x hx => ?_
  obtain ⟨op, n, ⟨vk, vn, vs⟩, ar'⟩ := x
  rw [cells_mk]
  exact g op n vk vn vs ar' _ hx rfl

def arityE (op : Int) : Int := if op = 1 ∨ op = 2 then 0 else if op = 3 ∨ op = 4 ∨ op = 5 ∨ op = 6 then 1 else if op = 21 then 3 else if 7 ≤ op ∧ op ≤ 20 then 2 else -1
set_option maxHeartbeats 4000000 in
theorem arity_c (op : Int) : PCall Try.prog 132 [.int .i64 op] fun r => r = [.int .i64 (arityE op)] := by
  refine PCall.x (nt := 20) (res := [.tmp 2]) mixed tt_ok [] Try.func132 rfl rfl rfl c132 (Nat.le_of_ble_eq_true rfl) ?_
  intro cp cc lp Q' hcp hcc hlp hQ
  repeat' (first
    | (with_reducible refine Nm.mk ?_; intro z hz)
    | (with_reducible refine IfB.mk ?_ ?_ <;> (intro h; cases h))
    | (with_reducible refine Asm.mk ?_ ?_; focus (first | kernel_rfl | decide))
    | (with_reducible refine Asm.mk2 ?_ ?_)
    | ((fail_if_success (with_reducible refine hQ _ ?_)); (fail_if_success (with_reducible refine Side.mk ?_)); (fail_if_success (with_reducible refine isCP hcp ?_)); (fail_if_success (with_reducible refine isCC hcc ?_)); (fail_if_success (with_reducible refine isLP hlp ?_)); (fail_if_success (with_reducible refine Ix.mk ?_)); (fail_if_success (with_reducible refine SIx.mk ?_)); (fail_if_success (with_reducible refine SEx.mk ?_)); (fail_if_success (with_reducible refine EIx.mk ?_)); (fail_if_success (with_reducible show False)); (fail_if_success (with_reducible refine hR ?_ _ ?_ ?_ ?_ ?_ ?_)); (fail_if_success (with_reducible refine hR2 ?_ _ ?_ ?_ ?_ ?_ ?_)); cbv))
  all_goals (refine hQ _ ?_; clear hQ hcp hcc hlp; simp only [decide_eq_true_eq, decide_eq_false_iff_not] at *; congr 2; unfold arityE; (repeat' split) <;> first | omega | (intros; omega))

def mx (a b : Int) : Int := if a < b then b else a
def badE (op n : Int) (v : Val) (len : Nat) : Bool := !decide (arityE op = (len : Int)) || (decide (op = 1) && decide (n < 0)) || (decide (op = 2) && decide (v.k = 2) && decide ((1000 : Int) < (v.s.size : Int)))
mutual
def walkE : Ex → Int → Int → Int → Bool × Int × Int
  | .mk op n v ar, d, nodes, high =>
    if decide (400 < nodes + 1) || decide (40 < d) || badE op n v ar.length then (false, nodes + 1, mx high d) else walkL ar (d + 1) (nodes + 1) (mx high d)
def walkL : List Ex → Int → Int → Int → Bool × Int × Int
  | [], _, n, h => (true, n, h)
  | a :: r, d, n, h => match walkE a d n h with
    | (true, n', h') => walkL r d n' h'
    | (false, n', h') => (false, n', h')
end
mutual
theorem walkE_nodes : ∀ (e : Ex) (d n h : Int) (b : Bool) (n' h' : Int), 0 ≤ n → n ≤ 400 → walkE e d n h = (b, n', h') → 0 ≤ n' ∧ n' ≤ 401 ∧ (b = true → n < n' ∧ n' ≤ 400)
  | .mk op m v ar, d, n, h, b, n', h', h0, h1, he => by
    rw [walkE] at he
    split at he
    · simp only [Prod.mk.injEq] at he
      obtain ⟨rfl, rfl, rfl⟩ := he
      exact ⟨by omega, by omega, fun h => by cases h⟩
    · rename_i hc
      have hn : n + 1 ≤ 400 := by
        simp only [Bool.or_eq_true, decide_eq_true_eq, not_or] at hc
        omega
      have := walkL_nodes ar (d + 1) (n + 1) (mx h d) b n' h' (by omega) hn he
      exact ⟨this.1, this.2.1, fun hb => by have := this.2.2 hb; omega⟩
theorem walkL_nodes : ∀ (l : List Ex) (d n h : Int) (b : Bool) (n' h' : Int), 0 ≤ n → n ≤ 400 → walkL l d n h = (b, n', h') → 0 ≤ n' ∧ n' ≤ 401 ∧ (b = true → n ≤ n' ∧ n' ≤ 400)
  | [], d, n, h, b, n', h', h0, h1, he => by
    simp only [walkL, Prod.mk.injEq] at he
    obtain ⟨rfl, rfl, rfl⟩ := he
    exact ⟨h0, by omega, fun _ => ⟨Int.le_refl _, h1⟩⟩
  | a :: r, d, n, h, b, n', h', h0, h1, he => by
    rw [walkL] at he
    split at he
    · rename_i n1 h2 hw
      have h3 := walkE_nodes a d n h _ _ _ h0 h1 hw
      have h4 := walkL_nodes r d n1 h2 b n' h' h3.1 (h3.2.2 rfl).2 he
      exact ⟨h4.1, h4.2.1, fun hb => by have := h3.2.2 rfl; have := h4.2.2 hb; omega⟩
    · rename_i n1 h2 hw
      have h3 := walkE_nodes a d n h _ _ _ h0 h1 hw
      simp only [Prod.mk.injEq] at he
      obtain ⟨rfl, rfl, rfl⟩ := he
      exact ⟨h3.1, h3.2.1, fun h => by cases h⟩
end

def wH (n h : Int) : List AObj := [.cells [.p (.int .i64 n)], .cells [.p (.int .i64 h)], .cells [.fn 131 [.ref 0 0, .ref 1 0, .ref 2 0]]]
def WalkC (e : Ex) : Prop := ∀ (cells : List PV) (d n h : Int), e.cells = cells → 0 ≤ d → d ≤ 41 → 0 ≤ n → n ≤ 400 → ∃ b n' h', walkE e d n h = (b, n', h') ∧
  ACall Try.prog 131 [.p (.ip cells), .p (.int .i64 d), .ref 0 0, .ref 1 0, .ref 2 0] (wH n h) fun r H' => r = .p (.bool b) ∧ takeX H' 3 = wH n' h'

end Go.Proofs.Ytnhmnfokbinplaa
