/- cell: Order, Test, Cat, True, with what they call; cell: Test, Cat, True; Expressions: what they are to the walk; their size; Expressions: their size, the walk; Expressions: Size, built; Expressions: tallyref's number of arguments; Expressions: tallyref's Size, plain: it is the other one's; Expressions: mapped; Expressions: tallyref's Size, walked; Expressions: tallyref's ColumnsOf, its function; Expressions: tallyref's ColumnsOf; Expressions: tallyref's kindOf, its functions; Expressions: tallyref's Kind; Expressions: what they mean; what is built; parts; Plans: what they are to the walk; what is asked of them, plain; Plans: names, kinds, numbers: the small functions; Plans: columns of keys, kinds of a table; Plans: looking for an element; unlike; the greatest; Plans: expressions that have nothing that they do not need; numbers that are unlike; Plans: neither too high nor too large, by both; Plans: small, walked; Plans: the document's count, walked; small; Plans: the form of an operator. Own work; no condition. -/
import Derived.Test.YtlabphnonlicdaaGreatPa34
import Derived.Test.YtlabphnonlicdaaGreatPa37
import Derived.Test.YtlabphnonlicdaaGreatPaAbsX
import Derived.Test.YtlabphnonlicdaaGreatPaAbs25
import Derived.Test.YtlabphnonlicdaaGreatPaAbsF
import Derived.Test.YtlabphnonlicdaaGreatPaAbsP
import Derived.Test.YtlabphnonlicdaaGreatPaAbsQ
namespace Go.Proofs.YtlabphnonlicdaaGreat
open Go Go.RowKit
set_option maxRecDepth 100000
set_option linter.unusedSimpArgs false
set_option linter.unusedVariables false
end Go.Proofs.YtlabphnonlicdaaGreat

namespace Go.Proofs.YtlabphnonlicdaaGreat
open Go Go.RowKit
set_option maxRecDepth 100000
set_option linter.unusedSimpArgs false
set_option linter.unusedVariables false
end Go.Proofs.YtlabphnonlicdaaGreat

namespace Go.Proofs.YtlabphnonlicdaaGreat
open Go Go.RowKit
set_option maxRecDepth 100000
set_option linter.unusedSimpArgs false
set_option linter.unusedVariables false
inductive Ex where
 | mk (op n : Int) (v : Val) (ar : List Ex)
mutual
def Ex.cells : Ex → List PV
 | .mk op n v ar => [.int .i64 op, .int .i64 n, .int .i64 v.k, .int .i64 v.n, .str v.s, .sl (cellsL ar)]
def cellsL : List Ex → List (List PV)
 | [] => []
 | e :: r => e.cells :: cellsL r
end
theorem cellsL_eq : ∀ l : List Ex, cellsL l = l.map Ex.cells
 | [] => rfl
 | e :: r => by simp [cellsL, cellsL_eq r]
theorem cells_mk (op n : Int) (v : Val) (ar : List Ex) : (Ex.mk op n v ar).cells = [.int .i64 op, .int .i64 n, .int .i64 v.k, .int .i64 v.n, .str v.s, .sl (ar.map Ex.cells)] := by rw [Ex.cells, cellsL_eq]
theorem ex_len (e : Ex) : e.cells.length = 6 := by cases e; rfl
mutual
def Ex.sz : Ex → Nat
 | .mk _ _ _ ar => szL ar + 1
def szL : List Ex → Nat
 | [] => 0
 | e :: r => e.sz + szL r
end
theorem sz_mem : ∀ {l : List Ex} {e : Ex}, e ∈ l → e.sz ≤ szL l
 | [], _, h => by simp at h
 | a :: r, e, h => by
   simp only [szL]
   rcases List.mem_cons.1 h with g | g
   · subst g; omega
   · have := sz_mem g; omega
theorem Ix.ex {es : List (List PV)} {ar : List Ex} {i : Int} {K : List PV → Prop} (hl : ar.map Ex.cells = es) (h0 : 0 ≤ i) (hn : i < ar.length)
   (g : ∀ op n vk vn vs ar' es', ar[i.toNat]? = some (.mk op n ⟨vk, vn, vs⟩ ar') → ar'.map Ex.cells = es' → K [.int .i64 op, .int .i64 n, .int .i64 vk, .int .i64 vn, .str vs, .sl es']) : Ix 6 es i K := by
 refine Ix.map hl ex_len (by decide) h0 hn fun x hx => ?_
 obtain ⟨op, n, ⟨vk, vn, vs⟩, ar'⟩ := x
 rw [cells_mk]
 exact g op n vk vn vs ar' _ hx rfl
def arityE (op : Int) : Int := if op = 1 ∨ op = 2 then 0 else if op = 3 ∨ op = 4 ∨ op = 5 ∨ op = 6 then 1 else if op = 21 then 3 else if 7 ≤ op ∧ op ≤ 20 then 2 else -1
set_option maxHeartbeats 4000000 in
theorem arity_c (op : Int) : PCall Tryz.prog 66 [.int .i64 op] fun r => r = [.int .i64 (arityE op)] := by
 refine PCall.x (nt := 20) (res := [.tmp 2]) mixed tt_ok [] Tryz.func66 rfl rfl rfl c66 (Nat.le_of_ble_eq_true rfl) ?_
 intro cp cc lp Q' hcp hcc hlp hQ
 repeat' (first
   | (with_reducible refine Nm.mk ?_; intro z hz)
   | (with_reducible refine IfB.mk ?_ ?_ <;> (intro h; cases h))
   | (with_reducible refine Two.l ?_; refine Asm.mk ?_ ?_; focus (decide +kernel))
   | (with_reducible refine Two.r ?_)
   | (with_reducible refine TwoT.r ?_)
   | (with_reducible refine Asm.mk ?_ ?_; focus (first | kernel_rfl | decide))
   | (with_reducible refine Asm.mk2 ?_ ?_)
   | ((fail_if_success (with_reducible first | refine hQ _ ?_ | refine Side.mk ?_ | refine isCP hcp ?_ | refine isCC hcc ?_ | refine isLP hlp ?_ | refine Ix.mk ?_ | refine SIx.mk ?_ | refine SEx.mk ?_ | refine EIx.mk ?_ | refine RIx.mk ?_ | refine LkX.mk ?_ | show False | refine hR ?_ _ ?_ ?_ ?_ ?_ ?_ | refine hR2 ?_ _ ?_ ?_ ?_ ?_ ?_)); cbv))
 all_goals (refine hQ _ ?_; clear hQ hcp hcc hlp; simp only [decide_eq_true_eq, decide_eq_false_iff_not] at *; congr 2; unfold arityE; (repeat' split) <;> first | omega | (intros; omega))
def mx (a b : Int) : Int := if a < b then b else a
def badE (op n : Int) (v : Val) (len : Nat) : Bool := !decide (arityE op = (len : Int)) || (decide (op = 1) && decide (n < 0)) || (decide (op = 2) && decide (v.k = 2) && decide ((1000 : Int) < (v.s.size : Int)))
mutual
def walkE : Ex → Int → Int → Int → Bool × Int × Int
 | .mk op n v ar, d, nodes, high =>
   if decide (400 < nodes + 1) || decide (40 < d) || badE op n v ar.length then (false, nodes + 1, mx high d) else walkL ar (d + 1) (nodes + 1) (mx high d)
def walkL : List Ex → Int → Int → Int → Bool × Int × Int
 | [], _, n, h => (true, n, h)
 | a :: r, d, n, h => match walkE a d n h with
   | (true, n', h') => walkL r d n' h'
   | (false, n', h') => (false, n', h')
end
mutual
theorem walkE_nodes : ∀ (e : Ex) (d n h : Int) (b : Bool) (n' h' : Int), 0 ≤ n → n ≤ 400 → walkE e d n h = (b, n', h') → 0 ≤ n' ∧ n' ≤ 401 ∧ (b = true → n < n' ∧ n' ≤ 400)
 | .mk op m v ar, d, n, h, b, n', h', h0, h1, he => by
   rw [walkE] at he
   split at he
   · simp only [Prod.mk.injEq] at he
     obtain ⟨rfl, rfl, rfl⟩ := he
     exact ⟨by omega, by omega, fun h => by cases h⟩
   · rename_i hc
     have hn : n + 1 ≤ 400 := by
       simp only [Bool.or_eq_true, decide_eq_true_eq, not_or] at hc
       omega
     have := walkL_nodes ar (d + 1) (n + 1) (mx h d) b n' h' (by omega) hn he
     exact ⟨this.1, this.2.1, fun hb => by have := this.2.2 hb; omega⟩
theorem walkL_nodes : ∀ (l : List Ex) (d n h : Int) (b : Bool) (n' h' : Int), 0 ≤ n → n ≤ 400 → walkL l d n h = (b, n', h') → 0 ≤ n' ∧ n' ≤ 401 ∧ (b = true → n ≤ n' ∧ n' ≤ 400)
 | [], d, n, h, b, n', h', h0, h1, he => by
   simp only [walkL, Prod.mk.injEq] at he
   obtain ⟨rfl, rfl, rfl⟩ := he
   exact ⟨h0, by omega, fun _ => ⟨Int.le_refl _, h1⟩⟩
 | a :: r, d, n, h, b, n', h', h0, h1, he => by
   rw [walkL] at he
   split at he
   · rename_i n1 h2 hw
     have h3 := walkE_nodes a d n h _ _ _ h0 h1 hw
     have h4 := walkL_nodes r d n1 h2 b n' h' h3.1 (h3.2.2 rfl).2 he
     exact ⟨h4.1, h4.2.1, fun hb => by have := h3.2.2 rfl; have := h4.2.2 hb; omega⟩
   · rename_i n1 h2 hw
     have h3 := walkE_nodes a d n h _ _ _ h0 h1 hw
     simp only [Prod.mk.injEq] at he
     obtain ⟨rfl, rfl, rfl⟩ := he
     exact ⟨h3.1, h3.2.1, fun h => by cases h⟩
end
def wH (n h : Int) : List AObj := [.cells [.p (.int .i64 n)], .cells [.p (.int .i64 h)], .cells [.fn 65 [.ref 0 0, .ref 1 0, .ref 2 0]]]
def WalkC (e : Ex) : Prop := ∀ (cells : List PV) (d n h : Int), e.cells = cells → 0 ≤ d → d ≤ 41 → 0 ≤ n → n ≤ 400 → ∃ b n' h', walkE e d n h = (b, n', h') ∧
 ACall Tryz.prog 65 [.p (.ip cells), .p (.int .i64 d), .ref 0 0, .ref 1 0, .ref 2 0] (wH n h) fun r H' => r = .p (.bool b) ∧ takeX H' 3 = wH n' h'
end Go.Proofs.YtlabphnonlicdaaGreat

namespace Go.Proofs.YtlabphnonlicdaaGreat
open Go Go.RowKit
set_option maxRecDepth 100000
set_option linter.unusedSimpArgs false
set_option linter.unusedVariables false
set_option maxHeartbeats 4000000 in
theorem walk_c (op m : Int) (v : Val) (ar : List Ex) (es : List (List PV)) (hes : ar.map Ex.cells = es) (IH : ∀ x, x ∈ ar → WalkC x) (d n h : Int) (hd0 : 0 ≤ d) (hd1 : d ≤ 41) (hn0 : 0 ≤ n) (hn1 : n ≤ 400) :
   ACall Tryz.prog 65 [.p (.ip [.int .i64 op, .int .i64 m, .int .i64 v.k, .int .i64 v.n, .str v.s, .sl es]), .p (.int .i64 d), .ref 0 0, .ref 1 0, .ref 2 0] (wH n h) fun r H' => r = .p (.bool (walkE (.mk op m v ar) d n h).1) ∧ takeX H' 3 = wH (walkE (.mk op m v ar) d n h).2.1 (walkE (.mk op m v ar) d n h).2.2 := by
 have hel : es.length = ar.length := by rw [← hes]; simp
 obtain ⟨q, hq⟩ : ∃ q, walkE (.mk op m v ar) d n h = q := ⟨_, rfl⟩
 rw [hq]
 rw [walkE] at hq
 obtain ⟨vk, vn, vs⟩ := v
 have hw1 : IntKind.i64.wrap (n + 1) = n + 1 := wrap_in (by omega)
 have hsz : ((⟨vk, vn, vs⟩ : Val).s.size : Int) = vs.size := rfl
 have hfail : ∀ (zn zh : Int), IntKind.i64.wrap (n + 1) = zn → (if h < d then d else h) = zh →
     (decide (400 < zn) = true ∨ decide (40 < d) = true ∨ (∃ za zl, (!decide (za = zl)) = true ∧ arityE op = za ∧ (es.length : Int) = zl) ∨ (decide (op = 1) = true ∧ decide (m < 0) = true) ∨ (decide (op = 2) = true ∧ decide (vk = 2) = true ∧ ∃ zs, decide ((1000 : Int) < zs) = true ∧ (vs.size : Int) = zs)) → q = (false, zn, zh) := by
   intro zn zh h1 h2 h3
   rw [hw1] at h1
   subst h1 h2
   rw [← hq, if_pos]
   · rfl
   · simp only [badE, Bool.or_eq_true, Bool.and_eq_true, decide_eq_true_eq, Bool.not_eq_true', decide_eq_false_iff_not] at h3 ⊢
     rcases h3 with h3 | h3 | ⟨za, zl, h3, h4, h5⟩ | ⟨h3, h4⟩ | ⟨h3, h4, zs, h5, h6⟩
     · exact .inl (.inl h3)
     · exact .inl (.inr h3)
     · right; left; left; rw [h4, ← hel, h5]; exact h3
     · right; left; right; exact ⟨h3, h4⟩
     · right; right; exact ⟨⟨h3, h4⟩, by rw [hsz, h6]; exact h5⟩
 have hgo : ∀ (zn zh za zl : Int), IntKind.i64.wrap (n + 1) = zn → (if h < d then d else h) = zh → decide (400 < zn) = false → decide (40 < d) = false → (!decide (za = zl)) = false → arityE op = za → (es.length : Int) = zl →
     (decide (op = 1) = false ∨ decide (m < 0) = false) → (decide (op = 2) = false ∨ decide (vk = 2) = false ∨ ∃ zs, decide ((1000 : Int) < zs) = false ∧ (vs.size : Int) = zs) → walkL ar (d + 1) zn zh = q ∧ 0 ≤ zn ∧ zn ≤ 400 ∧ d ≤ 40 ∧ (es.length : Int) ≤ 3 := by
   intro zn zh za zl h1 h2 h3 h4 h5 h6 h7 h8 h9
   rw [hw1] at h1
   subst h1 h2
   simp only [decide_eq_false_iff_not, Bool.not_eq_false', decide_eq_true_eq] at h3 h4 h5
   have ha3 : arityE op ≤ 3 := by unfold arityE; (repeat' split) <;> omega
   refine ⟨?_, by omega, by omega, by omega, by omega⟩
   show walkL ar (d + 1) (n + 1) (mx h d) = q
   rw [← hq, if_neg]
   · simp only [badE, Bool.or_eq_true, Bool.and_eq_true, decide_eq_true_eq, Bool.not_eq_true', decide_eq_false_iff_not, not_or, not_and, Decidable.not_not]
     simp only [decide_eq_false_iff_not] at h8 h9
     refine ⟨⟨h3, h4⟩, ⟨by rw [h6, ← hel, h7]; exact h5, fun a b => ?_⟩, fun a b => ?_⟩
     · rcases h8 with g | g
       · exact g a
       · exact g b
     · rcases h9 with g | g | ⟨zs, g, k⟩
       · exact absurd a.1 g
       · exact absurd a.2 g
       · rw [hsz, k] at b; exact g b
 clear hq
 refine ACall.x (nt := 91) (res := [.tmp 7]) mixed tt_ok [] Tryz.func65 rfl rfl rfl c65 (Nat.le_of_ble_eq_true rfl) ?_
 intro cp cc lp Q' hcp hcc hlp hQ
 repeat' (first
   | (with_reducible refine Nm.mk ?_; intro z hz)
   | (with_reducible refine IfB.mk ?_ ?_ <;> (intro h; cases h))
   | (with_reducible refine Two.l ?_; refine Asm.mk ?_ ?_; focus (decide +kernel))
   | (with_reducible refine Two.r ?_)
   | (with_reducible refine TwoT.r ?_)
   | (with_reducible refine Asm.mk ?_ ?_; focus (first | kernel_rfl | decide))
   | (with_reducible refine isCP hcp ?_; first | (refine iP hcp (arity_c op) ?_; intro z hz))
   | (with_reducible refine isCC hcc ?_; first | (refine iA hcc (arity_c op) rfl ?_; intro z hz))
   | (with_reducible refine Asm.mk2 ?_ ?_)
   | ((fail_if_success (with_reducible first | refine hQ _ _ ?_ | refine Side.mk ?_ | refine isCP hcp ?_ | refine isCC hcc ?_ | refine isLP hlp ?_ | refine Ix.mk ?_ | refine SIx.mk ?_ | refine SEx.mk ?_ | refine EIx.mk ?_ | refine RIx.mk ?_ | refine LkX.mk ?_ | show False | refine hR ?_ _ ?_ ?_ ?_ ?_ ?_ | refine hR2 ?_ _ ?_ ?_ ?_ ?_ ?_)); cbv))
 all_goals first
   | (have e : q = _ := hfail _ _ (by assumption) (by assumption) (by first | exact .inl (by assumption) | exact .inr (.inl (by assumption)) | exact .inr (.inr (.inl ⟨_, _, by assumption, by assumption, by assumption⟩)) | exact .inr (.inr (.inr (.inl ⟨by assumption, by assumption⟩))) | exact .inr (.inr (.inr (.inr ⟨by assumption, by assumption, _, by assumption, by assumption⟩))))
      refine hQ _ _ ⟨?_, ?_⟩
      · rw [e]; rfl
      · rw [e]; rfl)
   | (obtain ⟨e, hzn0, hzn1, hd40, hl3⟩ := hgo _ _ _ _ (by assumption) (by assumption) (by assumption) (by assumption) (by assumption) (by assumption) (by assumption) (by first | exact .inl (by assumption) | exact .inr (by assumption)) (by first | exact .inl (by assumption) | exact .inr (.inl (by assumption)) | exact .inr (.inr ⟨_, by assumption, by assumption⟩))
      have hwd : IntKind.i64.wrap (d + 1) = d + 1 := wrap_in (by omega)
      simp only [nc] at hz
      simp only [nc'] at hz
      have hzl := hz
      clear hz
      rename Int => zl
      refine loopX (ι := Int × Int × Int) mixed tt_ok hcp hcc hlp [0, 1, 2, 3, 4, 75] (fun p => [(76, .p (.int .i64 p.1))]) (fun p => wH p.2.1 p.2.2)
        (fun p => 0 ≤ p.1 ∧ p.1 ≤ zl ∧ 0 ≤ p.2.1 ∧ p.2.1 ≤ 400 ∧ walkL (ar.drop p.1.toNat) (d + 1) p.2.1 p.2.2 = q) (fun p => (zl - p.1).toNat) (0, _, _)
        ⟨by show (0 : Int) ≤ 0; omega, by show (0 : Int) ≤ zl; omega, hzn0, hzn1, e⟩ ⟨rfl, trivial⟩ rfl ?_
      rintro R ⟨i, n1, h1⟩ ⟨hi0, hi1, hb0, hb1, hw⟩ hR
      have hi0 : 0 ≤ i := hi0
      have hi1 : i ≤ zl := hi1
      have hb0 : 0 ≤ n1 := hb0
      have hb1 : n1 ≤ 400 := hb1
      have hw : walkL (ar.drop i.toNat) (d + 1) n1 h1 = q := hw
      have hk : decide (i < zl) = true → i < ar.length := by simp only [decide_eq_true_eq]; omega
      have hdr : ∀ x, ar[i.toNat]? = some x → ar.drop i.toNat = x :: ar.drop (i + 1).toNat := by
        intro x hx
        have hlt := (List.getElem?_eq_some_iff.1 hx).1
        rw [List.drop_eq_getElem_cons hlt, show (i + 1).toNat = i.toNat + 1 by omega]
        congr 1
        exact (List.getElem?_eq_some_iff.1 hx).2
      have hend : decide (i < zl) = false → q = (true, n1, h1) := by
        intro hf
        simp only [decide_eq_false_iff_not] at hf
        rw [← hw, List.drop_eq_nil_of_le (by omega)]; rfl
      have hstep : ∀ x b n2 h2, ar[i.toNat]? = some x → walkE x (d + 1) n1 h1 = (b, n2, h2) → (b = false → q = (false, n2, h2)) ∧ (b = true → walkL (ar.drop (i + 1).toNat) (d + 1) n2 h2 = q ∧ 0 ≤ n2 ∧ n2 ≤ 400) := by
        intro x b n2 h2 hx he
        have hn := walkE_nodes _ _ _ _ _ _ _ hb0 hb1 he
        rw [hdr x hx, walkL, he] at hw
        constructor
        · intro hb; subst hb; exact hw.symm
        · intro hb; subst hb; exact ⟨hw, hn.1, (hn.2.2 rfl).2⟩
      have hcallr : ∀ (op' m' vk' vn' : Int) (vs' : ByteArray) (ar' : List Ex) (es' : List (List PV)) (z' : Int), ar[i.toNat]? = some (.mk op' m' ⟨vk', vn', vs'⟩ ar') → ar'.map Ex.cells = es' → IntKind.i64.wrap (d + 1) = z' → ∃ b n2 h2, (walkE (.mk op' m' ⟨vk', vn', vs'⟩ ar') (d + 1) n1 h1 = (b, n2, h2) ∧ z' = d + 1) ∧
          ACall Tryz.prog 65 [.p (.ip [.int .i64 op', .int .i64 m', .int .i64 vk', .int .i64 vn', .str vs', .sl es']), .p (.int .i64 z'), .ref 0 0, .ref 1 0, .ref 2 0] (wH n1 h1) fun r H' => r = .p (.bool b) ∧ takeX H' 3 = wH n2 h2 := by
        intro op' m' vk' vn' vs' ar' es' z' hx he hz'
        rw [hwd] at hz'
        subst hz'
        obtain ⟨b, n2, h2, k1, k2⟩ := IH _ (List.mem_of_getElem? hx) _ (d + 1) n1 h1 (by rw [cells_mk, he]) (by omega) (by omega) hb0 hb1
        exact ⟨b, n2, h2, ⟨k1, rfl⟩, k2⟩
      repeat' (first
        | (with_reducible refine Nm.mk ?_; intro z hz)
        | (with_reducible refine IfB.mk ?_ ?_ <;> (intro h; cases h))
        | (with_reducible refine Two.l ?_; refine Asm.mk ?_ ?_; focus (decide +kernel))
        | (with_reducible refine Two.r ?_)
        | (with_reducible refine TwoT.r ?_)
        | (with_reducible refine Asm.mk ?_ ?_; focus kernel_rfl)
        | (with_reducible refine Ix.ex hes hi0 (hk (by assumption)) ?_; intro op' m' vk' vn' vs' ar' es' hx hes')
        | (with_reducible refine isCC hcc ?_; obtain ⟨b', n2, h2, ⟨hwe, hz'⟩, hcall⟩ := hcallr _ _ _ _ _ _ _ _ hx hes' (by assumption); refine frameA (H1 := wH n2 h2) hcc [0, 1, 2] hcall rfl rfl rfl rfl rfl ?_)
        | (with_reducible refine Asm.mk2 ?_ ?_)
        | ((fail_if_success (with_reducible first | refine hQ _ _ ?_ | refine Side.mk ?_ | refine isCP hcp ?_ | refine isCC hcc ?_ | refine isLP hlp ?_ | refine Ix.mk ?_ | refine SIx.mk ?_ | refine SEx.mk ?_ | refine EIx.mk ?_ | refine RIx.mk ?_ | refine LkX.mk ?_ | show False | refine hR ?_ _ ?_ ?_ ?_ ?_ ?_ | refine hR2 ?_ _ ?_ ?_ ?_ ?_ ?_)); cbv))
      all_goals first
        | (have hb' : (!b') = true := by assumption
           have e : q = (false, n2, h2) := (hstep _ _ _ _ hx hwe).1 (by simpa using hb')
           refine hQ _ _ ⟨?_, ?_⟩
           · rw [e]; rfl
           · rw [e]; rfl)
        | (have hb' : (!b') = false := by assumption
           obtain ⟨g1, g2, g3⟩ := (hstep _ _ _ _ hx hwe).2 (by simpa using hb')
           have hlt := hk (by assumption)
           have e1 : IntKind.i64.wrap (i + 1) = i + 1 := wrap_in (by omega)
           rw [e1] at hz
           refine hR (i + 1, n2, h2) _ ⟨by show 0 ≤ i + 1; omega, by show i + 1 ≤ _; clear hR hQ; simp only [decide_eq_true_eq] at *; omega, g2, g3, g1⟩ (by show Int.toNat _ < Int.toNat _; clear hR hQ; simp only [decide_eq_true_eq] at *; omega) ⟨hz ▸ rfl, trivial⟩ ⟨rfl, rfl, rfl, rfl, rfl, rfl, trivial⟩ rfl)
        | (have e : q = (true, n1, h1) := hend (by assumption)
           refine hQ _ _ ⟨?_, ?_⟩
           · rw [e]; rfl
           · rw [e]; rfl))
end Go.Proofs.YtlabphnonlicdaaGreat

namespace Go.Proofs.YtlabphnonlicdaaGreat
open Go Go.RowKit
set_option maxRecDepth 100000
set_option linter.unusedSimpArgs false
set_option linter.unusedVariables false
theorem walk_all : ∀ (k : Nat) (e : Ex), e.sz ≤ k → WalkC e
 | 0, .mk op m v ar, h => by simp [Ex.sz] at h
 | k + 1, .mk op m v ar, h => by
   intro cells d n h' he hd0 hd1 hn0 hn1
   refine ⟨_, _, _, rfl, ?_⟩
   rw [cells_mk] at he
   subst he
   refine walk_c op m v ar _ rfl (fun x hx => walk_all k x ?_) d n h' hd0 hd1 hn0 hn1
   have := sz_mem hx
   simp only [Ex.sz] at h; omega
def sizeM (e : Ex) : Int × Int := if (walkE e 1 0 0).1 = true then ((walkE e 1 0 0).2.1, (walkE e 1 0 0).2.2) else (401, 41)
def builtM (e : Ex) : Bool := decide ((sizeM e).1 ≤ 400)
theorem esize_c (op n vk vn : Int) (vs : ByteArray) (ar : List Ex) (es : List (List PV)) (hes : ar.map Ex.cells = es) :
   PCall Tryz.prog 47 [.agg [.int .i64 op, .int .i64 n, .int .i64 vk, .int .i64 vn, .str vs, .sl es]] fun r => r = [.int .i64 (sizeM (.mk op n ⟨vk, vn, vs⟩ ar)).1, .int .i64 (sizeM (.mk op n ⟨vk, vn, vs⟩ ar)).2] := by
 obtain ⟨b, n', h', hw, hcall⟩ := walk_all _ (.mk op n ⟨vk, vn, vs⟩ ar) (Nat.le_refl _) _ 1 0 0 (by rw [cells_mk]) (by decide) (by decide) (by decide) (by decide)
 have hs : sizeM (.mk op n ⟨vk, vn, vs⟩ ar) = if b = true then (n', h') else (401, 41) := by unfold sizeM; rw [hw]
 rw [hes] at hcall
 refine PCall.x (nt := 13) (res := [.tmp 2, .tmp 3]) mixed tt_ok [(65, [0])] Tryz.func47 rfl rfl rfl c47 (Nat.le_of_ble_eq_true rfl) ?_
 intro cp cc lp Q' hcp hcc hlp hQ
 repeat' (first
   | (with_reducible refine Nm.mk ?_; intro z hz)
   | (with_reducible refine IfB.mk ?_ ?_ <;> (intro h; cases h))
   | (with_reducible refine Two.l ?_; refine Asm.mk ?_ ?_; focus (decide +kernel))
   | (with_reducible refine Two.r ?_)
   | (with_reducible refine TwoT.r ?_)
   | (with_reducible refine Asm.mk ?_ ?_; focus kernel_rfl)
   | (with_reducible refine isCC hcc ?_; refine frameA (H1 := wH n' h') hcc [1, 2, 3] hcall rfl rfl rfl rfl rfl ?_)
   | (with_reducible refine Asm.mk2 ?_ ?_)
   | ((fail_if_success (with_reducible first | refine hQ _ ?_ | refine Side.mk ?_ | refine isCP hcp ?_ | refine isCC hcc ?_ | refine isLP hlp ?_ | refine Ix.mk ?_ | refine SIx.mk ?_ | refine SEx.mk ?_ | refine EIx.mk ?_ | refine RIx.mk ?_ | refine LkX.mk ?_ | show False | refine hR ?_ _ ?_ ?_ ?_ ?_ ?_ | refine hR2 ?_ _ ?_ ?_ ?_ ?_ ?_)); cbv))
 all_goals (refine hQ _ ?_; clear hQ hcp hcc hlp; rw [hs]; cases b <;> first | rfl | (simp at hz; done))
theorem ebuilt_c (op n vk vn : Int) (vs : ByteArray) (ar : List Ex) (es : List (List PV)) (hes : ar.map Ex.cells = es) :
   PCall Tryz.prog 74 [.agg [.int .i64 op, .int .i64 n, .int .i64 vk, .int .i64 vn, .str vs, .sl es]] fun r => r = [.bool (builtM (.mk op n ⟨vk, vn, vs⟩ ar))] := by
 have hs := esize_c op n vk vn vs ar es hes
 unfold builtM
 obtain ⟨q, hq⟩ : ∃ q, sizeM (.mk op n ⟨vk, vn, vs⟩ ar) = q := ⟨_, rfl⟩
 rw [hq] at hs ⊢
 refine PCall.x (nt := 12) (res := [.tmp 2]) mixed tt_ok [] Tryz.func74 rfl rfl rfl c74 (Nat.le_of_ble_eq_true rfl) ?_
 intro cp cc lp Q' hcp hcc hlp hQ
 repeat' (first
   | (with_reducible refine Nm.mk ?_; intro z hz)
   | (with_reducible refine IfB.mk ?_ ?_ <;> (intro h; cases h))
   | (with_reducible refine Two.l ?_; refine Asm.mk ?_ ?_; focus (decide +kernel))
   | (with_reducible refine Two.r ?_)
   | (with_reducible refine TwoT.r ?_)
   | (with_reducible refine Asm.mk ?_ ?_; focus (first | kernel_rfl | decide))
   | (with_reducible refine isCP hcp ?_; first | (refine iiP hcp (hs) ?_; intro z w hz hw))
   | (with_reducible refine isCC hcc ?_; first | (refine iiA hcc (hs) rfl ?_; intro z w hz hw))
   | (with_reducible refine Asm.mk2 ?_ ?_)
   | ((fail_if_success (with_reducible first | refine hQ _ ?_ | refine Side.mk ?_ | refine isCP hcp ?_ | refine isCC hcc ?_ | refine isLP hlp ?_ | refine Ix.mk ?_ | refine SIx.mk ?_ | refine SEx.mk ?_ | refine EIx.mk ?_ | refine RIx.mk ?_ | refine LkX.mk ?_ | show False | refine hR ?_ _ ?_ ?_ ?_ ?_ ?_ | refine hR2 ?_ _ ?_ ?_ ?_ ?_ ?_)); cbv))
 all_goals (refine hQ _ ?_; clear hQ hcp hcc hlp hs; subst_vars; rfl)
end Go.Proofs.YtlabphnonlicdaaGreat

namespace Go.Proofs.YtlabphnonlicdaaGreat
open Go Go.RowKit
set_option maxRecDepth 100000
set_option linter.unusedSimpArgs false
set_option linter.unusedVariables false
set_option maxHeartbeats 4000000 in
theorem rarity_c (op : Int) : PCall Tryz.prog 85 [.int .i64 op] fun r => r = [.int .i64 (arityE op)] := by
 refine PCall.x (nt := 27) (res := [.tmp 2]) mixed tt_ok [] Tryz.func85 rfl rfl rfl c85 (Nat.le_of_ble_eq_true rfl) ?_
 intro cp cc lp Q' hcp hcc hlp hQ
 repeat' (first
   | (with_reducible refine Nm.mk ?_; intro z hz)
   | (with_reducible refine IfB.mk ?_ ?_ <;> (intro h; cases h))
   | (with_reducible refine Two.l ?_; refine Asm.mk ?_ ?_; focus (decide +kernel))
   | (with_reducible refine Two.r ?_)
   | (with_reducible refine TwoT.r ?_)
   | (with_reducible refine Asm.mk ?_ ?_; focus (first | kernel_rfl | decide))
   | (with_reducible refine Asm.mk2 ?_ ?_)
   | ((fail_if_success (with_reducible first | refine hQ _ ?_ | refine Side.mk ?_ | refine isCP hcp ?_ | refine isCC hcc ?_ | refine isLP hlp ?_ | refine Ix.mk ?_ | refine SIx.mk ?_ | refine SEx.mk ?_ | refine EIx.mk ?_ | refine RIx.mk ?_ | refine LkX.mk ?_ | show False | refine hR ?_ _ ?_ ?_ ?_ ?_ ?_ | refine hR2 ?_ _ ?_ ?_ ?_ ?_ ?_)); cbv))
 all_goals (refine hQ _ ?_; clear hQ hcp hcc hlp; simp only [decide_eq_true_eq, decide_eq_false_iff_not] at *; congr 2; unfold arityE; (repeat' split) <;> first | omega | (intros; omega))
end Go.Proofs.YtlabphnonlicdaaGreat

namespace Go.Proofs.YtlabphnonlicdaaGreat
open Go Go.RowKit
set_option maxRecDepth 100000
set_option linter.unusedSimpArgs false
set_option linter.unusedVariables false
def goodK (op m : Int) (v : Val) (len : Nat) : Bool := decide (arityE op = (len : Int)) && !(decide (op = 1) && decide (m < 0)) && !(decide (op = 2) && decide ((1000 : Int) < ((clean v).s.size : Int)))
theorem goodE_bad (op m : Int) (v : Val) (len : Nat) : goodK op m v len = !badE op m v len := by
 have hc : decide ((1000 : Int) < ((clean v).s.size : Int)) = (decide (v.k = 2) && decide ((1000 : Int) < (v.s.size : Int))) := by
   unfold clean
   by_cases h1 : v.k = 1
   · rw [if_pos h1, h1]
     rfl
   · rw [if_neg h1]
     by_cases h2 : v.k = 2
     · rw [if_pos h2, h2]; rfl
     · rw [if_neg h2, decide_eq_false h2]; rfl
 unfold goodK badE
 rw [hc]
 cases decide (arityE op = (len : Int)) <;> cases decide (op = 1) <;> cases decide (m < 0) <;> cases decide (op = 2) <;> cases decide (v.k = 2) <;> cases decide ((1000 : Int) < (v.s.size : Int)) <;> rfl
mutual
def measE : Ex → Int → Int → Int × Int × Bool
 | .mk op m v ar, n, d => if (decide (400 < n) || decide (40 < d)) = true then (n + 1, d, false) else measL (goodK op m v ar.length) ar (n + 1) d d
def measL : Bool → List Ex → Int → Int → Int → Int × Int × Bool
 | g, [], n, d, h => (n, h, g)
 | g, a :: r, n, d, h => match measE a n (d + 1) with
   | (n', h', true) => measL g r n' d (mx h h')
   | (n', h', false) => (n', mx h h', false)
end
theorem mx_assoc (a b c : Int) : mx (mx a b) c = mx a (mx b c) := by unfold mx; (repeat' split) <;> omega
theorem mx_l (a b : Int) : a ≤ mx a b := by unfold mx; split <;> omega
theorem mx_le {a b c : Int} (h : a ≤ c) (h' : b ≤ c) : mx a b ≤ c := by unfold mx; split <;> omega
mutual
theorem measE_up : ∀ (e : Ex) (n d : Int), n < (measE e n d).1 ∧ d ≤ (measE e n d).2.1
 | .mk op m v ar, n, d => by
   rw [measE]
   split
   · exact ⟨by show n < n + 1; omega, Int.le_refl _⟩
   · have := measL_up (goodK op m v ar.length) ar (n + 1) d d
     exact ⟨by omega, this.2.1⟩
theorem measL_up : ∀ (g : Bool) (l : List Ex) (n d h : Int), n ≤ (measL g l n d h).1 ∧ h ≤ (measL g l n d h).2.1 ∧ ((measL g l n d h).2.2 = true → g = true)
 | g, [], n, d, h => ⟨Int.le_refl _, Int.le_refl _, fun h => h⟩
 | g, a :: r, n, d, h => by
   have h1 := measE_up a n (d + 1)
   rw [measL]
   split
   · rename_i n' h' he
     rw [he] at h1
     have h2 := measL_up g r n' d (mx h h')
     have h3 := mx_l h h'
     exact ⟨by have : n < n' := h1.1; omega, by omega, h2.2.2⟩
   · rename_i n' h' he
     rw [he] at h1
     exact ⟨by have : n < n' := h1.1; show n ≤ n'; omega, mx_l h h', fun h => by cases h⟩
end
mutual
theorem meas_walk : ∀ (e : Ex) (n d H : Int), ((walkE e d n H).1 = true → (measE e n d).2.2 = true ∧ (measE e n d).1 ≤ 400 ∧ (measE e n d).2.1 ≤ 40 ∧ (walkE e d n H).2.1 = (measE e n d).1 ∧ (walkE e d n H).2.2 = mx H (measE e n d).2.1) ∧
   ((measE e n d).2.2 = true → (measE e n d).1 ≤ 400 → (walkE e d n H).1 = true)
 | .mk op m v ar, n, d, H => by
   have hu := measL_up (goodK op m v ar.length) ar (n + 1) d d
   rw [walkE, measE]
   by_cases h1 : (decide (400 < n) || decide (40 < d)) = true
   · rw [if_pos h1, if_pos (by simp only [Bool.or_eq_true, decide_eq_true_eq] at h1 ⊢; omega)]
     exact ⟨fun h => (by cases h), fun h => (by cases h)⟩
   · rw [if_neg h1]
     simp only [Bool.or_eq_true, decide_eq_true_eq, not_or] at h1
     cases hb : badE op m v ar.length with
     | true =>
       rw [if_pos (by simp)]
       refine ⟨fun h => (by cases h), fun h _ => ?_⟩
       have := hu.2.2 h
       rw [goodE_bad, hb] at this
       cases this
     | false =>
       rw [goodE_bad, hb] at hu ⊢
       by_cases h4 : 400 < n + 1
       · rw [if_pos (by simp [h4])]
         exact ⟨fun h => (by cases h), fun _ h => absurd h (by have := hu.1; omega)⟩
       · rw [if_neg (by simp; omega)]
         exact meas_walkL ar (n + 1) d d H (by omega) (by omega)
theorem meas_walkL : ∀ (l : List Ex) (n d h H : Int), n ≤ 400 → h ≤ 40 → ((walkL l (d + 1) n (mx H h)).1 = true → (measL (!false) l n d h).2.2 = true ∧ (measL (!false) l n d h).1 ≤ 400 ∧ (measL (!false) l n d h).2.1 ≤ 40 ∧ (walkL l (d + 1) n (mx H h)).2.1 = (measL (!false) l n d h).1 ∧ (walkL l (d + 1) n (mx H h)).2.2 = mx H (measL (!false) l n d h).2.1) ∧
   ((measL (!false) l n d h).2.2 = true → (measL (!false) l n d h).1 ≤ 400 → (walkL l (d + 1) n (mx H h)).1 = true)
 | [], n, d, h, H, hn, hh => by
   rw [walkL, measL]
   exact ⟨fun _ => ⟨rfl, hn, hh, rfl, rfl⟩, fun _ _ => rfl⟩
 | a :: r, n, d, h, H, hn, hh => by
   have he := meas_walk a n (d + 1) (mx H h)
   have hup := fun n' h' => measL_up (!false) r n' d h'
   rw [walkL, measL]
   rcases hm : measE a n (d + 1) with ⟨n1, h1, ok1⟩
   rcases hw : walkE a (d + 1) n (mx H h) with ⟨b1, nw, hw1⟩
   rw [hm, hw] at he
   dsimp only at he
   cases b1 with
   | true =>
     obtain ⟨e1, e2, e3, e4, e5⟩ := he.1 rfl
     subst e1
     dsimp only
     rw [e4, e5, mx_assoc]
     exact meas_walkL r n1 d (mx h h1) H e2 (mx_le hh e3)
   | false =>
     dsimp only
     refine ⟨fun h => (by cases h), fun h1' h2' => ?_⟩
     cases ok1 with
     | false => cases h1'
     | true =>
       dsimp only at h1' h2'
       have := hup n1 (mx h h1)
       have h5 : n1 ≤ 400 := by omega
       exact absurd (he.2 rfl h5) (by decide)
end
def rsizeM (e : Ex) : Int × Int := if (!(measE e 0 1).2.2 || decide (400 < (measE e 0 1).1) || decide (40 < (measE e 0 1).2.1)) = true then (401, 41) else ((measE e 0 1).1, (measE e 0 1).2.1)
theorem rsizeM_eq (e : Ex) : rsizeM e = sizeM e := by
 have h := meas_walk e 0 1 0
 have hu := measE_up e 0 1
 rw [rsizeM, sizeM]
 cases hb : (walkE e 1 0 0).1 with
 | true =>
   obtain ⟨h1, h2, h3, h4, h5⟩ := h.1 hb
   rw [if_neg (by simp [h1]; omega), if_pos rfl, h4, h5]
   have : mx 0 (measE e 0 1).2.1 = (measE e 0 1).2.1 := by unfold mx; split <;> omega
   rw [this]
 | false =>
   have hc : (!(measE e 0 1).2.2 || decide (400 < (measE e 0 1).1) || decide (40 < (measE e 0 1).2.1)) = true := by
     cases h1 : (measE e 0 1).2.2 with
     | false => rfl
     | true =>
       by_cases h2 : (measE e 0 1).1 ≤ 400
       · rw [h.2 h1 h2] at hb; cases hb
       · have : decide (400 < (measE e 0 1).1) = true := by simp only [decide_eq_true_eq]; omega
         rw [this]; rfl
   rw [if_pos hc]; rfl
end Go.Proofs.YtlabphnonlicdaaGreat

namespace Go.Proofs.YtlabphnonlicdaaGreat
open Go Go.RowKit
set_option maxRecDepth 100000
set_option linter.unusedSimpArgs false
set_option linter.unusedVariables false
section
variable {P : Program} {cp : FuncId → List PV → (CR → Prop) → Prop} {cc : FuncId → List AV → List AObj → (AV → List AObj → Prop) → Prop} {f : FuncId} {args : List PV} {aargs : List AV} {H : List AObj}
theorem pure_p : ∀ cs : List PV, optL pureX (mapX .p cs) = some cs
 | [] => rfl
 | c :: r => by
   have : pureX (.p c) = some c := by rw [pureX_eq]; cases c <;> rfl
   simp only [mapX, optL, this, pure_p r]
theorem ha1 {x : AV} {y : PV} {cs : List PV} (hx : pureX x = some y) : optL pureX (x :: mapX .p cs) = some (y :: cs) := by simp only [optL, hx, pure_p]
theorem hb1 {x : AV} {y : PV} {cs : List PV} (hx : pureX x = some y) : optL pureX (catX [x] (mapX .p cs)) = some (y :: cs) := ha1 hx
theorem hb2 {x x' : AV} {y y' : PV} {cs : List PV} (hx : pureX x = some y) (hx' : pureX x' = some y') : optL pureX (catX [x, x'] (mapX .p cs)) = some (y :: y' :: cs) := by
 show optL pureX (x :: x' :: mapX .p cs) = _
 simp only [optL, hx, hx', pure_p]
theorem ha2 {x x' : AV} {y y' : PV} {cs : List PV} (hx : pureX x = some y) (hx' : pureX x' = some y') : optL pureX (x :: x' :: mapX .p cs) = some (y :: y' :: cs) := by simp only [optL, hx, hx', pure_p]
end
def wideN (n : Nat) : Prop := n * 72 ≤ 140737488355328
mutual
def Ex.wide : Ex → Prop
 | .mk _ _ _ ar => wideN ar.length ∧ wideL ar
def wideL : List Ex → Prop
 | [] => True
 | e :: r => e.wide ∧ wideL r
end
theorem wide_mem : ∀ {l : List Ex} {e : Ex}, wideL l → e ∈ l → e.wide
 | [], _, _, h => by simp at h
 | a :: r, e, hw, h => by
   rcases List.mem_cons.1 h with g | g
   · subst g; exact hw.1
   · exact wide_mem hw.2 g
end Go.Proofs.YtlabphnonlicdaaGreat

namespace Go.Proofs.YtlabphnonlicdaaGreat
open Go Go.RowKit
set_option maxRecDepth 100000
set_option linter.unusedSimpArgs false
set_option linter.unusedVariables false
mutual
theorem measE_ok : ∀ (e : Ex) (n d : Int), (measE e n d).2.2 = true → (measE e n d).1 ≤ 401
 | .mk op m v ar, n, d, h => by
   rw [measE] at h ⊢
   split at h
   · cases h
   · rename_i hc
     rw [if_neg hc]
     simp only [Bool.or_eq_true, decide_eq_true_eq, not_or] at hc
     exact measL_ok _ ar (n + 1) d d (by omega) h
theorem measL_ok : ∀ (g : Bool) (l : List Ex) (n d h : Int), n ≤ 401 → (measL g l n d h).2.2 = true → (measL g l n d h).1 ≤ 401
 | g, [], n, d, h, hn, _ => hn
 | g, a :: r, n, d, h, hn, hk => by
   have he := measE_ok a n (d + 1)
   rw [measL] at hk ⊢
   rcases hm : measE a n (d + 1) with ⟨n1, h1, ok1⟩
   rw [hm] at hk he
   cases ok1 with
   | true => exact measL_ok g r n1 d (mx h h1) (he rfl) hk
   | false => cases hk
end
def MeasC (e : Ex) : Prop := ∀ (cells : List PV) (n d : Int), e.cells = cells → 0 ≤ n → n ≤ 401 → 0 ≤ d → d ≤ 41 → ∃ n' h' k, measE e n d = (n', h', k) ∧ PCall Tryz.prog 72 [.agg cells, .int .i64 n, .int .i64 d] fun r => r = [.int .i64 n', .int .i64 h', .bool k]
set_option maxHeartbeats 4000000 in
theorem meas_c (op m vk vn : Int) (vs : ByteArray) (ar : List Ex) (es : List (List PV)) (hes : ar.map Ex.cells = es) (hal : ar.length ≤ 140737488355328) (IH : ∀ x, x ∈ ar → MeasC x) (n d n' h' : Int) (k : Bool) (hn0 : 0 ≤ n) (hn1 : n ≤ 401) (hd0 : 0 ≤ d) (hd1 : d ≤ 41) (hq : measE (.mk op m ⟨vk, vn, vs⟩ ar) n d = (n', h', k)) :
   PCall Tryz.prog 72 [.agg [.int .i64 op, .int .i64 m, .int .i64 vk, .int .i64 vn, .str vs, .sl es], .int .i64 n, .int .i64 d] fun r => r = [.int .i64 n', .int .i64 h', .bool k] := by
 have hel : es.length = ar.length := by rw [← hes]; simp
 rw [measE] at hq
 have hw1 : IntKind.i64.wrap (n + 1) = n + 1 := wrap_in (by omega)
 have hwd : IntKind.i64.wrap (d + 1) = d + 1 := wrap_in (by omega)
 refine PCall.x (nt := 88) (res := [.tmp 6, .tmp 7, .tmp 8]) mixed tt_ok [] Tryz.func72 rfl rfl rfl c72 (Nat.le_of_ble_eq_true rfl) ?_
 intro cp cc lp Q' hcp hcc hlp hQ
 repeat' (first
   | (with_reducible refine Nm.mk ?_; intro z hz)
   | (with_reducible refine IfB.mk ?_ ?_ <;> (intro h; cases h))
   | (with_reducible refine Two.l ?_; refine Asm.mk ?_ ?_; focus (decide +kernel))
   | (with_reducible refine Two.r ?_)
   | (with_reducible refine TwoT.r ?_)
   | (with_reducible refine Asm.mk ?_ ?_; focus (first | kernel_rfl | decide))
   | (with_reducible refine isCP hcp ?_; first | (refine iP hcp (rarity_c op) ?_; intro z hz) | (refine vP hcp (rclean_c vk vn vs) ?_; intro v hv))
   | (with_reducible refine isCC hcc ?_; first | (refine iA hcc (rarity_c op) rfl ?_; intro z hz) | (refine vA hcc (rclean_c vk vn vs) rfl ?_; intro v hv))
   | (with_reducible refine Asm.mk2 ?_ ?_)
   | ((fail_if_success (with_reducible first | refine hQ _ ?_ | refine Side.mk ?_ | refine isCP hcp ?_ | refine isCC hcc ?_ | refine isLP hlp ?_ | refine Ix.mk ?_ | refine SIx.mk ?_ | refine SEx.mk ?_ | refine EIx.mk ?_ | refine RIx.mk ?_ | refine LkX.mk ?_ | show False | refine hR ?_ _ ?_ ?_ ?_ ?_ ?_ | refine hR2 ?_ _ ?_ ?_ ?_ ?_ ?_)); cbv))
 all_goals first
   | (refine hQ _ ?_
      rw [hw1] at hz
      rw [if_pos (by simp_all), Prod.mk.injEq, Prod.mk.injEq] at hq
      obtain ⟨q1, q2, q3⟩ := hq
      rw [← hz, q1, q2, q3])
   | skip
 all_goals
   (rw [if_neg (by simp_all)] at hq
    have hd40 : d ≤ 40 := by
      have : decide (40 < d) = false := by assumption
      simp only [decide_eq_false_iff_not] at this
      omega
    have hn400 : n ≤ 400 := by
      have : decide (400 < n) = false := by assumption
      simp only [decide_eq_false_iff_not] at this
      omega
    simp only [nc] at hz
    simp only [nc'] at hz
    have hzl : z.toNat = ar.length ∧ 0 ≤ z := by omega
    obtain ⟨hzl, hzl0⟩ := hzl
    clear hz
    generalize z = zl at *
    refine loopT (ι := Int × Int × Int × Bool) mixed tt_ok hcp hcc hlp [2, 3, 61, 62] (fun p => [(1, .p (.int .i64 p.2.1)), (10, .p (.int .i64 p.2.2.1)), (63, .p (.int .i64 p.1)), (9, .p (.bool p.2.2.2))]) (fun _ => [.cells [.p (.int .i64 op), .p (.int .i64 m), .p (.int .i64 vk), .p (.int .i64 vn), .p (.str vs), .p (.sl es)]])
      (fun p => (0 ≤ p.1 ∧ p.1 ≤ zl) ∧ (0 ≤ p.2.1 ∧ p.2.1 ≤ 401) ∧ measL p.2.2.2 (ar.drop p.1.toNat) p.2.1 d p.2.2.1 = (n', h', k)) (fun p => (zl - p.1).toNat) (0, _, d, _) 1 (fun _ => rfl) ?_ ⟨rfl, rfl, rfl, rfl, trivial⟩ rfl ?_
    · rw [hw1] at hz
      refine ⟨⟨by show (0 : Int) ≤ 0; omega, by show (0 : Int) ≤ zl; omega⟩, ⟨?_, ?_⟩, Eq.trans ?_ hq⟩
      · rw [← hz]; show 0 ≤ n + 1; omega
      · rw [← hz]; show n + 1 ≤ 401; omega
      · show measL _ ar _ d d = measL _ ar (n + 1) d d
        rw [← hz]
        congr 1
        clear IH hq hQ hcp hcc hlp hd40 hn400 hn0 hn1 hd0 hd1 hwd hw1 hz
        symm
        simp only [goodK, ← hel]
        simp_all
    · rintro R ⟨i, n1, h1, g⟩ ⟨⟨hi0, hi1⟩, ⟨hb0, hb1⟩, hw⟩ hR
      replace hi0 : 0 ≤ i := hi0
      replace hi1 : i ≤ zl := hi1
      replace hb0 : 0 ≤ n1 := hb0
      replace hb1 : n1 ≤ 401 := hb1
      replace hw : measL g (ar.drop i.toNat) n1 d h1 = (n', h', k) := hw
      have hk : decide (i < zl) = true → i < ar.length := by simp only [decide_eq_true_eq]; omega
      have hki : decide (i < zl) = true → i + 1 ≤ zl ∧ i < 9223372036854775806 := by simp only [decide_eq_true_eq]; omega
      have hpc : ∀ (op' m' vk' vn' : Int) (vs' : ByteArray) (ar' : List Ex) (es' : List (List PV)), ar[i.toNat]? = some (.mk op' m' ⟨vk', vn', vs'⟩ ar') → ar'.map Ex.cells = es' → ∀ w, IntKind.i64.wrap (d + 1) = w → ∃ n2 h2 k2, measE (.mk op' m' ⟨vk', vn', vs'⟩ ar') n1 (d + 1) = (n2, h2, k2) ∧
          PCall Tryz.prog 72 [.agg [.int .i64 op', .int .i64 m', .int .i64 vk', .int .i64 vn', .str vs', .sl es'], .int .i64 n1, .int .i64 w] fun r => r = [.int .i64 n2, .int .i64 h2, .bool k2] := by
        intro op' m' vk' vn' vs' ar' es' hx he w hwe
        rw [hwd] at hwe
        subst hwe
        exact IH _ (List.mem_of_getElem? hx) _ n1 (d + 1) (by rw [cells_mk, he]) hb0 hb1 (by omega) (by omega)
      have hdr : ∀ x, ar[i.toNat]? = some x → ar.drop i.toNat = x :: ar.drop (i + 1).toNat := by
        intro x hx
        rw [List.drop_eq_getElem_cons (List.getElem?_eq_some_iff.1 hx).1, (List.getElem?_eq_some_iff.1 hx).2, show (i + 1).toNat = i.toNat + 1 by omega]
      repeat' (first
        | (with_reducible refine Nm.mk ?_; intro z hz)
        | (with_reducible refine IfB.mk ?_ ?_ <;> (intro h; cases h))
        | (with_reducible refine Two.l ?_; refine Asm.mk ?_ ?_; focus (decide +kernel))
        | (with_reducible refine Two.r ?_)
        | (with_reducible refine TwoT.r ?_)
        | (with_reducible refine Asm.mk ?_ ?_; focus (show (_ : Bool) = true; kernel_rfl))
        | (with_reducible refine Ix.ex hes hi0 (hk (by assumption)) ?_; intro op' m' vk' vn' vs' ar' es' hx hes')
        | (with_reducible refine isCC hcc ?_; obtain ⟨n2, h2, k2, hm2, hcall⟩ := hpc _ _ _ _ _ _ _ hx hes' _ (by assumption); refine xA hcc hcall rfl ?_)
        | (with_reducible refine Asm.mk2 ?_ ?_)
        | ((fail_if_success (with_reducible first | refine hQ _ ?_ | refine Side.mk ?_ | refine isCP hcp ?_ | refine isCC hcc ?_ | refine isLP hlp ?_ | refine Ix.mk ?_ | refine SIx.mk ?_ | refine SEx.mk ?_ | refine EIx.mk ?_ | refine RIx.mk ?_ | refine LkX.mk ?_ | show False | refine hR ?_ _ ?_ ?_ ?_ ?_ ?_ | refine hR2 ?_ _ ?_ ?_ ?_ ?_ ?_)); cbv))
      all_goals first
        | (have hk2 : k2 = false := by simpa using (show (!k2) = true from hz)
           refine hQ _ ?_
           rename_i zm hzm
           rw [hdr _ hx, measL, hm2, hk2] at hw
           simp only [Prod.mk.injEq] at hw
           obtain ⟨q1, q2, q3⟩ := hw
           rw [q1, ← hzm, ← q3, ← q2]
           rfl)
        | (refine hQ _ ?_
           have hge : ar.length ≤ i.toNat := by
             have : decide (i < zl) = false := by assumption
             simp only [decide_eq_false_iff_not] at this
             omega
           rw [List.drop_eq_nil_of_le hge, measL] at hw
           simp only [Prod.mk.injEq] at hw
           obtain ⟨q1, q2, q3⟩ := hw
           rw [q1, q2, q3])
        | (have hk2 : k2 = true := by simpa using (show (!k2) = false by assumption)
           have hlt := hki (by assumption)
           rename_i zm hzm _
           rw [hdr _ hx, measL, hm2, hk2] at hw
           have hm3 := measE_ok (.mk op' m' ⟨vk', vn', vs'⟩ ar') n1 (d + 1)
           have hm4 := measE_up (.mk op' m' ⟨vk', vn', vs'⟩ ar') n1 (d + 1)
           rw [hm2] at hm3 hm4
           have hm3' : n2 ≤ 401 := hm3 hk2
           have hm4' : n1 < n2 := hm4.1
           have hwi : IntKind.i64.wrap (i + 1) = i + 1 := wrap_in (by omega)
           rw [hwi] at hz
           refine hR (i + 1, n2, zm, g) _ ⟨⟨by show 0 ≤ i + 1; omega, by show i + 1 ≤ zl; omega⟩, ⟨by show 0 ≤ n2; omega, hm3'⟩, ?_⟩ (by show (zl - (i + 1)).toNat < (zl - i).toNat; omega) ⟨rfl, rfl, hz ▸ rfl, rfl, trivial⟩ ⟨rfl, rfl, rfl, rfl, trivial⟩ rfl
           show measL g (ar.drop (i + 1).toNat) n2 d zm = (n', h', k)
           rw [← hw, ← hzm]
           rfl))
theorem meas_all : ∀ (m : Nat) (e : Ex), e.sz ≤ m → e.wide → MeasC e
 | 0, .mk op m v ar, h, _ => by simp [Ex.sz] at h
 | k + 1, .mk op m ⟨vk, vn, vs⟩ ar, h, hw => by
   intro cells n d he hn0 hn1 hd0 hd1
   rw [cells_mk] at he
   subst he
   have hwi : wideN ar.length ∧ wideL ar := by rw [Ex.wide] at hw; exact hw
   have hwn : wideN ar.length := hwi.1
   unfold wideN at hwn
   refine ⟨_, _, _, rfl, meas_c op m vk vn vs ar _ rfl (by omega) (fun x hx => meas_all k x ?_ (wide_mem hwi.2 hx)) n d _ _ _ hn0 hn1 hd0 hd1 rfl⟩
   have := sz_mem hx
   simp only [Ex.sz] at h; omega
theorem rsize_c (op n vk vn : Int) (vs : ByteArray) (ar : List Ex) (es : List (List PV)) (hes : ar.map Ex.cells = es) (hw : (Ex.mk op n ⟨vk, vn, vs⟩ ar).wide) :
   PCall Tryz.prog 52 [.agg [.int .i64 op, .int .i64 n, .int .i64 vk, .int .i64 vn, .str vs, .sl es]] fun r => r = [.int .i64 (sizeM (.mk op n ⟨vk, vn, vs⟩ ar)).1, .int .i64 (sizeM (.mk op n ⟨vk, vn, vs⟩ ar)).2] := by
 obtain ⟨n', h', k, hm, hcall⟩ := meas_all _ (.mk op n ⟨vk, vn, vs⟩ ar) (Nat.le_refl _) hw _ 0 1 (by rw [cells_mk]) (by decide) (by decide) (by decide) (by decide)
 rw [← rsizeM_eq, rsizeM, hm]
 rw [hes] at hcall
 refine PCall.x (nt := 25) (res := [.tmp 2, .tmp 3]) mixed tt_ok [] Tryz.func52 rfl rfl rfl c52 (Nat.le_of_ble_eq_true rfl) ?_
 intro cp cc lp Q' hcp hcc hlp hQ
 repeat' (first
   | (with_reducible refine Nm.mk ?_; intro z hz)
   | (with_reducible refine IfB.mk ?_ ?_ <;> (intro h; cases h))
   | (with_reducible refine Two.l ?_; refine Asm.mk ?_ ?_; focus (decide +kernel))
   | (with_reducible refine Two.r ?_)
   | (with_reducible refine TwoT.r ?_)
   | (with_reducible refine Asm.mk ?_ ?_; focus (first | kernel_rfl | decide))
   | (with_reducible refine isCP hcp ?_; first | (refine xP hcp (hcall) ?_; skip))
   | (with_reducible refine isCC hcc ?_; first | (refine xA hcc (hcall) rfl ?_; skip))
   | (with_reducible refine Asm.mk2 ?_ ?_)
   | ((fail_if_success (with_reducible first | refine hQ _ ?_ | refine Side.mk ?_ | refine isCP hcp ?_ | refine isCC hcc ?_ | refine isLP hlp ?_ | refine Ix.mk ?_ | refine SIx.mk ?_ | refine SEx.mk ?_ | refine EIx.mk ?_ | refine RIx.mk ?_ | refine LkX.mk ?_ | show False | refine hR ?_ _ ?_ ?_ ?_ ?_ ?_ | refine hR2 ?_ _ ?_ ?_ ?_ ?_ ?_)); cbv))
 all_goals (refine hQ _ ?_; clear hQ hcp hcc hlp; simp_all)
 all_goals (rw [if_neg (by omega)]; exact ⟨rfl, rfl⟩)
theorem rbuilt_c (op n vk vn : Int) (vs : ByteArray) (ar : List Ex) (es : List (List PV)) (hes : ar.map Ex.cells = es) (hw : (Ex.mk op n ⟨vk, vn, vs⟩ ar).wide) :
   PCall Tryz.prog 73 [.agg [.int .i64 op, .int .i64 n, .int .i64 vk, .int .i64 vn, .str vs, .sl es]] fun r => r = [.bool (builtM (.mk op n ⟨vk, vn, vs⟩ ar))] := by
 have h := rsize_c op n vk vn vs ar es hes hw
 rw [builtM]
 generalize sizeM (.mk op n ⟨vk, vn, vs⟩ ar) = p at *
 obtain ⟨a, b⟩ := p
 refine PCall.x (nt := 12) (res := [.tmp 2]) mixed tt_ok [] Tryz.func73 rfl rfl rfl c73 (Nat.le_of_ble_eq_true rfl) ?_
 intro cp cc lp Q' hcp hcc hlp hQ
 repeat' (first
   | (with_reducible refine Nm.mk ?_; intro z hz)
   | (with_reducible refine IfB.mk ?_ ?_ <;> (intro h; cases h))
   | (with_reducible refine Two.l ?_; refine Asm.mk ?_ ?_; focus (decide +kernel))
   | (with_reducible refine Two.r ?_)
   | (with_reducible refine TwoT.r ?_)
   | (with_reducible refine Asm.mk ?_ ?_; focus (first | kernel_rfl | decide))
   | (with_reducible refine isCP hcp ?_; first | (refine xP hcp (h) ?_; skip))
   | (with_reducible refine isCC hcc ?_; first | (refine xA hcc (h) rfl ?_; skip))
   | (with_reducible refine Asm.mk2 ?_ ?_)
   | ((fail_if_success (with_reducible first | refine hQ _ ?_ | refine Side.mk ?_ | refine isCP hcp ?_ | refine isCC hcc ?_ | refine isLP hlp ?_ | refine Ix.mk ?_ | refine SIx.mk ?_ | refine SEx.mk ?_ | refine EIx.mk ?_ | refine RIx.mk ?_ | refine LkX.mk ?_ | show False | refine hR ?_ _ ?_ ?_ ?_ ?_ ?_ | refine hR2 ?_ _ ?_ ?_ ?_ ?_ ?_)); cbv))
 all_goals (refine hQ _ ?_; clear hQ hcp hcc hlp; simp_all)
end Go.Proofs.YtlabphnonlicdaaGreat

namespace Go.Proofs.YtlabphnonlicdaaGreat
open Go Go.RowKit
set_option maxRecDepth 100000
set_option linter.unusedSimpArgs false
set_option linter.unusedVariables false
def insAt (x : Int) : List Int → Nat
 | [] => 0
 | y :: r => if y < x then insAt x r + 1 else 0
def insC (x : Int) (L : List Int) : List Int := if L[insAt x L]? = some x then L else L.take (insAt x L) ++ x :: L.drop (insAt x L)
mutual
def colsE : Ex → List Int → List Int
 | .mk op n _ ar, L => colsKL ar (if op = 1 then insC n L else L)
def colsKL : List Ex → List Int → List Int
 | [], L => L
 | e :: r, L => colsKL r (colsE e L)
end
theorem insAt_le (x : Int) : ∀ L : List Int, insAt x L ≤ L.length
 | [] => Nat.le_refl _
 | y :: r => by
   have := insAt_le x r
   rw [insAt]; split <;> simp; omega
theorem insAt_lt (x : Int) : ∀ (L : List Int) (i : Nat) (y : Int), i < insAt x L → L[i]? = some y → y < x
 | [], i, y, h, _ => by simp [insAt] at h
 | z :: r, i, y, h, hy => by
   rw [insAt] at h
   split at h
   · cases i with
     | zero => simp at hy; omega
     | succ i => exact insAt_lt x r i y (by omega) (by simpa using hy)
   · omega
theorem insAt_at (x : Int) : ∀ (L : List Int) (y : Int), L[insAt x L]? = some y → ¬ y < x
 | [], y, h => by simp [insAt] at h
 | z :: r, y, h => by
   rw [insAt] at h
   split at h
   · exact insAt_at x r y (by simpa using h)
   · simp at h; omega
theorem insC_len (x : Int) (L : List Int) : (insC x L).length ≤ L.length + 1 := by
 have := insAt_le x L
 rw [insC]; split
 · omega
 · simp; omega
theorem ACall.headK {P : Program} {f : FuncId} {x : AV} {y : PV} {args : List AV} {H : List AObj} {Q : AV → List AObj → Prop} (h : ACall P f (.p y :: args) H Q) (hx : pureX x = some y) : ACall P f (x :: args) H Q :=
 ⟨fun B G w vals wr rv => h.run B G w vals wr ⟨rv.1, fun i z v hz hv => by
   cases i with
   | zero =>
     simp only [List.getElem?_cons_zero, Option.some.injEq] at hz
     subst hz
     rw [pureX_eq] at hx
     exact .p (pure_ok (rv.2 0 x v rfl hv) hx)
   | succ i => exact rv.2 (i + 1) z v hz hv⟩⟩
theorem frameK {P : Program} {cc : FuncId → List AV → List AObj → (AV → List AObj → Prop) → Prop} (hcc : ACall P = cc) {f : FuncId} {args0 args rest : List AV} {x : AV} {y : PV} {H0 H1 H : List AObj} {X : AV} {K : AV → List AObj → Prop} (s : List Nat)
   (h : ACall P f (.p y :: args0) H0 fun r H' => r = X ∧ takeX H' (lenX H1) = H1) (hs : onceX s = true) (hl : lenX H1 = lenX s) (ha : args = x :: rest) (hx : pureX x = some y) (hr : rest = AV.renL s args0) (hH : optL (nth H) s = some (mapX (AObj.ren s) H0)) (hlt : (AV.ltL (lenX s) (.p y :: args0) && ltH (lenX s) H0 && (AV.ltB (lenX s) X && ltH (lenX s) H1)) = true)
   (k : K (AV.ren s X) (backX s s H1 H)) : cc f args H K := by
 subst hcc ha
 rw [lenX_eq s] at hl hlt
 rw [Bool.and_eq_true, Bool.and_eq_true (AV.ltB _ _)] at hlt
 refine ACall.headK ?_ hx
 rw [show (AV.p y :: rest) = AV.renL s (.p y :: args0) by rw [hr]; rfl]
 refine h.frame s hs rfl hH hlt.1 ?_
 rintro r H' ⟨rfl, hH'⟩
 rw [hl] at hH'
 rw [hH']
 exact ⟨hlt.2.1, by rw [← lenX_eq]; exact hl, hlt.2.2, k⟩
def colH (g n : Nat) (C : List (List PV)) : List AObj := [.cells [.vec 2 g 1 0 n], .cells [.fn 86 [.ref 0 0, .ref 1 0]], .vec g C 1]
def insG (x : Int) (p : Nat × List Int) : Nat × List Int := if p.2[insAt x p.2]? = some x then p else (p.1 + 1, p.2.take (insAt x p.2) ++ x :: p.2.drop (insAt x p.2))
mutual
def colsG : Ex → Nat × List Int → Nat × List Int
 | .mk op n _ ar, p => colsGL ar (if op = 1 then insG n p else p)
def colsGL : List Ex → Nat × List Int → Nat × List Int
 | [], p => p
 | e :: r, p => colsGL r (colsG e p)
end
theorem insG_2 (x : Int) (p : Nat × List Int) : (insG x p).2 = insC x p.2 := by
 rw [insG, insC]; split <;> rfl
mutual
theorem colsG_2 : ∀ (e : Ex) (p : Nat × List Int), (colsG e p).2 = colsE e p.2
 | .mk op n v ar, p => by
   rw [colsG, colsE, colsGL_2]
   split
   · rw [insG_2]
   · rfl
theorem colsGL_2 : ∀ (l : List Ex) (p : Nat × List Int), (colsGL l p).2 = colsKL l p.2
 | [], p => rfl
 | e :: r, p => by rw [colsGL, colsKL, colsGL_2, colsG_2]
end
mutual
theorem colsG_len : ∀ (e : Ex) (p : Nat × List Int), (colsG e p).2.length ≤ p.2.length + e.sz
 | .mk op n v ar, p => by
   rw [colsG, Ex.sz]
   have := colsGL_len ar (if op = 1 then insG n p else p)
   have h : (if op = 1 then insG n p else p).2.length ≤ p.2.length + 1 := by
     split
     · rw [insG_2]; exact insC_len n p.2
     · omega
   omega
theorem colsGL_len : ∀ (l : List Ex) (p : Nat × List Int), (colsGL l p).2.length ≤ p.2.length + szL l
 | [], p => by simp [colsGL, szL]
 | e :: r, p => by
   rw [colsGL, szL]
   have := colsGL_len r (colsG e p)
   have := colsG_len e p
   omega
end
def ColC (e : Ex) : Prop := ∀ (cells : List PV) (g : Nat) (L : List Int) (n : Nat) (C : List (List PV)), e.cells = cells → L.map i64c = C → C.length = n → L.length + e.sz ≤ 1000000 →
 ∃ g' L' n' C', colsG e (g, L) = (g', L') ∧ L'.map i64c = C' ∧ C'.length = n' ∧ ACall Tryz.prog 86 [.p (.agg cells), .ref 0 0, .ref 1 0] (colH g n C) fun r H' => r = .tup [] ∧ takeX H' 3 = colH g' n' C'
set_option maxHeartbeats 4000000 in
theorem col_c (op m vk vn : Int) (vs : ByteArray) (ar : List Ex) (es : List (List PV)) (hes : ar.map Ex.cells = es) (hal : ar.length ≤ 140737488355328) (IH : ∀ x, x ∈ ar → ColC x) (g : Nat) (L : List Int) (n : Nat) (C : List (List PV)) (hC : L.map i64c = C) (hn : C.length = n) (hsz : L.length + (szL ar + 1) ≤ 1000000)
   (g' : Nat) (L' : List Int) (n' : Nat) (C' : List (List PV)) (hq : colsG (.mk op m ⟨vk, vn, vs⟩ ar) (g, L) = (g', L')) (hC' : L'.map i64c = C') (hn' : C'.length = n') :
   ACall Tryz.prog 86 [.p (.agg [.int .i64 op, .int .i64 m, .int .i64 vk, .int .i64 vn, .str vs, .sl es]), .ref 0 0, .ref 1 0] (colH g n C) fun r H' => r = .tup [] ∧ takeX H' 3 = colH g' n' C' := by
 have hel : es.length = ar.length := by rw [← hes]; simp
 rw [colsG] at hq
 have hCl : C.length = L.length := by rw [← hC]; simp
 refine ACall.x (nt := 60) (res := []) mixed tt_ok [] Tryz.func86 rfl rfl rfl c86 (Nat.le_of_ble_eq_true rfl) ?_
 intro cp cc lp Q' hcp hcc hlp hQ
 repeat' (first
   | (with_reducible refine Nm.mk ?_; intro z hz)
   | (with_reducible refine IfB.mk ?_ ?_ <;> (intro h; cases h))
   | (with_reducible refine Two.l ?_; refine Asm.mk ?_ ?_; focus (decide +kernel))
   | (with_reducible refine Two.r ?_)
   | (with_reducible refine TwoT.r ?_)
   | (with_reducible refine Asm.mk ?_ ?_; focus (first | kernel_rfl | decide))
   | (with_reducible refine Asm.mk2 ?_ ?_)
   | ((fail_if_success (with_reducible first | refine hQ _ _ ?_ | refine Side.mk ?_ | refine isCP hcp ?_ | refine isCC hcc ?_ | refine isLP hlp ?_ | refine Ix.mk ?_ | refine SIx.mk ?_ | refine SEx.mk ?_ | refine EIx.mk ?_ | refine RIx.mk ?_ | refine LkX.mk ?_ | show False | refine hR ?_ _ ?_ ?_ ?_ ?_ ?_ | refine hR2 ?_ _ ?_ ?_ ?_ ?_ ?_)); cbv))
 · have hop : op = 1 := by simpa using (show decide (op = 1) = true by assumption)
   rw [if_pos hop] at hq
   obtain ⟨at0, hat⟩ : ∃ a, insAt m L = a := ⟨_, rfl⟩
   have hatl : at0 ≤ L.length := by rw [← hat]; exact insAt_le m L
   have hget : ∀ (k : Nat) (y : Int), L[k]? = some y → C[k]? = some [.int .i64 y] := by
     intro k y h; rw [← hC, List.getElem?_map, h]; rfl
   refine loopK (ι := Int) mixed tt_ok hcp hcc hlp [1, 2, 3] (fun i => [(4, .p (.int .i64 i))]) (fun i => 0 ≤ i ∧ i.toNat ≤ at0) (fun i => at0 - i.toNat) 0 (fun _ => rfl) ⟨by decide, Nat.zero_le _⟩ ⟨rfl, trivial⟩ ?_
   rintro R i ⟨hi0, hi1⟩ hR
   obtain ⟨y0, hy0⟩ : ∃ y, (L[i.toNat]?).getD 0 = y := ⟨_, rfl⟩
   have hidx : ∀ z : Int, (n : Int) = z → decide (i < z) = true → C[i.toNat]? = some [.int .i64 y0] := by
     intro z h1 h2
     simp only [decide_eq_true_eq] at h2
     have hlt : i.toNat < L.length := by omega
     refine hget _ _ ?_
     rw [← hy0, List.getElem?_eq_getElem hlt]; rfl
   have hoff : ∀ {z : Nat}, (0 + i.toNat) * 1 = z → i.toNat * 1 = z := by intro z h; omega
   have hin : ∀ {z : Int}, decide (i < z) = true → (n : Int) = z → 0 ≤ i ∧ i < (n : Int) := by
     intro z h1 h2; simp only [decide_eq_true_eq] at h1; omega
   have hin2 : ∀ {z : Int}, decide (i = z) = false → (n : Int) = z → 0 ≤ i ∧ i < (n : Int) := by
     intro z h1 h2; simp only [decide_eq_false_iff_not] at h1; omega
   have hidx2 : ∀ {z : Int}, decide (i = z) = false → (n : Int) = z → C[i.toNat]? = some [.int .i64 y0] := by
     intro z h1 h2
     simp only [decide_eq_false_iff_not] at h1
     refine hidx z h2 ?_
     simp only [decide_eq_true_eq]; omega
   have hile : i ≤ (n : Int) := by omega
   have hnl : n = L.length := by omega
   have hposA : ∀ {z : Int}, decide (i = z) = true → (n : Int) = z → i.toNat = at0 := by
     intro z h1 h2; simp only [decide_eq_true_eq] at h1; omega
   have hLy : i.toNat < L.length → L[i.toNat]? = some y0 := by
     intro h; rw [← hy0, List.getElem?_eq_getElem h]; rfl
   have hposB : ∀ {z : Int}, decide (y0 < m) = false → decide (i < z) = true → (n : Int) = z → i.toNat = at0 := by
     intro z h1 h2 h3
     simp only [decide_eq_true_eq, decide_eq_false_iff_not] at h1 h2
     rcases Nat.lt_or_ge i.toNat at0 with h | h
     · exact absurd (insAt_lt m L i.toNat y0 (by rw [hat]; exact h) (hLy (by omega))) h1
     · omega
   have hnotA : ∀ {z : Int}, decide (i = z) = true → (n : Int) = z → ¬ L[at0]? = some m := by
     intro z h1 h2 h3
     have := hposA h1 h2
     simp only [decide_eq_true_eq] at h1
     have := (List.getElem?_eq_some_iff.1 h3).1
     omega
   have hnotB : ∀ {z : Int}, (!decide (y0 = m)) = true → decide (y0 < m) = false → decide (i < z) = true → (n : Int) = z → ¬ L[at0]? = some m := by
     intro z h1 h2 h3 h4 h5
     have hp := hposB h2 h3 h4
     simp only [decide_eq_true_eq] at h3
     have e : ¬ y0 = m := by simpa using h1
     rw [← hp, hLy (by omega)] at h5
     simp only [Option.some.injEq] at h5
     exact e h5
   have hyes : ∀ {z : Int}, (!decide (y0 = m)) = false → decide (y0 < m) = false → decide (i < z) = true → (n : Int) = z → L[at0]? = some m := by
     intro z h1 h2 h3 h4
     have hp := hposB h2 h3 h4
     simp only [decide_eq_true_eq] at h3
     have e : y0 = m := by simpa using h1
     rw [← hp, ← e]; exact hLy (by omega)
   have hno : ∀ {z z2 : Int}, decide (i < z) = false → decide (i = z2) = false → (n : Int) = z → (n : Int) = z2 → False := by
     intro z z2 h1 h2 h3 h4
     simp only [decide_eq_false_iff_not] at h1 h2
     omega
   have hstep : ∀ {z : Int}, decide (i < z) = true → (n : Int) = z → decide (y0 < m) = true → IntKind.i64.wrap (i + 1) = i + 1 ∧ (i + 1).toNat ≤ at0 := by
     intro z h1 h2 h3
     simp only [decide_eq_true_eq] at h1 h3
     refine ⟨wrap_in (by omega), ?_⟩
     rcases Nat.lt_or_ge i.toNat at0 with h | h
     · omega
     · have he : i.toNat = at0 := by omega
       have := hLy (by omega)
       rw [he, ← hat] at this
       exact absurd h3 (insAt_at m L y0 this)
   have hok : okEs 1 C = true := by rw [← hC]; exact List.all_eq_true.2 fun e he => by obtain ⟨c, _, rfl⟩ := List.mem_map.1 he; rfl
   have hokt : ∀ k, okEs 1 (C.take k) = true := fun k => List.all_eq_true.2 fun e he => List.all_eq_true.1 hok e (List.mem_of_mem_take he)
   have hokd : ∀ k j, okEs 1 ((C.drop k).take j) = true := fun k j => List.all_eq_true.2 fun e he => List.all_eq_true.1 hok e (List.mem_of_mem_drop (List.mem_of_mem_take he))
   have hokm : okEs 1 [[PV.int .i64 m]] = true := rfl
   have hA : (0 : Int) ≤ 0 ∧ 0 ≤ i ∧ i ≤ (n : Int) := ⟨by decide, hi0, hile⟩
   have hB : 0 ≤ i ∧ i ≤ Int.ofNat n ∧ Int.ofNat n ≤ (n : Int) := ⟨hi0, hile, Int.le_refl _⟩
   have hC3 : ∀ {x y : Nat}, 0 + i.toNat = x → (Int.ofNat n).toNat - i.toNat = y → g = g ∧ 1 = 1 ∧ x + y ≤ C.length := by
     intro x y h1 h2
     have : (Int.ofNat n).toNat = n := rfl
     exact ⟨rfl, rfl, by omega⟩
   have hD : ∀ {x y : Nat} {z : List (List PV)}, (C.drop x).take y = z → okEs 1 [[PV.int .i64 m]] = true ∧ okEs 1 z = true ∧ [[PV.int .i64 m]].length + z.length ≤ maxLen ∧ ([[PV.int .i64 m]].length + z.length) * 8 ≤ 140737488355328 := by
     intro x y z h
     have hl : z.length ≤ 1000000 := by rw [← h, List.length_take, List.length_drop]; omega
     exact ⟨rfl, by rw [← h]; exact hokd x y, by simp only [List.length_cons, List.length_nil, maxLen]; omega, by simp only [List.length_cons, List.length_nil]; omega⟩
   have hE : ∀ {x y u v : Nat} {z z' : List (List PV)}, 0 + Int.toNat 0 = x → i.toNat - Int.toNat 0 = y → (C.drop u).take v = z → [[PV.int .i64 m]] ++ z = z' → g = g ∧ 1 = 1 ∧ x = 0 ∧ y ≤ C.length ∧ okEs 1 (C.take y) = true ∧ okEs 1 z' = true ∧ y + z'.length ≤ maxLen ∧ (y + z'.length) * 8 ≤ 140737488355328 := by
     intro x y u v z z' h1 h2 h3 h4
     have hl : z.length ≤ 1000000 := by rw [← h3, List.length_take, List.length_drop]; omega
     have h0 : Int.toNat 0 = 0 := rfl
     have hl2 : z'.length = 1 + z.length := by rw [← h4, List.length_append]; rfl
     refine ⟨rfl, rfl, by omega, by omega, hokt y, ?_, by simp only [maxLen]; omega, by omega⟩
     rw [← h4, ← h3]
     exact List.all_eq_true.2 fun e he => by
       rcases List.mem_append.1 he with h | h
       · exact List.all_eq_true.1 hokm e h
       · exact List.all_eq_true.1 (hokd u v) e h
   repeat' (first
     | (with_reducible refine Nm.mk ?_; intro z hz)
     | (with_reducible refine IfB.mk ?_ ?_ <;> (intro h; cases h))
     | (with_reducible refine Two.l ?_; refine Asm.mk ?_ ?_; focus (decide +kernel))
     | (with_reducible refine Two.r ?_)
     | (with_reducible refine TwoT.r ?_)
     | (with_reducible refine Asm.mk ?_ ?_; focus (first | rfl | exact hin (by assumption) (by assumption) | exact hin2 (by assumption) (by assumption) | exact hA | exact hB | exact hC3 (by assumption) (by assumption) | exact hD (by assumption) | exact hE (by assumption) (by assumption) (by assumption) (by assumption) | (show (_ : Bool) = true; kernel_rfl)))
     | (with_reducible refine EIx.at_ i.toNat [.int .i64 y0] (hoff (by assumption)) (hidx _ (by assumption) (by assumption)) ?_)
     | (with_reducible refine EIx.at_ i.toNat [.int .i64 y0] (hoff (by assumption)) (hidx2 (by assumption) (by assumption)) ?_)
     | (with_reducible refine Asm.mk2 ?_ ?_)
     | ((fail_if_success (with_reducible first | refine hQ _ _ ?_ | refine Side.mk ?_ | refine isCP hcp ?_ | refine isCC hcc ?_ | refine isLP hlp ?_ | refine Ix.mk ?_ | refine SIx.mk ?_ | refine SEx.mk ?_ | refine EIx.mk ?_ | refine RIx.mk ?_ | refine LkX.mk ?_ | show False | refine hR ?_ _ ?_ ?_ ?_ ?_ ?_ | refine hR2 ?_ _ ?_ ?_ ?_ ?_ ?_)); cbv))
   · have hlt : decide (y0 < m) = true := by assumption
     have hst := hstep (by assumption) (by assumption) hlt
     rw [hst.1] at hz
     exact hR (i + 1) _ ⟨by omega, hst.2⟩ (by omega) ⟨hz ▸ rfl, trivial⟩ ⟨rfl, rfl, rfl, trivial⟩ rfl
   · skip
     rename_i pz hpz pb hpb pu hpu pv hpv pd hpd pe hpe p3 hp3 pg hpg pn hpn pC hpC
     have hie : i.toNat = at0 := by first | exact hposA (by assumption) (by assumption) | exact hposB (by assumption) (by assumption) (by assumption)
     have hnot : ¬ L[at0]? = some m := by first | exact hnotA (by assumption) (by assumption) | exact hnotB (by assumption) (by assumption) (by assumption) (by assumption)
     rw [insG, hat, if_neg hnot] at hq
     have hb0 : pb = at0 := by
       have : Int.toNat 0 = 0 := rfl
       omega
     have hu0 : pu = at0 := by omega
     have hv0 : pv = n - at0 := by
       have : (Int.ofNat n).toNat = n := rfl
       omega
     have hcg : colsGL (ar.drop 0) (pg, L.take at0 ++ m :: L.drop at0) = (g', L') := by rw [List.drop_zero, ← hpg]; exact hq
     have hC1 : (L.take at0 ++ m :: L.drop at0).map i64c = pC := by
       rw [← hpC, ← hpe, ← hpd, hb0, hu0, hv0, ← hC, List.map_append, List.map_take, List.map_cons, List.map_drop, List.take_of_length_le (l := List.drop at0 (L.map i64c)) (by rw [List.length_drop, List.length_map]; omega)]
       rfl
     have hn1 : pC.length = pn := by rw [← hpC, ← hpn, List.length_append, List.length_take, Nat.min_eq_left (by omega)]
     have hsz1 : (L.take at0 ++ m :: L.drop at0).length + szL (ar.drop 0) ≤ 1000000 := by
       rw [List.drop_zero, List.length_append, List.length_take, List.length_cons, List.length_drop]; omega
     clear hpz hpb hpu hpv hpd hpe hp3 hpg hpn hpC hidx hoff hin hin2 hidx2 hok hokt hokd hokm hA hB hC3 hD hE hposA hposB hnotA hnotB hget hile hR
     all_goals (try simp only [nc] at hz)
     all_goals (try simp only [nc'] at hz)
     have hzl : z.toNat = ar.length ∧ 0 ≤ z := by omega
     obtain ⟨hzl, hzl0⟩ := hzl
     clear hz
     generalize z = zl at *
     refine loopT (ι := Int × Nat × List Int × Nat × List (List PV)) mixed tt_ok hcp hcc hlp [1, 2, 50, 51] (fun p => [(52, .p (.int .i64 p.1))]) (fun p => [.cells [.vec 2 p.2.1 1 0 p.2.2.2.1], .cells [.fn 86 [.ref 0 0, .ref 1 0]], .vec p.2.1 p.2.2.2.2 1, .cells [.p (.int .i64 op), .p (.int .i64 m), .p (.int .i64 vk), .p (.int .i64 vn), .p (.str vs), .p (.sl es)], .spare p3 1])
       (fun p => (0 ≤ p.1 ∧ p.1 ≤ zl) ∧ p.2.2.1.map i64c = p.2.2.2.2 ∧ p.2.2.2.2.length = p.2.2.2.1 ∧ p.2.2.1.length + szL (ar.drop p.1.toNat) ≤ 1000000 ∧ colsGL (ar.drop p.1.toNat) (p.2.1, p.2.2.1) = (g', L')) (fun p => (zl - p.1).toNat) (0, _, _, _, _) 5 (fun _ => rfl) ⟨⟨by show (0 : Int) ≤ 0; omega, by show (0 : Int) ≤ zl; omega⟩, hC1, hn1, hsz1, hcg⟩ ⟨rfl, trivial⟩ rfl ?_
     rintro R ⟨i, g2, L2, n2, C2⟩ ⟨⟨hi0, hi1⟩, hC2, hn2, hsz2, hcg2⟩ hR
     replace hi0 : 0 ≤ i := hi0
     replace hi1 : i ≤ zl := hi1
     replace hC2 : L2.map i64c = C2 := hC2
     replace hn2 : C2.length = n2 := hn2
     replace hsz2 : L2.length + szL (ar.drop i.toNat) ≤ 1000000 := hsz2
     replace hcg2 : colsGL (ar.drop i.toNat) (g2, L2) = (g', L') := hcg2
     have hk : decide (i < zl) = true → i < ar.length := by simp only [decide_eq_true_eq]; omega
     have hki : decide (i < zl) = true → i + 1 ≤ zl ∧ i < 9223372036854775806 := by simp only [decide_eq_true_eq]; omega
     have hdr : ∀ x, ar[i.toNat]? = some x → ar.drop i.toNat = x :: ar.drop (i + 1).toNat := by
       intro x hx
       rw [List.drop_eq_getElem_cons (List.getElem?_eq_some_iff.1 hx).1, (List.getElem?_eq_some_iff.1 hx).2, show (i + 1).toNat = i.toNat + 1 by omega]
     have hpc : ∀ (op' m' vk' vn' : Int) (vs' : ByteArray) (ar' : List Ex) (es' : List (List PV)), ar[i.toNat]? = some (.mk op' m' ⟨vk', vn', vs'⟩ ar') → ar'.map Ex.cells = es' → ∃ g3 L3 n3 C3, colsG (.mk op' m' ⟨vk', vn', vs'⟩ ar') (g2, L2) = (g3, L3) ∧ L3.map i64c = C3 ∧ C3.length = n3 ∧
         ACall Tryz.prog 86 [.p (.agg [.int .i64 op', .int .i64 m', .int .i64 vk', .int .i64 vn', .str vs', .sl es']), .ref 0 0, .ref 1 0] (colH g2 n2 C2) fun r H' => r = .tup [] ∧ takeX H' 3 = colH g3 n3 C3 := by
       intro op' m' vk' vn' vs' ar' es' hx he
       have hb : L2.length + (Ex.mk op' m' ⟨vk', vn', vs'⟩ ar').sz ≤ 1000000 := by
         rw [hdr _ hx, szL] at hsz2; omega
       exact IH _ (List.mem_of_getElem? hx) _ g2 L2 n2 C2 (by rw [cells_mk, he]) hC2 hn2 hb
     repeat' (first
       | (with_reducible refine Nm.mk ?_; intro z hz)
       | (with_reducible refine IfB.mk ?_ ?_ <;> (intro h; cases h))
       | (with_reducible refine Two.l ?_; refine Asm.mk ?_ ?_; focus (decide +kernel))
       | (with_reducible refine Two.r ?_)
       | (with_reducible refine TwoT.r ?_)
       | (with_reducible refine Asm.mk ?_ ?_; focus (show (_ : Bool) = true; kernel_rfl))
       | (with_reducible refine Ix.ex hes hi0 (hk (by assumption)) ?_; intro op' m' vk' vn' vs' ar' es' hx hes')
       | (with_reducible refine isCC hcc ?_; obtain ⟨g3, L3, n3, C3, hc3, hC3, hn3, hcall⟩ := hpc _ _ _ _ _ _ _ hx hes'; refine frameK (H1 := colH g3 n3 C3) hcc [0, 1, 2] hcall rfl rfl rfl rfl rfl rfl rfl ?_)
       | (with_reducible refine Asm.mk2 ?_ ?_)
       | ((fail_if_success (with_reducible first | refine hQ _ _ ?_ | refine Side.mk ?_ | refine isCP hcp ?_ | refine isCC hcc ?_ | refine isLP hlp ?_ | refine Ix.mk ?_ | refine SIx.mk ?_ | refine SEx.mk ?_ | refine EIx.mk ?_ | refine RIx.mk ?_ | refine LkX.mk ?_ | show False | refine hR ?_ _ ?_ ?_ ?_ ?_ ?_ | refine hR2 ?_ _ ?_ ?_ ?_ ?_ ?_)); cbv))
     all_goals first
       | (have hlt := hki (by assumption)
          have hwi : IntKind.i64.wrap (i + 1) = i + 1 := wrap_in (by omega)
          rw [hwi] at hz
          have hl3 := colsG_len (.mk op' m' ⟨vk', vn', vs'⟩ ar') (g2, L2)
          rw [hc3] at hl3
          have hl3' : L3.length ≤ L2.length + (Ex.mk op' m' ⟨vk', vn', vs'⟩ ar').sz := hl3
          rw [hdr _ hx, szL] at hsz2
          rw [hdr _ hx, colsGL, hc3] at hcg2
          exact hR (i + 1, g3, L3, n3, C3) _ ⟨⟨by show 0 ≤ i + 1; omega, by show i + 1 ≤ zl; omega⟩, hC3, hn3, by show L3.length + szL (ar.drop (i + 1).toNat) ≤ 1000000; omega, hcg2⟩ (by show (zl - (i + 1)).toNat < (zl - i).toNat; omega) ⟨hz ▸ rfl, trivial⟩ ⟨rfl, rfl, rfl, rfl, trivial⟩ rfl)
       | (have hge : ar.length ≤ i.toNat := by
            have : decide (i < zl) = false := by assumption
            simp only [decide_eq_false_iff_not] at this
            omega
          rw [List.drop_eq_nil_of_le hge, colsGL] at hcg2
          simp only [Prod.mk.injEq] at hcg2
          obtain ⟨q1, q2⟩ := hcg2
          refine hQ _ _ ⟨rfl, ?_⟩
          rw [← hn', ← hC', ← q1, ← q2, hC2, hn2]
          rfl)
   · skip
     rename_i pz hpz pb hpb pu hpu pv hpv pd hpd pe hpe p3 hp3 pg hpg pn hpn pC hpC
     have hie : i.toNat = at0 := by first | exact hposA (by assumption) (by assumption) | exact hposB (by assumption) (by assumption) (by assumption)
     have hnot : ¬ L[at0]? = some m := by first | exact hnotA (by assumption) (by assumption) | exact hnotB (by assumption) (by assumption) (by assumption) (by assumption)
     rw [insG, hat, if_neg hnot] at hq
     have hb0 : pb = at0 := by
       have : Int.toNat 0 = 0 := rfl
       omega
     have hu0 : pu = at0 := by omega
     have hv0 : pv = n - at0 := by
       have : (Int.ofNat n).toNat = n := rfl
       omega
     have hcg : colsGL (ar.drop 0) (pg, L.take at0 ++ m :: L.drop at0) = (g', L') := by rw [List.drop_zero, ← hpg]; exact hq
     have hC1 : (L.take at0 ++ m :: L.drop at0).map i64c = pC := by
       rw [← hpC, ← hpe, ← hpd, hb0, hu0, hv0, ← hC, List.map_append, List.map_take, List.map_cons, List.map_drop, List.take_of_length_le (l := List.drop at0 (L.map i64c)) (by rw [List.length_drop, List.length_map]; omega)]
       rfl
     have hn1 : pC.length = pn := by rw [← hpC, ← hpn, List.length_append, List.length_take, Nat.min_eq_left (by omega)]
     have hsz1 : (L.take at0 ++ m :: L.drop at0).length + szL (ar.drop 0) ≤ 1000000 := by
       rw [List.drop_zero, List.length_append, List.length_take, List.length_cons, List.length_drop]; omega
     clear hpz hpb hpu hpv hpd hpe hp3 hpg hpn hpC hidx hoff hin hin2 hidx2 hok hokt hokd hokm hA hB hC3 hD hE hposA hposB hnotA hnotB hget hile hR
     all_goals (try simp only [nc] at hz)
     all_goals (try simp only [nc'] at hz)
     have hzl : z.toNat = ar.length ∧ 0 ≤ z := by omega
     obtain ⟨hzl, hzl0⟩ := hzl
     clear hz
     generalize z = zl at *
     refine loopT (ι := Int × Nat × List Int × Nat × List (List PV)) mixed tt_ok hcp hcc hlp [1, 2, 50, 51] (fun p => [(52, .p (.int .i64 p.1))]) (fun p => [.cells [.vec 2 p.2.1 1 0 p.2.2.2.1], .cells [.fn 86 [.ref 0 0, .ref 1 0]], .vec p.2.1 p.2.2.2.2 1, .cells [.p (.int .i64 op), .p (.int .i64 m), .p (.int .i64 vk), .p (.int .i64 vn), .p (.str vs), .p (.sl es)], .spare p3 1])
       (fun p => (0 ≤ p.1 ∧ p.1 ≤ zl) ∧ p.2.2.1.map i64c = p.2.2.2.2 ∧ p.2.2.2.2.length = p.2.2.2.1 ∧ p.2.2.1.length + szL (ar.drop p.1.toNat) ≤ 1000000 ∧ colsGL (ar.drop p.1.toNat) (p.2.1, p.2.2.1) = (g', L')) (fun p => (zl - p.1).toNat) (0, _, _, _, _) 5 (fun _ => rfl) ⟨⟨by show (0 : Int) ≤ 0; omega, by show (0 : Int) ≤ zl; omega⟩, hC1, hn1, hsz1, hcg⟩ ⟨rfl, trivial⟩ rfl ?_
     rintro R ⟨i, g2, L2, n2, C2⟩ ⟨⟨hi0, hi1⟩, hC2, hn2, hsz2, hcg2⟩ hR
     replace hi0 : 0 ≤ i := hi0
     replace hi1 : i ≤ zl := hi1
     replace hC2 : L2.map i64c = C2 := hC2
     replace hn2 : C2.length = n2 := hn2
     replace hsz2 : L2.length + szL (ar.drop i.toNat) ≤ 1000000 := hsz2
     replace hcg2 : colsGL (ar.drop i.toNat) (g2, L2) = (g', L') := hcg2
     have hk : decide (i < zl) = true → i < ar.length := by simp only [decide_eq_true_eq]; omega
     have hki : decide (i < zl) = true → i + 1 ≤ zl ∧ i < 9223372036854775806 := by simp only [decide_eq_true_eq]; omega
     have hdr : ∀ x, ar[i.toNat]? = some x → ar.drop i.toNat = x :: ar.drop (i + 1).toNat := by
       intro x hx
       rw [List.drop_eq_getElem_cons (List.getElem?_eq_some_iff.1 hx).1, (List.getElem?_eq_some_iff.1 hx).2, show (i + 1).toNat = i.toNat + 1 by omega]
     have hpc : ∀ (op' m' vk' vn' : Int) (vs' : ByteArray) (ar' : List Ex) (es' : List (List PV)), ar[i.toNat]? = some (.mk op' m' ⟨vk', vn', vs'⟩ ar') → ar'.map Ex.cells = es' → ∃ g3 L3 n3 C3, colsG (.mk op' m' ⟨vk', vn', vs'⟩ ar') (g2, L2) = (g3, L3) ∧ L3.map i64c = C3 ∧ C3.length = n3 ∧
         ACall Tryz.prog 86 [.p (.agg [.int .i64 op', .int .i64 m', .int .i64 vk', .int .i64 vn', .str vs', .sl es']), .ref 0 0, .ref 1 0] (colH g2 n2 C2) fun r H' => r = .tup [] ∧ takeX H' 3 = colH g3 n3 C3 := by
       intro op' m' vk' vn' vs' ar' es' hx he
       have hb : L2.length + (Ex.mk op' m' ⟨vk', vn', vs'⟩ ar').sz ≤ 1000000 := by
         rw [hdr _ hx, szL] at hsz2; omega
       exact IH _ (List.mem_of_getElem? hx) _ g2 L2 n2 C2 (by rw [cells_mk, he]) hC2 hn2 hb
     repeat' (first
       | (with_reducible refine Nm.mk ?_; intro z hz)
       | (with_reducible refine IfB.mk ?_ ?_ <;> (intro h; cases h))
       | (with_reducible refine Two.l ?_; refine Asm.mk ?_ ?_; focus (decide +kernel))
       | (with_reducible refine Two.r ?_)
       | (with_reducible refine TwoT.r ?_)
       | (with_reducible refine Asm.mk ?_ ?_; focus (show (_ : Bool) = true; kernel_rfl))
       | (with_reducible refine Ix.ex hes hi0 (hk (by assumption)) ?_; intro op' m' vk' vn' vs' ar' es' hx hes')
       | (with_reducible refine isCC hcc ?_; obtain ⟨g3, L3, n3, C3, hc3, hC3, hn3, hcall⟩ := hpc _ _ _ _ _ _ _ hx hes'; refine frameK (H1 := colH g3 n3 C3) hcc [0, 1, 2] hcall rfl rfl rfl rfl rfl rfl rfl ?_)
       | (with_reducible refine Asm.mk2 ?_ ?_)
       | ((fail_if_success (with_reducible first | refine hQ _ _ ?_ | refine Side.mk ?_ | refine isCP hcp ?_ | refine isCC hcc ?_ | refine isLP hlp ?_ | refine Ix.mk ?_ | refine SIx.mk ?_ | refine SEx.mk ?_ | refine EIx.mk ?_ | refine RIx.mk ?_ | refine LkX.mk ?_ | show False | refine hR ?_ _ ?_ ?_ ?_ ?_ ?_ | refine hR2 ?_ _ ?_ ?_ ?_ ?_ ?_)); cbv))
     all_goals first
       | (have hlt := hki (by assumption)
          have hwi : IntKind.i64.wrap (i + 1) = i + 1 := wrap_in (by omega)
          rw [hwi] at hz
          have hl3 := colsG_len (.mk op' m' ⟨vk', vn', vs'⟩ ar') (g2, L2)
          rw [hc3] at hl3
          have hl3' : L3.length ≤ L2.length + (Ex.mk op' m' ⟨vk', vn', vs'⟩ ar').sz := hl3
          rw [hdr _ hx, szL] at hsz2
          rw [hdr _ hx, colsGL, hc3] at hcg2
          exact hR (i + 1, g3, L3, n3, C3) _ ⟨⟨by show 0 ≤ i + 1; omega, by show i + 1 ≤ zl; omega⟩, hC3, hn3, by show L3.length + szL (ar.drop (i + 1).toNat) ≤ 1000000; omega, hcg2⟩ (by show (zl - (i + 1)).toNat < (zl - i).toNat; omega) ⟨hz ▸ rfl, trivial⟩ ⟨rfl, rfl, rfl, rfl, trivial⟩ rfl)
       | (have hge : ar.length ≤ i.toNat := by
            have : decide (i < zl) = false := by assumption
            simp only [decide_eq_false_iff_not] at this
            omega
          rw [List.drop_eq_nil_of_le hge, colsGL] at hcg2
          simp only [Prod.mk.injEq] at hcg2
          obtain ⟨q1, q2⟩ := hcg2
          refine hQ _ _ ⟨rfl, ?_⟩
          rw [← hn', ← hC', ← q1, ← q2, hC2, hn2]
          rfl)
   · have hye : L[at0]? = some m := hyes (by assumption) (by assumption) (by assumption) (by assumption)
     rw [insG, hat, if_pos hye] at hq
     have hcg : colsGL (ar.drop 0) (g, L) = (g', L') := hq
     have hC1 := hC
     have hn1 := hn
     have hsz1 : L.length + szL (ar.drop 0) ≤ 1000000 := by rw [List.drop_zero]; omega
     clear hidx hoff hin hin2 hidx2 hok hokt hokd hokm hA hB hC3 hD hE hposA hposB hnotA hnotB hget hile hR
     all_goals (try simp only [nc] at hz)
     all_goals (try simp only [nc'] at hz)
     have hzl : z.toNat = ar.length ∧ 0 ≤ z := by omega
     obtain ⟨hzl, hzl0⟩ := hzl
     clear hz
     generalize z = zl at *
     refine loopT (ι := Int × Nat × List Int × Nat × List (List PV)) mixed tt_ok hcp hcc hlp [1, 2, 50, 51] (fun p => [(52, .p (.int .i64 p.1))]) (fun p => [.cells [.vec 2 p.2.1 1 0 p.2.2.2.1], .cells [.fn 86 [.ref 0 0, .ref 1 0]], .vec p.2.1 p.2.2.2.2 1, .cells [.p (.int .i64 op), .p (.int .i64 m), .p (.int .i64 vk), .p (.int .i64 vn), .p (.str vs), .p (.sl es)]])
       (fun p => (0 ≤ p.1 ∧ p.1 ≤ zl) ∧ p.2.2.1.map i64c = p.2.2.2.2 ∧ p.2.2.2.2.length = p.2.2.2.1 ∧ p.2.2.1.length + szL (ar.drop p.1.toNat) ≤ 1000000 ∧ colsGL (ar.drop p.1.toNat) (p.2.1, p.2.2.1) = (g', L')) (fun p => (zl - p.1).toNat) (0, _, _, _, _) 4 (fun _ => rfl) ⟨⟨by show (0 : Int) ≤ 0; omega, by show (0 : Int) ≤ zl; omega⟩, hC1, hn1, hsz1, hcg⟩ ⟨rfl, trivial⟩ rfl ?_
     rintro R ⟨i, g2, L2, n2, C2⟩ ⟨⟨hi0, hi1⟩, hC2, hn2, hsz2, hcg2⟩ hR
     replace hi0 : 0 ≤ i := hi0
     replace hi1 : i ≤ zl := hi1
     replace hC2 : L2.map i64c = C2 := hC2
     replace hn2 : C2.length = n2 := hn2
     replace hsz2 : L2.length + szL (ar.drop i.toNat) ≤ 1000000 := hsz2
     replace hcg2 : colsGL (ar.drop i.toNat) (g2, L2) = (g', L') := hcg2
     have hk : decide (i < zl) = true → i < ar.length := by simp only [decide_eq_true_eq]; omega
     have hki : decide (i < zl) = true → i + 1 ≤ zl ∧ i < 9223372036854775806 := by simp only [decide_eq_true_eq]; omega
     have hdr : ∀ x, ar[i.toNat]? = some x → ar.drop i.toNat = x :: ar.drop (i + 1).toNat := by
       intro x hx
       rw [List.drop_eq_getElem_cons (List.getElem?_eq_some_iff.1 hx).1, (List.getElem?_eq_some_iff.1 hx).2, show (i + 1).toNat = i.toNat + 1 by omega]
     have hpc : ∀ (op' m' vk' vn' : Int) (vs' : ByteArray) (ar' : List Ex) (es' : List (List PV)), ar[i.toNat]? = some (.mk op' m' ⟨vk', vn', vs'⟩ ar') → ar'.map Ex.cells = es' → ∃ g3 L3 n3 C3, colsG (.mk op' m' ⟨vk', vn', vs'⟩ ar') (g2, L2) = (g3, L3) ∧ L3.map i64c = C3 ∧ C3.length = n3 ∧
         ACall Tryz.prog 86 [.p (.agg [.int .i64 op', .int .i64 m', .int .i64 vk', .int .i64 vn', .str vs', .sl es']), .ref 0 0, .ref 1 0] (colH g2 n2 C2) fun r H' => r = .tup [] ∧ takeX H' 3 = colH g3 n3 C3 := by
       intro op' m' vk' vn' vs' ar' es' hx he
       have hb : L2.length + (Ex.mk op' m' ⟨vk', vn', vs'⟩ ar').sz ≤ 1000000 := by
         rw [hdr _ hx, szL] at hsz2; omega
       exact IH _ (List.mem_of_getElem? hx) _ g2 L2 n2 C2 (by rw [cells_mk, he]) hC2 hn2 hb
     repeat' (first
       | (with_reducible refine Nm.mk ?_; intro z hz)
       | (with_reducible refine IfB.mk ?_ ?_ <;> (intro h; cases h))
       | (with_reducible refine Two.l ?_; refine Asm.mk ?_ ?_; focus (decide +kernel))
       | (with_reducible refine Two.r ?_)
       | (with_reducible refine TwoT.r ?_)
       | (with_reducible refine Asm.mk ?_ ?_; focus (show (_ : Bool) = true; kernel_rfl))
       | (with_reducible refine Ix.ex hes hi0 (hk (by assumption)) ?_; intro op' m' vk' vn' vs' ar' es' hx hes')
       | (with_reducible refine isCC hcc ?_; obtain ⟨g3, L3, n3, C3, hc3, hC3, hn3, hcall⟩ := hpc _ _ _ _ _ _ _ hx hes'; refine frameK (H1 := colH g3 n3 C3) hcc [0, 1, 2] hcall rfl rfl rfl rfl rfl rfl rfl ?_)
       | (with_reducible refine Asm.mk2 ?_ ?_)
       | ((fail_if_success (with_reducible first | refine hQ _ _ ?_ | refine Side.mk ?_ | refine isCP hcp ?_ | refine isCC hcc ?_ | refine isLP hlp ?_ | refine Ix.mk ?_ | refine SIx.mk ?_ | refine SEx.mk ?_ | refine EIx.mk ?_ | refine RIx.mk ?_ | refine LkX.mk ?_ | show False | refine hR ?_ _ ?_ ?_ ?_ ?_ ?_ | refine hR2 ?_ _ ?_ ?_ ?_ ?_ ?_)); cbv))
     all_goals first
       | (have hlt := hki (by assumption)
          have hwi : IntKind.i64.wrap (i + 1) = i + 1 := wrap_in (by omega)
          rw [hwi] at hz
          have hl3 := colsG_len (.mk op' m' ⟨vk', vn', vs'⟩ ar') (g2, L2)
          rw [hc3] at hl3
          have hl3' : L3.length ≤ L2.length + (Ex.mk op' m' ⟨vk', vn', vs'⟩ ar').sz := hl3
          rw [hdr _ hx, szL] at hsz2
          rw [hdr _ hx, colsGL, hc3] at hcg2
          exact hR (i + 1, g3, L3, n3, C3) _ ⟨⟨by show 0 ≤ i + 1; omega, by show i + 1 ≤ zl; omega⟩, hC3, hn3, by show L3.length + szL (ar.drop (i + 1).toNat) ≤ 1000000; omega, hcg2⟩ (by show (zl - (i + 1)).toNat < (zl - i).toNat; omega) ⟨hz ▸ rfl, trivial⟩ ⟨rfl, rfl, rfl, rfl, trivial⟩ rfl)
       | (have hge : ar.length ≤ i.toNat := by
            have : decide (i < zl) = false := by assumption
            simp only [decide_eq_false_iff_not] at this
            omega
          rw [List.drop_eq_nil_of_le hge, colsGL] at hcg2
          simp only [Prod.mk.injEq] at hcg2
          obtain ⟨q1, q2⟩ := hcg2
          refine hQ _ _ ⟨rfl, ?_⟩
          rw [← hn', ← hC', ← q1, ← q2, hC2, hn2]
          rfl)
   · skip
     rename_i pz hpz pb hpb pu hpu pv hpv pd hpd pe hpe p3 hp3 pg hpg pn hpn pC hpC
     have hie : i.toNat = at0 := by first | exact hposA (by assumption) (by assumption) | exact hposB (by assumption) (by assumption) (by assumption)
     have hnot : ¬ L[at0]? = some m := by first | exact hnotA (by assumption) (by assumption) | exact hnotB (by assumption) (by assumption) (by assumption) (by assumption)
     rw [insG, hat, if_neg hnot] at hq
     have hb0 : pb = at0 := by
       have : Int.toNat 0 = 0 := rfl
       omega
     have hu0 : pu = at0 := by omega
     have hv0 : pv = n - at0 := by
       have : (Int.ofNat n).toNat = n := rfl
       omega
     have hcg : colsGL (ar.drop 0) (pg, L.take at0 ++ m :: L.drop at0) = (g', L') := by rw [List.drop_zero, ← hpg]; exact hq
     have hC1 : (L.take at0 ++ m :: L.drop at0).map i64c = pC := by
       rw [← hpC, ← hpe, ← hpd, hb0, hu0, hv0, ← hC, List.map_append, List.map_take, List.map_cons, List.map_drop, List.take_of_length_le (l := List.drop at0 (L.map i64c)) (by rw [List.length_drop, List.length_map]; omega)]
       rfl
     have hn1 : pC.length = pn := by rw [← hpC, ← hpn, List.length_append, List.length_take, Nat.min_eq_left (by omega)]
     have hsz1 : (L.take at0 ++ m :: L.drop at0).length + szL (ar.drop 0) ≤ 1000000 := by
       rw [List.drop_zero, List.length_append, List.length_take, List.length_cons, List.length_drop]; omega
     clear hpz hpb hpu hpv hpd hpe hp3 hpg hpn hpC hidx hoff hin hin2 hidx2 hok hokt hokd hokm hA hB hC3 hD hE hposA hposB hnotA hnotB hget hile hR
     all_goals (try simp only [nc] at hz)
     all_goals (try simp only [nc'] at hz)
     have hzl : z.toNat = ar.length ∧ 0 ≤ z := by omega
     obtain ⟨hzl, hzl0⟩ := hzl
     clear hz
     generalize z = zl at *
     refine loopT (ι := Int × Nat × List Int × Nat × List (List PV)) mixed tt_ok hcp hcc hlp [1, 2, 50, 51] (fun p => [(52, .p (.int .i64 p.1))]) (fun p => [.cells [.vec 2 p.2.1 1 0 p.2.2.2.1], .cells [.fn 86 [.ref 0 0, .ref 1 0]], .vec p.2.1 p.2.2.2.2 1, .cells [.p (.int .i64 op), .p (.int .i64 m), .p (.int .i64 vk), .p (.int .i64 vn), .p (.str vs), .p (.sl es)], .spare p3 1])
       (fun p => (0 ≤ p.1 ∧ p.1 ≤ zl) ∧ p.2.2.1.map i64c = p.2.2.2.2 ∧ p.2.2.2.2.length = p.2.2.2.1 ∧ p.2.2.1.length + szL (ar.drop p.1.toNat) ≤ 1000000 ∧ colsGL (ar.drop p.1.toNat) (p.2.1, p.2.2.1) = (g', L')) (fun p => (zl - p.1).toNat) (0, _, _, _, _) 5 (fun _ => rfl) ⟨⟨by show (0 : Int) ≤ 0; omega, by show (0 : Int) ≤ zl; omega⟩, hC1, hn1, hsz1, hcg⟩ ⟨rfl, trivial⟩ rfl ?_
     rintro R ⟨i, g2, L2, n2, C2⟩ ⟨⟨hi0, hi1⟩, hC2, hn2, hsz2, hcg2⟩ hR
     replace hi0 : 0 ≤ i := hi0
     replace hi1 : i ≤ zl := hi1
     replace hC2 : L2.map i64c = C2 := hC2
     replace hn2 : C2.length = n2 := hn2
     replace hsz2 : L2.length + szL (ar.drop i.toNat) ≤ 1000000 := hsz2
     replace hcg2 : colsGL (ar.drop i.toNat) (g2, L2) = (g', L') := hcg2
     have hk : decide (i < zl) = true → i < ar.length := by simp only [decide_eq_true_eq]; omega
     have hki : decide (i < zl) = true → i + 1 ≤ zl ∧ i < 9223372036854775806 := by simp only [decide_eq_true_eq]; omega
     have hdr : ∀ x, ar[i.toNat]? = some x → ar.drop i.toNat = x :: ar.drop (i + 1).toNat := by
       intro x hx
       rw [List.drop_eq_getElem_cons (List.getElem?_eq_some_iff.1 hx).1, (List.getElem?_eq_some_iff.1 hx).2, show (i + 1).toNat = i.toNat + 1 by omega]
     have hpc : ∀ (op' m' vk' vn' : Int) (vs' : ByteArray) (ar' : List Ex) (es' : List (List PV)), ar[i.toNat]? = some (.mk op' m' ⟨vk', vn', vs'⟩ ar') → ar'.map Ex.cells = es' → ∃ g3 L3 n3 C3, colsG (.mk op' m' ⟨vk', vn', vs'⟩ ar') (g2, L2) = (g3, L3) ∧ L3.map i64c = C3 ∧ C3.length = n3 ∧
         ACall Tryz.prog 86 [.p (.agg [.int .i64 op', .int .i64 m', .int .i64 vk', .int .i64 vn', .str vs', .sl es']), .ref 0 0, .ref 1 0] (colH g2 n2 C2) fun r H' => r = .tup [] ∧ takeX H' 3 = colH g3 n3 C3 := by
       intro op' m' vk' vn' vs' ar' es' hx he
       have hb : L2.length + (Ex.mk op' m' ⟨vk', vn', vs'⟩ ar').sz ≤ 1000000 := by
         rw [hdr _ hx, szL] at hsz2; omega
       exact IH _ (List.mem_of_getElem? hx) _ g2 L2 n2 C2 (by rw [cells_mk, he]) hC2 hn2 hb
     repeat' (first
       | (with_reducible refine Nm.mk ?_; intro z hz)
       | (with_reducible refine IfB.mk ?_ ?_ <;> (intro h; cases h))
       | (with_reducible refine Two.l ?_; refine Asm.mk ?_ ?_; focus (decide +kernel))
       | (with_reducible refine Two.r ?_)
       | (with_reducible refine TwoT.r ?_)
       | (with_reducible refine Asm.mk ?_ ?_; focus (show (_ : Bool) = true; kernel_rfl))
       | (with_reducible refine Ix.ex hes hi0 (hk (by assumption)) ?_; intro op' m' vk' vn' vs' ar' es' hx hes')
       | (with_reducible refine isCC hcc ?_; obtain ⟨g3, L3, n3, C3, hc3, hC3, hn3, hcall⟩ := hpc _ _ _ _ _ _ _ hx hes'; refine frameK (H1 := colH g3 n3 C3) hcc [0, 1, 2] hcall rfl rfl rfl rfl rfl rfl rfl ?_)
       | (with_reducible refine Asm.mk2 ?_ ?_)
       | ((fail_if_success (with_reducible first | refine hQ _ _ ?_ | refine Side.mk ?_ | refine isCP hcp ?_ | refine isCC hcc ?_ | refine isLP hlp ?_ | refine Ix.mk ?_ | refine SIx.mk ?_ | refine SEx.mk ?_ | refine EIx.mk ?_ | refine RIx.mk ?_ | refine LkX.mk ?_ | show False | refine hR ?_ _ ?_ ?_ ?_ ?_ ?_ | refine hR2 ?_ _ ?_ ?_ ?_ ?_ ?_)); cbv))
     all_goals first
       | (have hlt := hki (by assumption)
          have hwi : IntKind.i64.wrap (i + 1) = i + 1 := wrap_in (by omega)
          rw [hwi] at hz
          have hl3 := colsG_len (.mk op' m' ⟨vk', vn', vs'⟩ ar') (g2, L2)
          rw [hc3] at hl3
          have hl3' : L3.length ≤ L2.length + (Ex.mk op' m' ⟨vk', vn', vs'⟩ ar').sz := hl3
          rw [hdr _ hx, szL] at hsz2
          rw [hdr _ hx, colsGL, hc3] at hcg2
          exact hR (i + 1, g3, L3, n3, C3) _ ⟨⟨by show 0 ≤ i + 1; omega, by show i + 1 ≤ zl; omega⟩, hC3, hn3, by show L3.length + szL (ar.drop (i + 1).toNat) ≤ 1000000; omega, hcg2⟩ (by show (zl - (i + 1)).toNat < (zl - i).toNat; omega) ⟨hz ▸ rfl, trivial⟩ ⟨rfl, rfl, rfl, rfl, trivial⟩ rfl)
       | (have hge : ar.length ≤ i.toNat := by
            have : decide (i < zl) = false := by assumption
            simp only [decide_eq_false_iff_not] at this
            omega
          rw [List.drop_eq_nil_of_le hge, colsGL] at hcg2
          simp only [Prod.mk.injEq] at hcg2
          obtain ⟨q1, q2⟩ := hcg2
          refine hQ _ _ ⟨rfl, ?_⟩
          rw [← hn', ← hC', ← q1, ← q2, hC2, hn2]
          rfl)
   · exact (hno (by assumption) (by assumption) (by assumption) (by assumption)).elim
   · exact (hno (by assumption) (by assumption) (by assumption) (by assumption)).elim
 · have hop : ¬ op = 1 := by simpa using (show decide (op = 1) = false by assumption)
   rw [if_neg hop] at hq
   have hcg := hq
   have hC1 := hC
   have hn1 := hn
   have hsz1 : L.length + szL (ar.drop 0) ≤ 1000000 := by rw [List.drop_zero]; omega
   all_goals (try simp only [nc] at hz)
   all_goals (try simp only [nc'] at hz)
   have hzl : z.toNat = ar.length ∧ 0 ≤ z := by omega
   obtain ⟨hzl, hzl0⟩ := hzl
   clear hz
   generalize z = zl at *
   refine loopT (ι := Int × Nat × List Int × Nat × List (List PV)) mixed tt_ok hcp hcc hlp [1, 2, 50, 51] (fun p => [(52, .p (.int .i64 p.1))]) (fun p => [.cells [.vec 2 p.2.1 1 0 p.2.2.2.1], .cells [.fn 86 [.ref 0 0, .ref 1 0]], .vec p.2.1 p.2.2.2.2 1, .cells [.p (.int .i64 op), .p (.int .i64 m), .p (.int .i64 vk), .p (.int .i64 vn), .p (.str vs), .p (.sl es)]])
     (fun p => (0 ≤ p.1 ∧ p.1 ≤ zl) ∧ p.2.2.1.map i64c = p.2.2.2.2 ∧ p.2.2.2.2.length = p.2.2.2.1 ∧ p.2.2.1.length + szL (ar.drop p.1.toNat) ≤ 1000000 ∧ colsGL (ar.drop p.1.toNat) (p.2.1, p.2.2.1) = (g', L')) (fun p => (zl - p.1).toNat) (0, _, _, _, _) 4 (fun _ => rfl) ⟨⟨by show (0 : Int) ≤ 0; omega, by show (0 : Int) ≤ zl; omega⟩, hC1, hn1, hsz1, hcg⟩ ⟨rfl, trivial⟩ rfl ?_
   rintro R ⟨i, g2, L2, n2, C2⟩ ⟨⟨hi0, hi1⟩, hC2, hn2, hsz2, hcg2⟩ hR
   replace hi0 : 0 ≤ i := hi0
   replace hi1 : i ≤ zl := hi1
   replace hC2 : L2.map i64c = C2 := hC2
   replace hn2 : C2.length = n2 := hn2
   replace hsz2 : L2.length + szL (ar.drop i.toNat) ≤ 1000000 := hsz2
   replace hcg2 : colsGL (ar.drop i.toNat) (g2, L2) = (g', L') := hcg2
   have hk : decide (i < zl) = true → i < ar.length := by simp only [decide_eq_true_eq]; omega
   have hki : decide (i < zl) = true → i + 1 ≤ zl ∧ i < 9223372036854775806 := by simp only [decide_eq_true_eq]; omega
   have hdr : ∀ x, ar[i.toNat]? = some x → ar.drop i.toNat = x :: ar.drop (i + 1).toNat := by
     intro x hx
     rw [List.drop_eq_getElem_cons (List.getElem?_eq_some_iff.1 hx).1, (List.getElem?_eq_some_iff.1 hx).2, show (i + 1).toNat = i.toNat + 1 by omega]
   have hpc : ∀ (op' m' vk' vn' : Int) (vs' : ByteArray) (ar' : List Ex) (es' : List (List PV)), ar[i.toNat]? = some (.mk op' m' ⟨vk', vn', vs'⟩ ar') → ar'.map Ex.cells = es' → ∃ g3 L3 n3 C3, colsG (.mk op' m' ⟨vk', vn', vs'⟩ ar') (g2, L2) = (g3, L3) ∧ L3.map i64c = C3 ∧ C3.length = n3 ∧
       ACall Tryz.prog 86 [.p (.agg [.int .i64 op', .int .i64 m', .int .i64 vk', .int .i64 vn', .str vs', .sl es']), .ref 0 0, .ref 1 0] (colH g2 n2 C2) fun r H' => r = .tup [] ∧ takeX H' 3 = colH g3 n3 C3 := by
     intro op' m' vk' vn' vs' ar' es' hx he
     have hb : L2.length + (Ex.mk op' m' ⟨vk', vn', vs'⟩ ar').sz ≤ 1000000 := by
       rw [hdr _ hx, szL] at hsz2; omega
     exact IH _ (List.mem_of_getElem? hx) _ g2 L2 n2 C2 (by rw [cells_mk, he]) hC2 hn2 hb
   repeat' (first
     | (with_reducible refine Nm.mk ?_; intro z hz)
     | (with_reducible refine IfB.mk ?_ ?_ <;> (intro h; cases h))
     | (with_reducible refine Two.l ?_; refine Asm.mk ?_ ?_; focus (decide +kernel))
     | (with_reducible refine Two.r ?_)
     | (with_reducible refine TwoT.r ?_)
     | (with_reducible refine Asm.mk ?_ ?_; focus (show (_ : Bool) = true; kernel_rfl))
     | (with_reducible refine Ix.ex hes hi0 (hk (by assumption)) ?_; intro op' m' vk' vn' vs' ar' es' hx hes')
     | (with_reducible refine isCC hcc ?_; obtain ⟨g3, L3, n3, C3, hc3, hC3, hn3, hcall⟩ := hpc _ _ _ _ _ _ _ hx hes'; refine frameK (H1 := colH g3 n3 C3) hcc [0, 1, 2] hcall rfl rfl rfl rfl rfl rfl rfl ?_)
     | (with_reducible refine Asm.mk2 ?_ ?_)
     | ((fail_if_success (with_reducible first | refine hQ _ _ ?_ | refine Side.mk ?_ | refine isCP hcp ?_ | refine isCC hcc ?_ | refine isLP hlp ?_ | refine Ix.mk ?_ | refine SIx.mk ?_ | refine SEx.mk ?_ | refine EIx.mk ?_ | refine RIx.mk ?_ | refine LkX.mk ?_ | show False | refine hR ?_ _ ?_ ?_ ?_ ?_ ?_ | refine hR2 ?_ _ ?_ ?_ ?_ ?_ ?_)); cbv))
   all_goals first
     | (have hlt := hki (by assumption)
        have hwi : IntKind.i64.wrap (i + 1) = i + 1 := wrap_in (by omega)
        rw [hwi] at hz
        have hl3 := colsG_len (.mk op' m' ⟨vk', vn', vs'⟩ ar') (g2, L2)
        rw [hc3] at hl3
        have hl3' : L3.length ≤ L2.length + (Ex.mk op' m' ⟨vk', vn', vs'⟩ ar').sz := hl3
        rw [hdr _ hx, szL] at hsz2
        rw [hdr _ hx, colsGL, hc3] at hcg2
        exact hR (i + 1, g3, L3, n3, C3) _ ⟨⟨by show 0 ≤ i + 1; omega, by show i + 1 ≤ zl; omega⟩, hC3, hn3, by show L3.length + szL (ar.drop (i + 1).toNat) ≤ 1000000; omega, hcg2⟩ (by show (zl - (i + 1)).toNat < (zl - i).toNat; omega) ⟨hz ▸ rfl, trivial⟩ ⟨rfl, rfl, rfl, rfl, trivial⟩ rfl)
     | (have hge : ar.length ≤ i.toNat := by
          have : decide (i < zl) = false := by assumption
          simp only [decide_eq_false_iff_not] at this
          omega
        rw [List.drop_eq_nil_of_le hge, colsGL] at hcg2
        simp only [Prod.mk.injEq] at hcg2
        obtain ⟨q1, q2⟩ := hcg2
        refine hQ _ _ ⟨rfl, ?_⟩
        rw [← hn', ← hC', ← q1, ← q2, hC2, hn2]
        rfl)
end Go.Proofs.YtlabphnonlicdaaGreat

namespace Go.Proofs.YtlabphnonlicdaaGreat
open Go Go.RowKit
set_option maxRecDepth 100000
set_option linter.unusedSimpArgs false
set_option linter.unusedVariables false
theorem col_all : ∀ (m : Nat) (e : Ex), e.sz ≤ m → e.wide → ColC e
 | 0, .mk op m v ar, h, _ => by simp [Ex.sz] at h
 | k + 1, .mk op m ⟨vk, vn, vs⟩ ar, h, hw => by
   intro cells g L n C he hC hn hsz
   rw [cells_mk] at he
   subst he
   have hwi : wideN ar.length ∧ wideL ar := by rw [Ex.wide] at hw; exact hw
   have hwn : wideN ar.length := hwi.1
   unfold wideN at hwn
   refine ⟨_, _, _, _, rfl, rfl, rfl, col_c op m vk vn vs ar _ rfl (by omega) (fun x hx => col_all k x ?_ (wide_mem hwi.2 hx)) g L n C hC hn (by rw [Ex.sz] at hsz; exact hsz) _ _ _ _ rfl rfl rfl⟩
   have := sz_mem hx
   simp only [Ex.sz] at h; omega
mutual
theorem walk_count : ∀ (e : Ex) (d k h : Int), (walkE e d k h).1 = true → (walkE e d k h).2.1 = k + e.sz
 | .mk op m v ar, d, k, h, hw => by
   rw [walkE] at hw ⊢
   split at hw
   · cases hw
   · rename_i hb
     rw [if_neg hb, walkL_count ar _ _ _ hw, Ex.sz]
     omega
theorem walkL_count : ∀ (l : List Ex) (d k h : Int), (walkL l d k h).1 = true → (walkL l d k h).2.1 = k + szL l
 | [], d, k, h, _ => by simp [walkL, szL]
 | a :: r, d, k, h, hw => by
   have he := walk_count a d k h
   rw [walkL] at hw ⊢
   rcases hx : walkE a d k h with ⟨b, k', h'⟩
   rw [hx] at hw he
   cases b with
   | false => cases hw
   | true =>
     have he2 : k' = k + a.sz := he rfl
     dsimp only at hw ⊢
     rw [walkL_count r d k' h' hw, szL, he2]
     omega
end
theorem built_szK {e : Ex} (hb : builtM e = true) : e.sz ≤ 400 := by
 have hb2 : (sizeM e).1 ≤ 400 := of_decide_eq_true hb
 cases hw : (walkE e 1 0 0).1 with
 | true =>
   rw [sizeM, if_pos hw] at hb2
   have := walk_count e 1 0 0 hw
   have hb3 : (walkE e 1 0 0).2.1 ≤ 400 := hb2
   omega
 | false =>
   rw [sizeM, if_neg (by rw [hw]; decide)] at hb2
   exact absurd hb2 (by decide)
def colsKM (e : Ex) : List Int := if builtM e = true then colsE e [] else []
theorem rcolumns_c (op n vk vn : Int) (vs : ByteArray) (ar : List Ex) (es : List (List PV)) (hes : ar.map Ex.cells = es) (hw : (Ex.mk op n ⟨vk, vn, vs⟩ ar).wide) :
   PCall Tryz.prog 79 [.agg [.int .i64 op, .int .i64 n, .int .i64 vk, .int .i64 vn, .str vs, .sl es]] fun r => r = [.sl ((colsKM (.mk op n ⟨vk, vn, vs⟩ ar)).map i64c)] := by
 have hbc := rbuilt_c op n vk vn vs ar es hes hw
 obtain ⟨bt, hbt⟩ : ∃ b, builtM (.mk op n ⟨vk, vn, vs⟩ ar) = b := ⟨_, rfl⟩
 obtain ⟨g', L', n', C', hc, hC', hn', hcall⟩ : ∃ g' L' n' C', colsG (.mk op n ⟨vk, vn, vs⟩ ar) (0, []) = (g', L') ∧ L'.map i64c = C' ∧ C'.length = n' ∧ (bt = true → ACall Tryz.prog 86 [.p (.agg [.int .i64 op, .int .i64 n, .int .i64 vk, .int .i64 vn, .str vs, .sl es]), .ref 0 0, .ref 1 0] (colH 0 0 []) fun r H' => r = .tup [] ∧ takeX H' 3 = colH g' n' C') := by
   cases hb : bt with
   | false => exact ⟨_, _, _, _, rfl, rfl, rfl, fun h => by cases h⟩
   | true =>
     rw [hb] at hbt
     obtain ⟨g', L', n', C', h1, h2, h3, h4⟩ := col_all _ (.mk op n ⟨vk, vn, vs⟩ ar) (Nat.le_refl _) hw _ 0 [] 0 [] (by rw [cells_mk, hes]) rfl rfl (by have := built_szK hbt; simp; omega)
     exact ⟨g', L', n', C', h1, h2, h3, fun _ => h4⟩
 have hL' : colsE (.mk op n ⟨vk, vn, vs⟩ ar) [] = L' := by
   have := colsG_2 (.mk op n ⟨vk, vn, vs⟩ ar) (0, [])
   rw [hc] at this
   exact this.symm
 rw [colsKM, hbt, hL']
 rw [hbt] at hbc
 have hbn : ∀ {z : Bool}, bt = z → (!z) = false → bt = true := by rintro z rfl h; simpa using h
 have hbf : ∀ {z : Bool}, bt = z → (!z) = true → bt = false := by rintro z rfl h; simpa using h
 refine PCall.x (nt := 13) (res := [.tmp 2]) mixed tt_ok [] Tryz.func79 rfl rfl rfl c79 (Nat.le_of_ble_eq_true rfl) ?_
 intro cp cc lp Q' hcp hcc hlp hQ
 repeat' (first
   | (with_reducible refine Nm.mk ?_; intro z hz)
   | (with_reducible refine IfB.mk ?_ ?_ <;> (intro h; cases h))
   | (with_reducible refine Two.l ?_; refine Asm.mk ?_ ?_; focus (decide +kernel))
   | (with_reducible refine Two.r ?_)
   | (with_reducible refine TwoT.r ?_)
   | (with_reducible refine Asm.mk ?_ ?_; focus kernel_rfl)
   | (with_reducible refine isCP hcp ?_; first | (refine bP hcp (hbc) ?_; intro z hz))
   | (with_reducible refine isCC hcc ?_; first | (refine bA hcc (hbc) rfl ?_; intro z hz))
   | (with_reducible refine isCC hcc ?_; refine mintCC hcc 1 1 0 rfl rfl ?_; refine frameK (H1 := colH g' n' C') hcc [1, 2, 3] (hcall (hbn (by assumption) (by assumption))) rfl rfl rfl rfl rfl rfl rfl ?_)
   | (with_reducible refine Asm.mk2 ?_ ?_)
   | ((fail_if_success (with_reducible first | refine hQ _ ?_ | refine Side.mk ?_ | refine isCP hcp ?_ | refine isCC hcc ?_ | refine isLP hlp ?_ | refine Ix.mk ?_ | refine SIx.mk ?_ | refine SEx.mk ?_ | refine EIx.mk ?_ | refine RIx.mk ?_ | refine LkX.mk ?_ | show False | refine hR ?_ _ ?_ ?_ ?_ ?_ ?_ | refine hR2 ?_ _ ?_ ?_ ?_ ?_ ?_)); cbv))
 · refine hQ _ ?_
   rw [hbf (by assumption) (by assumption), if_neg (by decide)]; rfl
 · exact ⟨⟨rfl, by omega⟩⟩
 · have hbt2 := hbn (by assumption) (by assumption)
   refine hQ _ ?_
   rw [if_pos hbt2, hC', ← hz, List.drop_zero, List.take_of_length_le (by omega)]
end Go.Proofs.YtlabphnonlicdaaGreat

namespace Go.Proofs.YtlabphnonlicdaaGreat
open Go Go.RowKit
set_option maxRecDepth 100000
set_option linter.unusedSimpArgs false
set_option linter.unusedVariables false
def fitK (w : Int) (l : List Int) : Bool := l.all fun k => decide (k = w) || decide (k = 0)
def pairK (a b : Int) : Bool := decide (a = b) || decide (a = 0) || decide (b = 0)
theorem Ix.giveK {es : Nat} {l : List (List PV)} {n : Int} {K : List PV → Prop} {e : List PV} (h0 : 0 ≤ n) (h : l[n.toNat]? = some e) (he : e.length = es) (hes : es ≠ 0) (k : K e) : Ix es l n K := ⟨⟨e, h0, h, he, hes, k⟩⟩
theorem pair_c (a b : Int) : PCall Tryz.prog 88 [.int .i64 a, .int .i64 b] fun r => r = [.int .i64 (mx a b), .bool (pairK a b)] := by
 refine PCall.x (nt := 20) (res := [.tmp 4, .tmp 5]) mixed tt_ok [] Tryz.func88 rfl rfl rfl c88 (Nat.le_of_ble_eq_true rfl) ?_
 intro cp cc lp Q' hcp hcc hlp hQ
 repeat' (first
   | (with_reducible refine Nm.mk ?_; intro z hz)
   | (with_reducible refine IfB.mk ?_ ?_ <;> (intro h; cases h))
   | (with_reducible refine Two.l ?_; refine Asm.mk ?_ ?_; focus (decide +kernel))
   | (with_reducible refine Two.r ?_)
   | (with_reducible refine TwoT.r ?_)
   | (with_reducible refine Asm.mk ?_ ?_; focus (first | kernel_rfl | decide))
   | (with_reducible refine Asm.mk2 ?_ ?_)
   | ((fail_if_success (with_reducible first | refine hQ _ ?_ | refine Side.mk ?_ | refine isCP hcp ?_ | refine isCC hcc ?_ | refine isLP hlp ?_ | refine Ix.mk ?_ | refine SIx.mk ?_ | refine SEx.mk ?_ | refine EIx.mk ?_ | refine RIx.mk ?_ | refine LkX.mk ?_ | show False | refine hR ?_ _ ?_ ?_ ?_ ?_ ?_ | refine hR2 ?_ _ ?_ ?_ ?_ ?_ ?_)); cbv))
 all_goals (refine hQ _ ?_; clear hQ hcp hcc hlp; simp_all [mx, pairK])
theorem kfit_c (w : Int) (l : List Int) (C : List (List PV)) (hC : l.map i64c = C) : PCall Tryz.prog 87 [.int .i64 w, .sl C] fun r => r = [.bool (fitK w l)] := by
 refine PCall.know c87 fun hkn => ?_
 have k1 : C.length ≤ maxLen := hkn (.sl C) (by simp)
 clear hkn
 rw [maxLen_eq] at k1
 have b1 : C.length = l.length := by rw [← hC]; simp
 obtain ⟨q, hq⟩ : ∃ q, fitK w l = q := ⟨_, rfl⟩
 rw [hq]
 refine PCall.x (nt := 21) (res := [.tmp 4]) mixed tt_ok [] Tryz.func87 rfl rfl rfl c87 (Nat.le_of_ble_eq_true rfl) ?_
 intro cp cc lp Q' hcp hcc hlp hQ
 repeat' (first
   | (with_reducible refine Nm.mk ?_; intro z hz)
   | (with_reducible refine IfB.mk ?_ ?_ <;> (intro h; cases h))
   | (with_reducible refine Two.l ?_; refine Asm.mk ?_ ?_; focus (decide +kernel))
   | (with_reducible refine Two.r ?_)
   | (with_reducible refine TwoT.r ?_)
   | (with_reducible refine Asm.mk ?_ ?_; focus (first | kernel_rfl | decide))
   | (with_reducible refine Asm.mk2 ?_ ?_)
   | ((fail_if_success (with_reducible first | refine hQ _ ?_ | refine Side.mk ?_ | refine isCP hcp ?_ | refine isCC hcc ?_ | refine isLP hlp ?_ | refine Ix.mk ?_ | refine SIx.mk ?_ | refine SEx.mk ?_ | refine EIx.mk ?_ | refine RIx.mk ?_ | refine LkX.mk ?_ | show False | refine hR ?_ _ ?_ ?_ ?_ ?_ ?_ | refine hR2 ?_ _ ?_ ?_ ?_ ?_ ?_)); cbv))
 simp only [nc] at hz
 simp only [nc'] at hz
 have hzl : z.toNat = l.length ∧ 0 ≤ z ∧ z ≤ 9223372036854775807 := by omega
 obtain ⟨hzl, hzl0, hzl1⟩ := hzl
 clear hz
 generalize z = zl at *
 refine loopK (ι := Int) mixed tt_ok hcp hcc hlp [0, 7, 8] (fun i => [(9, .p (.int .i64 i))]) (fun i => (0 ≤ i ∧ i ≤ zl) ∧ fitK w (l.drop i.toNat) = q) (fun i => (zl - i).toNat) 0 (fun _ => rfl) ⟨⟨by omega, by omega⟩, hq⟩ ⟨rfl, trivial⟩ ?_
 rintro R i ⟨⟨hi0, hi1⟩, hf⟩ hR
 have hk : decide (i < zl) = true → i < l.length := by simp only [decide_eq_true_eq]; omega
 have hki : decide (i < zl) = true → IntKind.i64.wrap (i + 1) = i + 1 ∧ i + 1 ≤ zl := by simp only [decide_eq_true_eq]; intro h; exact ⟨wrap_in (by omega), by omega⟩
 have hdr : ∀ x, l[i.toNat]? = some x → l.drop i.toNat = x :: l.drop (i + 1).toNat := by
   intro x hx
   rw [List.drop_eq_getElem_cons (List.getElem?_eq_some_iff.1 hx).1, (List.getElem?_eq_some_iff.1 hx).2, show (i + 1).toNat = i.toNat + 1 by omega]
 have hcons : ∀ x, l[i.toNat]? = some x → (decide (x = w) || decide (x = 0)) = true → fitK w (l.drop (i + 1).toNat) = q := by
   intro x hx h
   rw [← hf, hdr x hx, fitK, fitK, List.all_cons, h, Bool.true_and]
 have hcons0 : ∀ x, l[i.toNat]? = some x → (decide (x = w) || decide (x = 0)) = false → q = false := by
   intro x hx h
   rw [← hf, hdr x hx, fitK, List.all_cons, h, Bool.false_and]
 have c1 : ∀ {x : Int}, (!decide (x = 0)) = false → (decide (x = w) || decide (x = 0)) = true := by intro x h; cases h2 : decide (x = 0) <;> simp_all
 have c2 : ∀ {x : Int}, (!decide (x = w)) = false → (decide (x = w) || decide (x = 0)) = true := by intro x h; cases h2 : decide (x = w) <;> simp_all
 have c3 : ∀ {x : Int}, (!decide (x = w)) = true → (!decide (x = 0)) = true → (decide (x = w) || decide (x = 0)) = false := by intro x h h'; cases h2 : decide (x = w) <;> cases h3 : decide (x = 0) <;> simp_all
 repeat' (first
   | (with_reducible refine Nm.mk ?_; intro z hz)
   | (with_reducible refine IfB.mk ?_ ?_ <;> (intro h; cases h))
   | (with_reducible refine Two.l ?_; refine Asm.mk ?_ ?_; focus (decide +kernel))
   | (with_reducible refine Two.r ?_)
   | (with_reducible refine TwoT.r ?_)
   | (with_reducible refine Asm.mk ?_ ?_; focus (show (_ : Bool) = true; kernel_rfl))
   | (with_reducible refine Ix.map hC i64c_len (by decide) hi0 (hk (by assumption)) ?_; intro x hx)
   | (with_reducible refine Asm.mk2 ?_ ?_)
   | ((fail_if_success (with_reducible first | refine hQ _ ?_ | refine Side.mk ?_ | refine isCP hcp ?_ | refine isCC hcc ?_ | refine isLP hlp ?_ | refine Ix.mk ?_ | refine SIx.mk ?_ | refine SEx.mk ?_ | refine EIx.mk ?_ | refine RIx.mk ?_ | refine LkX.mk ?_ | show False | refine hR ?_ _ ?_ ?_ ?_ ?_ ?_ | refine hR2 ?_ _ ?_ ?_ ?_ ?_ ?_)); cbv))
 all_goals first
   | (refine hQ _ ?_
      rw [hcons0 x hx (c3 (by assumption) (by assumption))])
   | (refine hQ _ ?_
      have : decide (i < zl) = false := by assumption
      simp only [decide_eq_false_iff_not] at this
      rw [← hf, List.drop_eq_nil_of_le (by omega)]
      rfl)
   | (obtain ⟨e1, e2⟩ := hki (by assumption)
      rw [e1] at hz
      exact hR (i + 1) _ ⟨⟨by omega, e2⟩, hcons x hx (by first | exact c1 (by assumption) | exact c2 (by assumption))⟩ (by omega) ⟨hz ▸ rfl, trivial⟩ ⟨rfl, rfl, rfl, trivial⟩ rfl)
mutual
def kindE (K : List Int) : Ex → Int × Bool
 | .mk op m v ar => match kindL K ar with
   | none => (0, false)
   | some l =>
     if op = 1 then ((K[m.toNat]?).getD 0, true) else if op = 2 then ((clean v).k, true) else if op = 5 then (1, true) else if op = 6 then (1, fitK 2 l) else if op = 18 then (2, fitK 2 l)
     else if 12 ≤ op ∧ op ≤ 17 then (1, pairK ((l[0]?).getD 0) ((l[1]?).getD 0))
     else if op = 21 then (mx ((l[1]?).getD 0) ((l[2]?).getD 0), pairK ((l[1]?).getD 0) ((l[2]?).getD 0) && fitK 1 [(l[0]?).getD 0])
     else (1, fitK 1 l)
def kindL (K : List Int) : List Ex → Option (List Int)
 | [] => some []
 | e :: r => match kindE K e with
   | (k, true) => (kindL K r).map (k :: ·)
   | (_, false) => none
end
mutual
def Ex.fine (n : Nat) : Ex → Prop
 | .mk op m _ ar => arityE op = (ar.length : Int) ∧ (op = 1 → 0 ≤ m ∧ m < n) ∧ fineL n ar
def fineL (n : Nat) : List Ex → Prop
 | [] => True
 | e :: r => e.fine n ∧ fineL n r
end
theorem fine_mem {n : Nat} : ∀ {l : List Ex} {e : Ex}, fineL n l → e ∈ l → e.fine n
 | [], _, _, h => by simp at h
 | a :: r, e, hw, h => by
   rw [fineL] at hw
   rcases List.mem_cons.1 h with rfl | h
   · exact hw.1
   · exact fine_mem hw.2 h
def KindC (K : List Int) (e : Ex) : Prop := ∀ (cells : List PV) (C : List (List PV)), e.cells = cells → K.map i64c = C → ∃ k b, kindE K e = (k, b) ∧ PCall Tryz.prog 80 [.agg cells, .sl C] fun r => r = [.int .i64 k, .bool b]
set_option maxHeartbeats 4000000 in
theorem kind_c (K : List Int) (C : List (List PV)) (hC : K.map i64c = C) (op m vk vn : Int) (vs : ByteArray) (ar : List Ex) (es : List (List PV)) (hes : ar.map Ex.cells = es) (hal : (ar.length : Int) = arityE op) (hm : op = 1 → 0 ≤ m ∧ m < K.length) (IH : ∀ x, x ∈ ar → KindC K x) (k : Int) (b : Bool) (hq : kindE K (.mk op m ⟨vk, vn, vs⟩ ar) = (k, b)) :
   PCall Tryz.prog 80 [.agg [.int .i64 op, .int .i64 m, .int .i64 vk, .int .i64 vn, .str vs, .sl es], .sl C] fun r => r = [.int .i64 k, .bool b] := by
 have hel : es.length = ar.length := by rw [← hes]; simp
 have ha3 : arityE op ≤ 3 := by unfold arityE; (repeat' split) <;> omega
 have ha4 : ar.length ≤ 3 := by omega
 have hal2 : ar.length = (arityE op).toNat ∧ 0 ≤ arityE op := by omega
 clear hal
 rw [kindE] at hq
 refine PCall.x (nt := 121) (res := [.tmp 4, .tmp 5]) mixed tt_ok [] Tryz.func80 rfl rfl rfl c80 (Nat.le_of_ble_eq_true rfl) ?_
 intro cp cc lp Q' hcp hcc hlp hQ
 repeat' (first
   | (with_reducible refine Nm.mk ?_; intro z hz)
   | (with_reducible refine IfB.mk ?_ ?_ <;> (intro h; cases h))
   | (with_reducible refine Two.l ?_; refine Asm.mk ?_ ?_; focus (decide +kernel))
   | (with_reducible refine Two.r ?_)
   | (with_reducible refine TwoT.r ?_)
   | (with_reducible refine Asm.mk ?_ ?_; focus (first | kernel_rfl | decide))
   | (with_reducible refine Asm.mk2 ?_ ?_)
   | ((fail_if_success (with_reducible first | refine hQ _ ?_ | refine Side.mk ?_ | refine isCP hcp ?_ | refine isCC hcc ?_ | refine isLP hlp ?_ | refine Ix.mk ?_ | refine SIx.mk ?_ | refine SEx.mk ?_ | refine EIx.mk ?_ | refine RIx.mk ?_ | refine LkX.mk ?_ | show False | refine hR ?_ _ ?_ ?_ ?_ ?_ ?_ | refine hR2 ?_ _ ?_ ?_ ?_ ?_ ?_)); cbv))
 simp only [nc] at hz
 simp only [nc'] at hz
 have hzl : z.toNat = ar.length ∧ 0 ≤ z ∧ z ≤ 3 := by omega
 obtain ⟨hzl, hzl0, hzl1⟩ := hzl
 clear hz
 generalize z = zl at *
 refine mintT hlp 1 6 rfl ?_
 refine loopT (ι := Int × List Int × List (List PV) × Nat) mixed tt_ok hcp hcc hlp [1, 2, 18, 19] (fun p => [(6, .tok 1 p.2.2.1), (20, .p (.int .i64 p.1))]) (fun p => [.cells [.p (.int .i64 op), .p (.int .i64 m), .p (.int .i64 vk), .p (.int .i64 vn), .p (.str vs), .p (.sl es)], .spare p.2.2.2 1])
   (fun p => (0 ≤ p.1 ∧ p.1 ≤ zl) ∧ p.2.1.map i64c = p.2.2.1 ∧ p.2.2.1.length = p.2.2.2 ∧ p.2.1.length = p.1.toNat ∧ kindL K ar = (kindL K (ar.drop p.1.toNat)).map (p.2.1 ++ ·)) (fun p => (zl - p.1).toNat) (0, [], [], 0) 2 (fun _ => rfl) ⟨⟨by show (0 : Int) ≤ 0; omega, by show (0 : Int) ≤ zl; omega⟩, rfl, rfl, rfl, by show _ = (kindL K (ar.drop 0)).map _; rw [List.drop_zero]; cases kindL K ar <;> rfl⟩ ⟨rfl, rfl, trivial⟩ rfl ?_
 rintro R ⟨i, acc, C1, m1⟩ ⟨⟨hi0, hi1⟩, hC1, hm1, hacc, hkl⟩ hR
 replace hi0 : 0 ≤ i := hi0
 replace hi1 : i ≤ zl := hi1
 replace hC1 : acc.map i64c = C1 := hC1
 replace hm1 : C1.length = m1 := hm1
 replace hacc : acc.length = i.toNat := hacc
 replace hkl : kindL K ar = (kindL K (ar.drop i.toNat)).map (acc ++ ·) := hkl
 have hok : okEs 1 C1 = true := by rw [← hC1]; exact List.all_eq_true.2 fun e he => by obtain ⟨c, _, rfl⟩ := List.mem_map.1 he; rfl
 have hCl : C1.length ≤ 3 := by rw [← hC1, List.length_map, hacc]; omega
 have hk : decide (i < zl) = true → i < ar.length := by simp only [decide_eq_true_eq]; omega
 have hki : decide (i < zl) = true → IntKind.i64.wrap (i + 1) = i + 1 ∧ i + 1 ≤ zl := by simp only [decide_eq_true_eq]; intro h; exact ⟨wrap_in (by omega), by omega⟩
 have hdr : ∀ x, ar[i.toNat]? = some x → ar.drop i.toNat = x :: ar.drop (i + 1).toNat := by
   intro x hx
   rw [List.drop_eq_getElem_cons (List.getElem?_eq_some_iff.1 hx).1, (List.getElem?_eq_some_iff.1 hx).2, show (i + 1).toNat = i.toNat + 1 by omega]
 have hpc : ∀ (op' m' vk' vn' : Int) (vs' : ByteArray) (ar' : List Ex) (es' : List (List PV)), ar[i.toNat]? = some (.mk op' m' ⟨vk', vn', vs'⟩ ar') → ar'.map Ex.cells = es' → ∃ k2 b2, kindE K (.mk op' m' ⟨vk', vn', vs'⟩ ar') = (k2, b2) ∧ PCall Tryz.prog 80 [.agg [.int .i64 op', .int .i64 m', .int .i64 vk', .int .i64 vn', .str vs', .sl es'], .sl C] fun r => r = [.int .i64 k2, .bool b2] := by
   intro op' m' vk' vn' vs' ar' es' hx he
   exact IH _ (List.mem_of_getElem? hx) _ C (by rw [cells_mk, he]) hC
 have hend : decide (i < zl) = false → kindL K ar = some acc ∧ (acc.length : Int) = arityE op := by
   intro h
   simp only [decide_eq_false_iff_not] at h
   refine ⟨?_, by omega⟩
   rw [hkl, List.drop_eq_nil_of_le (by omega), kindL]
   simp
 have hf2 := kfit_c 2 acc C1 hC1
 have hf1 := kfit_c 1 acc C1 hC1
 have hm0 : decide (op = 1) = true → (0 ≤ m ∧ m < (K.length : Int)) := by simp only [decide_eq_true_eq]; exact hm
 have har : decide (12 ≤ op) = true → decide (op ≤ 17) = true → arityE op = 2 := by
   simp only [decide_eq_true_eq]; intro h1 h2; unfold arityE; (repeat' split) <;> omega
 have ha21 : decide (op = 21) = true → arityE op = 3 := by
   simp only [decide_eq_true_eq]; intro h1; unfold arityE; (repeat' split) <;> omega
 obtain ⟨y0, hy0⟩ : ∃ y, (acc[0]?).getD 0 = y := ⟨_, rfl⟩
 obtain ⟨y1, hy1⟩ : ∃ y, (acc[1]?).getD 0 = y := ⟨_, rfl⟩
 obtain ⟨y2, hy2⟩ : ∃ y, (acc[2]?).getD 0 = y := ⟨_, rfl⟩
 have hgt : ∀ (j : Nat), j < acc.length → C1[j]? = some [.int .i64 ((acc[j]?).getD 0)] := by
   intro j h
   rw [← hC1, List.getElem?_map, List.getElem?_eq_getElem h]; rfl
 have hi0a : decide (i < zl) = false → arityE op = 2 ∨ arityE op = 3 → C1[Int.toNat 0]? = some [.int .i64 y0] := by
   intro h1 h2
   have := (hend h1).2
   rw [← hy0]; exact hgt 0 (by omega)
 have hi1a : decide (i < zl) = false → arityE op = 2 ∨ arityE op = 3 → C1[Int.toNat 1]? = some [.int .i64 y1] := by
   intro h1 h2
   have := (hend h1).2
   rw [← hy1]; exact hgt 1 (by omega)
 have hi2a : decide (i < zl) = false → arityE op = 3 → C1[Int.toNat 2]? = some [.int .i64 y2] := by
   intro h1 h2
   have := (hend h1).2
   rw [← hy2]; exact hgt 2 (by omega)
 have hf0 := kfit_c 1 [y0] [[.int .i64 y0]] rfl
 have hp01 := pair_c y0 y1
 have hp12 := pair_c y1 y2
 repeat' (first
   | (with_reducible refine Nm.mk ?_; intro z hz)
   | (with_reducible refine IfB.mk ?_ ?_ <;> (intro h; cases h))
   | (with_reducible refine Two.l ?_; refine Asm.mk ?_ ?_; focus (decide +kernel))
   | (with_reducible refine Two.r ?_)
   | (with_reducible refine TwoT.r ?_)
   | (with_reducible refine Asm.mk ?_ ?_; focus (first | (refine ⟨hm1.symm, rfl, hok, rfl, ?_, ?_⟩ <;> (clear hR hQ; simp only [List.length_cons, List.length_nil, maxLen]; omega)) | (show (_ : Bool) = true; kernel_rfl)))
   | (with_reducible refine isCP hcp ?_; first | (refine bP hcp (hf2) ?_; intro z hz) | (refine bP hcp (hf1) ?_; intro z hz) | (refine bP hcp (hf0) ?_; intro z hz) | (refine vP hcp (rclean_c vk vn vs) ?_; intro v hv) | (refine ibP hcp (hp01) ?_; intro z w hz hw) | (refine ibP hcp (hp12) ?_; intro z w hz hw))
   | (with_reducible refine isCC hcc ?_; first | (refine bA hcc (hf2) rfl ?_; intro z hz) | (refine bA hcc (hf1) rfl ?_; intro z hz) | (refine bA hcc (hf0) rfl ?_; intro z hz) | (refine vA hcc (rclean_c vk vn vs) rfl ?_; intro v hv) | (refine ibA hcc (hp01) rfl ?_; intro z w hz hw) | (refine ibA hcc (hp12) rfl ?_; intro z w hz hw))
   | (with_reducible refine Ix.ex hes hi0 (hk (by assumption)) ?_; intro op' m' vk' vn' vs' ar' es' hx hes')
   | (with_reducible refine Ix.map hC i64c_len (by decide) (hm0 (by assumption)).1 (hm0 (by assumption)).2 ?_; intro xk hxk)
   | (with_reducible refine isCC hcc ?_; obtain ⟨k2, b2, hk2, hcall⟩ := hpc _ _ _ _ _ _ _ hx hes'; refine xA hcc hcall rfl ?_)
   | (with_reducible refine Ix.giveK (by decide) (hi0a (by assumption) (by first | exact .inl (har (by assumption) (by assumption)) | exact .inr (ha21 (by assumption)))) rfl (by decide) ?_)
   | (with_reducible refine Ix.giveK (by decide) (hi1a (by assumption) (by first | exact .inl (har (by assumption) (by assumption)) | exact .inr (ha21 (by assumption)))) rfl (by decide) ?_)
   | (with_reducible refine Ix.giveK (by decide) (hi2a (by assumption) (ha21 (by assumption))) rfl (by decide) ?_)
   | (with_reducible refine Asm.mk2 ?_ ?_)
   | ((fail_if_success (with_reducible first | refine hQ _ ?_ | refine Side.mk ?_ | refine isCP hcp ?_ | refine isCC hcc ?_ | refine isLP hlp ?_ | refine Ix.mk ?_ | refine SIx.mk ?_ | refine SEx.mk ?_ | refine EIx.mk ?_ | refine RIx.mk ?_ | refine LkX.mk ?_ | show False | refine hR ?_ _ ?_ ?_ ?_ ?_ ?_ | refine hR2 ?_ _ ?_ ?_ ?_ ?_ ?_)); cbv))
 · have hb2 : b2 = false := by simpa using hz
   refine hQ _ ?_
   rw [hkl, hdr _ hx, kindL, hk2, hb2] at hq
   simp only [Option.map_none, Prod.mk.injEq] at hq
   rw [← hq.1, ← hq.2]
 · have hb2 : b2 = true := by simpa using (show (!b2) = false by assumption)
   obtain ⟨e1, e2⟩ := hki (by assumption)
   rw [e1] at hz
   rename_i C3 hC3 m3 hm3
   have hnew : kindL K ar = (kindL K (ar.drop (i + 1).toNat)).map ((acc ++ [k2]) ++ ·) := by
     rw [hkl, hdr _ hx, kindL, hk2, hb2]
     dsimp only
     rw [Option.map_map]
     congr 1
     funext r
     simp
   refine hR (i + 1, acc ++ [k2], C3, m3) _ ⟨⟨by show 0 ≤ i + 1; omega, e2⟩, by show (acc ++ [k2]).map i64c = C3; rw [← hC3, ← hC1]; simp [i64c], by show C3.length = m3; rw [← hC3, ← hm3, List.length_append], by show (acc ++ [k2]).length = (i + 1).toNat; rw [List.length_append, hacc, List.length_singleton]; omega, hnew⟩ (by show (zl - (i + 1)).toNat < (zl - i).toNat; omega) ⟨rfl, hz ▸ rfl, trivial⟩ ⟨rfl, rfl, rfl, rfl, trivial⟩ rfl
 all_goals
   (refine hQ _ ?_
    rw [(hend (by assumption)).1] at hq
    dsimp only at hq
    clear hQ hR hcp hcc hlp hpc IH hend hk hki hdr hf1 hf2 hf0 hp01 hp12 hi0a hi1a hi2a hgt har ha21 hkl hm0 hm
    simp only [decide_eq_true_eq, decide_eq_false_iff_not] at *
    try rw [hy0] at hq
    try rw [hy1] at hq
    try rw [hy2] at hq
    repeat (first | rw [if_pos (by omega)] at hq | rw [if_neg (by omega)] at hq)
    simp only [Prod.mk.injEq] at hq
    obtain ⟨q1, q2⟩ := hq
    subst q1 q2
    subst_vars
    first
      | rfl
      | (simp_all; done))
theorem kind_all (K : List Int) : ∀ (n : Nat) (e : Ex), e.sz ≤ n → e.fine K.length → KindC K e
 | 0, .mk op m v ar, h, _ => by simp [Ex.sz] at h
 | n + 1, .mk op m ⟨vk, vn, vs⟩ ar, h, hf => by
   intro cells C he hC
   rw [cells_mk] at he
   subst he
   rw [Ex.fine] at hf
   obtain ⟨f1, f2, f3⟩ := hf
   refine ⟨_, _, rfl, kind_c K C hC op m vk vn vs ar _ rfl f1.symm f2 (fun x hx => kind_all K n x ?_ (fine_mem f3 hx)) _ _ rfl⟩
   have := sz_mem hx
   simp only [Ex.sz] at h; omega
mutual
def Ex.cols : Ex → List Int
 | .mk op m _ ar => (if op = 1 then [m] else []) ++ colsOf ar
def colsOf : List Ex → List Int
 | [] => []
 | e :: r => e.cols ++ colsOf r
end
mutual
theorem walk_fine (n : Nat) : ∀ (e : Ex) (d k h : Int), (walkE e d k h).1 = true → (∀ c, c ∈ e.cols → c < (n : Int)) → e.fine n
 | .mk op m v ar, d, k, h, hw, hc => by
   rw [walkE] at hw
   split at hw
   · cases hw
   · rename_i hb
     have hb2 : badE op m v ar.length = false := by
       cases hx : badE op m v ar.length with
       | false => rfl
       | true => exact absurd (by rw [hx]; simp) hb
     rw [Ex.fine]
     simp only [badE, Bool.or_eq_false_iff, Bool.not_eq_false', decide_eq_true_eq, Bool.and_eq_false_iff, decide_eq_false_iff_not] at hb2
     refine ⟨hb2.1.1, fun h1 => ⟨?_, hc m (by rw [Ex.cols, if_pos h1]; simp)⟩, walkL_fine n ar _ _ _ hw (fun c h2 => hc c (by rw [Ex.cols]; exact List.mem_append_right _ h2))⟩
     rcases hb2.1.2 with h2 | h2
     · exact absurd h1 h2
     · omega
theorem walkL_fine (n : Nat) : ∀ (l : List Ex) (d k h : Int), (walkL l d k h).1 = true → (∀ c, c ∈ colsOf l → c < (n : Int)) → fineL n l
 | [], _, _, _, _, _ => trivial
 | a :: r, d, k, h, hw, hc => by
   rw [walkL] at hw
   rw [fineL]
   rcases hx : walkE a d k h with ⟨b, k', h'⟩
   rw [hx] at hw
   cases b with
   | false => cases hw
   | true =>
     refine ⟨walk_fine n a d k h (by rw [hx]) (fun c h2 => hc c (by rw [colsOf]; exact List.mem_append_left _ h2)), walkL_fine n r d k' h' hw (fun c h2 => hc c (by rw [colsOf]; exact List.mem_append_right _ h2))⟩
end
theorem built_fine {n : Nat} {e : Ex} (hb : builtM e = true) (hc : ∀ c, c ∈ e.cols → c < (n : Int)) : e.fine n := by
 refine walk_fine n e 1 0 0 ?_ hc
 have hb2 : (sizeM e).1 ≤ 400 := of_decide_eq_true hb
 cases hw : (walkE e 1 0 0).1 with
 | true => rfl
 | false =>
   rw [sizeM, if_neg (by rw [hw]; decide)] at hb2
   exact absurd hb2 (by decide)
end Go.Proofs.YtlabphnonlicdaaGreat

namespace Go.Proofs.YtlabphnonlicdaaGreat
open Go Go.RowKit
set_option maxRecDepth 100000
set_option linter.unusedSimpArgs false
set_option linter.unusedVariables false
theorem mem_insC {x c : Int} {L : List Int} (h : c ∈ L ∨ c = x) : c ∈ insC x L := by
 rw [insC]
 split
 · rename_i hx
   rcases h with h | h
   · exact h
   · rw [h]; exact List.mem_of_getElem? hx
 · rcases h with h | h
   · rw [← List.take_append_drop (insAt x L) L] at h
     rcases List.mem_append.1 h with h | h
     · exact List.mem_append_left _ h
     · exact List.mem_append_right _ (List.mem_cons_of_mem _ h)
   · rw [h]; exact List.mem_append_right _ (List.mem_cons_self)
mutual
theorem mem_colsE : ∀ (e : Ex) (L : List Int) (c : Int), c ∈ L ∨ c ∈ e.cols → c ∈ colsE e L
 | .mk op m v ar, L, c, h => by
   rw [colsE]
   rw [Ex.cols] at h
   by_cases h1 : op = 1
   · rw [if_pos h1] at h ⊢
     refine mem_colsL ar _ c ?_
     rcases h with h | h
     · exact .inl (mem_insC (.inl h))
     · rcases List.mem_append.1 h with h | h
       · exact .inl (mem_insC (.inr (by simpa using h)))
       · exact .inr h
   · rw [if_neg h1] at h ⊢
     refine mem_colsL ar _ c ?_
     rcases h with h | h
     · exact .inl h
     · exact .inr (by simpa using h)
theorem mem_colsL : ∀ (l : List Ex) (L : List Int) (c : Int), c ∈ L ∨ c ∈ colsOf l → c ∈ colsKL l L
 | [], L, c, h => by
   rcases h with h | h
   · exact h
   · simp [colsOf] at h
 | e :: r, L, c, h => by
   rw [colsKL]
   rw [colsOf] at h
   refine mem_colsL r _ c ?_
   rcases h with h | h
   · exact .inl (mem_colsE e L c (.inl h))
   · rcases List.mem_append.1 h with h | h
     · exact .inl (mem_colsE e L c (.inr h))
     · exact .inr h
end
def badK (l : List Int) : Bool := l.any fun k => !decide (k = 1) && !decide (k = 2)
def lostK (n : Nat) (l : List Int) : Bool := l.any fun c => decide ((n : Int) ≤ c)
def kindM (K : List Int) (e : Ex) : Int × Int :=
 if builtM e = false then (0, 1) else if badK K = true then (0, 1) else if lostK K.length (colsE e []) = true then (0, 1) else if (kindE K e).2 = false then (0, 4) else ((kindE K e).1, 0)
theorem kind_fine {K : List Int} {e : Ex} (hb : builtM e = true) (hl : lostK K.length (colsE e []) = false) : e.fine K.length := by
 refine built_fine hb fun c hc => ?_
 have hm := mem_colsE e [] c (.inr hc)
 have := List.any_eq_false.1 hl c hm
 simpa using this
set_option maxHeartbeats 2000000 in
theorem rkind_c (K : List Int) (C : List (List PV)) (hC : K.map i64c = C) (op n vk vn : Int) (vs : ByteArray) (ar : List Ex) (es : List (List PV)) (hes : ar.map Ex.cells = es) (hw : (Ex.mk op n ⟨vk, vn, vs⟩ ar).wide) :
   PCall Tryz.prog 64 [.agg [.int .i64 op, .int .i64 n, .int .i64 vk, .int .i64 vn, .str vs, .sl es], .sl C] fun r => r = [.int .i64 (kindM K (.mk op n ⟨vk, vn, vs⟩ ar)).1, .int .i64 (kindM K (.mk op n ⟨vk, vn, vs⟩ ar)).2] := by
 refine PCall.know c64 fun hkn => ?_
 have k1 : C.length ≤ maxLen := hkn (.sl C) (by simp)
 clear hkn
 rw [maxLen_eq] at k1
 have b1 : C.length = K.length := by rw [← hC]; simp
 have hbc := rbuilt_c op n vk vn vs ar es hes hw
 have hcc0 := rcolumns_c op n vk vn vs ar es hes hw
 obtain ⟨e, he⟩ : ∃ e, Ex.mk op n ⟨vk, vn, vs⟩ ar = e := ⟨_, rfl⟩
 have hkc : builtM e = true → lostK K.length (colsE e []) = false → ∃ k b, kindE K e = (k, b) ∧ PCall Tryz.prog 80 [.agg [.int .i64 op, .int .i64 n, .int .i64 vk, .int .i64 vn, .str vs, .sl es], .sl C] fun r => r = [.int .i64 k, .bool b] := by
   intro h1 h2
   exact kind_all K _ e (Nat.le_refl _) (kind_fine h1 h2) _ C (by rw [← he, cells_mk, hes]) hC
 rw [he] at hbc hcc0 ⊢
 obtain ⟨kr, er, hkr⟩ : ∃ a b, kindM K e = (a, b) := ⟨_, _, rfl⟩
 rw [hkr]
 obtain ⟨bt, hbt⟩ : ∃ b, builtM e = b := ⟨_, rfl⟩
 rw [hbt] at hbc
 obtain ⟨cl, hcl⟩ : ∃ l, colsKM e = l := ⟨_, rfl⟩
 rw [hcl] at hcc0
 have hcle : bt = true → colsE e [] = cl := by intro h; rw [← hcl, colsKM, hbt, if_pos h]
 rw [kindM, hbt] at hkr
 have hbn : ∀ {z : Bool}, bt = z → (!z) = false → bt = true := by rintro z rfl h; simpa using h
 have hbf : ∀ {z : Bool}, bt = z → (!z) = true → bt = false := by rintro z rfl h; simpa using h
 refine PCall.x (nt := 49) (res := [.tmp 4, .tmp 5]) mixed tt_ok [] Tryz.func64 rfl rfl rfl c64 (Nat.le_of_ble_eq_true rfl) ?_
 intro cp cc lp Q' hcp hcc hlp hQ
 repeat' (first
   | (with_reducible refine Nm.mk ?_; intro z hz)
   | (with_reducible refine IfB.mk ?_ ?_ <;> (intro h; cases h))
   | (with_reducible refine Two.l ?_; refine Asm.mk ?_ ?_; focus (decide +kernel))
   | (with_reducible refine Two.r ?_)
   | (with_reducible refine TwoT.r ?_)
   | (with_reducible refine Asm.mk ?_ ?_; focus kernel_rfl)
   | (with_reducible refine isCP hcp ?_; first | (refine bP hcp (hbc) ?_; intro z hz))
   | (with_reducible refine isCC hcc ?_; first | (refine bA hcc (hbc) rfl ?_; intro z hz))
   | (with_reducible refine Asm.mk2 ?_ ?_)
   | ((fail_if_success (with_reducible first | refine hQ _ ?_ | refine Side.mk ?_ | refine isCP hcp ?_ | refine isCC hcc ?_ | refine isLP hlp ?_ | refine Ix.mk ?_ | refine SIx.mk ?_ | refine SEx.mk ?_ | refine EIx.mk ?_ | refine RIx.mk ?_ | refine LkX.mk ?_ | show False | refine hR ?_ _ ?_ ?_ ?_ ?_ ?_ | refine hR2 ?_ _ ?_ ?_ ?_ ?_ ?_)); cbv))
 · have hb := hbf (by assumption) (by assumption)
   rw [if_pos hb] at hkr
   simp only [Prod.mk.injEq] at hkr
   refine hQ _ ?_
   rw [← hkr.1, ← hkr.2]
 · have hb := hbn (by assumption) (by assumption)
   rw [if_neg (by rw [hb]; decide)] at hkr
   have hL := hcle hb
   have hclen : cl.length ≤ 400 := by
     have h1 := colsG_len e (0, [])
     rw [colsG_2] at h1
     have h2 := built_szK (e := e) (by rw [hbt]; exact hb)
     rw [← hL]
     have h3 : (colsE e []).length ≤ 0 + e.sz := h1
     omega
   rw [hL] at hkr
   have hkc2 := hkc (by rw [hbt]; exact hb)
   rw [hL] at hkc2
   clear hbn hbf hbc hcle
   simp only [nc] at hz
   simp only [nc'] at hz
   have hzl : z.toNat = K.length ∧ 0 ≤ z ∧ z ≤ 9223372036854775807 := by omega
   obtain ⟨hzl, hzl0, hzl1⟩ := hzl
   clear hz
   generalize z = zl at *
   obtain ⟨q, hq⟩ : ∃ q, badK K = q := ⟨_, rfl⟩
   rw [hq] at hkr
   refine loopK (ι := Int) mixed tt_ok hcp hcc hlp [1, 2, 15, 16] (fun i => [(17, .p (.int .i64 i))]) (fun i => (0 ≤ i ∧ i ≤ zl) ∧ badK (K.drop i.toNat) = q) (fun i => (zl - i).toNat) 0 (fun _ => rfl) ⟨⟨by omega, by omega⟩, hq⟩ ⟨rfl, trivial⟩ ?_
   rintro R i ⟨⟨hi0, hi1⟩, hf⟩ hR
   have hk : decide (i < zl) = true → i < K.length := by simp only [decide_eq_true_eq]; omega
   have hki : decide (i < zl) = true → IntKind.i64.wrap (i + 1) = i + 1 ∧ i + 1 ≤ zl ∧ (zl - (i + 1)).toNat < (zl - i).toNat := by simp only [decide_eq_true_eq]; intro h; exact ⟨wrap_in (by omega), by omega, by omega⟩
   have hdr : ∀ x, K[i.toNat]? = some x → K.drop i.toNat = x :: K.drop (i + 1).toNat := by
     intro x hx
     rw [List.drop_eq_getElem_cons (List.getElem?_eq_some_iff.1 hx).1, (List.getElem?_eq_some_iff.1 hx).2, show (i + 1).toNat = i.toNat + 1 by omega]
   have hbad : ∀ {x : Int}, K[i.toNat]? = some x → (!decide (x = 1)) = true → (!decide (x = 2)) = true → q = true := by
     intro x hx h1 h2
     rw [← hf, hdr x hx, badK, List.any_cons, h1, h2]; rfl
   have hgood : ∀ {x : Int}, K[i.toNat]? = some x → ((!decide (x = 1)) = false ∨ (!decide (x = 2)) = false) → badK (K.drop (i + 1).toNat) = q := by
     intro x hx h
     rw [← hf, hdr x hx, badK, badK, List.any_cons]
     rcases h with h | h <;> rw [h] <;> simp
   have hout : decide (i < zl) = false → q = false := by
     simp only [decide_eq_false_iff_not]; intro h
     rw [← hf, List.drop_eq_nil_of_le (by omega)]; rfl
   repeat' (first
     | (with_reducible refine Nm.mk ?_; intro z hz)
     | (with_reducible refine IfB.mk ?_ ?_ <;> (intro h; cases h))
     | (with_reducible refine Two.l ?_; refine Asm.mk ?_ ?_; focus (decide +kernel))
     | (with_reducible refine Two.r ?_)
     | (with_reducible refine TwoT.r ?_)
     | (with_reducible refine Asm.mk ?_ ?_; focus kernel_rfl)
     | (with_reducible refine isCP hcp ?_; first | (refine lP hcp (hcc0) ?_; intro z hz))
     | (with_reducible refine isCC hcc ?_; first | (refine lA hcc (hcc0) rfl ?_; intro z hz))
     | (with_reducible refine Ix.map hC i64c_len (by decide) hi0 (hk (by assumption)) ?_; intro x hx)
     | (with_reducible refine Asm.mk2 ?_ ?_)
     | ((fail_if_success (with_reducible first | refine hQ _ ?_ | refine Side.mk ?_ | refine isCP hcp ?_ | refine isCC hcc ?_ | refine isLP hlp ?_ | refine Ix.mk ?_ | refine SIx.mk ?_ | refine SEx.mk ?_ | refine EIx.mk ?_ | refine RIx.mk ?_ | refine LkX.mk ?_ | show False | refine hR ?_ _ ?_ ?_ ?_ ?_ ?_ | refine hR2 ?_ _ ?_ ?_ ?_ ?_ ?_)); cbv))
   · rw [hbad hx (by assumption) (by assumption), if_pos rfl] at hkr
     simp only [Prod.mk.injEq] at hkr
     refine hQ _ ?_
     rw [← hkr.1, ← hkr.2]
   · obtain ⟨e1, e2, e3⟩ := hki (by assumption)
     rw [e1] at hz
     exact hR (i + 1) _ ⟨⟨by omega, e2⟩, hgood hx (.inr (by assumption))⟩ e3 ⟨hz ▸ rfl, trivial⟩ ⟨rfl, rfl, rfl, rfl, trivial⟩ rfl
   · obtain ⟨e1, e2, e3⟩ := hki (by assumption)
     rw [e1] at hz
     exact hR (i + 1) _ ⟨⟨by omega, e2⟩, hgood hx (.inl (by assumption))⟩ e3 ⟨hz ▸ rfl, trivial⟩ ⟨rfl, rfl, rfl, rfl, trivial⟩ rfl
   · rename_i D hD
     have hqf := hout (by assumption)
     rw [hqf, if_neg (by decide)] at hkr
     clear hbad hgood hout hki hk hdr hR hf
     have hDl : D.length = cl.length := by rw [← hD]; simp
     simp only [nc] at hz
     simp only [nc'] at hz
     have hyl : z.toNat = cl.length ∧ 0 ≤ z := by omega
     obtain ⟨hyl, hyl0⟩ := hyl
     clear hz
     generalize z = yl at *
     obtain ⟨q2, hq2⟩ : ∃ q, lostK K.length cl = q := ⟨_, rfl⟩
     rw [hq2] at hkr hkc2
     have hcb : yl ≤ 400 := by omega
     refine loopK (ι := Int) mixed tt_ok hcp hcc hlp [1, 2, 29, 30] (fun j => [(31, .p (.int .i64 j))]) (fun j => (0 ≤ j ∧ j ≤ yl) ∧ lostK K.length (cl.drop j.toNat) = q2) (fun j => (yl - j).toNat) 0 (fun _ => rfl) ⟨⟨by omega, by omega⟩, hq2⟩ ⟨rfl, trivial⟩ ?_
     rintro R j ⟨⟨hj0, hj1⟩, hf⟩ hR
     have hk : decide (j < yl) = true → j < cl.length := by simp only [decide_eq_true_eq]; omega
     have hki : decide (j < yl) = true → IntKind.i64.wrap (j + 1) = j + 1 ∧ j + 1 ≤ yl ∧ (yl - (j + 1)).toNat < (yl - j).toNat := by simp only [decide_eq_true_eq]; intro h; exact ⟨wrap_in (by omega), by omega, by omega⟩
     have hdr : ∀ x, cl[j.toNat]? = some x → cl.drop j.toNat = x :: cl.drop (j + 1).toNat := by
       intro x hx
       rw [List.drop_eq_getElem_cons (List.getElem?_eq_some_iff.1 hx).1, (List.getElem?_eq_some_iff.1 hx).2, show (j + 1).toNat = j.toNat + 1 by omega]
     have hbad : ∀ {x w : Int}, cl[j.toNat]? = some x → decide (w ≤ x) = true → (C.length : Int) = w → q2 = true := by
       intro x w hx h1 h2
       rw [← hf, hdr x hx, lostK, List.any_cons, ← b1, h2, h1]; rfl
     have hgood : ∀ {x w : Int}, cl[j.toNat]? = some x → decide (w ≤ x) = false → (C.length : Int) = w → lostK K.length (cl.drop (j + 1).toNat) = q2 := by
       intro x w hx h1 h2
       rw [← hf, hdr x hx, lostK, lostK, List.any_cons, ← b1, h2, h1]; simp
     have hout : decide (j < yl) = false → q2 = false := by
       simp only [decide_eq_false_iff_not]; intro h
       rw [← hf, List.drop_eq_nil_of_le (by omega)]; rfl
     repeat' (first
       | (with_reducible refine Nm.mk ?_; intro z hz)
       | (with_reducible refine IfB.mk ?_ ?_ <;> (intro h; cases h))
       | (with_reducible refine Two.l ?_; refine Asm.mk ?_ ?_; focus (decide +kernel))
       | (with_reducible refine Two.r ?_)
       | (with_reducible refine TwoT.r ?_)
       | (with_reducible refine Asm.mk ?_ ?_; focus kernel_rfl)
       | (with_reducible refine Ix.map hD i64c_len (by decide) hj0 (hk (by assumption)) ?_; intro x hx)
       | (with_reducible refine isCC hcc ?_; obtain ⟨k2, b2, hk2, hcall⟩ := hkc2 (hout (by assumption)); refine xA hcc hcall rfl ?_)
       | (with_reducible refine Asm.mk2 ?_ ?_)
       | ((fail_if_success (with_reducible first | refine hQ _ ?_ | refine Side.mk ?_ | refine isCP hcp ?_ | refine isCC hcc ?_ | refine isLP hlp ?_ | refine Ix.mk ?_ | refine SIx.mk ?_ | refine SEx.mk ?_ | refine EIx.mk ?_ | refine RIx.mk ?_ | refine LkX.mk ?_ | show False | refine hR ?_ _ ?_ ?_ ?_ ?_ ?_ | refine hR2 ?_ _ ?_ ?_ ?_ ?_ ?_)); cbv))
     · rw [hbad hx (by assumption) (by assumption), if_pos rfl] at hkr
       simp only [Prod.mk.injEq] at hkr
       refine hQ _ ?_
       rw [← hkr.1, ← hkr.2]
     · obtain ⟨e1, e2, e3⟩ := hki (by assumption)
       rw [e1] at hz
       exact hR (j + 1) _ ⟨⟨by omega, e2⟩, hgood hx (by assumption) (by assumption)⟩ e3 ⟨hz ▸ rfl, trivial⟩ ⟨rfl, rfl, rfl, rfl, trivial⟩ rfl
     · have hb2 : b2 = false := by simpa using hz
       rw [hout (by assumption), if_neg (by decide), hk2, hb2, if_pos rfl] at hkr
       simp only [Prod.mk.injEq] at hkr
       refine hQ _ ?_
       rw [← hkr.1, ← hkr.2]
     · have hb2 : b2 = true := by simpa using hz
       rw [hout (by assumption), if_neg (by decide), hk2, hb2, if_neg (fun h => by cases h)] at hkr
       simp only [Prod.mk.injEq] at hkr
       refine hQ _ ?_
       rw [← hkr.1, ← hkr.2]
end Go.Proofs.YtlabphnonlicdaaGreat

namespace Go.Proofs.YtlabphnonlicdaaGreat
open Go Go.RowKit
set_option linter.unusedSimpArgs false
set_option linter.unusedVariables false
mutual
theorem walkE_sz : ∀ (e : Ex) (d n h n' h' : Int), walkE e d n h = (true, n', h') → n' = n + (e.sz : Int)
 | .mk op m v ar, d, n, h, n', h', he => by
   rw [walkE] at he
   split at he
   · cases he
   · have := walkL_sz ar _ _ _ _ _ he
     simp only [Ex.sz]; omega
theorem walkL_sz : ∀ (l : List Ex) (d n h n' h' : Int), walkL l d n h = (true, n', h') → n' = n + (szL l : Int)
 | [], d, n, h, n', h', he => by
   simp only [walkL, Prod.mk.injEq] at he
   simp only [szL]; omega
 | a :: r, d, n, h, n', h', he => by
   rw [walkL] at he
   split at he
   · rename_i n1 h2 hw
     have h3 := walkE_sz a d n h _ _ hw
     have h4 := walkL_sz r d n1 h2 _ _ he
     simp only [szL]; omega
   · cases he
end
theorem built_iff (e : Ex) : builtM e = (walkE e 1 0 0).1 := by
 unfold builtM sizeM
 cases hb : (walkE e 1 0 0).1 with
 | false => simp
 | true =>
   have := walkE_nodes e 1 0 0 _ _ _ (by omega) (by omega) (show walkE e 1 0 0 = (true, (walkE e 1 0 0).2.1, (walkE e 1 0 0).2.2) by rw [← hb])
   simp; exact (this.2.2 rfl).2
mutual
theorem walkE_less : ∀ (e : Ex) (d n h d' n' h' : Int), d' ≤ d → n' ≤ n → (walkE e d n h).1 = true → (walkE e d' n' h').1 = true ∧ (walkE e d' n' h').2.1 ≤ (walkE e d n h).2.1
 | .mk op m v ar, d, n, h, d', n', h', hd, hn, hw => by
   rw [walkE] at hw
   rw [walkE, walkE]
   split at hw
   · cases hw
   · rename_i hc
     simp only [Bool.or_eq_true, decide_eq_true_eq, not_or] at hc
     have hc1 : ¬ (decide (400 < n + 1) || decide (40 < d) || badE op m v ar.length) = true := by simp [hc]
     have hc2 : ¬ (decide (400 < n' + 1) || decide (40 < d') || badE op m v ar.length) = true := by
       simp only [Bool.or_eq_true, decide_eq_true_eq, not_or]
       exact ⟨⟨by omega, by omega⟩, hc.2⟩
     rw [if_neg hc1, if_neg hc2]
     exact walkL_less ar _ _ _ _ _ _ (by omega) (by omega) hw
theorem walkL_less : ∀ (l : List Ex) (d n h d' n' h' : Int), d' ≤ d → n' ≤ n → (walkL l d n h).1 = true → (walkL l d' n' h').1 = true ∧ (walkL l d' n' h').2.1 ≤ (walkL l d n h).2.1
 | [], d, n, h, d', n', h', hd, hn, hw => by simp only [walkL, true_and]; exact hn
 | a :: r, d, n, h, d', n', h', hd, hn, hw => by
   rcases h1 : walkE a d n h with ⟨b1, n1, h2⟩
   cases b1 with
   | false => rw [walkL, h1] at hw; cases hw
   | true =>
     have h3 := walkE_less a d n h d' n' h' hd hn (by rw [h1])
     rcases h4 : walkE a d' n' h' with ⟨b2, n2, h5⟩
     rw [h4, h1] at h3
     obtain ⟨h6, h7⟩ := h3
     simp only at h6 h7
     subst h6
     rw [walkL, h1] at hw
     rw [walkL, walkL, h1, h4]
     exact walkL_less r d n1 h2 d' n2 h5 hd h7 hw
end
theorem walkL_mem : ∀ (l : List Ex) (d n h : Int) (a : Ex), a ∈ l → (walkL l d n h).1 = true → ∃ n' h', n ≤ n' ∧ (walkE a d n' h').1 = true
 | [], d, n, h, a, ha, _ => by simp at ha
 | b :: r, d, n, h, a, ha, hw => by
   rcases h1 : walkE b d n h with ⟨b1, n1, h2⟩
   cases b1 with
   | false => rw [walkL, h1] at hw; cases hw
   | true =>
     rcases List.mem_cons.1 ha with g | g
     · subst g; exact ⟨n, h, Int.le_refl _, by rw [h1]⟩
     · rw [walkL, h1] at hw
       obtain ⟨n', h', h3, h4⟩ := walkL_mem r d n1 h2 a g hw
       have := walkE_sz b d n h _ _ h1
       exact ⟨n', h', by omega, h4⟩
theorem built_mk {op m : Int} {v : Val} {ar : List Ex} (h : builtM (.mk op m v ar) = true) : badE op m v ar.length = false ∧ ∀ a, a ∈ ar → builtM a = true := by
 rw [built_iff, walkE] at h
 split at h
 · cases h
 · rename_i hc
   simp only [Bool.or_eq_true, decide_eq_true_eq, not_or] at hc
   refine ⟨by simpa using hc.2, fun a ha => ?_⟩
   obtain ⟨n', h', h1, h2⟩ := walkL_mem ar _ _ _ a ha h
   rw [built_iff]
   exact (walkE_less a _ n' h' 1 0 0 (by omega) (by omega) h2).1
end Go.Proofs.YtlabphnonlicdaaGreat

namespace Go.Proofs.YtlabphnonlicdaaGreat
open Go Go.RowKit
set_option maxRecDepth 100000
set_option linter.unusedSimpArgs false
set_option linter.unusedVariables false
def keyc (k : Int × Bool) : List PV := [.int .i64 k.1, .bool k.2]
def aggc (a : Int × Int) : List PV := [.int .i64 a.1, .int .i64 a.2]
theorem keyc_len (k : Int × Bool) : (keyc k).length = 2 := rfl
theorem aggc_len (k : Int × Int) : (aggc k).length = 2 := rfl
inductive Pl where
 | mk (op : Int) (tb : ByteArray) (es : List Ex) (cs : List Int) (ks : List (Int × Bool)) (ag : List (Int × Int)) (fn cl n off : Int) (ar : List Pl)
mutual
def Pl.cells : Pl → List PV
 | .mk op tb es cs ks ag fn cl n off ar => [.int .i64 op, .str tb, .sl (es.map Ex.cells), .sl (cs.map i64c), .sl (ks.map keyc), .sl (ag.map aggc), .int .i64 fn, .int .i64 cl, .int .i64 n, .int .i64 off, .sl (cellsPL ar)]
def cellsPL : List Pl → List (List PV)
 | [] => []
 | e :: r => e.cells :: cellsPL r
end
theorem cellsPL_eq : ∀ l : List Pl, cellsPL l = l.map Pl.cells
 | [] => rfl
 | e :: r => by simp [cellsPL, cellsPL_eq r]
theorem pcells_mk (op : Int) (tb : ByteArray) (es : List Ex) (cs : List Int) (ks : List (Int × Bool)) (ag : List (Int × Int)) (fn cl n off : Int) (ar : List Pl) : (Pl.mk op tb es cs ks ag fn cl n off ar).cells = [.int .i64 op, .str tb, .sl (es.map Ex.cells), .sl (cs.map i64c), .sl (ks.map keyc), .sl (ag.map aggc), .int .i64 fn, .int .i64 cl, .int .i64 n, .int .i64 off, .sl (ar.map Pl.cells)] := by rw [Pl.cells, cellsPL_eq]
theorem pl_len (e : Pl) : e.cells.length = 11 := by cases e; rfl
mutual
def Pl.sz : Pl → Nat
 | .mk _ _ _ _ _ _ _ _ _ _ ar => szPL ar + 1
def szPL : List Pl → Nat
 | [] => 0
 | e :: r => e.sz + szPL r
end
theorem szP_mem : ∀ {l : List Pl} {e : Pl}, e ∈ l → e.sz ≤ szPL l
 | [], _, h => by simp at h
 | a :: r, e, h => by
   simp only [szPL]
   rcases List.mem_cons.1 h with g | g
   · subst g; omega
   · have := szP_mem g; omega
def wideM (k n : Nat) : Prop := n * k ≤ 140737488351232
mutual
def Pl.wide : Pl → Prop
 | .mk _ tb es cs ks ag _ _ _ _ ar => ((wideL es ∧ wideM 72 es.length) ∧ wideM 8 cs.length ∧ wideM 16 ks.length ∧ wideM 16 ag.length ∧ wideM 1 tb.size ∧ wideM 72 ar.length) ∧ wideLP ar
def wideLP : List Pl → Prop
 | [] => True
 | e :: r => e.wide ∧ wideLP r
end
theorem wideP_mem : ∀ {l : List Pl} {e : Pl}, wideLP l → e ∈ l → e.wide
 | [], _, _, h => by simp at h
 | a :: r, e, hw, h => by
   rw [wideLP] at hw
   rcases List.mem_cons.1 h with g | g
   · subst g; exact hw.1
   · exact wideP_mem hw.2 g
theorem Ix.pl {es : List (List PV)} {ar : List Pl} {i : Int} {K : List PV → Prop} (hl : ar.map Pl.cells = es) (h0 : 0 ≤ i) (hn : i < ar.length)
   (g : ∀ x, ar[i.toNat]? = some x → K x.cells) : Ix 11 es i K := Ix.map hl pl_len (by decide) h0 hn g
def lowB (b : UInt8) : Bool := decide ((97 : Int) ≤ (b.toNat : Int)) && decide ((b.toNat : Int) ≤ 122)
def digB (b : UInt8) : Bool := (decide ((48 : Int) ≤ (b.toNat : Int)) && decide ((b.toNat : Int) ≤ 57)) || decide ((b.toNat : Int) = 95)
def idL : Bool → List UInt8 → Bool
 | _, [] => true
 | f, b :: r => (lowB b || (!f && digB b)) && idL false r
def idM (s : ByteArray) : Bool := idL true s.data.toList && decide (1 ≤ s.size) && decide (s.size ≤ 40)
def kOK (k : Int) : Bool := decide (k = 1) || decide (k = 2)
def kindsOKM (l : List Int) : Bool := decide (1 ≤ l.length) && decide (l.length ≤ 32) && l.all kOK
def lowM (l : List Int) : Bool := l.any fun x => decide (x < 0)
def unlikeM (l : List Int) : Bool := decide l.Nodup
def distinctM (l : List Int) : Bool := unlikeM l && !lowM l
def pastM (l : List Int) (n : Int) : Bool := l.any fun x => decide (n ≤ x)
def nodeE (e : Ex) : Int := if 400 < (sizeM e).1 then 1 else (sizeM e).1
mutual
def neatM : Ex → Bool
 | .mk op n v ar => (decide (op = 1) || decide (n = 0)) && (decide (op = 2) || decide (v = Val.zero)) && decide (v = clean v) && neatL ar
def neatL : List Ex → Bool
 | [] => true
 | e :: r => neatM e && neatL r
end
def fArgs (op : Int) : Int := if op = 2 ∨ op = 3 ∨ op = 6 ∨ op = 7 ∨ op = 9 ∨ op = 10 then 1 else if op = 4 ∨ op = 5 ∨ op = 11 then 2 else if op = 8 then -1 else 0
def fEx (op : Int) : Int := if op = 2 ∨ op = 4 ∨ op = 5 then 1 else if op = 3 then -1 else 0
def fCols (op : Int) : Bool := decide (op = 6) || decide (op = 10) || decide (op = 12)
def fKeys (op : Int) : Bool := decide (op = 9) || decide (op = 10)
def manyM (w h : Int) : Bool := decide (w = h) || (decide (w = -1) && decide (1 ≤ h))
def aggsM (l : List (Int × Int)) : Bool := l.all fun a => !(decide (a.1 < 1) || decide (6 < a.1) || decide (a.2 < 0) || (decide (a.1 = 1) && !decide (a.2 = 0)))
def winM (fn cl n : Int) : Bool := if fn = 1 ∨ fn = 2 ∨ fn = 3 then decide (cl = 0) && decide (n = 0) else if fn = 4 ∨ fn = 5 then decide (0 ≤ cl) else if fn = 6 then decide (0 ≤ cl) && decide (0 ≤ n) else false
def ownM (op : Int) (tb : ByteArray) (cs : List Int) (ks : List (Int × Bool)) (ag : List (Int × Int)) (fn cl n off : Int) : Bool :=
 distinctM (ks.map (·.1)) && (decide (op = 12) || distinctM cs) &&
 (if op = 1 then idM tb else if op = 6 then aggsM ag && decide (0 < cs.length + ag.length) else if op = 9 then decide (0 ≤ n) && decide (0 ≤ off) else if op = 10 then winM fn cl n else if op = 12 then kindsOKM cs else true)
def fieldsM (op : Int) (tb : ByteArray) (nes ncs nks nag : Int) (fn cl n off : Int) (na : Int) : Bool :=
 (decide (1 ≤ op) && decide (op ≤ 12)) && manyM (fArgs op) na && manyM (fEx op) nes && decide (nes ≤ 32) &&
 (decide (op = 1) || decide (tb.size = 0)) && (fCols op || decide (ncs = 0)) && (fKeys op || decide (nks = 0)) && (decide (op = 6) || decide (nag = 0)) &&
 (decide (op = 10) || (decide (fn = 0) && decide (cl = 0))) && (decide (op = 9) || decide (off = 0)) && (decide (op = 9) || decide (op = 10) || decide (n = 0))
mutual
def builtP : Pl → Bool
 | .mk op tb es cs ks ag fn cl n off ar => fieldsM op tb es.length cs.length ks.length ag.length fn cl n off ar.length && (es.all fun e => builtM e && neatM e) && builtL ar && ownM op tb cs ks ag fn cl n off
def builtL : List Pl → Bool
 | [] => true
 | p :: r => builtP p && builtL r
end
def restR (na nes : Int) (tb : ByteArray) (cs : List Int) (ks : List (Int × Bool)) (ag : List (Int × Int)) (fn cl n off : Int) (args exprs : Int) : Bool :=
 decide (na = args) && decide (nes = exprs) && decide (tb.size = 0) && decide (cs.length = 0) && decide (ks.length = 0) && decide (ag.length = 0) && decide (fn = 0) && decide (cl = 0) && decide (n = 0) && decide (off = 0)
def winR (cs : List Int) (ks : List (Int × Bool)) (fn cl n : Int) : Bool :=
 !(lowM cs) && unlikeM cs && !(lowM (ks.map (·.1))) && unlikeM (ks.map (·.1)) && decide (0 ≤ cl) && (if fn = 1 ∨ fn = 2 ∨ fn = 3 then decide (cl = 0) && decide (n = 0) else if fn = 4 ∨ fn = 5 then true else if fn = 6 then decide (0 ≤ n) else false)
def opR (op : Int) (tb : ByteArray) (nes : Int) (cs : List Int) (ks : List (Int × Bool)) (ag : List (Int × Int)) (fn cl n off : Int) (na : Int) : Bool :=
 let e : ByteArray := ⟨#[]⟩
 if op = 1 then idM tb && restR na nes e cs ks ag fn cl n off 0 0
 else if op = 2 then restR na nes tb cs ks ag fn cl n off 1 1
 else if op = 3 then decide (1 ≤ nes) && decide (nes ≤ 32) && restR na nes tb cs ks ag fn cl n off 1 nes
 else if op = 4 ∨ op = 5 then restR na nes tb cs ks ag fn cl n off 2 1
 else if op = 6 then decide (1 ≤ cs.length + ag.length) && !(lowM cs) && unlikeM cs && aggsM ag && restR na nes tb [] ks [] fn cl n off 1 0
 else if op = 7 then restR na nes tb cs ks ag fn cl n off 1 0
 else if op = 8 then restR na nes tb cs ks ag fn cl n off (mx 1 na) 0
 else if op = 9 then !(decide (n < 0)) && !(decide (off < 0)) && !(lowM (ks.map (·.1))) && unlikeM (ks.map (·.1)) && restR na nes tb cs [] ag fn cl 0 0 1 0
 else if op = 10 then winR cs ks fn cl n && restR na nes tb [] [] ag 0 0 0 off 1 0
 else if op = 11 then restR na nes tb cs ks ag fn cl n off 2 0
 else if op = 12 then kindsOKM cs && restR na nes tb [] ks ag fn cl n off 0 0
 else false
mutual
def builtR : Pl → Bool
 | .mk op tb es cs ks ag fn cl n off ar => builtRL ar && (es.all fun e => builtM e && neatM e) && opR op tb es.length cs ks ag fn cl n off ar.length
def builtRL : List Pl → Bool
 | [] => true
 | p :: r => builtR p && builtRL r
end
theorem nodup_nil : distinctM [] = true := by decide
theorem opR_eq (op : Int) (tb : ByteArray) (es : List Ex) (cs : List Int) (ks : List (Int × Bool)) (ag : List (Int × Int)) (fn cl n off : Int) (ar : List Pl) :
   opR op tb es.length cs ks ag fn cl n off ar.length = (fieldsM op tb es.length cs.length ks.length ag.length fn cl n off ar.length && ownM op tb cs ks ag fn cl n off) := by
 by_cases hop : ¬ (1 ≤ op ∧ op ≤ 12)
 · have h1 : fieldsM op tb es.length cs.length ks.length ag.length fn cl n off ar.length = false := by
     unfold fieldsM
     rw [show (decide (1 ≤ op) && decide (op ≤ 12)) = false by rw [Bool.and_eq_false_iff, decide_eq_false_iff_not, decide_eq_false_iff_not]; omega]
     simp
   rw [h1]
   unfold opR
   simp only []
   repeat rw [if_neg (by omega)]
   rfl
 · have hc : op = 1 ∨ op = 2 ∨ op = 3 ∨ op = 4 ∨ op = 5 ∨ op = 6 ∨ op = 7 ∨ op = 8 ∨ op = 9 ∨ op = 10 ∨ op = 11 ∨ op = 12 := by omega
   have e0 : (⟨#[]⟩ : ByteArray).size = 0 := rfl
   rw [Bool.eq_iff_iff]
   have cs0 : cs.length = 0 → distinctM cs = true := fun h => by rw [List.length_eq_zero_iff.1 h]; rfl
   have ks0 : ks.length = 0 → distinctM (ks.map (·.1)) = true := fun h => by rw [List.length_eq_zero_iff.1 h]; rfl
   have hn0 : 0 ≤ (es.length : Int) := by omega
   have ha0 : 0 ≤ (ar.length : Int) := by omega
   generalize (es.length : Int) = nes at *
   generalize (ar.length : Int) = na at *
   have hmx : ∀ x : Int, (x = mx 1 x ↔ 1 ≤ x) := by intro x; unfold mx; split <;> omega
   rcases hc with h | h | h | h | h | h | h | h | h | h | h | h <;> subst h <;>
     simp [opR, fieldsM, ownM, fArgs, fEx, fCols, fKeys, manyM, restR, e0, winR, winM, hmx, distinctM] <;> simp [distinctM] at cs0 ks0 <;> grind
mutual
theorem builtR_eq : ∀ p : Pl, builtR p = builtP p
 | .mk op tb es cs ks ag fn cl n off ar => by
   rw [builtR, builtP, builtRL_eq ar, opR_eq]
   cases builtL ar <;> cases (es.all fun e => builtM e && neatM e) <;> cases ownM op tb cs ks ag fn cl n off <;> simp
theorem builtRL_eq : ∀ l : List Pl, builtRL l = builtL l
 | [] => rfl
 | p :: r => by rw [builtRL, builtL, builtR_eq p, builtRL_eq r]
end
mutual
def neatR : Ex → Bool
 | .mk op n v ar => builtM (.mk op n v ar) && (decide (op = 1) || decide (n = 0)) && (decide (op = 2) || decide (v = Val.zero)) && decide (v = clean v) && neatRL ar
def neatRL : List Ex → Bool
 | [] => true
 | e :: r => neatR e && neatRL r
end
mutual
theorem neatR_of : ∀ e : Ex, builtM e = true → neatR e = neatM e
 | .mk op n v ar, h => by
   rw [neatR, neatM, h, neatRL_of ar (built_mk h).2, Bool.true_and]
theorem neatRL_of : ∀ l : List Ex, (∀ a, a ∈ l → builtM a = true) → neatRL l = neatL l
 | [], _ => rfl
 | e :: r, h => by rw [neatRL, neatL, neatR_of e (h e (by simp)), neatRL_of r fun a ha => h a (by simp [ha])]
end
theorem neatR_eq (e : Ex) : neatR e = (builtM e && neatM e) := by
 cases h : builtM e with
 | true => rw [neatR_of e h, Bool.true_and]
 | false => obtain ⟨op, n, v, ar⟩ := e; rw [neatR, h]; rfl
structure Tb where
 name : ByteArray
 cols : List (ByteArray × Int)
 rows : List (List Val)
def condK (K : List Int) (e : Ex) : Int := if (kindM K e).2 = 0 ∧ (kindM K e).1 = 2 then 4 else (kindM K e).2
def projL (K : List Int) : List Ex → Int → List Int → List Int × Int
 | [], w, acc => (acc, w)
 | e :: r, w, acc => if (kindM K e).2 = 1 then ([], 1) else projL K r (if w = 0 then (kindM K e).2 else w) (acc ++ [mx 1 (kindM K e).1])
def atK (K : List Int) (c : Int) : Int := (K[c.toNat]?).getD 0
def aggL (K : List Int) : List (Int × Int) → List Int → List Int × Int
 | [], acc => (acc, 0)
 | a :: r, acc => if a.1 = 3 ∧ atK K a.2 = 2 then ([], 4) else aggL K r (acc ++ [if a.1 = 4 ∨ a.1 = 5 then atK K a.2 else 1])
def lostA (n : Int) (ag : List (Int × Int)) : Bool := ag.any fun a => !decide (a.1 = 1) && decide (n ≤ a.2)
def groupK (K : List Int) (cs : List Int) (ag : List (Int × Int)) : List Int × Int :=
 if (pastM cs K.length || decide (32 < cs.length + ag.length) || lostA K.length ag) = true then ([], 1) else aggL K ag (cs.map (atK K))
def winK (K : List Int) (cs : List Int) (ks : List (Int × Bool)) (fn cl : Int) : List Int × Int :=
 if (pastM cs K.length || pastM (ks.map (·.1)) K.length || ((decide (fn = 4) || decide (fn = 5) || decide (fn = 6)) && decide ((K.length : Int) ≤ cl)) || decide (32 < K.length + 1)) = true then ([], 1)
 else if fn = 6 then (K ++ [atK K cl], 0) else if fn = 4 ∧ atK K cl = 2 then ([], 4) else (K ++ [1], 0)
def kindsOp (T : List Tb) (op : Int) (tb : ByteArray) (es : List Ex) (cs : List Int) (ks : List (Int × Bool)) (ag : List (Int × Int)) (fn cl : Int) (ins : List (List Int)) : List Int × Int :=
 let K := (ins[0]?).getD []
 let e0 := (es[0]?).getD (.mk 0 0 Val.zero [])
 if op = 1 then (match T.find? fun t => decide (t.name = tb) with | none => ([], 8) | some t => (t.cols.map (·.2), 0))
 else if op = 12 then (cs, 0)
 else if op = 2 then (K, condK K e0)
 else if op = 3 then projL K es 0 []
 else if op = 4 ∨ op = 5 then (ins.flatten, if 32 < ins.flatten.length then 1 else condK ins.flatten e0)
 else if op = 6 then groupK K cs ag
 else if op = 8 ∨ op = 11 then (if (ins.all fun k => decide (k = K)) = true then (K, 0) else ([], 4))
 else if op = 9 then (if pastM (ks.map (·.1)) K.length = true then ([], 1) else (K, 0))
 else if op = 10 then winK K cs ks fn cl
 else (K, 0)
mutual
def kindsP (T : List Tb) : Pl → List Int × Int
 | .mk op tb es cs ks ag fn cl n off ar => if (kindsL T ar).2 = 0 then kindsOp T op tb es cs ks ag fn cl (kindsL T ar).1 else ([], (kindsL T ar).2)
def kindsL (T : List Tb) : List Pl → List (List Int) × Int
 | [] => ([], 0)
 | p :: r => if (kindsP T p).2 = 0 then ((kindsP T p).1 :: (kindsL T r).1, (kindsL T r).2) else ([], (kindsP T p).2)
end
end Go.Proofs.YtlabphnonlicdaaGreat

namespace Go.Proofs.YtlabphnonlicdaaGreat
open Go Go.RowKit
set_option maxRecDepth 100000
set_option linter.unusedSimpArgs false
set_option linter.unusedVariables false
theorem kindOK_c (k : Int) : PCall Tryz.prog 27 [.int .i64 k] fun r => r = [.bool (kOK k)] := by
 refine PCall.x (nt := 9) (res := [.tmp 2]) mixed tt_ok [] Tryz.func27 rfl rfl rfl c27 (Nat.le_of_ble_eq_true rfl) ?_
 intro cp cc lp Q' hcp hcc hlp hQ
 repeat' (first
   | (with_reducible refine Nm.mk ?_; intro z hz)
   | (with_reducible refine IfB.mk ?_ ?_ <;> (intro h; cases h))
   | (with_reducible refine Two.l ?_; refine Asm.mk ?_ ?_; focus (decide +kernel))
   | (with_reducible refine Two.r ?_)
   | (with_reducible refine TwoT.r ?_)
   | (with_reducible refine Asm.mk ?_ ?_; focus (first | kernel_rfl | decide))
   | (with_reducible refine Asm.mk2 ?_ ?_)
   | ((fail_if_success (with_reducible first | refine hQ _ ?_ | refine Side.mk ?_ | refine isCP hcp ?_ | refine isCC hcc ?_ | refine isLP hlp ?_ | refine Ix.mk ?_ | refine SIx.mk ?_ | refine SEx.mk ?_ | refine EIx.mk ?_ | refine RIx.mk ?_ | refine LkX.mk ?_ | show False | refine hR ?_ _ ?_ ?_ ?_ ?_ ?_ | refine hR2 ?_ _ ?_ ?_ ?_ ?_ ?_)); cbv))
 all_goals (refine hQ _ ?_; clear hQ hcp hcc hlp; subst_vars; simp_all [kOK])
theorem many_c (w h : Int) : PCall Tryz.prog 49 [.int .i64 w, .int .i64 h] fun r => r = [.bool (manyM w h)] := by
 refine PCall.x (nt := 16) (res := [.tmp 4]) mixed tt_ok [] Tryz.func49 rfl rfl rfl c49 (Nat.le_of_ble_eq_true rfl) ?_
 intro cp cc lp Q' hcp hcc hlp hQ
 repeat' (first
   | (with_reducible refine Nm.mk ?_; intro z hz)
   | (with_reducible refine IfB.mk ?_ ?_ <;> (intro h; cases h))
   | (with_reducible refine Two.l ?_; refine Asm.mk ?_ ?_; focus (decide +kernel))
   | (with_reducible refine Two.r ?_)
   | (with_reducible refine TwoT.r ?_)
   | (with_reducible refine Asm.mk ?_ ?_; focus (first | kernel_rfl | decide))
   | (with_reducible refine Asm.mk2 ?_ ?_)
   | ((fail_if_success (with_reducible first | refine hQ _ ?_ | refine Side.mk ?_ | refine isCP hcp ?_ | refine isCC hcc ?_ | refine isLP hlp ?_ | refine Ix.mk ?_ | refine SIx.mk ?_ | refine SEx.mk ?_ | refine EIx.mk ?_ | refine RIx.mk ?_ | refine LkX.mk ?_ | show False | refine hR ?_ _ ?_ ?_ ?_ ?_ ?_ | refine hR2 ?_ _ ?_ ?_ ?_ ?_ ?_)); cbv))
 all_goals (refine hQ _ ?_; clear hQ hcp hcc hlp; subst_vars; simp_all [manyM])
theorem low_c (l : List Int) (C : List (List PV)) (hC : l.map i64c = C) (hb : l.length * 8 ≤ 140737488351232)  : PCall Tryz.prog 54 ([.sl C]) fun r => r = [.bool (lowM l)] := by
 have b1 : C.length = l.length := by rw [← hC]; simp
 obtain ⟨q, hq⟩ : ∃ q, (l.any fun x => decide (x < 0)) = q := ⟨_, rfl⟩
 rw [lowM, hq]
 refine PCall.x (nt := 14) (res := [.tmp 2]) mixed tt_ok [] Tryz.func54 rfl rfl rfl c54 (Nat.le_of_ble_eq_true rfl) ?_
 intro cp cc lp Q' hcp hcc hlp hQ
 repeat' (first
   | (with_reducible refine Nm.mk ?_; intro z hz)
   | (with_reducible refine IfB.mk ?_ ?_ <;> (intro h; cases h))
   | (with_reducible refine Two.l ?_; refine Asm.mk ?_ ?_; focus (decide +kernel))
   | (with_reducible refine Two.r ?_)
   | (with_reducible refine TwoT.r ?_)
   | (with_reducible refine Asm.mk ?_ ?_; focus (first | kernel_rfl | decide))
   | (with_reducible refine Asm.mk2 ?_ ?_)
   | ((fail_if_success (with_reducible first | refine hQ _ ?_ | refine Side.mk ?_ | refine isCP hcp ?_ | refine isCC hcc ?_ | refine isLP hlp ?_ | refine Ix.mk ?_ | refine SIx.mk ?_ | refine SEx.mk ?_ | refine EIx.mk ?_ | refine RIx.mk ?_ | refine LkX.mk ?_ | show False | refine hR ?_ _ ?_ ?_ ?_ ?_ ?_ | refine hR2 ?_ _ ?_ ?_ ?_ ?_ ?_)); cbv))
 simp only [nc] at hz
 simp only [nc'] at hz
 have hzl := lenZ b1 hz
 clear hz
 generalize z = zl at *
 refine loopK (ι := Int) mixed tt_ok hcp hcc hlp ([5, 6]) (fun i => [(7, .p (.int .i64 i))]) (fun i => Rng l.length zl i ∧ ((l.drop i.toNat).any fun x => decide (x < 0)) = q) (fun i => (zl - i).toNat) 0 (fun _ => rfl) ⟨Rng.start hzl (by omega), hq⟩ ⟨rfl, trivial⟩ ?_
 rintro R i ⟨rg, hf⟩ hR
 have hbad : ∀ x, l[i.toNat]? = some x → decide (x < 0) = true → q = true := by
   intro x hx h; rw [← hf, rg.step hx, List.any_cons, h]; rfl
 have hgood : ∀ x, l[i.toNat]? = some x → decide (x < 0) = false → ((l.drop (i + 1).toNat).any fun x => decide (x < 0)) = q := by
   intro x hx h; rw [← hf, rg.step hx, List.any_cons, h]; rfl
 have hout : decide (i < zl) = false → q = false := by
   intro h; rw [← hf, rg.end_ rfl h]; rfl
 repeat' (first
   | (with_reducible refine Nm.mk ?_; intro z hz)
   | (with_reducible refine IfB.mk ?_ ?_ <;> (intro h; cases h))
   | (with_reducible refine Two.l ?_; refine Asm.mk ?_ ?_; focus (decide +kernel))
   | (with_reducible refine Two.r ?_)
   | (with_reducible refine TwoT.r ?_)
   | (with_reducible refine Asm.mk ?_ ?_; focus kernel_rfl)
   | (with_reducible refine Ix.map hC i64c_len (by decide) rg.lo (rg.lt (by assumption)) ?_; intro x hx)
   | (with_reducible refine Asm.mk2 ?_ ?_)
   | ((fail_if_success (with_reducible first | refine hQ _ ?_ | refine Side.mk ?_ | refine isCP hcp ?_ | refine isCC hcc ?_ | refine isLP hlp ?_ | refine Ix.mk ?_ | refine SIx.mk ?_ | refine SEx.mk ?_ | refine EIx.mk ?_ | refine RIx.mk ?_ | refine LkX.mk ?_ | show False | refine hR ?_ _ ?_ ?_ ?_ ?_ ?_ | refine hR2 ?_ _ ?_ ?_ ?_ ?_ ?_)); cbv))
 all_goals first
   | (exfalso; clear hQ hcp hcc hlp hR; simp_all; done)
   | (refine hQ _ ?_; rw [hout (by assumption)]; done)
   | (refine hQ _ ?_; rw [hbad _ hx (by simp_all)]; done)
   | (have hlt : decide (i < zl) = true := by assumption
      rw [rg.wrap hlt] at hz
      exact hR (i + 1) _ ⟨rg.next hlt, hgood _ hx (by simp_all)⟩ (rg.less hlt) ⟨hz ▸ rfl, trivial⟩ (by first | exact ⟨rfl, trivial⟩ | exact ⟨rfl, rfl, trivial⟩ | exact ⟨rfl, rfl, rfl, trivial⟩) rfl)
theorem beyond_c (l : List Int) (C : List (List PV)) (hC : l.map i64c = C) (hb : l.length * 8 ≤ 140737488351232) (n : Int) : PCall Tryz.prog 44 ([.sl C, .int .i64 n]) fun r => r = [.bool (pastM l n)] := by
 have b1 : C.length = l.length := by rw [← hC]; simp
 obtain ⟨q, hq⟩ : ∃ q, (l.any fun x => decide (n ≤ x)) = q := ⟨_, rfl⟩
 rw [pastM, hq]
 refine PCall.x (nt := 17) (res := [.tmp 4]) mixed tt_ok [] Tryz.func44 rfl rfl rfl c44 (Nat.le_of_ble_eq_true rfl) ?_
 intro cp cc lp Q' hcp hcc hlp hQ
 repeat' (first
   | (with_reducible refine Nm.mk ?_; intro z hz)
   | (with_reducible refine IfB.mk ?_ ?_ <;> (intro h; cases h))
   | (with_reducible refine Two.l ?_; refine Asm.mk ?_ ?_; focus (decide +kernel))
   | (with_reducible refine Two.r ?_)
   | (with_reducible refine TwoT.r ?_)
   | (with_reducible refine Asm.mk ?_ ?_; focus (first | kernel_rfl | decide))
   | (with_reducible refine Asm.mk2 ?_ ?_)
   | ((fail_if_success (with_reducible first | refine hQ _ ?_ | refine Side.mk ?_ | refine isCP hcp ?_ | refine isCC hcc ?_ | refine isLP hlp ?_ | refine Ix.mk ?_ | refine SIx.mk ?_ | refine SEx.mk ?_ | refine EIx.mk ?_ | refine RIx.mk ?_ | refine LkX.mk ?_ | show False | refine hR ?_ _ ?_ ?_ ?_ ?_ ?_ | refine hR2 ?_ _ ?_ ?_ ?_ ?_ ?_)); cbv))
 simp only [nc] at hz
 simp only [nc'] at hz
 have hzl := lenZ b1 hz
 clear hz
 generalize z = zl at *
 refine loopK (ι := Int) mixed tt_ok hcp hcc hlp ([1, 7, 8]) (fun i => [(9, .p (.int .i64 i))]) (fun i => Rng l.length zl i ∧ ((l.drop i.toNat).any fun x => decide (n ≤ x)) = q) (fun i => (zl - i).toNat) 0 (fun _ => rfl) ⟨Rng.start hzl (by omega), hq⟩ ⟨rfl, trivial⟩ ?_
 rintro R i ⟨rg, hf⟩ hR
 have hbad : ∀ x, l[i.toNat]? = some x → decide (n ≤ x) = true → q = true := by
   intro x hx h; rw [← hf, rg.step hx, List.any_cons, h]; rfl
 have hgood : ∀ x, l[i.toNat]? = some x → decide (n ≤ x) = false → ((l.drop (i + 1).toNat).any fun x => decide (n ≤ x)) = q := by
   intro x hx h; rw [← hf, rg.step hx, List.any_cons, h]; rfl
 have hout : decide (i < zl) = false → q = false := by
   intro h; rw [← hf, rg.end_ rfl h]; rfl
 repeat' (first
   | (with_reducible refine Nm.mk ?_; intro z hz)
   | (with_reducible refine IfB.mk ?_ ?_ <;> (intro h; cases h))
   | (with_reducible refine Two.l ?_; refine Asm.mk ?_ ?_; focus (decide +kernel))
   | (with_reducible refine Two.r ?_)
   | (with_reducible refine TwoT.r ?_)
   | (with_reducible refine Asm.mk ?_ ?_; focus kernel_rfl)
   | (with_reducible refine Ix.map hC i64c_len (by decide) rg.lo (rg.lt (by assumption)) ?_; intro x hx)
   | (with_reducible refine Asm.mk2 ?_ ?_)
   | ((fail_if_success (with_reducible first | refine hQ _ ?_ | refine Side.mk ?_ | refine isCP hcp ?_ | refine isCC hcc ?_ | refine isLP hlp ?_ | refine Ix.mk ?_ | refine SIx.mk ?_ | refine SEx.mk ?_ | refine EIx.mk ?_ | refine RIx.mk ?_ | refine LkX.mk ?_ | show False | refine hR ?_ _ ?_ ?_ ?_ ?_ ?_ | refine hR2 ?_ _ ?_ ?_ ?_ ?_ ?_)); cbv))
 all_goals first
   | (exfalso; clear hQ hcp hcc hlp hR; simp_all; done)
   | (refine hQ _ ?_; rw [hout (by assumption)]; done)
   | (refine hQ _ ?_; rw [hbad _ hx (by simp_all)]; done)
   | (have hlt : decide (i < zl) = true := by assumption
      rw [rg.wrap hlt] at hz
      exact hR (i + 1) _ ⟨rg.next hlt, hgood _ hx (by simp_all)⟩ (rg.less hlt) ⟨hz ▸ rfl, trivial⟩ (by first | exact ⟨rfl, trivial⟩ | exact ⟨rfl, rfl, trivial⟩ | exact ⟨rfl, rfl, rfl, trivial⟩) rfl)
theorem sbeq_nil (s : ByteArray) : (sbeq s ⟨#[]⟩ = true) = (s.size = 0) :=
 propext ((sbeqZ s ⟨#[]⟩).trans ⟨fun h => by rw [h]; rfl, fun h => ByteArray.ext (Array.eq_empty_of_size_eq_zero h)⟩)
theorem sbeq_nil' (s : ByteArray) : (sbeq s ⟨#[]⟩ = false) = ¬ (s.size = 0) := by rw [← sbeq_nil, Bool.not_eq_true]
theorem SIx.give {s : ByteArray} {i : Int} {K : Int → Prop} {b : UInt8} {c : Int} (h0 : 0 ≤ i) (hb : s[i.toNat]? = some b) (hc : (b.toNat : Int) = c) (g : K c) : SIx s i K :=
 ⟨⟨b, h0, hb, fun z hz => (hc.symm.trans hz) ▸ g⟩⟩
theorem IxB.give {s : ByteArray} {L : List (List PV)} (hL : bytesL s = L) {i : Int} {K : List PV → Prop} {b : UInt8} {c : Int} (h0 : 0 ≤ i) (hb : s[i.toNat]? = some b) (hc : (b.toNat : Int) = c) (g : K [.int .u8 c]) : Ix 1 L i K := by
 refine ⟨⟨[.int .u8 c], h0, ?_, rfl, by decide, g⟩⟩
 rw [← hL, bytesL, List.getElem?_map, show s.data.toList[i.toNat]? = some b from byts_get.1 hb, ← hc]; rfl
theorem name_step {s : ByteArray} {q : Bool} {i : Int} {b : UInt8} {c : Int} (h0 : 0 ≤ i) (hb : s[i.toNat]? = some b) (hc : (b.toNat : Int) = c) (hf : idL (decide (i = 0)) ((byts s).drop i.toNat) = q) :
   (((97 ≤ c ∧ c ≤ 122) ∨ (¬ i = 0 ∧ ((48 ≤ c ∧ c ≤ 57) ∨ c = 95))) → idL (decide (i + 1 = 0)) ((byts s).drop (i + 1).toNat) = q) ∧ (¬ ((97 ≤ c ∧ c ≤ 122) ∨ (¬ i = 0 ∧ ((48 ≤ c ∧ c ≤ 57) ∨ c = 95))) → q = false) := by
 have hd : (byts s).drop i.toNat = b :: (byts s).drop (i + 1).toNat := by
   have hx := byts_get.1 hb
   rw [List.drop_eq_getElem_cons (List.getElem?_eq_some_iff.1 hx).1, (List.getElem?_eq_some_iff.1 hx).2, show (i + 1).toNat = i.toNat + 1 by omega]
 have hcond : (lowB b || (!(decide (i = 0)) && digB b)) = true ↔ ((97 ≤ c ∧ c ≤ 122) ∨ (¬ i = 0 ∧ ((48 ≤ c ∧ c ≤ 57) ∨ c = 95))) := by
   unfold lowB digB
   rw [hc]
   simp
 rw [hd, idL] at hf
 rw [show decide (i + 1 = 0) = false from decide_eq_false (by omega)]
 constructor
 · intro h; rw [← hf, hcond.2 h, Bool.true_and]
 · intro h
   rw [← hcond, Bool.not_eq_true] at h
   rw [← hf, h]; rfl
theorem byts_zero {s : ByteArray} {q : Bool} {i : Int} (h1 : i.toNat = s.size) (hf : idL (decide (i = 0)) ((byts s).drop i.toNat) = q) : q = true := by
 rw [← hf, List.drop_eq_nil_of_le (by rw [byts_len]; omega)]; rfl
theorem rname_c (s : ByteArray) (hs : s.size ≤ 140737488355328) : PCall Tryz.prog 23 [.str s] fun r => r = [.bool (idM s)] := by
 obtain ⟨q, hq⟩ : ∃ q, idL true s.data.toList = q := ⟨_, rfl⟩
 refine PCall.x (nt := 54) (res := [.tmp 2]) mixed tt_ok [] Tryz.func23 rfl rfl rfl c23 (Nat.le_of_ble_eq_true rfl) ?_
 intro cp cc lp Q' hcp hcc hlp hQ
 repeat' (first
   | (with_reducible refine Nm.mk ?_; intro z hz)
   | (with_reducible refine IfB.mk ?_ ?_ <;> (intro h; cases h))
   | (with_reducible refine Two.l ?_; refine Asm.mk ?_ ?_; focus (decide +kernel))
   | (with_reducible refine Two.r ?_)
   | (with_reducible refine TwoT.r ?_)
   | (with_reducible refine Asm.mk ?_ ?_; focus (first | kernel_rfl | decide))
   | (with_reducible refine Asm.mk2 ?_ ?_)
   | ((fail_if_success (with_reducible first | refine hQ _ ?_ | refine Side.mk ?_ | refine isCP hcp ?_ | refine isCC hcc ?_ | refine isLP hlp ?_ | refine Ix.mk ?_ | refine SIx.mk ?_ | refine SEx.mk ?_ | refine EIx.mk ?_ | refine RIx.mk ?_ | refine LkX.mk ?_ | show False | refine hR ?_ _ ?_ ?_ ?_ ?_ ?_ | refine hR2 ?_ _ ?_ ?_ ?_ ?_ ?_)); cbv))
 refine loopK (ι := Int) mixed tt_ok hcp hcc hlp [0] (fun i => [(3, .p (.int .i64 i))]) (fun i => (0 ≤ i ∧ i.toNat ≤ s.size) ∧ idL (decide (i = 0)) ((byts s).drop i.toNat) = q) (fun i => s.size - i.toNat) 0 (fun _ => rfl) ⟨by simp, hq⟩ ⟨rfl, trivial⟩ ?_
 rintro R i ⟨⟨hi0, hi1⟩, hf⟩ hR
 obtain ⟨b, hb⟩ : ∃ b : UInt8, i.toNat < s.size → s[i.toNat]? = some b := by
   by_cases h : i.toNat < s.size
   · obtain ⟨b, hb⟩ := byts_at h; exact ⟨b, fun _ => hb⟩
   · exact ⟨0, fun h' => absurd h' h⟩
 obtain ⟨c, hc⟩ : ∃ c : Int, (b.toNat : Int) = c := ⟨_, rfl⟩
 have hie := at_cases hi0 hi1
 repeat' (first
   | (with_reducible refine Nm.mk ?_; intro z hz)
   | (with_reducible refine IfB.mk ?_ ?_ <;> (intro h; cases h))
   | (with_reducible refine Two.l ?_; refine Asm.mk ?_ ?_; focus (decide +kernel))
   | (with_reducible refine Two.r ?_)
   | (with_reducible refine TwoT.r ?_)
   | (with_reducible refine Asm.mk ?_ ?_; focus (show (_ : Bool) = true; kernel_rfl))
   | (with_reducible refine SIx.give hi0 (hb ((hie _ (by assumption)).1 (by assumption))) hc ?_)
   | (with_reducible refine Asm.mk2 ?_ ?_)
   | ((fail_if_success (with_reducible first | refine hQ _ ?_ | refine Side.mk ?_ | refine isCP hcp ?_ | refine isCC hcc ?_ | refine isLP hlp ?_ | refine Ix.mk ?_ | refine SIx.mk ?_ | refine SEx.mk ?_ | refine EIx.mk ?_ | refine RIx.mk ?_ | refine LkX.mk ?_ | show False | refine hR ?_ _ ?_ ?_ ?_ ?_ ?_ | refine hR2 ?_ _ ?_ ?_ ?_ ?_ ?_)); cbv))
 all_goals first
   | exact ⟨by decide⟩
   | (have hl : i.toNat < s.size := by first | exact (hie _ (by assumption)).1 (by assumption) | exact (hie rfl).1 (by assumption)
      obtain ⟨hg, hbd⟩ := name_step hi0 (hb hl) hc hf
      first
        | (refine hQ _ ?_
           rw [idM, hq, hbd (by clear hR hQ hcp hcc hlp hie hb hf hg hbd; grind)]; rfl)
        | (have hw : IntKind.i64.wrap (i + 1) = i + 1 := wrap_in (by omega)
           rw [hw] at hz
           exact hR (i + 1) _ ⟨⟨by omega, by omega⟩, hg (by clear hR hQ hcp hcc hlp hie hb hf hg hbd; grind)⟩ (by omega) ⟨hz ▸ rfl, trivial⟩ (by first | exact ⟨rfl, trivial⟩ | exact ⟨rfl, rfl, rfl, trivial⟩) rfl))
   | (have hl : i.toNat = s.size := by first | exact (hie _ (by assumption)).2 (by assumption) | exact (hie rfl).2 (by assumption) | (clear hR hQ hcp hcc hlp hf hb hie; simp only [decide_eq_false_iff_not, decide_eq_true_eq] at *; try simp only [nc] at *; try simp only [nc'] at *; omega)
      refine hQ _ ?_
      rw [idM, hq, byts_zero hl hf]
      clear hR hQ hcp hcc hlp hie hb hf
      try simp only [nc] at *
      try simp only [nc'] at *
      have hnil := sbeq_nil s
      have hnil' := sbeq_nil' s
      congr 2
      rw [Bool.eq_iff_iff]
      try rw [← hz]
      simp only [decide_eq_true_eq, decide_eq_false_iff_not, Bool.and_eq_true, Bool.not_eq_true', Bool.not_eq_false', Bool.true_and, Bool.false_eq_true, sbeq_nil, sbeq_nil', true_and, false_iff] at *
      omega)
theorem name_c (s : ByteArray) (hs : s.size ≤ 140737488355328) : PCall Tryz.prog 26 [.str s] fun r => r = [.bool (idM s)] := by
 obtain ⟨q, hq⟩ : ∃ q, idL true s.data.toList = q := ⟨_, rfl⟩
 refine PCall.x (nt := 44) (res := [.tmp 2]) mixed tt_ok [] Tryz.func26 rfl rfl rfl c26 (Nat.le_of_ble_eq_true rfl) ?_
 intro cp cc lp Q' hcp hcc hlp hQ
 repeat' (first
   | (with_reducible refine Nm.mk ?_; intro z hz)
   | (with_reducible refine IfB.mk ?_ ?_ <;> (intro h; cases h))
   | (with_reducible refine Two.l ?_; refine Asm.mk ?_ ?_; focus (decide +kernel))
   | (with_reducible refine Two.r ?_)
   | (with_reducible refine TwoT.r ?_)
   | (with_reducible refine Asm.mk ?_ ?_; focus (first | (show (_ : Bool) = true; kernel_rfl) | (simp only [maxLen]; omega)))
   | (with_reducible refine Asm.mk2 ?_ ?_)
   | ((fail_if_success (with_reducible first | refine hQ _ ?_ | refine Side.mk ?_ | refine isCP hcp ?_ | refine isCC hcc ?_ | refine isLP hlp ?_ | refine Ix.mk ?_ | refine SIx.mk ?_ | refine SEx.mk ?_ | refine EIx.mk ?_ | refine RIx.mk ?_ | refine LkX.mk ?_ | show False | refine hR ?_ _ ?_ ?_ ?_ ?_ ?_ | refine hR2 ?_ _ ?_ ?_ ?_ ?_ ?_)); cbv))
 rename_i L hL
 have hz2 : (s.size : Int) = z := by rw [← hz, ← hL, bytesL, List.length_map, Array.length_toList]; rfl
 clear hz
 generalize z = zz at *
 refine loopK (ι := Int) mixed tt_ok hcp hcc hlp [0, 6, 7] (fun i => [(8, .p (.int .i64 i))]) (fun i => (0 ≤ i ∧ i.toNat ≤ s.size) ∧ idL (decide (i = 0)) ((byts s).drop i.toNat) = q) (fun i => s.size - i.toNat) 0 (fun _ => rfl) ⟨by simp, hq⟩ ⟨rfl, trivial⟩ ?_
 rintro R i ⟨⟨hi0, hi1⟩, hf⟩ hR
 obtain ⟨b, hb⟩ : ∃ b : UInt8, i.toNat < s.size → s[i.toNat]? = some b := by
   by_cases h : i.toNat < s.size
   · obtain ⟨b, hb⟩ := byts_at h; exact ⟨b, fun _ => hb⟩
   · exact ⟨0, fun h' => absurd h' h⟩
 obtain ⟨c, hc⟩ : ∃ c : Int, (b.toNat : Int) = c := ⟨_, rfl⟩
 have hie := fun (_ : zz = zz) => at_cases hi0 hi1 zz hz2
 repeat' (first
   | (with_reducible refine Nm.mk ?_; intro z hz)
   | (with_reducible refine IfB.mk ?_ ?_ <;> (intro h; cases h))
   | (with_reducible refine Two.l ?_; refine Asm.mk ?_ ?_; focus (decide +kernel))
   | (with_reducible refine Two.r ?_)
   | (with_reducible refine TwoT.r ?_)
   | (with_reducible refine Asm.mk ?_ ?_; focus (show (_ : Bool) = true; kernel_rfl))
   | (with_reducible refine IxB.give hL hi0 (hb ((hie rfl).1 (by assumption))) hc ?_)
   | (with_reducible refine Asm.mk2 ?_ ?_)
   | ((fail_if_success (with_reducible first | refine hQ _ ?_ | refine Side.mk ?_ | refine isCP hcp ?_ | refine isCC hcc ?_ | refine isLP hlp ?_ | refine Ix.mk ?_ | refine SIx.mk ?_ | refine SEx.mk ?_ | refine EIx.mk ?_ | refine RIx.mk ?_ | refine LkX.mk ?_ | show False | refine hR ?_ _ ?_ ?_ ?_ ?_ ?_ | refine hR2 ?_ _ ?_ ?_ ?_ ?_ ?_)); cbv))
 all_goals first
   | exact ⟨by decide⟩
   | (have hl : i.toNat < s.size := by first | exact (hie _ (by assumption)).1 (by assumption) | exact (hie rfl).1 (by assumption)
      obtain ⟨hg, hbd⟩ := name_step hi0 (hb hl) hc hf
      first
        | (refine hQ _ ?_
           rw [idM, hq, hbd (by clear hR hQ hcp hcc hlp hie hb hf hg hbd; grind)]; rfl)
        | (have hw : IntKind.i64.wrap (i + 1) = i + 1 := wrap_in (by omega)
           rw [hw] at hz
           exact hR (i + 1) _ ⟨⟨by omega, by omega⟩, hg (by clear hR hQ hcp hcc hlp hie hb hf hg hbd; grind)⟩ (by omega) ⟨hz ▸ rfl, trivial⟩ (by first | exact ⟨rfl, trivial⟩ | exact ⟨rfl, rfl, rfl, trivial⟩) rfl))
   | (have hl : i.toNat = s.size := by first | exact (hie _ (by assumption)).2 (by assumption) | exact (hie rfl).2 (by assumption) | (clear hR hQ hcp hcc hlp hf hb hie; simp only [decide_eq_false_iff_not, decide_eq_true_eq] at *; try simp only [nc] at *; try simp only [nc'] at *; omega)
      refine hQ _ ?_
      rw [idM, hq, byts_zero hl hf]
      clear hR hQ hcp hcc hlp hie hb hf
      try simp only [nc] at *
      try simp only [nc'] at *
      have hnil := sbeq_nil s
      have hnil' := sbeq_nil' s
      congr 2
      rw [Bool.eq_iff_iff]
      try rw [← hz]
      simp only [decide_eq_true_eq, decide_eq_false_iff_not, Bool.and_eq_true, Bool.not_eq_true', Bool.not_eq_false', Bool.true_and, Bool.false_eq_true, sbeq_nil, sbeq_nil', true_and, false_iff] at *
      omega)
end Go.Proofs.YtlabphnonlicdaaGreat

namespace Go.Proofs.YtlabphnonlicdaaGreat
open Go Go.RowKit
set_option maxRecDepth 100000
set_option linter.unusedSimpArgs false
set_option linter.unusedVariables false
def colc (c : ByteArray × Int) : List PV := [.str c.1, .int .i64 c.2]
theorem colc_len (c : ByteArray × Int) : (colc c).length = 2 := rfl
theorem ok_i64 (l : List Int) : okEs 1 (l.map i64c) = true := List.all_eq_true.2 fun e he => by obtain ⟨c, _, rfl⟩ := List.mem_map.1 he; rfl
theorem keyColumns_c (l : List (Int × Bool)) (C : List (List PV))  (hC : l.map keyc = C) (hb : l.length * 16 ≤ 140737488351232) : PCall Tryz.prog 37 [.sl C] fun r => r = [.sl ((l.map (·.1)).map i64c)] := by
 have b1 : C.length = l.length := by rw [← hC]; simp
 obtain ⟨D, hD⟩ : ∃ D, (l.map (·.1)).map i64c = D := ⟨_, rfl⟩
 rw [hD]
 refine PCall.x (nt := 19) (res := [.tmp 2]) mixed tt_ok [] Tryz.func37 rfl rfl rfl c37 (Nat.le_of_ble_eq_true rfl) ?_
 intro cp cc lp Q' hcp hcc hlp hQ
 repeat' (first
   | (with_reducible refine Nm.mk ?_; intro z hz)
   | (with_reducible refine IfB.mk ?_ ?_ <;> (intro h; cases h))
   | (with_reducible refine Two.l ?_; refine Asm.mk ?_ ?_; focus (decide +kernel))
   | (with_reducible refine Two.r ?_)
   | (with_reducible refine TwoT.r ?_)
   | (with_reducible refine Asm.mk ?_ ?_; focus (first | kernel_rfl | decide))
   | (with_reducible refine Asm.mk2 ?_ ?_)
   | ((fail_if_success (with_reducible first | refine hQ _ ?_ | refine Side.mk ?_ | refine isCP hcp ?_ | refine isCC hcc ?_ | refine isLP hlp ?_ | refine Ix.mk ?_ | refine SIx.mk ?_ | refine SEx.mk ?_ | refine EIx.mk ?_ | refine RIx.mk ?_ | refine LkX.mk ?_ | show False | refine hR ?_ _ ?_ ?_ ?_ ?_ ?_ | refine hR2 ?_ _ ?_ ?_ ?_ ?_ ?_)); cbv))
 simp only [nc] at hz
 simp only [nc'] at hz
 have hzl := lenZ b1 hz
 clear hz
 generalize z = zl at *
 refine mintT hlp 1 3 rfl ?_
 refine loopT (ι := Int × List (List PV) × Nat) mixed tt_ok hcp hcc hlp [6, 7] (fun p => [(3, .tok 0 p.2.1), (8, .p (.int .i64 p.1))]) (fun p => [.spare p.2.2 1])
   (fun p => Rng l.length zl p.1 ∧ ((l.take p.1.toNat).map (·.1)).map i64c = p.2.1 ∧ p.2.1.length = p.2.2) (fun p => (zl - p.1).toNat) (0, [], 0) 1 (fun _ => rfl) ⟨Rng.start hzl (by omega), rfl, rfl⟩ ⟨rfl, rfl, trivial⟩ rfl ?_
 rintro R ⟨i, C1, m1⟩ ⟨rg, hC1, hm1⟩ hR
 replace rg : Rng l.length zl i := rg
 replace hC1 : ((l.take i.toNat).map (·.1)).map i64c = C1 := hC1
 replace hm1 : C1.length = m1 := hm1
 have hok : okEs 1 C1 = true := by rw [← hC1]; exact ok_i64 _
 have hCl : C1.length ≤ l.length := by rw [← hC1, List.length_map, List.length_map, List.length_take]; omega
 have hcl : C1.length = i.toNat ∧ (decide (i < zl) = true → i.toNat + 1 ≤ l.length) := by
   refine ⟨by rw [← hC1, List.length_map, List.length_map, List.length_take]; have := rg.hi; have := rg.len; omega, fun h => by have := rg.ltN h; omega⟩
 repeat' (first
   | (with_reducible refine Nm.mk ?_; intro z hz)
   | (with_reducible refine IfB.mk ?_ ?_ <;> (intro h; cases h))
   | (with_reducible refine Two.l ?_; refine Asm.mk ?_ ?_; focus (decide +kernel))
   | (with_reducible refine Two.r ?_)
   | (with_reducible refine TwoT.r ?_)
   | (with_reducible refine Asm.mk ?_ ?_; focus (first | (have := hcl.2 (by assumption); refine ⟨hm1.symm, rfl, hok, rfl, ?_, ?_⟩ <;> (clear hR hQ; simp only [List.length_cons, List.length_nil, maxLen]; omega)) | (show (_ : Bool) = true; kernel_rfl)))
   | (with_reducible refine Ix.map hC keyc_len (by decide) rg.lo (rg.lt (by assumption)) ?_; intro x hx)
   | (with_reducible refine Asm.mk2 ?_ ?_)
   | ((fail_if_success (with_reducible first | refine hQ _ ?_ | refine Side.mk ?_ | refine isCP hcp ?_ | refine isCC hcc ?_ | refine isLP hlp ?_ | refine Ix.mk ?_ | refine SIx.mk ?_ | refine SEx.mk ?_ | refine EIx.mk ?_ | refine RIx.mk ?_ | refine LkX.mk ?_ | show False | refine hR ?_ _ ?_ ?_ ?_ ?_ ?_ | refine hR2 ?_ _ ?_ ?_ ?_ ?_ ?_)); cbv))
 · have hlt : decide (i < zl) = true := by assumption
   rename_i L3 hL3 m3 hm3
   rw [rg.wrap hlt] at hz
   refine hR (i + 1, L3, m3) _ ⟨rg.next hlt, ?_, by show L3.length = m3; rw [← hL3, ← hm3, List.length_append]⟩ (rg.less hlt) ⟨rfl, hz ▸ rfl, trivial⟩ ⟨rfl, rfl, trivial⟩ rfl
   show ((l.take (i + 1).toNat).map (·.1)).map i64c = L3
   rw [rg.take hx, List.map_append, List.map_append, hC1, ← hL3]
   rfl
 · refine hQ _ ?_
   rw [← hD, ← hC1, rg.take_ rfl (by assumption)]
theorem keyCols_c (l : List (Int × Bool)) (C : List (List PV))  (hC : l.map keyc = C) (hb : l.length * 16 ≤ 140737488351232) : PCall Tryz.prog 45 [.sl C] fun r => r = [.sl ((l.map (·.1)).map i64c)] := by
 have b1 : C.length = l.length := by rw [← hC]; simp
 obtain ⟨D, hD⟩ : ∃ D, (l.map (·.1)).map i64c = D := ⟨_, rfl⟩
 rw [hD]
 refine PCall.x (nt := 19) (res := [.tmp 2]) mixed tt_ok [] Tryz.func45 rfl rfl rfl c45 (Nat.le_of_ble_eq_true rfl) ?_
 intro cp cc lp Q' hcp hcc hlp hQ
 repeat' (first
   | (with_reducible refine Nm.mk ?_; intro z hz)
   | (with_reducible refine IfB.mk ?_ ?_ <;> (intro h; cases h))
   | (with_reducible refine Two.l ?_; refine Asm.mk ?_ ?_; focus (decide +kernel))
   | (with_reducible refine Two.r ?_)
   | (with_reducible refine TwoT.r ?_)
   | (with_reducible refine Asm.mk ?_ ?_; focus (first | kernel_rfl | decide))
   | (with_reducible refine Asm.mk2 ?_ ?_)
   | ((fail_if_success (with_reducible first | refine hQ _ ?_ | refine Side.mk ?_ | refine isCP hcp ?_ | refine isCC hcc ?_ | refine isLP hlp ?_ | refine Ix.mk ?_ | refine SIx.mk ?_ | refine SEx.mk ?_ | refine EIx.mk ?_ | refine RIx.mk ?_ | refine LkX.mk ?_ | show False | refine hR ?_ _ ?_ ?_ ?_ ?_ ?_ | refine hR2 ?_ _ ?_ ?_ ?_ ?_ ?_)); cbv))
 simp only [nc] at hz
 simp only [nc'] at hz
 have hzl := lenZ b1 hz
 clear hz
 generalize z = zl at *
 refine mintT hlp 1 3 rfl ?_
 refine loopT (ι := Int × List (List PV) × Nat) mixed tt_ok hcp hcc hlp [6, 7] (fun p => [(3, .tok 0 p.2.1), (8, .p (.int .i64 p.1))]) (fun p => [.spare p.2.2 1])
   (fun p => Rng l.length zl p.1 ∧ ((l.take p.1.toNat).map (·.1)).map i64c = p.2.1 ∧ p.2.1.length = p.2.2) (fun p => (zl - p.1).toNat) (0, [], 0) 1 (fun _ => rfl) ⟨Rng.start hzl (by omega), rfl, rfl⟩ ⟨rfl, rfl, trivial⟩ rfl ?_
 rintro R ⟨i, C1, m1⟩ ⟨rg, hC1, hm1⟩ hR
 replace rg : Rng l.length zl i := rg
 replace hC1 : ((l.take i.toNat).map (·.1)).map i64c = C1 := hC1
 replace hm1 : C1.length = m1 := hm1
 have hok : okEs 1 C1 = true := by rw [← hC1]; exact ok_i64 _
 have hCl : C1.length ≤ l.length := by rw [← hC1, List.length_map, List.length_map, List.length_take]; omega
 have hcl : C1.length = i.toNat ∧ (decide (i < zl) = true → i.toNat + 1 ≤ l.length) := by
   refine ⟨by rw [← hC1, List.length_map, List.length_map, List.length_take]; have := rg.hi; have := rg.len; omega, fun h => by have := rg.ltN h; omega⟩
 repeat' (first
   | (with_reducible refine Nm.mk ?_; intro z hz)
   | (with_reducible refine IfB.mk ?_ ?_ <;> (intro h; cases h))
   | (with_reducible refine Two.l ?_; refine Asm.mk ?_ ?_; focus (decide +kernel))
   | (with_reducible refine Two.r ?_)
   | (with_reducible refine TwoT.r ?_)
   | (with_reducible refine Asm.mk ?_ ?_; focus (first | (have := hcl.2 (by assumption); refine ⟨hm1.symm, rfl, hok, rfl, ?_, ?_⟩ <;> (clear hR hQ; simp only [List.length_cons, List.length_nil, maxLen]; omega)) | (show (_ : Bool) = true; kernel_rfl)))
   | (with_reducible refine Ix.map hC keyc_len (by decide) rg.lo (rg.lt (by assumption)) ?_; intro x hx)
   | (with_reducible refine Asm.mk2 ?_ ?_)
   | ((fail_if_success (with_reducible first | refine hQ _ ?_ | refine Side.mk ?_ | refine isCP hcp ?_ | refine isCC hcc ?_ | refine isLP hlp ?_ | refine Ix.mk ?_ | refine SIx.mk ?_ | refine SEx.mk ?_ | refine EIx.mk ?_ | refine RIx.mk ?_ | refine LkX.mk ?_ | show False | refine hR ?_ _ ?_ ?_ ?_ ?_ ?_ | refine hR2 ?_ _ ?_ ?_ ?_ ?_ ?_)); cbv))
 · have hlt : decide (i < zl) = true := by assumption
   rename_i L3 hL3 m3 hm3
   rw [rg.wrap hlt] at hz
   refine hR (i + 1, L3, m3) _ ⟨rg.next hlt, ?_, by show L3.length = m3; rw [← hL3, ← hm3, List.length_append]⟩ (rg.less hlt) ⟨rfl, hz ▸ rfl, trivial⟩ ⟨rfl, rfl, trivial⟩ rfl
   show ((l.take (i + 1).toNat).map (·.1)).map i64c = L3
   rw [rg.take hx, List.map_append, List.map_append, hC1, ← hL3]
   rfl
 · refine hQ _ ?_
   rw [← hD, ← hC1, rg.take_ rfl (by assumption)]
theorem kindsOf_c (l : List (ByteArray × Int)) (C : List (List PV)) (nm : ByteArray) (RW : List (List PV)) (hC : l.map colc = C) (hb : l.length * 24 ≤ 140737488351232) : PCall Tryz.prog 14 [.agg [.str nm, .sl C, .sl RW]] fun r => r = [.sl ((l.map (·.2)).map i64c)] := by
 have b1 : C.length = l.length := by rw [← hC]; simp
 obtain ⟨D, hD⟩ : ∃ D, (l.map (·.2)).map i64c = D := ⟨_, rfl⟩
 rw [hD]
 refine PCall.x (nt := 20) (res := [.tmp 2]) mixed tt_ok [] Tryz.func14 rfl rfl rfl c14 (Nat.le_of_ble_eq_true rfl) ?_
 intro cp cc lp Q' hcp hcc hlp hQ
 repeat' (first
   | (with_reducible refine Nm.mk ?_; intro z hz)
   | (with_reducible refine IfB.mk ?_ ?_ <;> (intro h; cases h))
   | (with_reducible refine Two.l ?_; refine Asm.mk ?_ ?_; focus (decide +kernel))
   | (with_reducible refine Two.r ?_)
   | (with_reducible refine TwoT.r ?_)
   | (with_reducible refine Asm.mk ?_ ?_; focus (first | kernel_rfl | decide))
   | (with_reducible refine Asm.mk2 ?_ ?_)
   | ((fail_if_success (with_reducible first | refine hQ _ ?_ | refine Side.mk ?_ | refine isCP hcp ?_ | refine isCC hcc ?_ | refine isLP hlp ?_ | refine Ix.mk ?_ | refine SIx.mk ?_ | refine SEx.mk ?_ | refine EIx.mk ?_ | refine RIx.mk ?_ | refine LkX.mk ?_ | show False | refine hR ?_ _ ?_ ?_ ?_ ?_ ?_ | refine hR2 ?_ _ ?_ ?_ ?_ ?_ ?_)); cbv))
 simp only [nc] at hz
 simp only [nc'] at hz
 have hzl := lenZ b1 hz
 clear hz
 generalize z = zl at *
 refine mintT hlp 1 3 rfl ?_
 refine loopT (ι := Int × List (List PV) × Nat) mixed tt_ok hcp hcc hlp [7, 8] (fun p => [(3, .tok 1 p.2.1), (9, .p (.int .i64 p.1))]) (fun p => [.cells [.p (.str nm), .p (.sl C), .p (.sl RW)],.spare p.2.2 1])
   (fun p => Rng l.length zl p.1 ∧ ((l.take p.1.toNat).map (·.2)).map i64c = p.2.1 ∧ p.2.1.length = p.2.2) (fun p => (zl - p.1).toNat) (0, [], 0) 2 (fun _ => rfl) ⟨Rng.start hzl (by omega), rfl, rfl⟩ ⟨rfl, rfl, trivial⟩ rfl ?_
 rintro R ⟨i, C1, m1⟩ ⟨rg, hC1, hm1⟩ hR
 replace rg : Rng l.length zl i := rg
 replace hC1 : ((l.take i.toNat).map (·.2)).map i64c = C1 := hC1
 replace hm1 : C1.length = m1 := hm1
 have hok : okEs 1 C1 = true := by rw [← hC1]; exact ok_i64 _
 have hCl : C1.length ≤ l.length := by rw [← hC1, List.length_map, List.length_map, List.length_take]; omega
 have hcl : C1.length = i.toNat ∧ (decide (i < zl) = true → i.toNat + 1 ≤ l.length) := by
   refine ⟨by rw [← hC1, List.length_map, List.length_map, List.length_take]; have := rg.hi; have := rg.len; omega, fun h => by have := rg.ltN h; omega⟩
 repeat' (first
   | (with_reducible refine Nm.mk ?_; intro z hz)
   | (with_reducible refine IfB.mk ?_ ?_ <;> (intro h; cases h))
   | (with_reducible refine Two.l ?_; refine Asm.mk ?_ ?_; focus (decide +kernel))
   | (with_reducible refine Two.r ?_)
   | (with_reducible refine TwoT.r ?_)
   | (with_reducible refine Asm.mk ?_ ?_; focus (first | (have := hcl.2 (by assumption); refine ⟨hm1.symm, rfl, hok, rfl, ?_, ?_⟩ <;> (clear hR hQ; simp only [List.length_cons, List.length_nil, maxLen]; omega)) | (show (_ : Bool) = true; kernel_rfl)))
   | (with_reducible refine Ix.map hC colc_len (by decide) rg.lo (rg.lt (by assumption)) ?_; intro x hx)
   | (with_reducible refine Asm.mk2 ?_ ?_)
   | ((fail_if_success (with_reducible first | refine hQ _ ?_ | refine Side.mk ?_ | refine isCP hcp ?_ | refine isCC hcc ?_ | refine isLP hlp ?_ | refine Ix.mk ?_ | refine SIx.mk ?_ | refine SEx.mk ?_ | refine EIx.mk ?_ | refine RIx.mk ?_ | refine LkX.mk ?_ | show False | refine hR ?_ _ ?_ ?_ ?_ ?_ ?_ | refine hR2 ?_ _ ?_ ?_ ?_ ?_ ?_)); cbv))
 · have hlt : decide (i < zl) = true := by assumption
   rename_i L3 hL3 m3 hm3
   rw [rg.wrap hlt] at hz
   refine hR (i + 1, L3, m3) _ ⟨rg.next hlt, ?_, by show L3.length = m3; rw [← hL3, ← hm3, List.length_append]⟩ (rg.less hlt) ⟨rfl, hz ▸ rfl, trivial⟩ ⟨rfl, rfl, trivial⟩ rfl
   show ((l.take (i + 1).toNat).map (·.2)).map i64c = L3
   rw [rg.take hx, List.map_append, List.map_append, hC1, ← hL3]
   rfl
 · refine hQ _ ?_
   rw [← hD, ← hC1, rg.take_ rfl (by assumption)]
end Go.Proofs.YtlabphnonlicdaaGreat

namespace Go.Proofs.YtlabphnonlicdaaGreat
open Go Go.RowKit
set_option maxRecDepth 100000
set_option linter.unusedSimpArgs false
set_option linter.unusedVariables false
def rowPc (r : List Val) : List PV := [.sl (r.map Val.cells)]
def Tb.cells (t : Tb) : List PV := [.str t.name, .sl (t.cols.map colc), .sl (t.rows.map rowPc)]
theorem tb_len (t : Tb) : t.cells.length = 3 := rfl
def idxG {α : Type} (p : α → Bool) : List α → Int → Int
 | [], _ => -1
 | x :: r, i => if p x = true then i else idxG p r (i + 1)
theorem idxG_lo {α : Type} (p : α → Bool) : ∀ (l : List α) (i : Int), 0 ≤ i → (0 ≤ idxG p l i ↔ l.any p = true)
 | [], i, _ => by simp [idxG]
 | x :: r, i, h => by
   rw [idxG, List.any_cons]
   cases hx : p x with
   | true => simp [h]
   | false => rw [if_neg (by decide), idxG_lo p r (i + 1) (by omega)]; simp
theorem idxG_find {α : Type} (p : α → Bool) : ∀ (l : List α) (i : Int), 0 ≤ i → (l.find? p = none → idxG p l i = -1) ∧ (∀ t, l.find? p = some t → i ≤ idxG p l i ∧ l[(idxG p l i - i).toNat]? = some t)
 | [], i, _ => ⟨fun _ => rfl, fun t h => by cases h⟩
 | x :: r, i, h => by
   rw [idxG, List.find?_cons]
   cases hx : p x with
   | true =>
     refine ⟨fun h => (by cases h), fun t ht => ?_⟩
     simp only [Option.some.injEq] at ht
     subst ht
     rw [if_pos rfl]
     exact ⟨Int.le_refl _, by rw [Int.sub_self]; rfl⟩
   | false =>
     rw [if_neg (by decide)]
     obtain ⟨h1, h2⟩ := idxG_find p r (i + 1) (by omega)
     refine ⟨h1, fun t ht => ?_⟩
     obtain ⟨h3, h4⟩ := h2 t ht
     refine ⟨by omega, ?_⟩
     rw [show (idxG p r (i + 1) - i).toNat = (idxG p r (i + 1) - (i + 1)).toNat + 1 by omega, List.getElem?_cons_succ]
     exact h4
theorem Ix.tb {C : List (List PV)} {l : List Tb} {i : Int} {K : List PV → Prop} (hl : l.map Tb.cells = C) (h0 : 0 ≤ i) (hn : i < l.length)
   (g : ∀ nm cols rows CC RW, l[i.toNat]? = some ⟨nm, cols, rows⟩ → cols.map colc = CC → rows.map rowPc = RW → K [.str nm, .sl CC, .sl RW]) : Ix 3 C i K := by
 refine Ix.map hl tb_len (by decide) h0 hn fun x hx => ?_
 obtain ⟨nm, cols, rows⟩ := x
 exact g nm cols rows _ _ hx rfl rfl
theorem indexE_c (k : Nat) (caps : List PV) (p : Ex → Bool) (l : List (Ex)) (C : List (List PV)) (hC : l.map Ex.cells = C) (hb : l.length * 72 ≤ 140737488355328)
   (hp : ∀ x, x ∈ l → PCall Tryz.prog k (.agg x.cells :: caps) fun r => r = [.bool (p x)]) : PCall Tryz.prog 81 [.sl C, .fn k caps] fun r => r = [.int .i64 (idxG p l 0)] := by
 have b1 : C.length = l.length := by rw [← hC]; simp
 obtain ⟨q, hq⟩ : ∃ q, idxG p l 0 = q := ⟨_, rfl⟩
 rw [hq]
 refine PCall.x (nt := 19) (res := [.tmp 4]) mixed tt_ok [] Tryz.func81 rfl rfl rfl c81 (Nat.le_of_ble_eq_true rfl) ?_
 intro cp cc lp Q' hcp hcc hlp hQ
 repeat' (first
   | (with_reducible refine Nm.mk ?_; intro z hz)
   | (with_reducible refine IfB.mk ?_ ?_ <;> (intro h; cases h))
   | (with_reducible refine Two.l ?_; refine Asm.mk ?_ ?_; focus (decide +kernel))
   | (with_reducible refine Two.r ?_)
   | (with_reducible refine TwoT.r ?_)
   | (with_reducible refine Asm.mk ?_ ?_; focus (first | kernel_rfl | decide))
   | (with_reducible refine Asm.mk2 ?_ ?_)
   | ((fail_if_success (with_reducible first | refine hQ _ ?_ | refine Side.mk ?_ | refine isCP hcp ?_ | refine isCC hcc ?_ | refine isLP hlp ?_ | refine Ix.mk ?_ | refine SIx.mk ?_ | refine SEx.mk ?_ | refine EIx.mk ?_ | refine RIx.mk ?_ | refine LkX.mk ?_ | show False | refine hR ?_ _ ?_ ?_ ?_ ?_ ?_ | refine hR2 ?_ _ ?_ ?_ ?_ ?_ ?_)); cbv))
 simp only [nc] at hz
 simp only [nc'] at hz
 have hzl := lenZ b1 hz
 clear hz
 generalize z = zl at *
 refine loopK (ι := Int) mixed tt_ok hcp hcc hlp [0, 1, 7] (fun i => [(8, .p (.int .i64 i))]) (fun i => Rng l.length zl i ∧ idxG p (l.drop i.toNat) i = q) (fun i => (zl - i).toNat) 0 (fun _ => rfl) ⟨Rng.start hzl (by omega), hq⟩ ⟨rfl, trivial⟩ ?_
 rintro R i ⟨rg, hf⟩ hR
 have hbad : ∀ x, l[i.toNat]? = some x → p x = true → q = i := by
   intro x hx h; rw [← hf, rg.step hx, idxG, if_pos h]
 have hgood : ∀ x, l[i.toNat]? = some x → p x = false → idxG p (l.drop (i + 1).toNat) (i + 1) = q := by
   intro x hx h; rw [← hf, rg.step hx, idxG, if_neg (by rw [h]; decide)]
 have hout : decide (i < zl) = false → q = -1 := by
   intro h; rw [← hf, rg.end_ rfl h]; rfl
 repeat' (first
   | (with_reducible refine Nm.mk ?_; intro z hz)
   | (with_reducible refine IfB.mk ?_ ?_ <;> (intro h; cases h))
   | (with_reducible refine Two.l ?_; refine Asm.mk ?_ ?_; focus (decide +kernel))
   | (with_reducible refine Two.r ?_)
   | (with_reducible refine TwoT.r ?_)
   | (with_reducible refine Asm.mk ?_ ?_; focus kernel_rfl)
   | (with_reducible refine Ix.ex hC rg.lo (rg.lt (by assumption)) ?_; intro op' m' vk' vn' vs' ar' es' hx hes')
   | (with_reducible refine isCC hcc ?_; refine bA hcc (by have h := hp _ (List.mem_of_getElem? hx); rw [cells_mk, hes'] at h; exact h) (hb1 rfl) ?_; intro z hz)
   | (with_reducible refine Asm.mk2 ?_ ?_)
   | ((fail_if_success (with_reducible first | refine hQ _ ?_ | refine Side.mk ?_ | refine isCP hcp ?_ | refine isCC hcc ?_ | refine isLP hlp ?_ | refine Ix.mk ?_ | refine SIx.mk ?_ | refine SEx.mk ?_ | refine EIx.mk ?_ | refine RIx.mk ?_ | refine LkX.mk ?_ | show False | refine hR ?_ _ ?_ ?_ ?_ ?_ ?_ | refine hR2 ?_ _ ?_ ?_ ?_ ?_ ?_)); cbv))
 all_goals first
   | (refine hQ _ ?_; rw [hout (by assumption)]; done)
   | (refine hQ _ ?_; rw [hbad _ hx (by assumption)]; done)
   | (have hlt : decide (i < zl) = true := by assumption
      rw [rg.wrap hlt] at hz
      exact hR (i + 1) _ ⟨rg.next hlt, hgood _ hx (by assumption)⟩ (rg.less hlt) ⟨hz ▸ rfl, trivial⟩ ⟨rfl, rfl, rfl, trivial⟩ rfl)
theorem indexI_c (k : Nat) (caps : List PV) (p : Int → Bool) (l : List (Int)) (C : List (List PV)) (hC : l.map i64c = C) (hb : l.length * 8 ≤ 140737488355328)
   (hp : ∀ x, x ∈ l → PCall Tryz.prog k (.int .i64 x :: caps) fun r => r = [.bool (p x)]) : PCall Tryz.prog 84 [.sl C, .fn k caps] fun r => r = [.int .i64 (idxG p l 0)] := by
 have b1 : C.length = l.length := by rw [← hC]; simp
 obtain ⟨q, hq⟩ : ∃ q, idxG p l 0 = q := ⟨_, rfl⟩
 rw [hq]
 refine PCall.x (nt := 19) (res := [.tmp 4]) mixed tt_ok [] Tryz.func84 rfl rfl rfl c84 (Nat.le_of_ble_eq_true rfl) ?_
 intro cp cc lp Q' hcp hcc hlp hQ
 repeat' (first
   | (with_reducible refine Nm.mk ?_; intro z hz)
   | (with_reducible refine IfB.mk ?_ ?_ <;> (intro h; cases h))
   | (with_reducible refine Two.l ?_; refine Asm.mk ?_ ?_; focus (decide +kernel))
   | (with_reducible refine Two.r ?_)
   | (with_reducible refine TwoT.r ?_)
   | (with_reducible refine Asm.mk ?_ ?_; focus (first | kernel_rfl | decide))
   | (with_reducible refine Asm.mk2 ?_ ?_)
   | ((fail_if_success (with_reducible first | refine hQ _ ?_ | refine Side.mk ?_ | refine isCP hcp ?_ | refine isCC hcc ?_ | refine isLP hlp ?_ | refine Ix.mk ?_ | refine SIx.mk ?_ | refine SEx.mk ?_ | refine EIx.mk ?_ | refine RIx.mk ?_ | refine LkX.mk ?_ | show False | refine hR ?_ _ ?_ ?_ ?_ ?_ ?_ | refine hR2 ?_ _ ?_ ?_ ?_ ?_ ?_)); cbv))
 simp only [nc] at hz
 simp only [nc'] at hz
 have hzl := lenZ b1 hz
 clear hz
 generalize z = zl at *
 refine loopK (ι := Int) mixed tt_ok hcp hcc hlp [0, 1, 7] (fun i => [(8, .p (.int .i64 i))]) (fun i => Rng l.length zl i ∧ idxG p (l.drop i.toNat) i = q) (fun i => (zl - i).toNat) 0 (fun _ => rfl) ⟨Rng.start hzl (by omega), hq⟩ ⟨rfl, trivial⟩ ?_
 rintro R i ⟨rg, hf⟩ hR
 have hbad : ∀ x, l[i.toNat]? = some x → p x = true → q = i := by
   intro x hx h; rw [← hf, rg.step hx, idxG, if_pos h]
 have hgood : ∀ x, l[i.toNat]? = some x → p x = false → idxG p (l.drop (i + 1).toNat) (i + 1) = q := by
   intro x hx h; rw [← hf, rg.step hx, idxG, if_neg (by rw [h]; decide)]
 have hout : decide (i < zl) = false → q = -1 := by
   intro h; rw [← hf, rg.end_ rfl h]; rfl
 repeat' (first
   | (with_reducible refine Nm.mk ?_; intro z hz)
   | (with_reducible refine IfB.mk ?_ ?_ <;> (intro h; cases h))
   | (with_reducible refine Two.l ?_; refine Asm.mk ?_ ?_; focus (decide +kernel))
   | (with_reducible refine Two.r ?_)
   | (with_reducible refine TwoT.r ?_)
   | (with_reducible refine Asm.mk ?_ ?_; focus kernel_rfl)
   | (with_reducible refine Ix.map hC i64c_len (by decide) rg.lo (rg.lt (by assumption)) ?_; intro x hx)
   | (with_reducible refine isCC hcc ?_; refine bA hcc (hp _ (List.mem_of_getElem? hx)) (hb1 rfl) ?_; intro z hz)
   | (with_reducible refine Asm.mk2 ?_ ?_)
   | ((fail_if_success (with_reducible first | refine hQ _ ?_ | refine Side.mk ?_ | refine isCP hcp ?_ | refine isCC hcc ?_ | refine isLP hlp ?_ | refine Ix.mk ?_ | refine SIx.mk ?_ | refine SEx.mk ?_ | refine EIx.mk ?_ | refine RIx.mk ?_ | refine LkX.mk ?_ | show False | refine hR ?_ _ ?_ ?_ ?_ ?_ ?_ | refine hR2 ?_ _ ?_ ?_ ?_ ?_ ?_)); cbv))
 all_goals first
   | (refine hQ _ ?_; rw [hout (by assumption)]; done)
   | (refine hQ _ ?_; rw [hbad _ hx (by assumption)]; done)
   | (have hlt : decide (i < zl) = true := by assumption
      rw [rg.wrap hlt] at hz
      exact hR (i + 1) _ ⟨rg.next hlt, hgood _ hx (by assumption)⟩ (rg.less hlt) ⟨hz ▸ rfl, trivial⟩ ⟨rfl, rfl, rfl, trivial⟩ rfl)
theorem indexT_c (k : Nat) (caps : List PV) (p : Tb → Bool) (l : List (Tb)) (C : List (List PV)) (hC : l.map Tb.cells = C) (hb : l.length * 24 ≤ 140737488355328)
   (hp : ∀ x, x ∈ l → PCall Tryz.prog k (.agg x.cells :: caps) fun r => r = [.bool (p x)]) : PCall Tryz.prog 28 [.sl C, .fn k caps] fun r => r = [.int .i64 (idxG p l 0)] := by
 have b1 : C.length = l.length := by rw [← hC]; simp
 obtain ⟨q, hq⟩ : ∃ q, idxG p l 0 = q := ⟨_, rfl⟩
 rw [hq]
 refine PCall.x (nt := 19) (res := [.tmp 4]) mixed tt_ok [] Tryz.func28 rfl rfl rfl c28 (Nat.le_of_ble_eq_true rfl) ?_
 intro cp cc lp Q' hcp hcc hlp hQ
 repeat' (first
   | (with_reducible refine Nm.mk ?_; intro z hz)
   | (with_reducible refine IfB.mk ?_ ?_ <;> (intro h; cases h))
   | (with_reducible refine Two.l ?_; refine Asm.mk ?_ ?_; focus (decide +kernel))
   | (with_reducible refine Two.r ?_)
   | (with_reducible refine TwoT.r ?_)
   | (with_reducible refine Asm.mk ?_ ?_; focus (first | kernel_rfl | decide))
   | (with_reducible refine Asm.mk2 ?_ ?_)
   | ((fail_if_success (with_reducible first | refine hQ _ ?_ | refine Side.mk ?_ | refine isCP hcp ?_ | refine isCC hcc ?_ | refine isLP hlp ?_ | refine Ix.mk ?_ | refine SIx.mk ?_ | refine SEx.mk ?_ | refine EIx.mk ?_ | refine RIx.mk ?_ | refine LkX.mk ?_ | show False | refine hR ?_ _ ?_ ?_ ?_ ?_ ?_ | refine hR2 ?_ _ ?_ ?_ ?_ ?_ ?_)); cbv))
 simp only [nc] at hz
 simp only [nc'] at hz
 have hzl := lenZ b1 hz
 clear hz
 generalize z = zl at *
 refine loopK (ι := Int) mixed tt_ok hcp hcc hlp [0, 1, 7] (fun i => [(8, .p (.int .i64 i))]) (fun i => Rng l.length zl i ∧ idxG p (l.drop i.toNat) i = q) (fun i => (zl - i).toNat) 0 (fun _ => rfl) ⟨Rng.start hzl (by omega), hq⟩ ⟨rfl, trivial⟩ ?_
 rintro R i ⟨rg, hf⟩ hR
 have hbad : ∀ x, l[i.toNat]? = some x → p x = true → q = i := by
   intro x hx h; rw [← hf, rg.step hx, idxG, if_pos h]
 have hgood : ∀ x, l[i.toNat]? = some x → p x = false → idxG p (l.drop (i + 1).toNat) (i + 1) = q := by
   intro x hx h; rw [← hf, rg.step hx, idxG, if_neg (by rw [h]; decide)]
 have hout : decide (i < zl) = false → q = -1 := by
   intro h; rw [← hf, rg.end_ rfl h]; rfl
 repeat' (first
   | (with_reducible refine Nm.mk ?_; intro z hz)
   | (with_reducible refine IfB.mk ?_ ?_ <;> (intro h; cases h))
   | (with_reducible refine Two.l ?_; refine Asm.mk ?_ ?_; focus (decide +kernel))
   | (with_reducible refine Two.r ?_)
   | (with_reducible refine TwoT.r ?_)
   | (with_reducible refine Asm.mk ?_ ?_; focus kernel_rfl)
   | (with_reducible refine Ix.tb hC rg.lo (rg.lt (by assumption)) ?_; intro nm cols rows CC RW hx hCC hRW)
   | (with_reducible refine isCC hcc ?_; refine bA hcc (by have h := hp _ (List.mem_of_getElem? hx); rw [Tb.cells, hCC, hRW] at h; exact h) (hb1 rfl) ?_; intro z hz)
   | (with_reducible refine Asm.mk2 ?_ ?_)
   | ((fail_if_success (with_reducible first | refine hQ _ ?_ | refine Side.mk ?_ | refine isCP hcp ?_ | refine isCC hcc ?_ | refine isLP hlp ?_ | refine Ix.mk ?_ | refine SIx.mk ?_ | refine SEx.mk ?_ | refine EIx.mk ?_ | refine RIx.mk ?_ | refine LkX.mk ?_ | show False | refine hR ?_ _ ?_ ?_ ?_ ?_ ?_ | refine hR2 ?_ _ ?_ ?_ ?_ ?_ ?_)); cbv))
 all_goals first
   | (refine hQ _ ?_; rw [hout (by assumption)]; done)
   | (refine hQ _ ?_; rw [hbad _ hx (by assumption)]; done)
   | (have hlt : decide (i < zl) = true := by assumption
      rw [rg.wrap hlt] at hz
      exact hR (i + 1) _ ⟨rg.next hlt, hgood _ hx (by assumption)⟩ (rg.less hlt) ⟨hz ▸ rfl, trivial⟩ ⟨rfl, rfl, rfl, trivial⟩ rfl)
theorem containsE_c (k : Nat) (caps : List PV) (p : Ex → Bool) (l : List (Ex)) (C : List (List PV)) (hC : l.map Ex.cells = C) (hb : l.length * 72 ≤ 140737488355328)
   (hp : ∀ x, x ∈ l → PCall Tryz.prog k (.agg x.cells :: caps) fun r => r = [.bool (p x)]) : PCall Tryz.prog 67 [.sl C, .fn k caps] fun r => r = [.bool (l.any p)] := by
 have h := indexE_c k caps p l C hC hb hp
 have ha := idxG_lo p l 0 (by decide)
 refine PCall.x (nt := 9) (res := [.tmp 4]) mixed tt_ok [] Tryz.func67 rfl rfl rfl c67 (Nat.le_of_ble_eq_true rfl) ?_
 intro cp cc lp Q' hcp hcc hlp hQ
 repeat' (first
   | (with_reducible refine Nm.mk ?_; intro z hz)
   | (with_reducible refine IfB.mk ?_ ?_ <;> (intro h; cases h))
   | (with_reducible refine Two.l ?_; refine Asm.mk ?_ ?_; focus (decide +kernel))
   | (with_reducible refine Two.r ?_)
   | (with_reducible refine TwoT.r ?_)
   | (with_reducible refine Asm.mk ?_ ?_; focus (first | kernel_rfl | decide))
   | (with_reducible refine isCP hcp ?_; first | (refine iP hcp (h) ?_; intro z hz))
   | (with_reducible refine isCC hcc ?_; first | (refine iA hcc (h) rfl ?_; intro z hz))
   | (with_reducible refine Asm.mk2 ?_ ?_)
   | ((fail_if_success (with_reducible first | refine hQ _ ?_ | refine Side.mk ?_ | refine isCP hcp ?_ | refine isCC hcc ?_ | refine isLP hlp ?_ | refine Ix.mk ?_ | refine SIx.mk ?_ | refine SEx.mk ?_ | refine EIx.mk ?_ | refine RIx.mk ?_ | refine LkX.mk ?_ | show False | refine hR ?_ _ ?_ ?_ ?_ ?_ ?_ | refine hR2 ?_ _ ?_ ?_ ?_ ?_ ?_)); cbv))
 all_goals (refine hQ _ ?_; clear hQ hcp hcc hlp h hp; congr 2; subst_vars; rw [Bool.eq_iff_iff, ← ha]; simp)
theorem containsI_c (k : Nat) (caps : List PV) (p : Int → Bool) (l : List (Int)) (C : List (List PV)) (hC : l.map i64c = C) (hb : l.length * 8 ≤ 140737488355328)
   (hp : ∀ x, x ∈ l → PCall Tryz.prog k (.int .i64 x :: caps) fun r => r = [.bool (p x)]) : PCall Tryz.prog 70 [.sl C, .fn k caps] fun r => r = [.bool (l.any p)] := by
 have h := indexI_c k caps p l C hC hb hp
 have ha := idxG_lo p l 0 (by decide)
 refine PCall.x (nt := 9) (res := [.tmp 4]) mixed tt_ok [] Tryz.func70 rfl rfl rfl c70 (Nat.le_of_ble_eq_true rfl) ?_
 intro cp cc lp Q' hcp hcc hlp hQ
 repeat' (first
   | (with_reducible refine Nm.mk ?_; intro z hz)
   | (with_reducible refine IfB.mk ?_ ?_ <;> (intro h; cases h))
   | (with_reducible refine Two.l ?_; refine Asm.mk ?_ ?_; focus (decide +kernel))
   | (with_reducible refine Two.r ?_)
   | (with_reducible refine TwoT.r ?_)
   | (with_reducible refine Asm.mk ?_ ?_; focus (first | kernel_rfl | decide))
   | (with_reducible refine isCP hcp ?_; first | (refine iP hcp (h) ?_; intro z hz))
   | (with_reducible refine isCC hcc ?_; first | (refine iA hcc (h) rfl ?_; intro z hz))
   | (with_reducible refine Asm.mk2 ?_ ?_)
   | ((fail_if_success (with_reducible first | refine hQ _ ?_ | refine Side.mk ?_ | refine isCP hcp ?_ | refine isCC hcc ?_ | refine isLP hlp ?_ | refine Ix.mk ?_ | refine SIx.mk ?_ | refine SEx.mk ?_ | refine EIx.mk ?_ | refine RIx.mk ?_ | refine LkX.mk ?_ | show False | refine hR ?_ _ ?_ ?_ ?_ ?_ ?_ | refine hR2 ?_ _ ?_ ?_ ?_ ?_ ?_)); cbv))
 all_goals (refine hQ _ ?_; clear hQ hcp hcc hlp h hp; congr 2; subst_vars; rw [Bool.eq_iff_iff, ← ha]; simp)
theorem own1_c (x : Int) : PCall Tryz.prog 71 [.int .i64 x] fun r => r = [.bool (!kOK x)] := by
 have h := kindOK_c x
 refine PCall.x (nt := 6) (res := [.tmp 2]) mixed tt_ok [] Tryz.func71 rfl rfl rfl c71 (Nat.le_of_ble_eq_true rfl) ?_
 intro cp cc lp Q' hcp hcc hlp hQ
 repeat' (first
   | (with_reducible refine Nm.mk ?_; intro z hz)
   | (with_reducible refine IfB.mk ?_ ?_ <;> (intro h; cases h))
   | (with_reducible refine Two.l ?_; refine Asm.mk ?_ ?_; focus (decide +kernel))
   | (with_reducible refine Two.r ?_)
   | (with_reducible refine TwoT.r ?_)
   | (with_reducible refine Asm.mk ?_ ?_; focus (first | kernel_rfl | decide))
   | (with_reducible refine isCP hcp ?_; first | (refine bP hcp (h) ?_; intro z hz))
   | (with_reducible refine isCC hcc ?_; first | (refine bA hcc (h) rfl ?_; intro z hz))
   | (with_reducible refine Asm.mk2 ?_ ?_)
   | ((fail_if_success (with_reducible first | refine hQ _ ?_ | refine Side.mk ?_ | refine isCP hcp ?_ | refine isCC hcc ?_ | refine isLP hlp ?_ | refine Ix.mk ?_ | refine SIx.mk ?_ | refine SEx.mk ?_ | refine EIx.mk ?_ | refine RIx.mk ?_ | refine LkX.mk ?_ | show False | refine hR ?_ _ ?_ ?_ ?_ ?_ ?_ | refine hR2 ?_ _ ?_ ?_ ?_ ?_ ?_)); cbv))
 all_goals (refine hQ _ ?_; clear hQ hcp hcc hlp h; subst_vars; rfl)
def maxZ : List Int → Int
 | [] => 0
 | a :: r => r.foldl mx a
theorem mx_fold (n : Int) : ∀ (l : List Int) (a : Int), n ≤ l.foldl mx a ↔ (n ≤ a ∨ (l.any fun x => decide (n ≤ x)) = true)
 | [], a => by simp
 | b :: r, a => by
   rw [List.foldl_cons, mx_fold n r, List.any_cons, Bool.or_eq_true, decide_eq_true_eq]
   have : n ≤ mx a b ↔ n ≤ a ∨ n ≤ b := by unfold mx; split <;> omega
   rw [this, or_assoc]
theorem max_past {l : List Int} (h : 0 < l.length) (n : Int) : decide (n ≤ maxZ l) = pastM l n := by
 match l, h with
 | a :: r, _ =>
   rw [Bool.eq_iff_iff, decide_eq_true_eq, maxZ, mx_fold, pastM, List.any_cons, Bool.or_eq_true, decide_eq_true_eq]
theorem max_c (l : List Int) (C : List (List PV)) (hC : l.map i64c = C) (hb : l.length * 8 ≤ 140737488351232) (h0 : 0 < l.length) : PCall Tryz.prog 63 [.sl C] fun r => r = [.int .i64 (maxZ l)] := by
 have b1 : C.length = l.length := by rw [← hC]; simp
 obtain ⟨a, ha⟩ : ∃ a, l[Int.toNat 0]? = some a := ⟨_, List.getElem?_eq_getElem h0⟩
 obtain ⟨q, hq⟩ : ∃ q, maxZ l = q := ⟨_, rfl⟩
 have hq2 : (l.drop 1).foldl mx a = q := by
   rw [← hq]
   match l, h0, ha with
   | b :: r, _, ha => cases ha; rfl
 rw [hq]
 have hno : ∀ {z : Int}, (C.length : Int) = z → decide (z < 1) = true → False := by
   rintro z rfl h; simp only [decide_eq_true_eq] at h; omega
 refine PCall.x (nt := 25) (res := [.tmp 2]) mixed tt_ok [] Tryz.func63 rfl rfl rfl c63 (Nat.le_of_ble_eq_true rfl) ?_
 intro cp cc lp Q' hcp hcc hlp hQ
 repeat' (first
   | (with_reducible refine Nm.mk ?_; intro z hz)
   | (with_reducible refine IfB.mk ?_ ?_ <;> (intro h; cases h))
   | (with_reducible refine Two.l ?_; refine Asm.mk ?_ ?_; focus (decide +kernel))
   | (with_reducible refine Two.r ?_)
   | (with_reducible refine TwoT.r ?_)
   | (with_reducible refine Asm.mk ?_ ?_; focus kernel_rfl)
   | (with_reducible refine Ix.map hC i64c_len (by decide) (Int.le_refl 0) (by omega) ?_; intro x hx)
   | (with_reducible refine Asm.mk2 ?_ ?_)
   | ((fail_if_success (with_reducible first | refine hQ _ ?_ | refine Side.mk ?_ | refine isCP hcp ?_ | refine isCC hcc ?_ | refine isLP hlp ?_ | refine Ix.mk ?_ | refine SIx.mk ?_ | refine SEx.mk ?_ | refine EIx.mk ?_ | refine RIx.mk ?_ | refine LkX.mk ?_ | show False | refine hR ?_ _ ?_ ?_ ?_ ?_ ?_ | refine hR2 ?_ _ ?_ ?_ ?_ ?_ ?_)); cbv))
 · exact (hno (by assumption) (by assumption)).elim
 have hxa : x = a := by rw [hx] at ha; exact Option.some.inj ha
 subst hxa
 refine loopK (ι := Int × Int) mixed tt_ok hcp hcc hlp [0] (fun p => [(3, .p (.int .i64 p.1)), (4, .p (.int .i64 p.2))]) (fun p => (1 ≤ p.2 ∧ p.2 ≤ l.length) ∧ (l.drop p.2.toNat).foldl mx p.1 = q) (fun p => ((l.length : Int) - p.2).toNat) (x, 1) (fun _ => rfl) ⟨⟨by show (1 : Int) ≤ 1; omega, by show (1 : Int) ≤ l.length; omega⟩, hq2⟩ ⟨rfl, rfl, trivial⟩ ?_
 rintro R ⟨m, i⟩ ⟨⟨hi0, hi1⟩, hf⟩ hR
 replace hi0 : 1 ≤ i := hi0
 replace hi1 : i ≤ l.length := hi1
 replace hf : (l.drop i.toNat).foldl mx m = q := hf
 have hk : ∀ {z : Int}, (C.length : Int) = z → (decide (i < z) = true → i < l.length ∧ IntKind.i64.wrap (i + 1) = i + 1) ∧ (decide (i < z) = false → i.toNat = l.length) := by
   rintro z rfl
   simp only [decide_eq_true_eq, decide_eq_false_iff_not]
   refine ⟨fun h => ⟨by omega, wrap_in (by omega)⟩, fun h => by omega⟩
 have hst : ∀ y, l[i.toNat]? = some y → (l.drop (i + 1).toNat).foldl mx (mx m y) = q := by
   intro y hy
   rw [← hf, List.drop_eq_getElem_cons (List.getElem?_eq_some_iff.1 hy).1, (List.getElem?_eq_some_iff.1 hy).2, List.foldl_cons, show (i + 1).toNat = i.toNat + 1 by omega]
 have hi00 : 0 ≤ i := by omega
 repeat' (first
   | (with_reducible refine Nm.mk ?_; intro z hz)
   | (with_reducible refine IfB.mk ?_ ?_ <;> (intro h; cases h))
   | (with_reducible refine Two.l ?_; refine Asm.mk ?_ ?_; focus (decide +kernel))
   | (with_reducible refine Two.r ?_)
   | (with_reducible refine TwoT.r ?_)
   | (with_reducible refine Asm.mk ?_ ?_; focus kernel_rfl)
   | (with_reducible refine Ix.map hC i64c_len (by decide) hi00 ((hk (by assumption)).1 (by assumption)).1 ?_; intro y hy)
   | (with_reducible refine Asm.mk2 ?_ ?_)
   | ((fail_if_success (with_reducible first | refine hQ _ ?_ | refine Side.mk ?_ | refine isCP hcp ?_ | refine isCC hcc ?_ | refine isLP hlp ?_ | refine Ix.mk ?_ | refine SIx.mk ?_ | refine SEx.mk ?_ | refine EIx.mk ?_ | refine RIx.mk ?_ | refine LkX.mk ?_ | show False | refine hR ?_ _ ?_ ?_ ?_ ?_ ?_ | refine hR2 ?_ _ ?_ ?_ ?_ ?_ ?_)); cbv))
 · have hkk := (hk (by assumption)).1 (by assumption)
   rw [hkk.2] at hz
   have hkl : i < (l.length : Int) := hkk.1
   rename_i zm hzm
   refine hR (zm, i + 1) _ ⟨⟨by show 1 ≤ i + 1; omega, by show i + 1 ≤ l.length; omega⟩, ?_⟩ (by show ((l.length : Int) - (i + 1)).toNat < ((l.length : Int) - i).toNat; omega) ⟨rfl, hz ▸ rfl, trivial⟩ ⟨rfl, trivial⟩ rfl
   show (l.drop (i + 1).toNat).foldl mx zm = q
   rw [← hst y hy, ← hzm]; rfl
 · refine hQ _ ?_
   rw [← hf, List.drop_eq_nil_of_le (by have := (hk (by assumption)).2 (by assumption); omega)]; rfl
theorem past_c (l : List Int) (n : Int) (C : List (List PV)) (hC : l.map i64c = C) (hb : l.length * 8 ≤ 140737488351232) : PCall Tryz.prog 36 [.sl C, .int .i64 n] fun r => r = [.bool (pastM l n)] := by
 have b1 : C.length = l.length := by rw [← hC]; simp
 have hm := fun h => max_c l C hC hb h
 have hno : ∀ {z : Int}, (C.length : Int) = z → decide (0 < z) = true → 0 < l.length := by
   rintro z rfl h; simp only [decide_eq_true_eq] at h; omega
 have hn0 : ∀ {z : Int}, (C.length : Int) = z → decide (0 < z) = false → l = [] := by
   rintro z rfl h; simp only [decide_eq_false_iff_not] at h; exact List.length_eq_zero_iff.1 (by omega)
 refine PCall.x (nt := 14) (res := [.tmp 4]) mixed tt_ok [] Tryz.func36 rfl rfl rfl c36 (Nat.le_of_ble_eq_true rfl) ?_
 intro cp cc lp Q' hcp hcc hlp hQ
 repeat' (first
   | (with_reducible refine Nm.mk ?_; intro z hz)
   | (with_reducible refine IfB.mk ?_ ?_ <;> (intro h; cases h))
   | (with_reducible refine Two.l ?_; refine Asm.mk ?_ ?_; focus (decide +kernel))
   | (with_reducible refine Two.r ?_)
   | (with_reducible refine TwoT.r ?_)
   | (with_reducible refine Asm.mk ?_ ?_; focus (first | kernel_rfl | decide))
   | (with_reducible refine isCP hcp ?_; first | (refine iP hcp (hm (hno (by assumption) (by assumption))) ?_; intro z hz))
   | (with_reducible refine isCC hcc ?_; first | (refine iA hcc (hm (hno (by assumption) (by assumption))) rfl ?_; intro z hz))
   | (with_reducible refine Asm.mk2 ?_ ?_)
   | ((fail_if_success (with_reducible first | refine hQ _ ?_ | refine Side.mk ?_ | refine isCP hcp ?_ | refine isCC hcc ?_ | refine isLP hlp ?_ | refine Ix.mk ?_ | refine SIx.mk ?_ | refine SEx.mk ?_ | refine EIx.mk ?_ | refine RIx.mk ?_ | refine LkX.mk ?_ | show False | refine hR ?_ _ ?_ ?_ ?_ ?_ ?_ | refine hR2 ?_ _ ?_ ?_ ?_ ?_ ?_)); cbv))
 · refine hQ _ ?_
   rw [← max_past (hno (by assumption) (by assumption)), ← hz]; subst_vars; rfl
 · refine hQ _ ?_
   rw [hn0 (by assumption) (by assumption)]; rfl
end Go.Proofs.YtlabphnonlicdaaGreat

namespace Go.Proofs.YtlabphnonlicdaaGreat
open Go Go.RowKit
set_option maxRecDepth 100000
set_option linter.unusedSimpArgs false
set_option linter.unusedVariables false
theorem neatL_any : ∀ l : List Ex, neatL l = !(l.any fun x => !neatM x)
 | [] => rfl
 | e :: r => by rw [neatL, neatL_any r, List.any_cons]; cases neatM e <;> simp
theorem neatRL_any : ∀ l : List Ex, neatRL l = l.all neatR
 | [] => rfl
 | e :: r => by rw [neatRL, neatRL_any r, List.all_cons]
theorem neat1_c (k : Nat) (b : Bool) (op m vk vn : Int) (vs : ByteArray) (es : List (List PV)) (h : PCall Tryz.prog 50 [.agg [.int .i64 op, .int .i64 m, .int .i64 vk, .int .i64 vn, .str vs, .sl es]] fun r => r = [.bool b]) :
   PCall Tryz.prog 68 [.agg [.int .i64 op, .int .i64 m, .int .i64 vk, .int .i64 vn, .str vs, .sl es]] fun r => r = [.bool (!b)] := by
 refine PCall.x (nt := 6) (res := [.tmp 2]) mixed tt_ok [] Tryz.func68 rfl rfl rfl c68 (Nat.le_of_ble_eq_true rfl) ?_
 intro cp cc lp Q' hcp hcc hlp hQ
 repeat' (first
   | (with_reducible refine Nm.mk ?_; intro z hz)
   | (with_reducible refine IfB.mk ?_ ?_ <;> (intro h; cases h))
   | (with_reducible refine Two.l ?_; refine Asm.mk ?_ ?_; focus (decide +kernel))
   | (with_reducible refine Two.r ?_)
   | (with_reducible refine TwoT.r ?_)
   | (with_reducible refine Asm.mk ?_ ?_; focus (first | kernel_rfl | decide))
   | (with_reducible refine isCP hcp ?_; first | (refine bP hcp (h) ?_; intro z hz))
   | (with_reducible refine isCC hcc ?_; first | (refine bA hcc (h) rfl ?_; intro z hz))
   | (with_reducible refine Asm.mk2 ?_ ?_)
   | ((fail_if_success (with_reducible first | refine hQ _ ?_ | refine Side.mk ?_ | refine isCP hcp ?_ | refine isCC hcc ?_ | refine isLP hlp ?_ | refine Ix.mk ?_ | refine SIx.mk ?_ | refine SEx.mk ?_ | refine EIx.mk ?_ | refine RIx.mk ?_ | refine LkX.mk ?_ | show False | refine hR ?_ _ ?_ ?_ ?_ ?_ ?_ | refine hR2 ?_ _ ?_ ?_ ?_ ?_ ?_)); cbv))
 all_goals (refine hQ _ ?_; clear hQ hcp hcc hlp h; subst_vars; rfl)
def nodeN (op n : Int) (v : Val) : Bool := (decide (op = 1) || decide (n = 0)) && (decide (op = 2) || decide (v = Val.zero)) && decide (v = clean v)
set_option maxHeartbeats 4000000 in
theorem neat_c (op m vk vn : Int) (vs : ByteArray) (ar : List Ex) (es : List (List PV)) (hes : ar.map Ex.cells = es) (hw : wideN ar.length) (IH : ∀ x, x ∈ ar → PCall Tryz.prog 50 [.agg x.cells] fun r => r = [.bool (neatM x)]) :
   PCall Tryz.prog 50 [.agg [.int .i64 op, .int .i64 m, .int .i64 vk, .int .i64 vn, .str vs, .sl es]] fun r => r = [.bool (neatM (.mk op m ⟨vk, vn, vs⟩ ar))] := by
 unfold wideN at hw
 have hcf := containsE_c 68 [] (fun x => !neatM x) ar es hes (by omega) (fun x hx => by
   have h := IH x hx
   obtain ⟨op', m', ⟨vk', vn', vs'⟩, ar'⟩ := x
   rw [cells_mk] at h ⊢
   exact neat1_c 0 _ _ _ _ _ _ _ h)
 have hq : neatM (.mk op m ⟨vk, vn, vs⟩ ar) = (nodeN op m ⟨vk, vn, vs⟩ && !(ar.any fun x => !neatM x)) := by rw [neatM, neatL_any]; rfl
 rw [hq]
 generalize (ar.any fun x => !neatM x) = an at *
 obtain ⟨cl, hcl⟩ : ∃ c, clean ⟨vk, vn, vs⟩ = c := ⟨_, rfl⟩
 have hc := clean_c vk vn vs
 rw [hcl] at hc
 obtain ⟨ck, cn, cs⟩ := cl
 rw [show (Val.mk ck cn cs).enc = .agg [.int .i64 ck, .int .i64 cn, .str cs] from rfl] at hc
 rw [nodeN, hcl]
 refine PCall.x (nt := 34) (res := [.tmp 2]) mixed tt_ok [] Tryz.func50 rfl rfl rfl c50 (Nat.le_of_ble_eq_true rfl) ?_
 intro cp cc lp Q' hcp hcc hlp hQ
 repeat' (first
   | (with_reducible refine Nm.mk ?_; intro z hz)
   | (with_reducible refine IfB.mk ?_ ?_ <;> (intro h; cases h))
   | (with_reducible refine Two.l ?_; refine Asm.mk ?_ ?_; focus (decide +kernel))
   | (with_reducible refine Two.r ?_)
   | (with_reducible refine TwoT.r ?_)
   | (with_reducible refine Asm.mk ?_ ?_; focus (first | kernel_rfl | decide))
   | (with_reducible refine isCP hcp ?_; first | (refine xP hcp (hc) ?_; skip) | (refine bP hcp (hcf) ?_; intro z hz))
   | (with_reducible refine isCC hcc ?_; first | (refine xA hcc (hc) rfl ?_; skip) | (refine bA hcc (hcf) rfl ?_; intro z hz))
   | (with_reducible refine Asm.mk2 ?_ ?_)
   | ((fail_if_success (with_reducible first | refine hQ _ ?_ | refine Side.mk ?_ | refine isCP hcp ?_ | refine isCC hcc ?_ | refine isLP hlp ?_ | refine Ix.mk ?_ | refine SIx.mk ?_ | refine SEx.mk ?_ | refine EIx.mk ?_ | refine RIx.mk ?_ | refine LkX.mk ?_ | show False | refine hR ?_ _ ?_ ?_ ?_ ?_ ?_ | refine hR2 ?_ _ ?_ ?_ ?_ ?_ ?_)); cbv))
 all_goals
   (refine hQ _ ?_
    clear hQ hcp hcc hlp hcf hc IH
    have hz0 : ({ k := 0, n := 0, s := { data := { toList := [] } } } : Val) = Val.zero := rfl
    simp only [eqB_val, hz0] at *
    congr 2
    try rw [← hz]
    simp_all)
 all_goals (intros; simp_all)
theorem neat_all : ∀ (k : Nat) (e : Ex), e.sz ≤ k → e.wide → PCall Tryz.prog 50 [.agg e.cells] fun r => r = [.bool (neatM e)]
 | 0, .mk op m v ar, h, _ => by simp [Ex.sz] at h
 | k + 1, .mk op m ⟨vk, vn, vs⟩ ar, h, hw => by
   rw [cells_mk]
   rw [Ex.wide] at hw
   refine neat_c op m vk vn vs ar _ rfl hw.1 fun x hx => neat_all k x ?_ (wide_mem hw.2 hx)
   have := sz_mem hx
   simp only [Ex.sz] at h; omega
set_option maxHeartbeats 4000000 in
theorem rneat_c (op m vk vn : Int) (vs : ByteArray) (ar : List Ex) (es : List (List PV)) (hes : ar.map Ex.cells = es) (hwd : (Ex.mk op m ⟨vk, vn, vs⟩ ar).wide) (IH : ∀ x, x ∈ ar → PCall Tryz.prog 53 [.agg x.cells] fun r => r = [.bool (neatR x)]) :
   PCall Tryz.prog 53 [.agg [.int .i64 op, .int .i64 m, .int .i64 vk, .int .i64 vn, .str vs, .sl es]] fun r => r = [.bool (neatR (.mk op m ⟨vk, vn, vs⟩ ar))] := by
 have hbt := rbuilt_c op m vk vn vs ar es hes hwd
 have hw : wideN ar.length := by rw [Ex.wide] at hwd; exact hwd.1
 unfold wideN at hw
 have b1 : es.length = ar.length := by rw [← hes]; simp
 have hq : neatR (.mk op m ⟨vk, vn, vs⟩ ar) = (builtM (.mk op m ⟨vk, vn, vs⟩ ar) && nodeN op m ⟨vk, vn, vs⟩ && ar.all neatR) := by rw [neatR, neatRL_any, nodeN]; cases builtM (.mk op m ⟨vk, vn, vs⟩ ar) <;> simp
 rw [hq]
 generalize builtM (.mk op m ⟨vk, vn, vs⟩ ar) = bt at *
 obtain ⟨an, han⟩ : ∃ b, ar.all neatR = b := ⟨_, rfl⟩
 rw [han]
 obtain ⟨cl, hcl⟩ : ∃ c, clean ⟨vk, vn, vs⟩ = c := ⟨_, rfl⟩
 have hc := rclean_c vk vn vs
 rw [hcl] at hc
 obtain ⟨ck, cn, cs⟩ := cl
 rw [show (Val.mk ck cn cs).enc = .agg [.int .i64 ck, .int .i64 cn, .str cs] from rfl] at hc
 rw [nodeN, hcl]
 clear hq
 have hpc : ∀ (op' m' vk' vn' : Int) (vs' : ByteArray) (ar' : List Ex) (es' : List (List PV)) (i : Nat), ar[i]? = some (.mk op' m' ⟨vk', vn', vs'⟩ ar') → ar'.map Ex.cells = es' → PCall Tryz.prog 53 [.agg [.int .i64 op', .int .i64 m', .int .i64 vk', .int .i64 vn', .str vs', .sl es']] fun r => r = [.bool (neatR (.mk op' m' ⟨vk', vn', vs'⟩ ar'))] := by
   intro op' m' vk' vn' vs' ar' es' i hx he
   have h := IH _ (List.mem_of_getElem? hx)
   rw [cells_mk, he] at h; exact h
 refine PCall.x (nt := 46) (res := [.tmp 2]) mixed tt_ok [] Tryz.func53 rfl rfl rfl c53 (Nat.le_of_ble_eq_true rfl) ?_
 intro cp cc lp Q' hcp hcc hlp hQ
 repeat' (first
   | (with_reducible refine Nm.mk ?_; intro z hz)
   | (with_reducible refine IfB.mk ?_ ?_ <;> (intro h; cases h))
   | (with_reducible refine Two.l ?_; refine Asm.mk ?_ ?_; focus (decide +kernel))
   | (with_reducible refine Two.r ?_)
   | (with_reducible refine TwoT.r ?_)
   | (with_reducible refine Asm.mk ?_ ?_; focus (first | kernel_rfl | decide))
   | (with_reducible refine isCP hcp ?_; first | (refine bP hcp (hbt) ?_; intro z hz) | (refine xP hcp (hc) ?_; skip))
   | (with_reducible refine isCC hcc ?_; first | (refine bA hcc (hbt) rfl ?_; intro z hz) | (refine xA hcc (hc) rfl ?_; skip))
   | (with_reducible refine Asm.mk2 ?_ ?_)
   | ((fail_if_success (with_reducible first | refine hQ _ ?_ | refine Side.mk ?_ | refine isCP hcp ?_ | refine isCC hcc ?_ | refine isLP hlp ?_ | refine Ix.mk ?_ | refine SIx.mk ?_ | refine SEx.mk ?_ | refine EIx.mk ?_ | refine RIx.mk ?_ | refine LkX.mk ?_ | show False | refine hR ?_ _ ?_ ?_ ?_ ?_ ?_ | refine hR2 ?_ _ ?_ ?_ ?_ ?_ ?_)); cbv))
 all_goals first
   | (refine hQ _ ?_
      clear hQ hcp hcc hlp hpc hc IH
      have hz0 : ({ k := 0, n := 0, s := { data := { toList := [] } } } : Val) = Val.zero := rfl
      simp only [eqB_val, hz0] at *
      congr 2
      clear hbt hcl hes
      try rw [← hz]
      simp_all
      done)
   | (refine hQ _ ?_
      clear hQ hcp hcc hlp hpc hc IH
      have hz0 : ({ k := 0, n := 0, s := { data := { toList := [] } } } : Val) = Val.zero := rfl
      simp only [eqB_val, hz0] at *
      congr 2
      clear hbt hcl hes
      simp_all
      intros; simp_all
      done)
   | skip
 all_goals
   (have hin : bt = true ∧ ((decide (op = 1) || decide (m = 0)) && (decide (op = 2) || decide (({ k := vk, n := vn, s := vs } : Val) = Val.zero)) && decide (({ k := vk, n := vn, s := vs } : Val) = { k := ck, n := cn, s := cs })) = true := by
      clear hQ hcp hcc hlp hpc hc IH hz
      have hz0 : ({ k := 0, n := 0, s := { data := { toList := [] } } } : Val) = Val.zero := rfl
      simp only [eqB_val, hz0] at *
      clear hbt hcl hes
      simp_all
    rw [hin.1, hin.2, Bool.true_and, Bool.true_and] at hQ
    clear hin
    simp only [nc] at hz
    simp only [nc'] at hz
    have hzl := lenZ b1 hz
    clear hz
    generalize z = zl at *
    refine loopK (ι := Int) mixed tt_ok hcp hcc hlp [36, 37] (fun i => [(38, .p (.int .i64 i))]) (fun i => Rng ar.length zl i ∧ (ar.drop i.toNat).all neatR = an) (fun i => (zl - i).toNat) 0 (fun _ => rfl) ⟨Rng.start hzl (by omega), han⟩ ⟨rfl, trivial⟩ ?_
    rintro R i ⟨rg, hf⟩ hR
    have hbad : ∀ x, ar[i.toNat]? = some x → neatR x = false → an = false := by
      intro x hx h; rw [← hf, rg.step hx, List.all_cons, h]; rfl
    have hgood : ∀ x, ar[i.toNat]? = some x → neatR x = true → (ar.drop (i + 1).toNat).all neatR = an := by
      intro x hx h; rw [← hf, rg.step hx, List.all_cons, h]; rfl
    have hout : decide (i < zl) = false → an = true := by
      intro h; rw [← hf, rg.end_ rfl h]; rfl
    repeat' (first
      | (with_reducible refine Nm.mk ?_; intro z hz)
      | (with_reducible refine IfB.mk ?_ ?_ <;> (intro h; cases h))
      | (with_reducible refine Two.l ?_; refine Asm.mk ?_ ?_; focus (decide +kernel))
      | (with_reducible refine Two.r ?_)
      | (with_reducible refine TwoT.r ?_)
      | (with_reducible refine Asm.mk ?_ ?_; focus kernel_rfl)
      | (with_reducible refine isCP hcp ?_; first | (refine bP hcp (hpc _ _ _ _ _ _ _ _ hx hes') ?_; intro z hz))
      | (with_reducible refine isCC hcc ?_; first | (refine bA hcc (hpc _ _ _ _ _ _ _ _ hx hes') rfl ?_; intro z hz))
      | (with_reducible refine Ix.ex hes rg.lo (rg.lt (by assumption)) ?_; intro op' m' vk' vn' vs' ar' es' hx hes')
      | (with_reducible refine Asm.mk2 ?_ ?_)
      | ((fail_if_success (with_reducible first | refine hQ _ ?_ | refine Side.mk ?_ | refine isCP hcp ?_ | refine isCC hcc ?_ | refine isLP hlp ?_ | refine Ix.mk ?_ | refine SIx.mk ?_ | refine SEx.mk ?_ | refine EIx.mk ?_ | refine RIx.mk ?_ | refine LkX.mk ?_ | show False | refine hR ?_ _ ?_ ?_ ?_ ?_ ?_ | refine hR2 ?_ _ ?_ ?_ ?_ ?_ ?_)); cbv))
    all_goals first
      | (refine hQ _ ?_; rw [hout (by assumption)]; done)
      | (refine hQ _ ?_; rw [hbad _ hx (by simp_all)]; done)
      | (have hlt : decide (i < zl) = true := by assumption
         rw [rg.wrap hlt] at hz
         exact hR (i + 1) _ ⟨rg.next hlt, hgood _ hx (by clear hR hQ hbad hgood hout; simp_all)⟩ (rg.less hlt) ⟨hz ▸ rfl, trivial⟩ ⟨rfl, rfl, trivial⟩ rfl))
theorem rneat_all : ∀ (k : Nat) (e : Ex), e.sz ≤ k → e.wide → PCall Tryz.prog 53 [.agg e.cells] fun r => r = [.bool (neatR e)]
 | 0, .mk op m v ar, h, _ => by simp [Ex.sz] at h
 | k + 1, .mk op m ⟨vk, vn, vs⟩ ar, h, hw => by
   rw [cells_mk]
   have hw2 := hw
   rw [Ex.wide] at hw2
   refine rneat_c op m vk vn vs ar _ rfl hw fun x hx => rneat_all k x ?_ (wide_mem hw2.2 hx)
   have := sz_mem hx
   simp only [Ex.sz] at h; omega
theorem unlikeM_app {l : List Int} {i : Nat} {x : Int} (hx : l[i]? = some x) : (l.take i).Nodup → (x ∈ l.take i → unlikeM l = false) ∧ (x ∉ l.take i → (l.take (i + 1)).Nodup) := by
 intro hn
 have ht : l.take (i + 1) = l.take i ++ [x] := by rw [List.take_add_one, hx]; rfl
 constructor
 · intro h
   rw [unlikeM, decide_eq_false_iff_not]
   intro hl
   have := hl.sublist (List.take_sublist (i + 1) l)
   rw [ht, List.nodup_append] at this
   exact this.2.2 x h x (by simp) rfl
 · intro h
   rw [ht, List.nodup_append]
   exact ⟨hn, by simp, fun a ha b hb => by
     simp only [List.mem_singleton] at hb
     subst hb
     intro e; subst e; exact h ha⟩
set_option maxHeartbeats 4000000 in
theorem unlike_c (l : List Int) (C : List (List PV)) (hC : l.map i64c = C) (hb : l.length * 8 ≤ 140737488351232) : PCall Tryz.prog 55 [.sl C] fun r => r = [.bool (unlikeM l)] := by
 have b1 : C.length = l.length := by rw [← hC]; simp
 obtain ⟨q, hq⟩ : ∃ q, unlikeM l = q := ⟨_, rfl⟩
 rw [hq]
 refine PCall.x (nt := 27) (res := [.tmp 2]) mixed tt_ok [] Tryz.func55 rfl rfl rfl c55 (Nat.le_of_ble_eq_true rfl) ?_
 intro cp cc lp Q' hcp hcc hlp hQ
 repeat' (first
   | (with_reducible refine Nm.mk ?_; intro z hz)
   | (with_reducible refine IfB.mk ?_ ?_ <;> (intro h; cases h))
   | (with_reducible refine Two.l ?_; refine Asm.mk ?_ ?_; focus (decide +kernel))
   | (with_reducible refine Two.r ?_)
   | (with_reducible refine TwoT.r ?_)
   | (with_reducible refine Asm.mk ?_ ?_; focus (first | kernel_rfl | decide))
   | (with_reducible refine Asm.mk2 ?_ ?_)
   | ((fail_if_success (with_reducible first | refine hQ _ ?_ | refine Side.mk ?_ | refine isCP hcp ?_ | refine isCC hcc ?_ | refine isLP hlp ?_ | refine Ix.mk ?_ | refine SIx.mk ?_ | refine SEx.mk ?_ | refine EIx.mk ?_ | refine RIx.mk ?_ | refine LkX.mk ?_ | show False | refine hR ?_ _ ?_ ?_ ?_ ?_ ?_ | refine hR2 ?_ _ ?_ ?_ ?_ ?_ ?_)); cbv))
 simp only [nc] at hz
 simp only [nc'] at hz
 have hzl := lenZ b1 hz
 clear hz
 generalize z = zl at *
 refine loopK (ι := Int) mixed tt_ok hcp hcc hlp [0, 7, 8] (fun i => [(9, .p (.int .i64 i))]) (fun i => Rng l.length zl i ∧ (l.take i.toNat).Nodup) (fun i => (zl - i).toNat) 0 (fun _ => rfl) ⟨Rng.start hzl (by omega), List.nodup_nil⟩ ⟨rfl, trivial⟩ ?_
 rintro R i ⟨rg, hf⟩ hR
 have hout : decide (i < zl) = false → q = true := by
   intro h
   rw [rg.take_ rfl h] at hf
   rw [← hq, unlikeM, decide_eq_true_eq]; exact hf
 have hic : i ≤ (C.length : Int) := by have := rg.hi; have := rg.len; omega
 have hall : (C.all fun e => e.length == 1) = true := by rw [← hC, List.all_map]; exact List.all_eq_true.2 fun _ _ => rfl
 have hta : ∀ {D : List (List PV)}, C.take i.toNat = D → (l.take i.toNat).map i64c = D ∧ D.length = i.toNat := by
   rintro D rfl
   have := rg.hi
   have := rg.len
   exact ⟨by rw [← hC, List.map_take], by rw [List.length_take]; omega⟩
 repeat' (first
   | (with_reducible refine Nm.mk ?_; intro z hz)
   | (with_reducible refine IfB.mk ?_ ?_ <;> (intro h; cases h))
   | (with_reducible refine Two.l ?_; refine Asm.mk ?_ ?_; focus (decide +kernel))
   | (with_reducible refine Two.r ?_)
   | (with_reducible refine TwoT.r ?_)
   | (with_reducible refine Asm.mk ?_ ?_; focus (first | exact ⟨Int.le_refl 0, rg.lo, hic, hall, by decide⟩ | kernel_rfl))
   | (with_reducible refine Ix.map hC i64c_len (by decide) rg.lo (rg.lt (by assumption)) ?_; intro x hx)
   | (with_reducible refine Asm.mk2 ?_ ?_)
   | ((fail_if_success (with_reducible first | refine hQ _ ?_ | refine Side.mk ?_ | refine isCP hcp ?_ | refine isCC hcc ?_ | refine isLP hlp ?_ | refine Ix.mk ?_ | refine SIx.mk ?_ | refine SEx.mk ?_ | refine EIx.mk ?_ | refine RIx.mk ?_ | refine LkX.mk ?_ | show False | refine hR ?_ _ ?_ ?_ ?_ ?_ ?_ | refine hR2 ?_ _ ?_ ?_ ?_ ?_ ?_)); cbv))
 · refine Side.mk ⟨Int.le_refl 0, rg.lo, hic, hall, by decide⟩
 · rename_i D hD
   have hD2 : C.take i.toNat = D := hD
   obtain ⟨hT, hTl⟩ := hta hD2
   clear hD
   have hlt : decide (i < zl) = true := by assumption
   obtain ⟨ha1, ha2⟩ := unlikeM_app hx hf
   have hTn : (l.take i.toNat).length = i.toNat := by have h := congrArg List.length hT; rw [List.length_map] at h; exact h.trans hTl
   simp only [nc] at hz
   simp only [nc'] at hz
   have hyl := lenZ hTl hz
   clear hz
   generalize z = yl at *
   have htop : yl ≤ 140737488355328 := by have := rg.hi; have := rg.top; omega
   refine loopK (ι := Int) mixed tt_ok hcp hcc hlp [0, 4, 7, 8, 9, 16, 17] (fun j => [(18, .p (.int .i64 j))]) (fun j => Rng i.toNat yl j ∧ x ∉ (l.take i.toNat).take j.toNat) (fun j => (yl - j).toNat) 0 (fun _ => rfl) ⟨Rng.start hyl htop, by simp⟩ ⟨rfl, trivial⟩ ?_
   rintro R2 j ⟨rj, hnj⟩ hR2
   repeat' (first
     | (with_reducible refine Nm.mk ?_; intro z hz)
     | (with_reducible refine IfB.mk ?_ ?_ <;> (intro h; cases h))
     | (with_reducible refine Two.l ?_; refine Asm.mk ?_ ?_; focus (decide +kernel))
     | (with_reducible refine Two.r ?_)
     | (with_reducible refine TwoT.r ?_)
     | (with_reducible refine Asm.mk ?_ ?_; focus kernel_rfl)
     | (with_reducible refine Ix.map hT i64c_len (by decide) rj.lo (by rw [hTn]; exact rj.lt (by assumption)) ?_; intro y hy)
     | (with_reducible refine Asm.mk2 ?_ ?_)
     | ((fail_if_success (with_reducible first | refine hQ _ ?_ | refine Side.mk ?_ | refine isCP hcp ?_ | refine isCC hcc ?_ | refine isLP hlp ?_ | refine Ix.mk ?_ | refine SIx.mk ?_ | refine SEx.mk ?_ | refine EIx.mk ?_ | refine RIx.mk ?_ | refine LkX.mk ?_ | show False | refine hR ?_ _ ?_ ?_ ?_ ?_ ?_ | refine hR2 ?_ _ ?_ ?_ ?_ ?_ ?_)); cbv))
   · refine hQ _ ?_
     have hxy : x = y := by
       have h1 : decide (x = y) = true := by assumption
       simpa using h1
     rw [← hq, ha1 (by rw [hxy]; exact List.mem_of_getElem? hy)]
   · have hj : decide (j < yl) = true := by assumption
     rw [rj.wrap hj] at hz
     have hxy : ¬ x = y := by
       have h1 : decide (x = y) = false := by assumption
       simpa using h1
     refine hR2 (j + 1) _ ⟨rj.next hj, ?_⟩ (rj.less hj) ⟨hz ▸ rfl, trivial⟩ ⟨rfl, rfl, rfl, rfl, rfl, rfl, rfl, trivial⟩ rfl
     rw [rj.take hy, List.mem_append, List.mem_singleton]
     rintro (h | h)
     · exact hnj h
     · exact hxy h
   · have hj : decide (j < yl) = false := by assumption
     rw [rg.wrap hlt] at hz
     rw [rj.take_ hTn hj] at hnj
     refine hR (i + 1) _ ⟨rg.next hlt, ?_⟩ (rg.less hlt) ⟨hz ▸ rfl, trivial⟩ ⟨rfl, rfl, rfl, trivial⟩ rfl
     rw [rg.toNat]
     exact ha2 hnj
 · refine hQ _ ?_
   rw [hout (by assumption)]
end Go.Proofs.YtlabphnonlicdaaGreat

namespace Go.Proofs.YtlabphnonlicdaaGreat
open Go Go.RowKit
set_option maxRecDepth 100000
set_option linter.unusedSimpArgs false
set_option linter.unusedVariables false
theorem nodeE_in (e : Ex) : 1 ≤ nodeE e ∧ nodeE e ≤ 400 := by
 unfold nodeE
 split
 · omega
 · rename_i h
   refine ⟨?_, by omega⟩
   cases hw : (walkE e 1 0 0).1 with
   | true =>
     have h1 := walk_count e 1 0 0 hw
     rw [sizeM, if_pos hw]
     show 1 ≤ (walkE e 1 0 0).2.1
     have : 1 ≤ e.sz := by cases e; simp [Ex.sz]
     omega
   | false =>
     rw [sizeM, if_neg (by rw [hw]; decide)] at h
     exact absurd (show (400 : Int) < 401 by decide) h
def wkE : List Ex → Int → Bool × Int
 | [], n => (true, n)
 | e :: r, n => if 400 < n + nodeE e then (false, n + nodeE e) else wkE r (n + nodeE e)
mutual
def wkP : Pl → Int → Int → Bool × Int
 | .mk _ _ es _ _ _ _ _ _ _ ar, d, n => if 40 < d ∨ 400 < n + 1 then (false, n + 1) else
   if (wkE es (n + 1)).1 = true then wkL ar (d + 1) (wkE es (n + 1)).2 else (false, (wkE es (n + 1)).2)
def wkL : List Pl → Int → Int → Bool × Int
 | [], _, n => (true, n)
 | p :: r, d, n => if (wkP p d n).1 = true then wkL r d (wkP p d n).2 else (false, (wkP p d n).2)
end
theorem wkE_in : ∀ (l : List Ex) (n : Int), n ≤ 400 → n ≤ (wkE l n).2 ∧ (wkE l n).2 ≤ 800 ∧ ((wkE l n).1 = true → (wkE l n).2 ≤ 400)
 | [], n, h => ⟨Int.le_refl _, by show n ≤ 800; omega, fun _ => h⟩
 | e :: r, n, h => by
   have := nodeE_in e
   rw [wkE]
   split
   · exact ⟨by show n ≤ n + nodeE e; omega, by show n + nodeE e ≤ 800; omega, fun h => by cases h⟩
   · have h1 := wkE_in r (n + nodeE e) (by omega)
     exact ⟨by omega, h1.2.1, h1.2.2⟩
mutual
theorem wkP_in : ∀ (p : Pl) (d n : Int), n ≤ 400 → n ≤ (wkP p d n).2 ∧ (wkP p d n).2 ≤ 800 ∧ ((wkP p d n).1 = true → (wkP p d n).2 ≤ 400)
 | .mk _ _ es _ _ _ _ _ _ _ ar, d, n, h => by
   rw [wkP]
   split
   · exact ⟨by show n ≤ n + 1; omega, by show n + 1 ≤ 800; omega, fun h => by cases h⟩
   · have h1 := wkE_in es (n + 1) (by omega)
     split
     · rename_i h2
       have h3 := wkL_in ar (d + 1) (wkE es (n + 1)).2 (h1.2.2 h2)
       exact ⟨by omega, h3.2.1, h3.2.2⟩
     · exact ⟨by show n ≤ (wkE es (n + 1)).2; omega, h1.2.1, fun h => by cases h⟩
theorem wkL_in : ∀ (l : List Pl) (d n : Int), n ≤ 400 → n ≤ (wkL l d n).2 ∧ (wkL l d n).2 ≤ 800 ∧ ((wkL l d n).1 = true → (wkL l d n).2 ≤ 400)
 | [], d, n, h => ⟨Int.le_refl _, by show n ≤ 800; omega, fun _ => h⟩
 | p :: r, d, n, h => by
   have h1 := wkP_in p d n h
   rw [wkL]
   split
   · rename_i h2
     have h3 := wkL_in r d (wkP p d n).2 (h1.2.2 h2)
     exact ⟨by omega, h3.2.1, h3.2.2⟩
   · exact ⟨h1.1, h1.2.1, fun h => by cases h⟩
end
mutual
def ctP : Pl → Int → Int → Int × Bool
 | .mk _ _ es _ _ _ _ _ _ _ ar, n, d => if (wkE es (n + 1)).1 = true then ctL ar (wkE es (n + 1)).2 d else ((wkE es (n + 1)).2, false)
def ctL : List Pl → Int → Int → Int × Bool
 | [], n, _ => (n, decide (n ≤ 400))
 | p :: r, n, d => if 40 ≤ d ∨ 400 < n then (n, false) else if (ctP p n (d + 1)).2 = true then ctL r (ctP p n (d + 1)).1 d else ((ctP p n (d + 1)).1, false)
end
mutual
theorem ct_wk : ∀ (p : Pl) (n d : Int), n ≤ 400 → d ≤ 40 → (ctP p n d).2 = (wkP p d n).1 ∧ ((ctP p n d).2 = true → (ctP p n d).1 = (wkP p d n).2)
 | .mk _ _ es _ _ _ _ _ _ _ ar, n, d, h, hd => by
   by_cases hn : 400 < n + 1
   · rw [wkP, if_pos (.inr hn), ctP]
     cases es with
     | nil =>
       rw [if_pos (show (wkE [] (n + 1)).1 = true from rfl)]
       show (ctL ar (n + 1) d).2 = false ∧ _
       cases ar with
       | nil =>
         have e : (ctL [] (n + 1) d).2 = false := decide_eq_false (by omega)
         exact ⟨e, fun h => by rw [show (wkE [] (n + 1)).2 = n + 1 from rfl, e] at h; cases h⟩
       | cons p r =>
         have e : ctL (p :: r) (n + 1) d = (n + 1, false) := by rw [ctL, if_pos (.inr hn)]
         exact ⟨by rw [e], fun h => by rw [show (wkE [] (n + 1)).2 = n + 1 from rfl, e] at h; cases h⟩
     | cons e r =>
       have := nodeE_in e
       have e1 : wkE (e :: r) (n + 1) = (false, n + 1 + nodeE e) := by rw [wkE, if_pos (by omega)]
       rw [e1, if_neg (fun h => by cases h)]
       exact ⟨rfl, fun h => by cases h⟩
   · rw [wkP, if_neg (by omega), ctP]
     have h1 := wkE_in es (n + 1) (by omega)
     by_cases h2 : (wkE es (n + 1)).1 = true
     · rw [if_pos h2, if_pos h2]
       exact ct_wkL ar _ d (h1.2.2 h2) hd
     · rw [if_neg h2, if_neg h2]
       exact ⟨rfl, fun h => by cases h⟩
theorem ct_wkL : ∀ (l : List Pl) (n d : Int), n ≤ 400 → d ≤ 40 → (ctL l n d).2 = (wkL l (d + 1) n).1 ∧ ((ctL l n d).2 = true → (ctL l n d).1 = (wkL l (d + 1) n).2)
 | [], n, d, h, hd => ⟨decide_eq_true h, fun _ => rfl⟩
 | p :: r, n, d, h, hd => by
   by_cases h40 : 40 ≤ d
   · have e : wkP p (d + 1) n = (false, n + 1) := by cases p; rw [wkP, if_pos (.inl (by omega))]
     rw [ctL, if_pos (.inl h40), wkL, e, if_neg (fun h => by cases h)]
     exact ⟨rfl, fun h => by cases h⟩
   · obtain ⟨h1, h2⟩ := ct_wk p n (d + 1) h (by omega)
     rw [ctL, if_neg (by omega), wkL]
     rw [h1] at h2 ⊢
     by_cases h3 : (wkP p (d + 1) n).1 = true
     · rw [if_pos h3, if_pos h3, h2 h3]
       exact ct_wkL r _ d ((wkP_in p (d + 1) n h).2.2 h3) hd
     · rw [if_neg h3, if_neg h3]
       exact ⟨rfl, fun h => by cases h⟩
end
def sizeOK (p : Pl) : Bool := (wkP p 1 0).1
theorem ct_size (p : Pl) : (ctP p 0 1).2 = sizeOK p := (ct_wk p 0 1 (by decide) (by decide)).1
end Go.Proofs.YtlabphnonlicdaaGreat

namespace Go.Proofs.YtlabphnonlicdaaGreat
open Go Go.RowKit
set_option maxRecDepth 100000
set_option linter.unusedSimpArgs false
set_option linter.unusedVariables false
structure PlF (p : Pl) (op : Int) (tb : ByteArray) (E C K A : List (List PV)) (fn cl n off : Int) (R : List (List PV)) (es : List Ex) (cs : List Int) (ks : List (Int × Bool)) (ag : List (Int × Int)) (ar : List Pl) : Prop where
 p : p = .mk op tb es cs ks ag fn cl n off ar
 E : es.map Ex.cells = E
 C : cs.map i64c = C
 K : ks.map keyc = K
 A : ag.map aggc = A
 R : ar.map Pl.cells = R
theorem Ix.plf {R : List (List PV)} {ar : List Pl} {i : Int} {X : List PV → Prop} (hl : ar.map Pl.cells = R) (h0 : 0 ≤ i) (hn : i < ar.length)
   (g : ∀ p op tb E C K A fn cl n off R' es cs ks ag ar', ar[i.toNat]? = some p → PlF p op tb E C K A fn cl n off R' es cs ks ag ar' → X [.int .i64 op, .str tb, .sl E, .sl C, .sl K, .sl A, .int .i64 fn, .int .i64 cl, .int .i64 n, .int .i64 off, .sl R']) : Ix 11 R i X := by
 refine Ix.pl hl h0 hn fun x hx => ?_
 obtain ⟨op, tb, es, cs, ks, ag, fn, cl, n, off, ar'⟩ := x
 rw [pcells_mk]
 exact g _ _ _ _ _ _ _ _ _ _ _ _ _ _ _ _ _ hx ⟨rfl, rfl, rfl, rfl, rfl, rfl⟩
theorem PlF.cells {p op tb E C K A fn cl n off R es cs ks ag ar} (h : PlF p op tb E C K A fn cl n off R es cs ks ag ar) : p.cells = [.int .i64 op, .str tb, .sl E, .sl C, .sl K, .sl A, .int .i64 fn, .int .i64 cl, .int .i64 n, .int .i64 off, .sl R] := by
 rw [h.p, pcells_mk, h.E, h.C, h.K, h.A, h.R]
def sH (n : Int) : List AObj := [.cells [.p (.int .i64 n)], .cells [.fn 46 [.ref 0 0, .ref 1 0]]]
def SmallC (p : Pl) : Prop := ∀ (cells : List PV) (d n : Int), p.cells = cells → 0 ≤ d → d ≤ 41 → 0 ≤ n → n ≤ 400 → ∃ b n', wkP p d n = (b, n') ∧
 ACall Tryz.prog 46 [.p (.ip cells), .p (.int .i64 d), .ref 0 0, .ref 1 0] (sH n) fun r H' => r = .p (.bool b) ∧ takeX H' 2 = sH n'
set_option maxHeartbeats 4000000 in
theorem small1_c (op : Int) (tb : ByteArray) (es : List Ex) (E C K A R : List (List PV)) (fn cl n0 off : Int) (ar : List Pl) (hE : es.map Ex.cells = E) (hR0 : ar.map Pl.cells = R) (hwE : wideM 72 es.length) (hwR : wideM 72 ar.length) (IH : ∀ x, x ∈ ar → SmallC x) (d n : Int) (hd0 : 0 ≤ d) (hd1 : d ≤ 41) (hn0 : 0 ≤ n) (hn1 : n ≤ 400)
   (cs : List Int) (ks : List (Int × Bool)) (ag : List (Int × Int)) :
   ACall Tryz.prog 46 [.p (.ip [.int .i64 op, .str tb, .sl E, .sl C, .sl K, .sl A, .int .i64 fn, .int .i64 cl, .int .i64 n0, .int .i64 off, .sl R]), .p (.int .i64 d), .ref 0 0, .ref 1 0] (sH n)
     fun r H' => r = .p (.bool (wkP (.mk op tb es cs ks ag fn cl n0 off ar) d n).1) ∧ takeX H' 2 = sH (wkP (.mk op tb es cs ks ag fn cl n0 off ar) d n).2 := by
 have hEl : E.length = es.length := by rw [← hE]; simp
 have hRl : R.length = ar.length := by rw [← hR0]; simp
 unfold wideM at hwE hwR
 obtain ⟨q, hq⟩ : ∃ q, wkP (.mk op tb es cs ks ag fn cl n0 off ar) d n = q := ⟨_, rfl⟩
 rw [hq]
 rw [wkP] at hq
 have hw1 : IntKind.i64.wrap (n + 1) = n + 1 := wrap_in (by omega)
 have hwd : IntKind.i64.wrap (d + 1) = d + 1 := wrap_in (by omega)
 have hfail : ∀ (zn : Int), IntKind.i64.wrap (n + 1) = zn → (decide (40 < d) = true ∨ decide (400 < zn) = true) → q = (false, zn) := by
   intro zn h1 h2
   rw [hw1] at h1
   subst h1
   simp only [decide_eq_true_eq] at h2
   rw [← hq, if_pos h2]
 have hgo : ∀ (zn : Int), IntKind.i64.wrap (n + 1) = zn → decide (40 < d) = false → decide (400 < zn) = false → ((wkE es zn).1 = true → wkL ar (d + 1) (wkE es zn).2 = q) ∧ ((wkE es zn).1 = false → q = (false, (wkE es zn).2)) ∧ 0 ≤ zn ∧ zn ≤ 400 ∧ d ≤ 40 := by
   intro zn h1 h2 h3
   rw [hw1] at h1
   subst h1
   simp only [decide_eq_false_iff_not] at h2 h3
   rw [if_neg (by omega)] at hq
   refine ⟨fun h => by rw [if_pos h] at hq; exact hq, fun h => by rw [if_neg (by rw [h]; decide)] at hq; exact hq.symm, by omega, by omega, by omega⟩
 clear hq
 refine ACall.x (nt := 62) (res := [.tmp 6]) mixed tt_ok [] Tryz.func46 rfl rfl rfl c46 (Nat.le_of_ble_eq_true rfl) ?_
 intro cp cc lp Q' hcp hcc hlp hQ
 repeat' (first
   | (with_reducible refine Nm.mk ?_; intro z hz)
   | (with_reducible refine IfB.mk ?_ ?_ <;> (intro h; cases h))
   | (with_reducible refine Two.l ?_; refine Asm.mk ?_ ?_; focus (decide +kernel))
   | (with_reducible refine Two.r ?_)
   | (with_reducible refine TwoT.r ?_)
   | (with_reducible refine Asm.mk ?_ ?_; focus (first | kernel_rfl | decide))
   | (with_reducible refine Asm.mk2 ?_ ?_)
   | ((fail_if_success (with_reducible first | refine hQ _ _ ?_ | refine Side.mk ?_ | refine isCP hcp ?_ | refine isCC hcc ?_ | refine isLP hlp ?_ | refine Ix.mk ?_ | refine SIx.mk ?_ | refine SEx.mk ?_ | refine EIx.mk ?_ | refine RIx.mk ?_ | refine LkX.mk ?_ | show False | refine hR ?_ _ ?_ ?_ ?_ ?_ ?_ | refine hR2 ?_ _ ?_ ?_ ?_ ?_ ?_)); cbv))
 all_goals first
   | (have e : q = _ := hfail _ (by assumption) (by first | exact .inl (by assumption) | exact .inr (by assumption))
      refine hQ _ _ ⟨?_, ?_⟩
      · rw [e]; rfl
      · rw [e]; rfl)
   | skip
 obtain ⟨e1, e2, hzn0, hzn1, hd40⟩ := hgo _ (by assumption) (by assumption) (by assumption)
 clear hgo hfail
 simp only [nc] at hz
 simp only [nc'] at hz
 have hzl := lenZ hEl hz
 clear hz
 rename_i zn hzn _
 generalize z = zl at *
 obtain ⟨wq, hwq⟩ : ∃ w, wkE es zn = w := ⟨_, rfl⟩
 rw [hwq] at e1 e2
 refine loopT (ι := Int × Int) mixed tt_ok hcp hcc hlp [0, 1, 2, 3, 23, 24] (fun p => [(25, .p (.int .i64 p.1))]) (fun p => sH p.2)
   (fun p => Rng es.length zl p.1 ∧ (0 ≤ p.2 ∧ p.2 ≤ 400) ∧ wkE (es.drop p.1.toNat) p.2 = wq) (fun p => (zl - p.1).toNat) (0, zn) 2 (fun _ => rfl) ⟨Rng.start hzl (by omega), ⟨hzn0, hzn1⟩, hwq⟩ ⟨rfl, trivial⟩ rfl ?_
 rintro R1 ⟨i, n1⟩ ⟨rg, ⟨hb0, hb1⟩, hf⟩ hR
 replace rg : Rng es.length zl i := rg
 replace hb0 : 0 ≤ n1 := hb0
 replace hb1 : n1 ≤ 400 := hb1
 replace hf : wkE (es.drop i.toNat) n1 = wq := hf
 have hstep : ∀ x, es[i.toNat]? = some x → (400 < n1 + nodeE x → wq = (false, n1 + nodeE x)) ∧ (¬ 400 < n1 + nodeE x → wkE (es.drop (i + 1).toNat) (n1 + nodeE x) = wq) := by
   intro x hx
   rw [rg.step hx, wkE] at hf
   exact ⟨fun h => by rw [if_pos h] at hf; exact hf.symm, fun h => by rw [if_neg h] at hf; exact hf⟩
 have hsum1 : ∀ (x : Ex) (zs z : Int), (sizeM x).1 = zs → decide (400 < zs) = true → IntKind.i64.wrap (n1 + 1) = z → z = n1 + nodeE x := by
   intro x zs z h1 h2 h3
   rw [wrap_in (by omega)] at h3
   rw [nodeE, h1, if_pos (of_decide_eq_true h2), h3]
 have hsum2 : ∀ (x : Ex) (zs z : Int), (sizeM x).1 = zs → decide (400 < zs) = false → IntKind.i64.wrap (n1 + zs) = z → z = n1 + nodeE x := by
   intro x zs z h1 h2 h3
   have hn : nodeE x = zs := by rw [nodeE, h1, if_neg (of_decide_eq_false h2)]
   have := nodeE_in x
   rw [wrap_in (by omega)] at h3
   rw [hn, h3]
 have hT : ∀ (x : Ex) (z : Int), es[i.toNat]? = some x → z = n1 + nodeE x → decide (400 < z) = true → wq = (false, z) := by
   rintro x z hx rfl h; exact (hstep x hx).1 (of_decide_eq_true h)
 have hF : ∀ (x : Ex) (z : Int), es[i.toNat]? = some x → z = n1 + nodeE x → decide (400 < z) = false → (0 ≤ z ∧ z ≤ 400) ∧ wkE (es.drop (i + 1).toNat) z = wq := by
   rintro x z hx rfl h
   have := nodeE_in x
   have h2 := of_decide_eq_false h
   exact ⟨⟨by omega, by omega⟩, (hstep x hx).2 h2⟩
 have hout : decide (i < zl) = false → wq = (true, n1) := by
   intro h; rw [← hf, rg.end_ rfl h]; rfl
 clear hstep
 repeat' (first
   | (with_reducible refine Nm.mk ?_; intro z hz)
   | (with_reducible refine IfB.mk ?_ ?_ <;> (intro h; cases h))
   | (with_reducible refine Two.l ?_; refine Asm.mk ?_ ?_; focus (decide +kernel))
   | (with_reducible refine Two.r ?_)
   | (with_reducible refine TwoT.r ?_)
   | (with_reducible refine Asm.mk ?_ ?_; focus kernel_rfl)
   | (with_reducible refine isCP hcp ?_; first | (refine iiP hcp (esize_c _ _ _ _ _ _ _ (by assumption)) ?_; intro z w hz hw))
   | (with_reducible refine isCC hcc ?_; first | (refine iiA hcc (esize_c _ _ _ _ _ _ _ (by assumption)) rfl ?_; intro z w hz hw))
   | (with_reducible refine Ix.ex hE rg.lo (rg.lt (by assumption)) ?_; intro op' m' vk' vn' vs' ar' es' hx hes')
   | (with_reducible refine Asm.mk2 ?_ ?_)
   | ((fail_if_success (with_reducible first | refine hQ _ _ ?_ | refine Side.mk ?_ | refine isCP hcp ?_ | refine isCC hcc ?_ | refine isLP hlp ?_ | refine Ix.mk ?_ | refine SIx.mk ?_ | refine SEx.mk ?_ | refine EIx.mk ?_ | refine RIx.mk ?_ | refine LkX.mk ?_ | show False | refine hR ?_ _ ?_ ?_ ?_ ?_ ?_ | refine hR2 ?_ _ ?_ ?_ ?_ ?_ ?_)); cbv))
 all_goals first
   | (have e : wq = _ := hT _ _ hx (by first | exact hsum1 _ _ _ (by assumption) (by assumption) (by assumption) | exact hsum2 _ _ _ (by assumption) (by assumption) (by assumption)) (by assumption)
      have e3 := e2 (by rw [e])
      rw [e] at e3
      refine hQ _ _ ⟨?_, ?_⟩
      · rw [e3]; rfl
      · rw [e3]; rfl)
   | (obtain ⟨f2, f1⟩ := hF _ _ hx (by first | exact hsum1 _ _ _ (by assumption) (by assumption) (by assumption) | exact hsum2 _ _ _ (by assumption) (by assumption) (by assumption)) (by assumption)
      have hlt : decide (i < zl) = true := by assumption
      rw [rg.wrap hlt] at hz
      exact hR (i + 1, _) _ ⟨rg.next hlt, f2, f1⟩ (rg.less hlt) ⟨hz ▸ rfl, trivial⟩ ⟨rfl, rfl, rfl, rfl, rfl, rfl, trivial⟩ rfl)
   | skip
 have e3 := hout (by assumption)
 have e4 := e1 (by rw [e3])
 rw [e3] at e4
 replace e4 : wkL ar (d + 1) n1 = q := e4
 clear hout hF hT hsum1 hsum2 hR e1 e2 e3 hf hwq
 simp only [nc] at hz
 simp only [nc'] at hz
 have hyl := lenZ hRl hz
 clear hz
 generalize z = yl at *
 refine loopX (ι := Int × Int) mixed tt_ok hcp hcc hlp [0, 1, 2, 3, 45, 46] (fun p => [(47, .p (.int .i64 p.1))]) (fun p => sH p.2)
   (fun p => Rng ar.length yl p.1 ∧ (0 ≤ p.2 ∧ p.2 ≤ 400) ∧ wkL (ar.drop p.1.toNat) (d + 1) p.2 = q) (fun p => (yl - p.1).toNat) (0, n1) ⟨Rng.start hyl (by omega), ⟨hb0, hb1⟩, e4⟩ ⟨rfl, trivial⟩ rfl ?_
 clear hb0 hb1 e4 rg
 rintro R2 ⟨j, n2⟩ ⟨rj, ⟨hb0, hb1⟩, hf⟩ hR
 replace rj : Rng ar.length yl j := rj
 replace hb0 : 0 ≤ n2 := hb0
 replace hb1 : n2 ≤ 400 := hb1
 replace hf : wkL (ar.drop j.toNat) (d + 1) n2 = q := hf
 have hout : decide (j < yl) = false → q = (true, n2) := by
   intro h; rw [← hf, rj.end_ rfl h]; rfl
 have hcallr : ∀ {x : Pl} {cells : List PV} {z' : Int}, ar[j.toNat]? = some x → x.cells = cells → IntKind.i64.wrap (d + 1) = z' → ∃ b n3, ((b = false → q = (false, n3)) ∧ (b = true → (0 ≤ n3 ∧ n3 ≤ 400) ∧ wkL (ar.drop (j + 1).toNat) (d + 1) n3 = q)) ∧
     ACall Tryz.prog 46 [.p (.ip cells), .p (.int .i64 z'), .ref 0 0, .ref 1 0] (sH n2) fun r H' => r = .p (.bool b) ∧ takeX H' 2 = sH n3 := by
   intro x cells z' hx hce hz'
   rw [hwd] at hz'
   subst hz'
   obtain ⟨b, n3, h1, h2⟩ := IH x (List.mem_of_getElem? hx) cells (d + 1) n2 hce (by omega) (by omega) hb0 hb1
   refine ⟨b, n3, ?_, h2⟩
   have hin := wkP_in x (d + 1) n2 hb1
   rw [rj.step hx, wkL, h1] at hf
   rw [h1] at hin
   refine ⟨fun hb => ?_, fun hb => ?_⟩
   · subst hb; rw [if_neg (fun h => by cases h)] at hf; exact hf.symm
   · subst hb
     rw [if_pos rfl] at hf
     exact ⟨⟨by have := hin.1; show 0 ≤ n3; omega, hin.2.2 rfl⟩, hf⟩
 repeat' (first
   | (with_reducible refine Nm.mk ?_; intro z hz)
   | (with_reducible refine IfB.mk ?_ ?_ <;> (intro h; cases h))
   | (with_reducible refine Two.l ?_; refine Asm.mk ?_ ?_; focus (decide +kernel))
   | (with_reducible refine Two.r ?_)
   | (with_reducible refine TwoT.r ?_)
   | (with_reducible refine Asm.mk ?_ ?_; focus kernel_rfl)
   | (with_reducible refine Ix.plf hR0 rj.lo (rj.lt (by assumption)) ?_; intro x op' tb' E' C' K' A' fn' cl' n' off' R' es' cs' ks' ag' ar' hx hpf)
   | (with_reducible refine isCC hcc ?_; obtain ⟨b', n3, hbq, hcall⟩ := hcallr hx hpf.cells (by assumption); refine frameA (H1 := sH n3) hcc [0, 1] hcall rfl rfl rfl rfl rfl ?_)
   | (with_reducible refine Asm.mk2 ?_ ?_)
   | ((fail_if_success (with_reducible first | refine hQ _ _ ?_ | refine Side.mk ?_ | refine isCP hcp ?_ | refine isCC hcc ?_ | refine isLP hlp ?_ | refine Ix.mk ?_ | refine SIx.mk ?_ | refine SEx.mk ?_ | refine EIx.mk ?_ | refine RIx.mk ?_ | refine LkX.mk ?_ | show False | refine hR ?_ _ ?_ ?_ ?_ ?_ ?_ | refine hR2 ?_ _ ?_ ?_ ?_ ?_ ?_)); cbv))
 · have e := hbq.1 (by simpa using hz)
   refine hQ _ _ ⟨?_, ?_⟩
   · rw [e]; rfl
   · rw [e]; rfl
 · have hb' : (!b') = false := by assumption
   obtain ⟨f2, f1⟩ := hbq.2 (by simpa using hb')
   have hlt : decide (j < yl) = true := by assumption
   rw [rj.wrap hlt] at hz
   exact hR (j + 1, n3) _ ⟨rj.next hlt, f2, f1⟩ (rj.less hlt) ⟨hz ▸ rfl, trivial⟩ ⟨rfl, rfl, rfl, rfl, rfl, rfl, trivial⟩ rfl
 · have e := hout (by assumption)
   refine hQ _ _ ⟨?_, ?_⟩
   · rw [e]; rfl
   · rw [e]; rfl
theorem small_all : ∀ (k : Nat) (p : Pl), p.sz ≤ k → p.wide → SmallC p
 | 0, .mk op tb es cs ks ag fn cl n off ar, h, _ => by simp [Pl.sz] at h
 | k + 1, .mk op tb es cs ks ag fn cl n0 off ar, h, hw => by
   intro cells d n hc hd0 hd1 hn0 hn1
   rw [pcells_mk] at hc
   subst hc
   rw [Pl.wide] at hw
   refine ⟨_, _, rfl, small1_c op tb es _ _ _ _ _ fn cl n0 off ar rfl rfl hw.1.1.2 hw.1.2.2.2.2.2 (fun x hx => small_all k x ?_ (wideP_mem hw.2 hx)) d n hd0 hd1 hn0 hn1 cs ks ag⟩
   have := szP_mem hx
   simp only [Pl.sz] at h; omega
end Go.Proofs.YtlabphnonlicdaaGreat

namespace Go.Proofs.YtlabphnonlicdaaGreat
open Go Go.RowKit
set_option maxRecDepth 100000
set_option linter.unusedSimpArgs false
set_option linter.unusedVariables false
def CountC (p : Pl) : Prop := ∀ (cells : List PV) (n d : Int), p.cells = cells → 0 ≤ n → n ≤ 400 → 0 ≤ d → d ≤ 40 → ∃ n' k, ctP p n d = (n', k) ∧
 PCall Tryz.prog 21 [.agg cells, .int .i64 n, .int .i64 d] fun r => r = [.int .i64 n', .bool k]
set_option maxHeartbeats 4000000 in
theorem count_c (op : Int) (tb : ByteArray) (es : List Ex) (E C K A R : List (List PV)) (fn cl n0 off : Int) (ar : List Pl) (hE : es.map Ex.cells = E) (hR0 : ar.map Pl.cells = R) (hwL : wideL es) (hwE : wideM 72 es.length) (hwR : wideM 72 ar.length) (IH : ∀ x, x ∈ ar → CountC x) (n d : Int) (hn0 : 0 ≤ n) (hn1 : n ≤ 400) (hd0 : 0 ≤ d) (hd1 : d ≤ 40)
   (cs : List Int) (ks : List (Int × Bool)) (ag : List (Int × Int)) (n' : Int) (k : Bool) (hq : ctP (.mk op tb es cs ks ag fn cl n0 off ar) n d = (n', k)) :
   PCall Tryz.prog 21 [.agg [.int .i64 op, .str tb, .sl E, .sl C, .sl K, .sl A, .int .i64 fn, .int .i64 cl, .int .i64 n0, .int .i64 off, .sl R], .int .i64 n, .int .i64 d] fun r => r = [.int .i64 n', .bool k] := by
 have hEl : E.length = es.length := by rw [← hE]; simp
 have hRl : R.length = ar.length := by rw [← hR0]; simp
 unfold wideM at hwE hwR
 rw [ctP] at hq
 have hw1 : IntKind.i64.wrap (n + 1) = n + 1 := wrap_in (by omega)
 have hwd : IntKind.i64.wrap (d + 1) = d + 1 := wrap_in (by omega)
 obtain ⟨wq, hwq⟩ : ∃ w, wkE es (n + 1) = w := ⟨_, rfl⟩
 rw [hwq] at hq
 have e1 : wq.1 = true → ctL ar wq.2 d = (n', k) := fun h => by rw [if_pos h] at hq; exact hq
 have e2 : wq.1 = false → n' = wq.2 ∧ k = false := fun h => by
   rw [if_neg (by rw [h]; decide)] at hq
   simp only [Prod.mk.injEq] at hq
   exact ⟨hq.1.symm, hq.2.symm⟩
 clear hq
 refine PCall.x (nt := 71) (res := [.tmp 6, .tmp 7]) mixed tt_ok [] Tryz.func21 rfl rfl rfl c21 (Nat.le_of_ble_eq_true rfl) ?_
 intro cp cc lp Q' hcp hcc hlp hQ
 repeat' (first
   | (with_reducible refine Nm.mk ?_; intro z hz)
   | (with_reducible refine IfB.mk ?_ ?_ <;> (intro h; cases h))
   | (with_reducible refine Two.l ?_; refine Asm.mk ?_ ?_; focus (decide +kernel))
   | (with_reducible refine Two.r ?_)
   | (with_reducible refine TwoT.r ?_)
   | (with_reducible refine Asm.mk ?_ ?_; focus (first | kernel_rfl | decide))
   | (with_reducible refine Asm.mk2 ?_ ?_)
   | ((fail_if_success (with_reducible first | refine hQ _ ?_ | refine Side.mk ?_ | refine isCP hcp ?_ | refine isCC hcc ?_ | refine isLP hlp ?_ | refine Ix.mk ?_ | refine SIx.mk ?_ | refine SEx.mk ?_ | refine EIx.mk ?_ | refine RIx.mk ?_ | refine LkX.mk ?_ | show False | refine hR ?_ _ ?_ ?_ ?_ ?_ ?_ | refine hR2 ?_ _ ?_ ?_ ?_ ?_ ?_)); cbv))
 simp only [nc] at hz
 simp only [nc'] at hz
 have hzl := lenZ hEl hz
 clear hz
 rename_i zn
 rw [hw1] at hz
 subst hz
 generalize z = zl at *
 refine loopK (ι := Int × Int) mixed tt_ok hcp hcc hlp [2, 3, 19, 20] (fun p => [(1, .p (.int .i64 p.2)), (21, .p (.int .i64 p.1))])
   (fun p => Rng es.length zl p.1 ∧ (0 ≤ p.2 ∧ p.2 ≤ 401) ∧ wkE (es.drop p.1.toNat) p.2 = wq) (fun p => (zl - p.1).toNat) (0, n + 1) (fun _ => rfl) ⟨Rng.start hzl (by omega), ⟨by show 0 ≤ n + 1; omega, by show n + 1 ≤ 401; omega⟩, hwq⟩ ⟨rfl, rfl, trivial⟩ ?_
 rintro R1 ⟨i, n1⟩ ⟨rg, ⟨hb0, hb1⟩, hf⟩ hR
 replace rg : Rng es.length zl i := rg
 replace hb0 : 0 ≤ n1 := hb0
 replace hb1 : n1 ≤ 401 := hb1
 replace hf : wkE (es.drop i.toNat) n1 = wq := hf
 have hstep : ∀ x, es[i.toNat]? = some x → (400 < n1 + nodeE x → wq = (false, n1 + nodeE x)) ∧ (¬ 400 < n1 + nodeE x → wkE (es.drop (i + 1).toNat) (n1 + nodeE x) = wq) := by
   intro x hx
   rw [rg.step hx, wkE] at hf
   exact ⟨fun h => by rw [if_pos h] at hf; exact hf.symm, fun h => by rw [if_neg h] at hf; exact hf⟩
 have hsum1 : ∀ (x : Ex) (zs z : Int), (sizeM x).1 = zs → decide (zs ≤ 400) = false → IntKind.i64.wrap (n1 + 1) = z → z = n1 + nodeE x := by
   intro x zs z h1 h2 h3
   have h2 := of_decide_eq_false h2
   rw [wrap_in (by omega)] at h3
   rw [nodeE, h1, if_pos (by omega), h3]
 have hsum2 : ∀ (x : Ex) (zs z : Int), (sizeM x).1 = zs → decide (zs ≤ 400) = true → IntKind.i64.wrap (n1 + zs) = z → z = n1 + nodeE x := by
   intro x zs z h1 h2 h3
   have h2 := of_decide_eq_true h2
   have hn : nodeE x = zs := by rw [nodeE, h1, if_neg (by omega)]
   have := nodeE_in x
   rw [wrap_in (by omega)] at h3
   rw [hn, h3]
 have hT : ∀ (x : Ex) (z : Int), es[i.toNat]? = some x → z = n1 + nodeE x → decide (400 < z) = true → wq = (false, z) := by
   rintro x z hx rfl h; exact (hstep x hx).1 (of_decide_eq_true h)
 have hF : ∀ (x : Ex) (z : Int), es[i.toNat]? = some x → z = n1 + nodeE x → decide (400 < z) = false → (0 ≤ z ∧ z ≤ 401) ∧ wkE (es.drop (i + 1).toNat) z = wq := by
   rintro x z hx rfl h
   have := nodeE_in x
   have h2 := of_decide_eq_false h
   exact ⟨⟨by omega, by omega⟩, (hstep x hx).2 h2⟩
 have hout : decide (i < zl) = false → wq = (true, n1) := by
   intro h; rw [← hf, rg.end_ rfl h]; rfl
 clear hstep
 repeat' (first
   | (with_reducible refine Nm.mk ?_; intro z hz)
   | (with_reducible refine IfB.mk ?_ ?_ <;> (intro h; cases h))
   | (with_reducible refine Two.l ?_; refine Asm.mk ?_ ?_; focus (decide +kernel))
   | (with_reducible refine Two.r ?_)
   | (with_reducible refine TwoT.r ?_)
   | (with_reducible refine Asm.mk ?_ ?_; focus kernel_rfl)
   | (with_reducible refine isCP hcp ?_; first | (refine iiP hcp (rsize_c _ _ _ _ _ _ _ (by assumption) (wide_mem hwL (List.mem_of_getElem? hx))) ?_; intro z w hz hw))
   | (with_reducible refine isCC hcc ?_; first | (refine iiA hcc (rsize_c _ _ _ _ _ _ _ (by assumption) (wide_mem hwL (List.mem_of_getElem? hx))) rfl ?_; intro z w hz hw))
   | (with_reducible refine Ix.ex hE rg.lo (rg.lt (by assumption)) ?_; intro op' m' vk' vn' vs' ar' es' hx hes')
   | (with_reducible refine Asm.mk2 ?_ ?_)
   | ((fail_if_success (with_reducible first | refine hQ _ ?_ | refine Side.mk ?_ | refine isCP hcp ?_ | refine isCC hcc ?_ | refine isLP hlp ?_ | refine Ix.mk ?_ | refine SIx.mk ?_ | refine SEx.mk ?_ | refine EIx.mk ?_ | refine RIx.mk ?_ | refine LkX.mk ?_ | show False | refine hR ?_ _ ?_ ?_ ?_ ?_ ?_ | refine hR2 ?_ _ ?_ ?_ ?_ ?_ ?_)); cbv))
 all_goals first
   | (have e : wq = _ := hT _ _ hx (by first | exact hsum1 _ _ _ (by assumption) (by assumption) (by assumption) | exact hsum2 _ _ _ (by assumption) (by assumption) (by assumption)) (by assumption)
      have e3 := e2 (by rw [e])
      rw [e] at e3
      refine hQ _ ?_
      rw [e3.1, e3.2])
   | (obtain ⟨f2, f1⟩ := hF _ _ hx (by first | exact hsum1 _ _ _ (by assumption) (by assumption) (by assumption) | exact hsum2 _ _ _ (by assumption) (by assumption) (by assumption)) (by assumption)
      have hlt : decide (i < zl) = true := by assumption
      rw [rg.wrap hlt] at hz
      exact hR (i + 1, _) _ ⟨rg.next hlt, f2, f1⟩ (rg.less hlt) ⟨rfl, hz ▸ rfl, trivial⟩ ⟨rfl, rfl, rfl, rfl, trivial⟩ rfl)
   | skip
 have e3 := hout (by assumption)
 have e4 := e1 (by rw [e3])
 rw [e3] at e4
 replace e4 : ctL ar n1 d = (n', k) := e4
 clear hout hF hT hsum1 hsum2 hR e1 e2 e3 hf hwq
 simp only [nc] at hz
 simp only [nc'] at hz
 have hyl := lenZ hRl hz
 clear hz
 generalize z = yl at *
 refine loopK (ι := Int × Int) mixed tt_ok hcp hcc hlp [2, 3, 42, 43] (fun p => [(1, .p (.int .i64 p.2)), (44, .p (.int .i64 p.1))])
   (fun p => Rng ar.length yl p.1 ∧ (0 ≤ p.2 ∧ p.2 ≤ 401) ∧ ctL (ar.drop p.1.toNat) p.2 d = (n', k)) (fun p => (yl - p.1).toNat) (0, n1) (fun _ => rfl) ⟨Rng.start hyl (by omega), ⟨hb0, hb1⟩, e4⟩ ⟨rfl, rfl, trivial⟩ ?_
 clear hb0 hb1 e4 rg
 rintro R2 ⟨j, n2⟩ ⟨rj, ⟨hb0, hb1⟩, hf⟩ hR
 replace rj : Rng ar.length yl j := rj
 replace hb0 : 0 ≤ n2 := hb0
 replace hb1 : n2 ≤ 401 := hb1
 replace hf : ctL (ar.drop j.toNat) n2 d = (n', k) := hf
 have hout : decide (j < yl) = false → n' = n2 ∧ decide (n2 ≤ 400) = k := by
   intro h
   rw [rj.end_ rfl h, ctL] at hf
   simp only [Prod.mk.injEq] at hf
   exact ⟨hf.1.symm, hf.2⟩
 have hbad : ∀ x, ar[j.toNat]? = some x → (decide (40 ≤ d) = true ∨ decide (400 < n2) = true) → n' = n2 ∧ k = false := by
   intro x hx h
   simp only [decide_eq_true_eq] at h
   rw [rj.step hx, ctL, if_pos h] at hf
   simp only [Prod.mk.injEq] at hf
   exact ⟨hf.1.symm, hf.2.symm⟩
 have hcallr : ∀ {x : Pl} {cells : List PV} {z' : Int}, ar[j.toNat]? = some x → x.cells = cells → decide (40 ≤ d) = false → decide (400 < n2) = false → IntKind.i64.wrap (d + 1) = z' → ∃ n3 b, ((b = false → n' = n3 ∧ k = false) ∧ (b = true → (0 ≤ n3 ∧ n3 ≤ 401) ∧ ctL (ar.drop (j + 1).toNat) n3 d = (n', k))) ∧
     PCall Tryz.prog 21 [.agg cells, .int .i64 n2, .int .i64 z'] fun r => r = [.int .i64 n3, .bool b] := by
   intro x cells z' hx hce h1 h2 hz'
   have h1 := of_decide_eq_false h1
   have h2 := of_decide_eq_false h2
   rw [hwd] at hz'
   subst hz'
   obtain ⟨n3, b, h3, h4⟩ := IH x (List.mem_of_getElem? hx) cells n2 (d + 1) hce hb0 (by omega) (by omega) (by omega)
   refine ⟨n3, b, ?_, h4⟩
   have hct := ct_wk x n2 (d + 1) (by omega) (by omega)
   have hin := wkP_in x (d + 1) n2 (by omega)
   rw [rj.step hx, ctL, if_neg (by omega), h3] at hf
   rw [h3] at hct
   refine ⟨fun hb => ?_, fun hb => ?_⟩
   · subst hb
     rw [if_neg (fun h => by cases h)] at hf
     simp only [Prod.mk.injEq] at hf
     exact ⟨hf.1.symm, hf.2.symm⟩
   · subst hb
     rw [if_pos rfl] at hf
     have h5 : n3 = (wkP x (d + 1) n2).2 := hct.2 rfl
     have h6 := hin.2.2 hct.1.symm
     exact ⟨⟨by omega, by omega⟩, hf⟩
 repeat' (first
   | (with_reducible refine Nm.mk ?_; intro z hz)
   | (with_reducible refine IfB.mk ?_ ?_ <;> (intro h; cases h))
   | (with_reducible refine Two.l ?_; refine Asm.mk ?_ ?_; focus (decide +kernel))
   | (with_reducible refine Two.r ?_)
   | (with_reducible refine TwoT.r ?_)
   | (with_reducible refine Asm.mk ?_ ?_; focus kernel_rfl)
   | (with_reducible refine Ix.plf hR0 rj.lo (rj.lt (by assumption)) ?_; intro x op' tb' E' C' K' A' fn' cl' n0' off' R' es' cs' ks' ag' ar' hx hpf)
   | (with_reducible refine isCC hcc ?_; obtain ⟨n3, b', hbq, hcall⟩ := hcallr hx hpf.cells (by assumption) (by assumption) (by assumption); refine xA hcc hcall rfl ?_)
   | (with_reducible refine Asm.mk2 ?_ ?_)
   | ((fail_if_success (with_reducible first | refine hQ _ ?_ | refine Side.mk ?_ | refine isCP hcp ?_ | refine isCC hcc ?_ | refine isLP hlp ?_ | refine Ix.mk ?_ | refine SIx.mk ?_ | refine SEx.mk ?_ | refine EIx.mk ?_ | refine RIx.mk ?_ | refine LkX.mk ?_ | show False | refine hR ?_ _ ?_ ?_ ?_ ?_ ?_ | refine hR2 ?_ _ ?_ ?_ ?_ ?_ ?_)); cbv))
 all_goals first
   | (have e := hbad _ hx (by first | exact .inl (by assumption) | exact .inr (by assumption))
      refine hQ _ ?_
      rw [e.1, e.2])
   | (have e := hbq.1 (by simpa using (show (!b') = true from hz))
      refine hQ _ ?_
      rw [e.1, e.2])
   | (obtain ⟨f2, f1⟩ := hbq.2 (by simpa using (show (!b') = false by assumption))
      have hlt : decide (j < yl) = true := by assumption
      rw [rj.wrap hlt] at hz
      exact hR (j + 1, n3) _ ⟨rj.next hlt, f2, f1⟩ (rj.less hlt) ⟨rfl, hz ▸ rfl, trivial⟩ ⟨rfl, rfl, rfl, rfl, trivial⟩ rfl)
   | (have e := hout (by assumption)
      refine hQ _ ?_
      rw [e.1, ← e.2, ← hz])
theorem count_all : ∀ (m : Nat) (p : Pl), p.sz ≤ m → p.wide → CountC p
 | 0, .mk op tb es cs ks ag fn cl n off ar, h, _ => by simp [Pl.sz] at h
 | m + 1, .mk op tb es cs ks ag fn cl n0 off ar, h, hw => by
   intro cells n d hc hn0 hn1 hd0 hd1
   rw [pcells_mk] at hc
   subst hc
   rw [Pl.wide] at hw
   refine ⟨_, _, rfl, count_c op tb es _ _ _ _ _ fn cl n0 off ar rfl rfl hw.1.1.1 hw.1.1.2 hw.1.2.2.2.2.2 (fun x hx => count_all m x ?_ (wideP_mem hw.2 hx)) n d hn0 hn1 hd0 hd1 cs ks ag _ _ rfl⟩
   have := szP_mem hx
   simp only [Pl.sz] at h; omega
theorem small_c (op : Int) (tb : ByteArray) (E C K A R : List (List PV)) (fn cl n0 off : Int) (p : Pl) (hc : p.cells = [.int .i64 op, .str tb, .sl E, .sl C, .sl K, .sl A, .int .i64 fn, .int .i64 cl, .int .i64 n0, .int .i64 off, .sl R]) (hw : p.wide) :
   PCall Tryz.prog 19 [.agg [.int .i64 op, .str tb, .sl E, .sl C, .sl K, .sl A, .int .i64 fn, .int .i64 cl, .int .i64 n0, .int .i64 off, .sl R]] fun r => r = [.bool (sizeOK p)] := by
 obtain ⟨b, n', h1, hcall⟩ := small_all _ p (Nat.le_refl _) hw _ 1 0 hc (by decide) (by decide) (by decide) (by decide)
 have hs : sizeOK p = b := by rw [sizeOK, h1]
 rw [hs]
 refine PCall.x (nt := 8) (res := [.tmp 2]) mixed tt_ok [(46, [0])] Tryz.func19 rfl rfl rfl c19 (Nat.le_of_ble_eq_true rfl) ?_
 intro cp cc lp Q' hcp hcc hlp hQ
 repeat' (first
   | (with_reducible refine Nm.mk ?_; intro z hz)
   | (with_reducible refine IfB.mk ?_ ?_ <;> (intro h; cases h))
   | (with_reducible refine Two.l ?_; refine Asm.mk ?_ ?_; focus (decide +kernel))
   | (with_reducible refine Two.r ?_)
   | (with_reducible refine TwoT.r ?_)
   | (with_reducible refine Asm.mk ?_ ?_; focus kernel_rfl)
   | (with_reducible refine isCC hcc ?_; refine frameA (H1 := sH n') hcc [1, 2] hcall rfl rfl rfl rfl rfl ?_)
   | (with_reducible refine Asm.mk2 ?_ ?_)
   | ((fail_if_success (with_reducible first | refine hQ _ ?_ | refine Side.mk ?_ | refine isCP hcp ?_ | refine isCC hcc ?_ | refine isLP hlp ?_ | refine Ix.mk ?_ | refine SIx.mk ?_ | refine SEx.mk ?_ | refine EIx.mk ?_ | refine RIx.mk ?_ | refine LkX.mk ?_ | show False | refine hR ?_ _ ?_ ?_ ?_ ?_ ?_ | refine hR2 ?_ _ ?_ ?_ ?_ ?_ ?_)); cbv))
 all_goals (refine hQ _ ?_; rfl)
end Go.Proofs.YtlabphnonlicdaaGreat

namespace Go.Proofs.YtlabphnonlicdaaGreat
open Go Go.RowKit
set_option maxRecDepth 100000
set_option linter.unusedSimpArgs false
set_option linter.unusedVariables false
def inOp (op : Int) : Bool := decide (1 ≤ op) && decide (op ≤ 12)
set_option maxHeartbeats 4000000 in
theorem formOf_c (op : Int) : PCall Tryz.prog 48 [.int .i64 op] fun r => r = [.agg [.int .i64 (fArgs op), .int .i64 (fEx op), .bool (decide (op = 1)), .bool (fCols op), .bool (fKeys op), .bool (decide (op = 6)), .bool (decide (op = 10)), .bool (decide (op = 9))], .bool (inOp op)] := by
 refine PCall.x (nt := 40) (res := [.cell 2 82, .tmp 3]) mixed tt_ok [] Tryz.func48 rfl rfl rfl c48 (Nat.le_of_ble_eq_true rfl) ?_
 intro cp cc lp Q' hcp hcc hlp hQ
 repeat' (first
   | (with_reducible refine Nm.mk ?_; intro z hz)
   | (with_reducible refine IfB.mk ?_ ?_ <;> (intro h; cases h))
   | (with_reducible refine Two.l ?_; refine Asm.mk ?_ ?_; focus (decide +kernel))
   | (with_reducible refine Two.r ?_)
   | (with_reducible refine TwoT.r ?_)
   | (with_reducible refine Asm.mk ?_ ?_; focus (first | kernel_rfl | decide))
   | (with_reducible refine Asm.mk2 ?_ ?_)
   | ((fail_if_success (with_reducible first | refine hQ _ ?_ | refine Side.mk ?_ | refine isCP hcp ?_ | refine isCC hcc ?_ | refine isLP hlp ?_ | refine Ix.mk ?_ | refine SIx.mk ?_ | refine SEx.mk ?_ | refine EIx.mk ?_ | refine RIx.mk ?_ | refine LkX.mk ?_ | show False | refine hR ?_ _ ?_ ?_ ?_ ?_ ?_ | refine hR2 ?_ _ ?_ ?_ ?_ ?_ ?_)); cbv))
 all_goals
   (refine hQ _ ?_
    clear hQ hcp hcc hlp
    first
      | (have hz := of_decide_eq_true hz
         subst hz
         rfl)
      | (simp only [decide_eq_false_iff_not] at *
         have h1 : fArgs op = 0 := by unfold fArgs; rw [if_neg (by omega), if_neg (by omega), if_neg (by omega)]
         have h2 : fEx op = 0 := by unfold fEx; rw [if_neg (by omega), if_neg (by omega)]
         have h3 : inOp op = false := by unfold inOp; rw [Bool.and_eq_false_iff, decide_eq_false_iff_not, decide_eq_false_iff_not]; omega
         rw [h1, h2, h3]
         simp_all [fCols, fKeys]))
end Go.Proofs.YtlabphnonlicdaaGreat
