/- Plans: Built by the document. Own work; no condition. -/
import Derived.Test.YtlabphnonlicdaaGreatPaPnH
import Derived.Test.YtlabphnonlicdaaGreatPaPnI
import Derived.Test.YtlabphnonlicdaaGreatPa46
namespace Go.Proofs.YtlabphnonlicdaaGreat
open Go Go.RowKit
set_option maxRecDepth 100000
set_option linter.unusedSimpArgs false
set_option linter.unusedVariables false
theorem rbuiltP_c (op : Int) (tb : ByteArray) (es : List Ex) (E C K A R : List (List PV)) (fn cl n off : Int) (cs : List Int) (ks : List (Int × Bool)) (ag : List (Int × Int)) (ar : List Pl) (hE : es.map Ex.cells = E) (hC : cs.map i64c = C) (hK : ks.map keyc = K) (hA : ag.map aggc = A) (hR0 : ar.map Pl.cells = R)
   (hw : (Pl.mk op tb es cs ks ag fn cl n off ar).wide) (IH : ∀ x, x ∈ ar → RBuiltC x) :
   PCall Tryz.prog 22 [.agg [.int .i64 op, .str tb, .sl E, .sl C, .sl K, .sl A, .int .i64 fn, .int .i64 cl, .int .i64 n, .int .i64 off, .sl R]] fun r => r = [.bool (builtR (.mk op tb es cs ks ag fn cl n off ar))] := by
 by_cases hop : ¬ (1 ≤ op ∧ op ≤ 12)
 · exact rbuiltP_no op hop tb es E C K A R fn cl n off cs ks ag ar hE hC hK hA hR0 hw IH
 · have hc : op = 1 ∨ op = 2 ∨ op = 3 ∨ op = 4 ∨ op = 5 ∨ op = 6 ∨ op = 7 ∨ op = 8 ∨ op = 9 ∨ op = 10 ∨ op = 11 ∨ op = 12 := by omega
   by_cases h6 : op ≤ 6
   · exact rbuiltP_a op (by omega) tb es E C K A R fn cl n off cs ks ag ar hE hC hK hA hR0 hw IH
   · exact rbuiltP_b op (by omega) tb es E C K A R fn cl n off cs ks ag ar hE hC hK hA hR0 hw IH
theorem rbuiltP_all : ∀ (m : Nat) (p : Pl), p.sz ≤ m → p.wide → RBuiltC p
 | 0, .mk op tb es cs ks ag fn cl n off ar, h, _ => by simp [Pl.sz] at h
 | m + 1, .mk op tb es cs ks ag fn cl n off ar, h, hw => by
   intro cells hc
   rw [pcells_mk] at hc
   subst hc
   refine rbuiltP_c op tb es _ _ _ _ _ fn cl n off cs ks ag ar rfl rfl rfl rfl rfl hw fun x hx => rbuiltP_all m x ?_ (by rw [Pl.wide] at hw; exact wideP_mem hw.2 hx)
   have := szP_mem hx
   simp only [Pl.sz] at h; omega
theorem eRBuilt_c (op : Int) (tb : ByteArray) (E C K A R : List (List PV)) (fn cl n0 off : Int) (p : Pl) (hc : p.cells = [.int .i64 op, .str tb, .sl E, .sl C, .sl K, .sl A, .int .i64 fn, .int .i64 cl, .int .i64 n0, .int .i64 off, .sl R]) (hw : p.wide) :
   PCall Tryz.prog 10 [.agg [.int .i64 op, .str tb, .sl E, .sl C, .sl K, .sl A, .int .i64 fn, .int .i64 cl, .int .i64 n0, .int .i64 off, .sl R]] fun r => r = [.int .i64 (if sizeOK p = false then 3 else if builtP p = false then 1 else 0)] := by
 obtain ⟨n', k, hk, h1⟩ := count_all _ p (Nat.le_refl _) hw _ 0 1 hc (by decide) (by decide) (by decide) (by decide)
 have hs := ct_size p
 rw [hk] at hs
 have hs : k = sizeOK p := hs
 have h2 := rbuiltP_all _ p (Nat.le_refl _) hw _ hc
 rw [builtR_eq] at h2
 rw [← hs]
 generalize builtP p = b2 at *
 refine PCall.x (nt := 15) (res := [.tmp 2]) mixed tt_ok [] Tryz.func10 rfl rfl rfl c10 (Nat.le_of_ble_eq_true rfl) ?_
 intro cp cc lp Q' hcp hcc hlp hQ
 repeat' (first
   | (with_reducible refine Nm.mk ?_; intro z hz)
   | (with_reducible refine IfB.mk ?_ ?_ <;> (intro h; cases h))
   | (with_reducible refine Two.l ?_; refine Asm.mk ?_ ?_; focus (decide +kernel))
   | (with_reducible refine Two.r ?_)
   | (with_reducible refine TwoT.r ?_)
   | (with_reducible refine Asm.mk ?_ ?_; focus (first | kernel_rfl | decide))
   | (with_reducible refine isCP hcp ?_; first | (refine xP hcp (h1) ?_; skip) | (refine bP hcp (h2) ?_; intro z hz))
   | (with_reducible refine isCC hcc ?_; first | (refine xA hcc (h1) rfl ?_; skip) | (refine bA hcc (h2) rfl ?_; intro z hz))
   | (with_reducible refine Asm.mk2 ?_ ?_)
   | ((fail_if_success (with_reducible first | refine hQ _ ?_ | refine Side.mk ?_ | refine isCP hcp ?_ | refine isCC hcc ?_ | refine isLP hlp ?_ | refine Ix.mk ?_ | refine SIx.mk ?_ | refine SEx.mk ?_ | refine EIx.mk ?_ | refine RIx.mk ?_ | refine LkX.mk ?_ | show False | refine hR ?_ _ ?_ ?_ ?_ ?_ ?_ | refine hR2 ?_ _ ?_ ?_ ?_ ?_ ?_)); cbv))
 all_goals (refine hQ _ ?_; clear hQ hcp hcc hlp h1 h2 hc hk; subst_vars; simp_all)
end Go.Proofs.YtlabphnonlicdaaGreat
