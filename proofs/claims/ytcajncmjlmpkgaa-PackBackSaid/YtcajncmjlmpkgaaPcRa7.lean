/- pack. Own work; no condition. -/
import Derived.Test.YtcajncmjlmpkgaaPcAbsD
import Derived.Test.YtcajncmjlmpkgaaPc42
import Derived.WalkKit
import Derived.ProofKit
import Derived.Tactics
import Derived.Tactics2
import Derived.Laws.Pointers
namespace Go.Proofs.Ytcajncmjlmpkgaa
open Go Go.RowKit
set_option maxRecDepth 100000
set_option linter.unusedSimpArgs false
set_option linter.unusedVariables false
theorem catch_idle (p q : Value) (w : World) : CallsD Try.prog 51 #[p, q] .returning w fun e u' w' => (∃ v, e = .returned v) ∧ u' = .returning ∧ w' = w := by
 refine callsD_of_wpS Try.func51 rfl fun c₀ cs hu => ?_
 apply wpS_seq
 apply wpS_region
 simp [wpOpsS, go_sem, recoverD, hu, Try.ntmps51, Exit.thenS]
 apply wpS_seq
 apply wpS_region
 simp [wpOpsS, go_sem, hu, Exit.thenS, Act.put, Act.eval]
 refine wpS_cond (t := false) (by simp [Act.eval, Array.replicate]) ?_
 simp only [Bool.false_eq_true, if_false]
 refine wpS_of_wp (wp_skip ?_)
 cases c₀
 simp_all [bodyPostS, results, Try.results51]
theorem wp_walk {P : Program} (hm : P.follows .mixedOrders = true) {tt : TypeId → Option TI} (htt : TTOk P tt) {c : Code} {nt : NT} {Q : Exit → AS → Prop} {A : AS}
   (h : ∀ (cp : FuncId → List PV → (CR → Prop) → Prop) (cc : FuncId → List AV → List AObj → (AV → List AObj → Prop) → Prop) (lp : LP), PC1 P = cp → ACall P = cc → (fun c Q A => Wp P nt (.loop c) Q A) = lp → xc tt [] cp cc lp nt c Q A) : Wp P nt c Q A :=
 xc_ok hm htt rfl rfl rfl c Q A (h _ _ _ rfl rfl rfl)
def QN (K : List AObj → Prop) : Exit → AS → Prop
 | .normal, A => K A.H
 | _, _ => False
theorem catch_die (T : List AObj) (c0 c1 c2 c3 c4 : AV) {Q : List AObj → Prop} (k : Q (.cells [.p (.int .i64 0), .full [], .full [], .full []] :: .cells [.p (.int .i64 2)] :: (T ++ [.cells []]))) :
   DRun Try.prog 51 [.ref 0 0, .ref 1 0] (.cells [c0, c1, c2, c3] :: .cells [c4] :: T) (some (89, .agg [])) Q := by
 refine ⟨fun B G w vals u wr rv hm => ?_⟩
 obtain ⟨v, hv, rfl⟩ := hm
 obtain rfl : v = .agg #[] := by
   cases hv with
   | agg _ vs hl _ => have : vs = #[] := Array.eq_empty_of_size_eq_zero (by simpa using hl); rw [this]
 obtain ⟨p, q, rfl⟩ : ∃ p q, vals = [p, q] := by
   have := rv.1
   match vals, this with
   | [p, q], _ => exact ⟨p, q, rfl⟩
 have rp := rv.2 0 _ p rfl rfl
 have rq := rv.2 1 _ q rfl rfl
 have nb := wr.newBox' (H' := (.cells [c0, c1, c2, c3] :: .cells [c4] :: T) ++ [.cells []]) (id := (AObj.cells [c0, c1, c2, c3] :: .cells [c4] :: T).length) #[] 89 [] (wr.dom _ (Nat.le_refl _)) (Upd.push _ _) rfl (fun i c v hc => by simp at hc)
 obtain ⟨wr1, ext1, _⟩ := nb
 have hta : ∀ w, (Instr.typeAssert (.iface 89 (.agg #[])) 20 89 true).run Try.prog w = .ok (.tuple #[.agg #[], .bool true]) w := fun w => by kernel_rfl
 have hal : ∀ w, (Instr.alloc 89 true (.tuple #[])).run Try.prog w = .ok (.pointer (some ⟨w.heap.size, 0, none⟩)) (w.alloc (.cells #[] 89)) := fun w => by kernel_rfl
 show CallsD Try.prog 51 #[p, q] _ w _
 refine callsD_of_wpS Try.func51 rfl fun c₀ cs hu => ?_
 rw [dieE] at hu
 apply wpS_seq
 apply wpS_region
 simp [wpOpsS, go_sem, recoverD, hu, Try.ntmps51, Exit.thenS]
 apply wpS_seq
 apply wpS_region
 simp [wpOpsS, go_sem, hu, Exit.thenS, Act.put, Act.eval]
 refine wpS_cond (t := true) (by simp [Act.eval, Array.replicate]) ?_
 simp only [if_true]
 apply wpS_seq
 apply wpS_seq
 apply wpS_region
 simp [wpOpsS, go_sem, hu, Exit.thenS, Act.put, Act.eval, hta]
 apply wpS_seq
 apply wpS_region
 simp [wpOpsS, go_sem, hu, Exit.thenS, Act.put, Act.eval]
 refine wpS_cond (t := false) (by simp [Act.eval, Array.replicate]) ?_
 simp only [Bool.false_eq_true, if_false]
 refine wpS_of_wp (wp_skip ?_)
 show Code.wpS Try.prog _ _ _ _ _
 refine wpS_of_wp ?_
 refine wp_mono (wp_walk mixed tt_ok (nt := ⟨17, []⟩) (Q := QN Q) (A := ⟨[(0, .ref 0 0), (1, .ref 1 0)], .cells [c0, c1, c2, c3] :: .cells [c4] :: (T ++ [.cells []])⟩) ?_ B _ _ _ ?_ wr1) ?_
 · intro cp cc lp hcp hcc hlp
   generalize T ++ [.cells []] = T2 at k ⊢
   have hQ : ∀ H', Q H' → Q H' := fun _ h => h
   repeat' (first
     | (with_reducible refine Nm.mk ?_; intro z hz)
     | (with_reducible refine IfB.mk ?_ ?_ <;> (intro h; cases h))
     | (with_reducible refine Two.l ?_; refine Asm.mk ?_ ?_; focus (decide +kernel))
     | (with_reducible refine Two.r ?_)
     | (with_reducible refine TwoT.r ?_)
     | (with_reducible refine TwoU.r ?_)
     | (with_reducible refine Asm.mk ?_ ?_; focus (first | (show (_ : Bool) = true; kernel_rfl)))
     | (with_reducible refine Asm.mk2 ?_ ?_)
     | ((fail_if_success (with_reducible first | refine hQ _ ?_ | refine Side.mk ?_ | refine isCP hcp ?_ | refine isCC hcc ?_ | refine isLP hlp ?_ | refine Ix.mk ?_ | refine SIx.mk ?_ | refine SEx.mk ?_ | refine EIx.mk ?_ | refine RIx.mk ?_ | refine LkX.mk ?_ | show False | refine hR ?_ _ ?_ ?_ ?_ ?_ ?_ | refine hR2 ?_ _ ?_ ?_ ?_ ?_ ?_)); cbv))
   exact k
 · refine ⟨by simp, rfl, fun t x hx => ?_⟩
   simp only [look] at hx
   split at hx
   · rename_i e; subst e
     simp only [Option.some.injEq] at hx; subst hx
     exact ⟨p, by simp, rp.mono ext1⟩
   · split at hx
     · rename_i e; subst e
       simp only [Option.some.injEq] at hx; subst hx
       exact ⟨q, by simp, rq.mono ext1⟩
     · cases hx
 · rintro e a' w' ⟨G2, A2, e', k1, k2, k3, k4⟩
   cases k2 with
   | die tr2 rp2 => exact k4.elim
   | go he tr2 =>
     cases e with
     | normal => exact ⟨tr2.defers, _, rfl, .tuple #[], by simp [results, Try.results51], ⟨_, rfl⟩, rfl, G2, ext1.trans k1, A2.H, k3, k4⟩
     | panic c => exact absurd rfl (he c)
     | _ => exact k4.elim
theorem catch_no (caps : List AV) (H : List AObj) {Q : List AObj → Prop} (hc : caps.length = 2) (k : Q H) : DRun Try.prog 51 caps H none Q := by
 refine ⟨fun B G w vals u wr rv hm => ?_⟩
 obtain rfl : u = .returning := hm
 obtain ⟨p, q, rfl⟩ : ∃ p q, vals = [p, q] := by
   have := rv.1
   rw [hc] at this
   match vals, this with
   | [p, q], _ => exact ⟨p, q, rfl⟩
 refine (catch_idle p q w).mono ?_
 rintro e u' w' ⟨h1, rfl, rfl⟩
 exact ⟨h1, rfl, G, H, GExt.refl G, wr, k⟩
end Go.Proofs.Ytcajncmjlmpkgaa
