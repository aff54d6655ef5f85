/- Functions with a deferred call; what a deferred call leaves. Own work; no condition. -/
import Derived.Test.YtcajncmjlmpkgaaPcAbs26
import Derived.Defers
import Derived.Recover
namespace Go.Proofs.Ytcajncmjlmpkgaa
open Go Go.RowKit
set_option linter.unusedVariables false
set_option linter.unusedSimpArgs false
def modeR (G : Ghost) : Option (TypeId × PV) → FrameMode → Prop
 | none, u => u = .returning
 | some (t, x), u => ∃ v, RP G.mem x v ∧ u = .panicking (dieE t v)
structure DRun (P : Program) (g : FuncId) (caps : List AV) (H : List AObj) (d : Option (TypeId × PV)) (Q : List AObj → Prop) : Prop where
 run : ∀ B G w (vals : List Value) u, WR B G H w → RVL G caps vals → modeR G d u → CallsD P g vals.toArray u w fun e u' w' => (∃ v, e = .returned v) ∧ settle u' = .returning ∧ ∃ G' H', GExt G G' ∧ WR B G' H' w' ∧ Q H'
theorem DRun.mono {P : Program} {g : FuncId} {caps : List AV} {H : List AObj} {d : Option (TypeId × PV)} {Q Q' : List AObj → Prop} (h : DRun P g caps H d Q) (hq : ∀ H', Q H' → Q' H') : DRun P g caps H d Q' :=
 ⟨fun B G w vals u wr rv hm => (h.run B G w vals u wr rv hm).mono fun _ _ _ ⟨h1, h2, G', H', h3, h4, h5⟩ => ⟨h1, h2, G', H', h3, h4, hq _ h5⟩⟩
def FinD (P : Program) (g : FuncId) (caps : List AV) (res : List ResultVar) (Q : AV → List AObj → Prop) : Exit → AS → Prop
 | .normal, A | .ret, A => DRun P g caps A.H none fun H' => need (res.mapM (resV P ⟨A.T, H'⟩)) fun rs => Q (packV rs) H'
 | .panic _, A => ∃ k t x T, A.T = (k, .die t x) :: T ∧ DRun P g caps A.H (some (t, x)) fun H' => need (res.mapM (resV P ⟨T, H'⟩)) fun rs => Q (packV rs) H'
 | _, _ => False
theorem ACall.bodyD {P : Program} {f : FuncId} {fn : Func} {c0 c : Code} {id : Nat} {mk df : Oper} {n : Nat} {res : List ResultVar} {args : List AV} {H : List AObj} {Q : AV → List AObj → Prop} {g : FuncId} {caps0 : Array Operand} {t : Nat}
   (hf : P.funcs[f]? = some fn) (hb : fn.body = some (.seq c0 (.seq (.region id #[mk, df] false) c))) (hnt : fn.ntmps = n) (hres : fn.results.toList = res) (hcal : callable P f = true) (hn : args.length ≤ n)
   (hmk : mk.op = .makeFunc (.func g) #[] caps0) (hmd : mk.dst = some t) (hmg : mk.guard = none) (ht : t < n)
   (hdf : df.op = .defer { callee := .value (.tmp t), args := #[], argTypes := #[] }) (hdd : df.dst = none) (hdg : df.guard = none) (hg : callable P g = true)
   (h : Wp P ⟨n, []⟩ c0 (Th (fun A => ∃ caps, caps0.toList.mapM (ev A.T) = some caps ∧ ∀ ds, Wp P ⟨n, ds⟩ c (FinD P g caps res Q) ⟨(t, .fn g caps) :: A.T, A.H⟩) (fun _ _ => False)) ⟨mkT 0 args, H⟩) : ACall P f args H Q := by
 subst hnt hres
 refine ⟨fun B G w vals wr rv => Runs.of_calls hcal (calls_of_wp_defers hf hb ?_)⟩
 have tr : TR ⟨fn.ntmps, []⟩ G (mkT 0 args) { tmps := vals.toArray ++ Array.replicate (fn.ntmps - vals.toArray.size) undef, defers := [] } := by
   refine ⟨by show _ = fn.ntmps; simp; have := rv.1; omega, rfl, fun t x hx => ?_⟩
   obtain ⟨_, h2⟩ := look_mkT _ _ _ _ hx
   simp only [Nat.sub_zero] at h2
   have hlt : t < args.length := (List.getElem?_eq_some_iff.1 h2).1
   have hlt' : t < vals.length := by rw [rv.1]; exact hlt
   refine ⟨vals[t], ?_, rv.2 t x _ h2 (List.getElem?_eq_getElem hlt')⟩
   rw [Array.getElem?_append_left (by simpa using hlt')]
   simp [hlt']
 refine wp_seq (wp_mono (h B G _ w tr wr) ?_)
 rintro e a1 w1 ⟨G1, A1, e', h1, h2, h3, h4⟩
 cases h2 with
 | die tr1 rp => exact h4.elim
 | go he tr1 =>
   cases e with
   | panic c => exact absurd rfl (he c)
   | normal =>
     obtain ⟨caps, hc, hW⟩ := h4
     obtain ⟨c1, c2⟩ := mapM_get hc
     obtain ⟨cv, hcv⟩ : ∃ cv, caps0.map a1.eval = cv := ⟨_, rfl⟩
     have rvc : RVL G1 caps cv.toList := by
       refine ⟨by rw [← hcv]; simpa using c1, fun i x v hx hv => ?_⟩
       rw [← hcv] at hv
       simp only [Array.toList_map, List.getElem?_map, Option.map_eq_some_iff] at hv
       obtain ⟨q, hq, rfl⟩ := hv
       exact ev_ok tr1 (c2 i q x hq hx)
     have run0 : (execOp a1.eval mk).run P w1 = .ok (.value (.func (.func g) #[] cv)) w1 := by
       simp only [execOp, hmk, Instr.makeFunc]
       simp [hcv]
     let a2 : Act := a1.put (some t) (.func (.func g) #[] cv)
     have rf : RV G1 (.fn g caps) (.func (.func g) #[] cv) := .fn (by have := rvc.1; simpa using this) fun i c v hc hv => rvc.2 i c v hc (by simpa using hv)
     have tr2 : TR ⟨fn.ntmps, []⟩ G1 ((t, .fn g caps) :: A1.T) a2 := by
       have := tr1.put (some t) (.fn g caps) (.func (.func g) #[] cv) (fun d hd => by cases hd; exact ht) rf
       rwa [putT_eq] at this
     obtain ⟨u2, hu1, hu2⟩ := tr2.slots t (.fn g caps) (by simp [look])
     have hev : a2.eval (.tmp t) = .func (.func g) #[] cv := by
       show a2.tmps.getD t undef = _
       have : a2.tmps[t]? = some (.func (.func g) #[] cv) := by
         show (a1.tmps.setIfInBounds t _)[t]? = _
         have hs : t < a1.tmps.size := by rw [tr1.size]; exact ht
         simp [Array.getElem?_setIfInBounds, hs]
       simp [Array.getD_eq_getD_getElem?, this]
     obtain ⟨d, hd⟩ : ∃ d : Deferred, d = { target := .fn (.func g) cv, args := #[] } := ⟨_, rfl⟩
     have run1 : (execOp a2.eval df).run P w1 = .ok (.defer d) w1 := by
       simp only [execOp, hdf, resolve, hev, Deferred.ofValue, Sem.run_bind, Sem.run_pure, Result.andThen_ok, hd]
       simp
     have hinv : ∀ w', (invoke (.fn (.func g) cv) #[]).run P w' = .ok (.enter g cv) w' := by
       intro w'
       have hg2 := hg
       unfold callable at hg2
       split at hg2 <;> try (cases hg2; done)
       rename_i fg hfg
       simp only [Bool.and_eq_true, Bool.not_eq_true', Option.isSome_iff_exists] at hg2
       obtain ⟨hname, body, hbody⟩ := hg2
       simp only [invoke, callFunc, program, Sem.run_bind, Sem.run_pure, Result.andThen_ok, Sem.run, hfg, hname, Bool.false_eq_true, if_false, hbody, Option.isNone]
       simp
     refine wp_seq (wp_region ?_)
     have hr : List.range (#[mk, df] : Array Oper).size = [0, 1] := rfl
     rw [hr, wpOps_cons]
     unfold wpOp
     have w0 : Region.wanted mk (yielded #[mk, df] a1.tmps) = true := by simp [Region.wanted, hmg]
     simp only [List.getElem?_toArray, List.getElem?_cons_zero, w0, if_true]
     refine .inl ?_
     unfold Oper.wp
     rw [run0, Oper.upon_value]
     rw [hmd, wpOps_cons]
     unfold wpOp
     have w2 : Region.wanted df (yielded #[mk, df] a2.tmps) = true := by simp [Region.wanted, hdg]
     simp only [List.getElem?_toArray, List.getElem?_cons_succ, List.getElem?_cons_zero]
     rw [if_pos w2]
     refine .inl ?_
     unfold Oper.wp
     rw [run1, Oper.upon_defer]
     rw [hdd]
     have hds : a2.defers = [] := tr2.defers
     rw [hds]
     show c.wp P _ _ w1
     have tr3 : TR ⟨fn.ntmps, [d]⟩ G1 ((t, .fn g caps) :: A1.T) (({ a2 with defers := [d] } : Act).put none undef) := ⟨tr2.size, rfl, tr2.slots⟩
     refine wp_mono (hW [d] B G1 _ w1 tr3 h3) ?_
     rintro e a4 w4 ⟨G2, A2, e', k1, k2, k3, k4⟩
     have leave : ∀ (u : FrameMode) (o : Option (TypeId × PV)) (T : List (Nat × AV)) (H2 : List AObj), u ≠ .run → modeR G2 o u → TR ⟨fn.ntmps, [d]⟩ G2 T a4 → WR B G2 H2 w4 → DRun P g caps H2 o (fun H' => need (fn.results.toList.mapM (resV P ⟨T, H'⟩)) fun rs => Q (packV rs) H') →
         Leaves P fn a4.tmps (fun e w' => ∃ r G' H', Ends G' r e ∧ GExt G G' ∧ WR B G' H' w' ∧ Q r H') a4.defers u w4 := by
       intro u o T H2 hu hm tr4 wr4 hD
       have e4 : a4.defers = [d] := tr4.defers
       rw [e4, hd]
       refine leaves_cons (f := g) (args := cv) hu (hinv w4) ?_
       have hc := hD.run B G2 w4 cv.toList u wr4 ⟨rvc.1, fun i x v hx hv => (rvc.2 i x v hx hv).mono k1⟩ hm
       have ecv : cv.toList.toArray = cv := by simp
       rw [ecv] at hc
       refine hc.mono ?_
       rintro e u' w5 ⟨⟨v, rfl⟩, hs, G3, H3, m1, m2, m3⟩
       show Leaves P fn a4.tmps _ [] (settle u') w5
       rw [hs]
       obtain ⟨rs, hrs, hq⟩ := need_iff.1 m3
       obtain ⟨v, r1, r2⟩ := results_ok (A := ⟨T, H3⟩) (tr4.mono m1) m2 hrs
       exact ⟨v, r1, _, G3, H3, .ret r2, h1.trans (k1.trans m1), m2, hq⟩
     cases k2 with
     | go he2 tr4 =>
       cases e with
       | normal => exact leave .returning none A2.T A2.H (by simp) rfl tr4 k3 k4
       | ret => exact leave .returning none A2.T A2.H (by simp) rfl tr4 k3 k4
       | panic c => exact absurd rfl (he2 c)
       | _ => exact k4.elim
     | die tr4 rp =>
       obtain ⟨k, t', x', T', e1, hq⟩ := k4
       simp only [dieT, List.cons.injEq, Prod.mk.injEq, AV.die.injEq] at e1
       obtain ⟨⟨_, rfl, rfl⟩, rfl⟩ := e1
       exact leave (.panicking (dieE _ _)) (some (_, _)) _ _ (by simp) ⟨_, rp, rfl⟩ tr4 k3 hq
   | _ => exact h4.elim
end Go.Proofs.Ytcajncmjlmpkgaa
