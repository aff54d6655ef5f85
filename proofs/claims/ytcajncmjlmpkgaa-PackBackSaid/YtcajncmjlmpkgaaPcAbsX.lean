/- Functions without a body, that the model answers itself; more rules for the quick walk. Own work; no condition. -/
import Derived.Test.YtcajncmjlmpkgaaPcAbs26
import Derived.Test.YtcajncmjlmpkgaaPcTy
import Derived.Lib.Bytealg
namespace Go.Proofs.Ytcajncmjlmpkgaa
open Go Go.RowKit
theorem PCall.ext {P : Program} {f : FuncId} {fn : Func} {e : Array Value → Sem Value} {args X : List PV} (hcal : callable P f = false) (hf : P.funcs[f]? = some fn) (hname : (fn.name == "runtime.NumGoroutine") = false) (hb : fn.body.isNone = true) (hn : Extern.findNext fn = none) (he : Extern.find fn = some e)
   (h : ∀ (m : Mem) (w : World) (vals : List Value), (vals.length = args.length ∧ ∀ (i : Nat) x v, args[i]? = some x → vals[i]? = some v → RP m x v) → ∃ v, (e vals.toArray).run P w = .ok v w ∧ RV ⟨m, fun _ => none⟩ (packV (X.map .p)) v) : PCall P f args fun r => r = X := by
 refine ⟨fun m w vals hm hv => ?_⟩
 obtain ⟨v, h1, h2⟩ := h m w vals hv
 unfold Runs
 rw [if_neg (by rw [hcal]; decide)]
 refine ⟨v, w, ?_, v, X, m, rfl, h2, fun _ _ _ h => h, hm, fun _ _ _ h => .inl h, Below.refl _ _, rfl⟩
 rw [run_callFunc_extern hf hname hb hn he, h1]
 rfl
theorem args2 {m : Mem} {x y : PV} {vals : List Value} (hv : vals.length = [x, y].length ∧ ∀ (i : Nat) a v, [x, y][i]? = some a → vals[i]? = some v → RP m a v) : ∃ u v, vals = [u, v] ∧ RP m x u ∧ RP m y v := by
 match vals, hv with
 | [u, v], hv => exact ⟨u, v, rfl, hv.2 0 x u rfl rfl, hv.2 1 y v rfl rfl⟩
theorem AIx.at_ {cs : List AV} {len : Nat} {n : Int} {K : AV → Prop} (c : AV) (h0 : 0 ≤ n) (h1 : n < len) (hc : cs[n.toNat]? = some c) (k : K c) : AIx cs len n K := ⟨c, h0, h1, hc, k⟩
end Go.Proofs.Ytcajncmjlmpkgaa
