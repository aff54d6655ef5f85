/- What is known of arguments: no list is longer than a slice may be. Own work; no condition. -/
import Derived.Test.YtcajncmjlmpkgaaPcAbs22
namespace Go.Proofs.Ytcajncmjlmpkgaa
open Go Go.RowKit
def know0 : PV → Prop
 | .sl es => es.length ≤ maxLen
 | _ => True
def know1 : PV → Prop
 | .sl es => es.length ≤ maxLen
 | .agg cs => ∀ c, c ∈ cs → know0 c
 | _ => True
theorem RP.sl_len {m : Mem} {es : List (List PV)} {v : Value} (h : RP m (.sl es) v) : es.length ≤ maxLen := by
 cases h with
 | sl0 a cap hc => simp [maxLen]
 | sl _ size b o len cap vs hlen hcap hmax => omega
theorem RP.know0 {m : Mem} {x : PV} {v : Value} (h : RP m x v) : Go.Proofs.Ytcajncmjlmpkgaa.know0 x := by
 cases x <;> first | exact h.sl_len | trivial
theorem RP.know1 {m : Mem} {x : PV} {v : Value} (h : RP m x v) : Go.Proofs.Ytcajncmjlmpkgaa.know1 x := by
 cases x <;> first | exact h.sl_len | trivial | skip
 rename_i cs
 cases h with
 | agg _ vs hl hr =>
   intro c hc
   obtain ⟨i, hi⟩ := List.getElem?_of_mem hc
   have hlt : i < cs.length := (List.getElem?_eq_some_iff.1 hi).1
   have hv : vs[i]? = some (vs[i]'(by omega)) := Array.getElem?_eq_getElem _
   exact (hr i c _ hi hv).know0
theorem PCall.know {P : Program} {f : FuncId} {args : List PV} {Q : List PV → Prop} (_ : callable P f = true) (h : (∀ x, x ∈ args → know1 x) → PCall P f args Q) : PCall P f args Q := by
 refine ⟨fun m w vals hm hv => ?_⟩
 refine (h fun x hx => ?_).run m w vals hm hv
 obtain ⟨i, hi⟩ := List.getElem?_of_mem hx
 have hlt : i < args.length := (List.getElem?_eq_some_iff.1 hi).1
 exact (hv.2 i x _ hi (List.getElem?_eq_getElem (by rw [hv.1]; exact hlt))).know1
end Go.Proofs.Ytcajncmjlmpkgaa
