/- A cell that is told as what any holder may see of it. Own work; no condition. -/
import Derived.Test.YtnhmnfokbinplaaGreatAbs26
namespace Go.Proofs.YtnhmnfokbinplaaGreat
open Go Go.RowKit

theorem Wp.forget {P : Program} {nt : Nat} {Q : Exit → AS → Prop} {A : AS} {c : Code} (id j : Nat) {cs : List AV} {x : AV} {y : PV} (hid : A.H[id]? = some (.cells cs)) (hj : cs[j]? = some x) (hx : x.pure1 = some y)
    (h : Wp P nt c Q ⟨A.T, A.H.set id (.cells (cs.set j (.p y)))⟩) : Wp P nt c Q A := by
  intro B G a w tr wr
  refine wp_mono (h B G a w tr (wr.reobj hid fun ho => ?_)) fun ex a' w' hq => hq
  obtain ⟨b, arr, t, o1, o2, o3, o4, o5⟩ := ho
  refine ⟨b, arr, t, o1, o2, by rw [List.length_set]; exact o3, fun i c v hc hv => ?_, o5⟩
  by_cases e : i = j
  · subst e
    have hlt := (List.getElem?_eq_some_iff.1 hj).1
    rw [List.getElem?_set_self hlt] at hc
    simp only [Option.some.injEq] at hc
    subst hc
    exact .p (pure1_ok (o4 i x v hj hv) hx)
  · rw [List.getElem?_set_ne (fun h => e h.symm)] at hc
    exact o4 i c v hc hv
/-- For the walk: at a loop. -/
theorem forgetX {P : Program} {lp : LP} {nt : Nat} (hlp : (fun c Q A => Wp P nt (.loop c) Q A) = lp) {c : Code} {Q : Exit → AS → Prop} {T : List (Nat × AV)} {H : List AObj} (id j : Nat) {cs : List AV} {x : AV} {y : PV} (hid : nth H id = some (.cells cs)) (hj : nth cs j = some x) (hx : x.pure1 = some y)
    (h : lp c Q ⟨T, setX H id (.cells (setX cs j (.p y)))⟩) : lp c Q ⟨T, H⟩ := by
  rw [nth_eq] at hid hj
  have h1 := (List.getElem?_eq_some_iff.1 hid).1
  have h2 := (List.getElem?_eq_some_iff.1 hj).1
  rw [setX_eq _ _ _ (by omega), setX_eq _ _ _ (by omega), if_pos h1, if_pos h2] at h
  subst hlp
  exact Wp.forget id j hid hj hx h
end Go.Proofs.YtnhmnfokbinplaaGreat
