/- A row that grows, in a cell of one's own, is told as a plain list behind a loop. Own work; no condition. -/
import Derived.Test.YtnhmnfokbinplaaGreatAbsP
namespace Go.Proofs.YtnhmnfokbinplaaGreat
open Go Go.RowKit
set_option linter.unusedVariables false

def frzC (id j : Nat) (A : AS) (K : AS → Prop) : Prop :=
  match nth A.H id with
  | some (.cells cs) => match nth cs j with
    | some (.vec v g sz lo n) => match nth A.H v with
      | some (.vec g' L sz') => if sz' = sz then (if sz = 0 then False else Asm (fun _ => g' = g ∧ lo + n ≤ L.length) fun _ => Nm (fun _ => (L.drop lo).take n) fun l => K ⟨A.T, setX (setX A.H v .gone) id (.cells (setX cs j (.p (.sl l))))⟩) else False
      | _ => False
    | _ => False
  | _ => False
theorem frzC_ok {nt : Nat} {B : Base} {G : Ghost} {A : AS} {a : Act} {w : World} {K : AS → Prop} {id j : Nat} (h : frzC id j A K) (tr : TR nt G A.T a) (wr : WR B G A.H w) : ∃ G' A', GExt G G' ∧ TR nt G' A'.T a ∧ WR B G' A'.H w ∧ K A' := by
  unfold frzC at h
  split at h <;> try (exact h.elim)
  rename_i cs hid
  split at h <;> try (exact h.elim)
  rename_i v g sz lo n hj
  split at h <;> try (exact h.elim)
  rename_i g' L sz' hv
  split at h <;> try (exact h.elim)
  rename_i h1
  subst h1
  split at h <;> try (exact h.elim)
  rename_i h2
  obtain ⟨rfl, hn⟩ := h.c
  have hk := h.k.get
  rw [nth_eq] at hid hj hv
  have hidl := (List.getElem?_eq_some_iff.1 hid).1
  have hjl := (List.getElem?_eq_some_iff.1 hj).1
  have hvl := (List.getElem?_eq_some_iff.1 hv).1
  have hne : v ≠ id := fun e => by subst e; rw [hid] at hv; cases hv
  obtain ⟨G', e, wr', _, f1⟩ := wr.vecFreeze hv h2
  have hid' : (A.H.set v .gone)[id]? = some (.cells cs) := by rw [List.getElem?_set_ne hne]; exact hid
  obtain ⟨b0, arr0, t0, p1, p2, p3, p4, p5⟩ := wr.objs id _ hid
  have wr2 := wr'.reobj (y := .cells (cs.set j (.p (.sl ((L.drop lo).take n))))) hid' fun ho => by
    obtain ⟨b, arr, t, o1, o2, o3, o4, o5⟩ := ho
    have hb := e.box id b0 p1
    rw [o1] at hb
    simp only [Option.some.injEq, GO.box.injEq] at hb
    subst hb
    rw [o2] at p2
    simp only [Option.some.injEq, Obj.cells.injEq] at p2
    obtain ⟨rfl, _, _⟩ := p2
    refine ⟨b, arr, t, o1, o2, by rw [List.length_set]; exact o3, fun i c u hc hu => ?_, o5⟩
    by_cases ei : i = j
    · subst ei
      rw [List.getElem?_set_self hjl] at hc
      simp only [Option.some.injEq] at hc
      subst hc
      exact f1 lo n u hn (p4 i _ u hj hu)
    · rw [List.getElem?_set_ne (fun h => ei h.symm)] at hc
      exact o4 i c u hc hu
  refine ⟨G', ⟨A.T, setX (setX A.H v .gone) id (.cells (setX cs j (.p (.sl ((L.drop lo).take n)))))⟩, e, tr.mono e, ?_, hk⟩
  have hl : (A.H.set v .gone).length = A.H.length := List.length_set
  show WR B G' (setX (setX A.H v .gone) id (.cells (setX cs j (.p (.sl ((L.drop lo).take n)))))) w
  rw [setX_eq A.H _ _ (by omega), if_pos hvl, setX_eq _ id _ (by omega), if_pos (by omega), setX_eq cs _ _ (by omega), if_pos hjl]
  exact wr2
/-- For the walk: at a loop. -/
theorem loopFz {P : Program} {lp : LP} {nt : Nat} (hlp : (fun c Q A => Wp P nt (.loop c) Q A) = lp) {c : Code} {Q : Exit → AS → Prop} {T : List (Nat × AV)} {H : List AObj} (id j : Nat)
    (h : lp c (fun e A' => frzC id j A' (Q e)) ⟨T, H⟩) : lp c Q ⟨T, H⟩ := by
  subst hlp
  intro B G a w tr wr
  refine wp_mono (h B G a w tr wr) ?_
  rintro e a' w' ⟨G2, A2, k1, k2, k3, k4⟩
  obtain ⟨G3, A3, j1, j2, j3, j4⟩ := frzC_ok k4 k2 k3
  exact ⟨G3, A3, k1.trans j1, j2, j3, j4⟩
end Go.Proofs.YtnhmnfokbinplaaGreat
