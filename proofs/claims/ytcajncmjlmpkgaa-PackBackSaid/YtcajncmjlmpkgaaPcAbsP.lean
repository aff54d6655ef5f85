/- Empty lists taken for rows that grow, or for rows of lists, ahead of a loop or a call. Own work; no condition. -/
import Derived.Test.YtcajncmjlmpkgaaPcAbsF
import Derived.Test.YtcajncmjlmpkgaaPcAbsX
namespace Go.Proofs.Ytcajncmjlmpkgaa
open Go Go.RowKit
theorem TR.slot {nt : NT} {G G' : Ghost} {T : List (Nat × AV)} {a : Act} (tr : TR nt G T a) (e : GExt G G') {t : Nat} {y : AV} {v : Value} (hv : a.tmps[t]? = some v) (r : RV G' y v) : TR nt G' ((t, y) :: T) a := by
 have tr1 := tr.mono e
 exact ⟨tr1.size, tr1.defers, fun t' x hx => by
   simp only [look] at hx
   split at hx
   · rename_i e'; subst e'
     simp only [Option.some.injEq] at hx; subst hx
     exact ⟨v, hv, r⟩
   · exact tr1.slots t' x hx⟩
theorem WR.mintCell {B : Base} {G : Ghost} {H : List AObj} {w : World} (h : WR B G H w) {id j : Nat} {cs : List AV} (size : Nat) (hid : H[id]? = some (.cells cs)) (hj : cs[j]? = some (.full [])) :
   ∃ G', GExt G G' ∧ WR B G' (H.set id (.cells (cs.set j (.vec H.length 0 size 0 0))) ++ [.vec 0 [] size]) w := by
 obtain ⟨b, arr, t, h1, h2, h3, h4, h5⟩ := h.objs id _ hid
 have hjl : j < cs.length := (List.getElem?_eq_some_iff.1 hj).1
 have hja : arr[j]? = some (arr[j]'(by omega)) := Array.getElem?_eq_getElem _
 have hidl : id < H.length := (List.getElem?_eq_some_iff.1 hid).1
 obtain ⟨G', e, wr', rv'⟩ := h.mintVec size (h4 j _ _ hj hja)
 refine ⟨G', e, ?_⟩
 have := wr'.reobj (id := id) (x := .cells cs) (y := .cells (cs.set j (.vec H.length 0 size 0 0))) (by rw [List.getElem?_append_left hidl]; exact hid) (fun ho => by
   obtain ⟨b', arr', t', o1, o2, o3, o4, o5⟩ := ho
   have eb : b' = b := by
     have := e.box id b h1
     rw [o1] at this; simpa using this
   subst eb
   rw [h2] at o2
   simp only [Option.some.injEq, Obj.cells.injEq] at o2
   obtain ⟨rfl, rfl, _⟩ := o2
   refine ⟨b', arr, t, o1, h2, by rw [List.length_set]; exact o3, fun i c v hc hv => ?_, o5⟩
   by_cases ei : i = j
   · subst ei
     rw [List.getElem?_set_self hjl] at hc
     simp only [Option.some.injEq] at hc; subst hc
     rw [hja] at hv; simp only [Option.some.injEq] at hv; subst hv
     exact rv'
   · rw [List.getElem?_set_ne (fun h => ei h.symm)] at hc
     exact o4 i c v hc hv)
 rw [List.set_append_left _ _ hidl] at this
 exact this
theorem mintVX {P : Program} {lp : LP} {nt : NT} (hlp : (fun c Q A => Wp P nt (.loop c) Q A) = lp) {c : Code} {Q : Exit → AS → Prop} {T : List (Nat × AV)} {H : List AObj} (size id j : Nat) {cs : List AV} (hid : nth H id = some (.cells cs)) (hj : nth cs j = some (.full []))
   (h : lp c Q ⟨T, catX (setX H id (.cells (setX cs j (.vec (lenX H) 0 size 0 0)))) [.vec 0 [] size]⟩) : lp c Q ⟨T, H⟩ := by
 rw [nth_eq] at hid hj
 have h1 := (List.getElem?_eq_some_iff.1 hid).1
 have h2 := (List.getElem?_eq_some_iff.1 hj).1
 rw [catX_eq, lenX_eq, setX_eq _ _ _ (by omega), setX_eq _ _ _ (by omega), if_pos h1, if_pos h2] at h
 subst hlp
 intro B G a w tr wr
 obtain ⟨G', e, wr'⟩ := wr.mintCell size hid hj
 exact wp_mono (h B G' a w (tr.mono e) wr') fun _ _ _ p => p.pre e
end Go.Proofs.Ytcajncmjlmpkgaa
