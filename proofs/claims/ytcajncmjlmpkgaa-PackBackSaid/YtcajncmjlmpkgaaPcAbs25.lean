/- A full list in a slot taken for an own one, ahead of a loop. Own work; no condition. -/
import Derived.Test.YtcajncmjlmpkgaaPcAbs24
namespace Go.Proofs.Ytcajncmjlmpkgaa
open Go Go.RowKit
theorem WR.mintV {B : Base} {G : Ghost} {H : List AObj} {w : World} (h : WR B G H w) {l : List (List PV)} {v : Value} (size : Nat) (rv : RV G (.full l) v) :
   ∃ G', GExt G G' ∧ WR B G' (H ++ [.spare l.length size]) w ∧ RV G' (.tok H.length l) v := by
 have hdom := h.dom H.length (Nat.le_refl _)
 cases rv with
 | @full _ ad n hp =>
   have hn : n = l.length := by obtain ⟨a', cap', e'⟩ := hp.slice_len; simp only [Value.slice.injEq] at e'; exact e'.2.1
   subst hn
   have hne : ∀ i x, G.obj i = some x → i ≠ H.length := fun i x hx e => by subst e; rw [hdom] at hx; cases hx
   have ext : GExt G { G with obj := fun i => if i = H.length then some (.tok l.length (.slice ad l.length l.length) none) else G.obj i } :=
     ⟨fun _ _ _ h => h, fun i b hb => by simp only; rw [if_neg (hne _ _ hb)]; exact hb, fun i c u o hc => ⟨c, u, o, by simp only; rw [if_neg (hne _ _ hc)]; exact hc, Nat.le_refl _, fun _ => rfl⟩, fun i c u o k cv s hc => ⟨c, u, o, k, cv, s, by simp only; rw [if_neg (hne _ _ hc)]; exact hc, Nat.le_refl _, fun _ => rfl, Nat.le_refl _, fun _ => rfl⟩⟩
   refine ⟨_, ext, ⟨h.below, h.mem, h.news, h.olds, fun i x hx => ?_, fun i k x y b' hi hk hx hy => ?_, fun i x b' hi hb => ?_, fun i hi => ?_, h.keep, fun i x b' hi hb => ?_⟩, RV.tok (c := l.length) (u := .slice ad l.length l.length) (own := none) hp (by simp) (Nat.le_refl _) (fun _ => rfl)⟩
   · rcases Nat.lt_or_ge i H.length with g | g
     · rw [List.getElem?_append_left g] at hx
       exact (h.objs i x hx).keep ext (by simp only; rw [if_neg (by omega)]) (fun _ _ _ _ => rfl) (fun _ _ _ _ _ => rfl)
     · rw [List.getElem?_append_right g] at hx
       have e : i = H.length := by
         rcases Nat.eq_or_lt_of_le g with e | e
         · exact e.symm
         · rw [show i - H.length = (i - H.length - 1) + 1 by omega] at hx; simp at hx
       subst e
       simp at hx; subst hx
       exact ⟨.slice ad l.length l.length, none, by simp, .inl ⟨rfl, ad, rfl⟩⟩
   · simp only at hi hk
     split at hi <;> split at hk
     · omega
     · simp at hi; subst hi; simp [GO.has] at hx
     · simp at hk; subst hk; simp [GO.has] at hy
     · exact h.sep i k x y b' hi hk hx hy
   · simp only at hi
     split at hi
     · simp at hi; subst hi; simp [GO.has] at hb
     · exact h.fresh i x b' hi hb
   · simp at hi
     simp only; rw [if_neg (by omega)]; exact h.dom i (by omega)
   · simp only at hi
     split at hi
     · simp at hi; subst hi; simp [GO.has] at hb
     · exact h.apart i x b' hi hb
theorem mintT {P : Program} {lp : LP} {nt : NT} (hlp : (fun c Q A => Wp P nt (.loop c) Q A) = lp) {c : Code} {Q : Exit → AS → Prop} {T : List (Nat × AV)} {H : List AObj} (size t : Nat) {l : List (List PV)} (ht : look T t = some (.full l))
   (h : lp c Q ⟨(t, .tok (lenX H) l) :: T, catX H [.spare l.length size]⟩) : lp c Q ⟨T, H⟩ := by
 rw [catX_eq, lenX_eq] at h
 subst hlp
 intro B G a w tr wr
 obtain ⟨v, hv, rv⟩ := tr.slots t _ ht
 obtain ⟨G', e, wr', rv'⟩ := wr.mintV size rv
 have tr1 := tr.mono e
 have tr2 : TR nt G' ((t, .tok H.length l) :: T) a := ⟨tr1.size, tr1.defers, fun t' x hx => by
   simp only [look] at hx
   split at hx
   · rename_i e'; subst e'
     simp only [Option.some.injEq] at hx; subst hx
     exact ⟨v, hv, rv'⟩
   · exact tr1.slots t' x hx⟩
 exact wp_mono (h B G' a w tr2 wr') fun _ _ _ p => p.pre e
end Go.Proofs.Ytcajncmjlmpkgaa
