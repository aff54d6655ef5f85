/- Calls that are handed addresses of the caller's own objects, by contracts on pure values. Own work; no condition. -/
import Derived.Test.YtcajncmjlmpkgaaPcAbs23
namespace Go.Proofs.Ytcajncmjlmpkgaa
open Go Go.RowKit
theorem PCall.atR {P : Program} {f : FuncId} {args : List AV} {pargs : List PV} {X : List PV} {H : List AObj} (ha : optL (refX H) args = some pargs) (h : PCall P f pargs fun r => r = X) (hf : X.all PV.thin = true) {Q : AV → List AObj → Prop} (hq : Q (packV (X.map .p)) H) : ACall P f args H Q := by
 refine ⟨fun B G w vals wr rv => ?_⟩
 rw [optL_eq] at ha
 obtain ⟨a1, a2⟩ := mapM_get ha
 have hm : ∀ b o v, G.mem b o = some v → (fun b o => w.cell? ⟨b, o, none⟩ : Mem) b o = some v := wr.mem
 refine (h.run (fun b o => w.cell? ⟨b, o, none⟩) w vals (fun _ _ _ h => h) ⟨by rw [rv.1, a1], fun i x v hx hv => ?_⟩).mono ?_
 · have hlt : i < args.length := by rw [a1]; exact (List.getElem?_eq_some_iff.1 hx).1
   have hy := List.getElem?_eq_getElem hlt
   have hx2 := a2 i _ x hy hx
   have rr := rv.2 i _ v hy hv
   generalize args[i] = y at hx2 rr
   unfold refX at hx2
   split at hx2
   · rename_i id off
     split at hx2 <;> try (cases hx2; done)
     rename_i cs hid
     split at hx2 <;> try (cases hx2; done)
     rename_i ps hps
     simp only [Option.some.injEq] at hx2; subst hx2
     rw [nth_eq] at hid
     rw [optL_eq] at hps
     obtain ⟨p1, p2⟩ := mapM_get hps
     obtain ⟨b, arr, ty, o1, o2, o3, o4, o5⟩ := wr.objs id _ hid
     cases rr with
     | @ref _ b' _ hb =>
       rw [o1] at hb; simp only [Option.some.injEq, GO.box.injEq] at hb; subst hb
       rw [dropX_eq]
       have key : ∀ i, i < ps.length - off → off + i < arr.size := fun i hi => by rw [o3]; omega
       refine .ip _ b off (fun i => (arr[off + i]?).getD undef) (fun i hi => ?_) (fun i c hc => ?_)
       · rw [List.length_drop] at hi
         show w.cell? ⟨b, off + i, none⟩ = _
         rw [cell_of_row w b (off + i) arr ty (0, 0) o2, Array.getElem?_eq_getElem (key i hi)]
         rfl
       · rw [List.getElem?_drop] at hc
         have hlt := (List.getElem?_eq_some_iff.1 hc).1
         have hk := key i (by omega)
         have hcs : cs[off + i]? = some (cs[off + i]'(by omega)) := List.getElem?_eq_getElem _
         rw [Array.getElem?_eq_getElem hk]
         exact (pure1_ok (o4 _ _ _ hcs (Array.getElem?_eq_getElem hk)) (p2 _ _ _ hcs hc)).mono hm
   · rw [pureX_eq] at hx2
     exact (pure_ok rr hx2).mono hm
 · rintro e w' ⟨v, rs, m', e1, e2, e3, e4, e5, e6, e7⟩
   subst e7
   have hle := wr.below.size
   refine ⟨_, G, H, e1 ▸ .ret (e2.thin hf), GExt.refl G, ⟨wr.below.trans (e6.mono hle), fun b o v hv => e4 _ _ _ (e3 _ _ _ (wr.mem b o v hv)), wr.news, wr.olds, fun id x hx => ?_, wr.sep, fun i x b hi hb => ?_, wr.dom, fun b x f hb => ?_, wr.apart⟩, hq⟩
   · exact (wr.objs id x hx).keep (GExt.refl G) rfl (fun g b hg hb => e6.block b (wr.fresh id g b hg hb).2) (fun _ _ _ _ _ => rfl)
   · have := wr.fresh i x b hi hb
     exact ⟨this.1, Nat.lt_of_lt_of_le this.2 e6.size⟩
   · obtain ⟨h1, h2⟩ := wr.keep b x f hb
     exact ⟨by rw [e6.block b (wr.pr_lt hb)]; exact h1, h2⟩
section
variable {P : Program} {cc : FuncId → List AV → List AObj → (AV → List AObj → Prop) → Prop} {f : FuncId} {args : List PV} {aargs : List AV} {H : List AObj}
theorem callR (hcc : ACall P = cc) {X : List PV} {K : AV → List AObj → Prop} (ha : optL (refX H) aargs = some args) (h : PCall P f args fun r => r = X) (hf : X.all PV.thin = true) (k : ∀ r, X = r → K (packV (mapX .p r)) H) : cc f aargs H K := by
 subst hcc
 exact PCall.atR ha h hf (by have := k X rfl; rw [mapX_eq] at this; exact this)
theorem vR (hcc : ACall P = cc) {X : Val} {K : AV → List AObj → Prop} (h : PCall P f args fun r => r = [X.enc]) (ha : optL (refX H) aargs = some args) (k : ∀ v, X = v → K (.p (.agg [.int .i64 v.k, .int .i64 v.n, .str v.s])) H) : cc f aargs H K :=
 callR hcc ha h rfl fun _ e => e ▸ k X rfl
theorem bR (hcc : ACall P = cc) {X : Bool} {K : AV → List AObj → Prop} (h : PCall P f args fun r => r = [.bool X]) (ha : optL (refX H) aargs = some args) (k : ∀ z, X = z → K (.p (.bool z)) H) : cc f aargs H K := callR hcc ha h rfl fun _ e => e ▸ k X rfl
end
end Go.Proofs.Ytcajncmjlmpkgaa
