/- Calls that turn some of the caller's own objects, by contracts that speak of these objects alone: the others stay. Own work; no condition. -/
import Derived.Test.YtcajncmjlmpkgaaPcAbs25
namespace Go.Proofs.Ytcajncmjlmpkgaa
open Go Go.RowKit
def nthD : List Nat → Nat → Nat
 | [], _ => 0
 | x :: r, n => if n = 0 then x else nthD r (n - 1)
theorem nthD_eq : ∀ (l : List Nat) (n : Nat), n < l.length → l[n]? = some (nthD l n)
 | [], n, h => by simp at h
 | x :: r, 0, _ => by simp [nthD]
 | x :: r, n + 1, h => by simpa [nthD] using nthD_eq r n (by simpa using h)
mutual
def AV.ren (s : List Nat) : AV → AV
 | .ref i o => .ref (nthD s i) o
 | .tok i es => .tok (nthD s i) es
 | .ms i n => .ms (nthD s i) n
 | .vec i g z l n => .vec (nthD s i) g z l n
 | .vref i g o => .vref (nthD s i) g o
 | .rvec i g n => .rvec (nthD s i) g n
 | .rref i g k => .rref (nthD s i) g k
 | .rtok i k j l => .rtok (nthD s i) k j l
 | .nils n => .nils n
 | .mp i => .mp (nthD s i)
 | .ifc t x => .ifc t x
 | .die t x => .die t x
 | .fn f caps => .fn f (AV.renL s caps)
 | .agg cs => .agg (AV.renL s cs)
 | .tup cs => .tup (AV.renL s cs)
 | .p x => .p x
 | .full es => .full es
 | .un => .un
def AV.renL (s : List Nat) : List AV → List AV
 | [] => []
 | x :: r => AV.ren s x :: AV.renL s r
end
theorem renL_eq (s : List Nat) : ∀ l : List AV, AV.renL s l = l.map (AV.ren s)
 | [] => rfl
 | x :: r => by simp [AV.renL, renL_eq s r]
def AObj.ren (s : List Nat) : AObj → AObj
 | .cells cs => .cells (AV.renL s cs)
 | .spare n k => .spare n k
 | .gone => .gone
 | .elts es k => .elts es k
 | .vec g es k => .vec g es k
 | .rvec g q ls k => .rvec g q ls k
 | .rhole g q ls k i => .rhole g q ls k i
 | .map es => .map es
noncomputable def iteP {α : Type} (p : Prop) (x y : α) : α := @ite _ p (Classical.propDecidable p) x y
theorem iteP_pos {α : Type} {p : Prop} {x y : α} (h : p) : iteP p x y = x := @if_pos _ (Classical.propDecidable p) h _ _ _
theorem iteP_neg {α : Type} {p : Prop} {x y : α} (h : ¬ p) : iteP p x y = y := @if_neg _ (Classical.propDecidable p) h _ _ _
def Ghost.sel (G : Ghost) (s : List Nat) : Ghost := { mem := G.mem, obj := fun k => if k < s.length then G.obj (nthD s k) else none }
mutual
theorem RV.unren {G : Ghost} {s : List Nat} : ∀ (c : AV) (v : Value), AV.ltB s.length c = true → RV G (AV.ren s c) v → RV (G.sel s) c v
 | .p x, v, _, r => by cases r with | p h => exact .p h
 | .ref i o, v, hl, r => by
   simp only [AV.ltB, decide_eq_true_eq] at hl
   simp only [AV.ren] at r
   cases r
   rename_i b h
   exact .ref o (by simp only [Ghost.sel, hl, if_true]; exact h)
 | .tok i es, v, hl, r => by
   simp only [AV.ltB, decide_eq_true_eq] at hl
   simp only [AV.ren] at r
   cases r with | tok hp ho hle he => exact .tok hp (by simp only [Ghost.sel, hl, if_true]; exact ho) hle he
 | .ms i n, v, hl, r => by
   simp only [AV.ltB, decide_eq_true_eq] at hl
   simp only [AV.ren] at r
   cases r with | ms ho hn hc => exact .ms (by simp only [Ghost.sel, hl, if_true]; exact ho) hn hc
 | .vec i g z l n, v, hl, r => by
   simp only [AV.ltB, decide_eq_true_eq] at hl
   simp only [AV.ren] at r
   cases r with | vec ho hg hs hv => exact .vec (by simp only [Ghost.sel, hl, if_true]; exact ho) hg hs hv
 | .vref i g o, v, hl, r => by
   simp only [AV.ltB, decide_eq_true_eq] at hl
   simp only [AV.ren] at r
   cases r with | vref ho hg hs hv => exact .vref (by simp only [Ghost.sel, hl, if_true]; exact ho) hg hs hv
 | .rvec i g n, v, hl, r => by
   simp only [AV.ltB, decide_eq_true_eq] at hl
   simp only [AV.ren] at r
   cases r with | rvec ho hg hs hv => exact .rvec (by simp only [Ghost.sel, hl, if_true]; exact ho) hg hs hv
 | .rref i g k, v, hl, r => by
   simp only [AV.ltB, decide_eq_true_eq] at hl
   simp only [AV.ren] at r
   cases r with | rref ho hg hs hv => exact .rref (by simp only [Ghost.sel, hl, if_true]; exact ho) hg hs hv
 | .rtok i k j l, v, hl, r => by
   simp only [AV.ltB, decide_eq_true_eq] at hl
   simp only [AV.ren] at r
   cases r with | rtok hp ho hk hv => exact .rtok hp (by simp only [Ghost.sel, hl, if_true]; exact ho) hk hv
 | .nils n, v, _, r => by cases r with | nils h => exact .nils h
 | .mp i, v, hl, r => by
   simp only [AV.ltB, decide_eq_true_eq] at hl
   simp only [AV.ren] at r
   cases r with | mp h => exact .mp (by simp only [Ghost.sel, hl, if_true]; exact h)
 | .fn f caps, v, hl, r => by
   simp only [AV.ren] at r
   cases r with | fn h1 h2 => exact .fn (by rw [h1, renL_eq, List.length_map]) (RV.unrenL caps _ hl h2)
 | .agg cs, v, hl, r => by
   simp only [AV.ren] at r
   cases r with | agg h1 h2 => exact .agg (by rw [h1, renL_eq, List.length_map]) (RV.unrenL cs _ hl h2)
 | .tup cs, v, hl, r => by
   simp only [AV.ren] at r
   cases r with | tup h1 h2 => exact .tup (by rw [h1, renL_eq, List.length_map]) (RV.unrenL cs _ hl h2)
 | .full es, v, _, r => by cases r with | full h => exact .full h
 | .ifc t x, v, _, r => by cases r with | ifc h => exact .ifc h
 | .die t x, v, _, r => by cases r
 | .un, v, _, _ => .un v
theorem RV.unrenL {G : Ghost} {s : List Nat} : ∀ (cs : List AV) (vs : Array Value), AV.ltL s.length cs = true → (∀ (i : Nat) c v, (AV.renL s cs)[i]? = some c → vs[i]? = some v → RV G c v) → ∀ (i : Nat) c v, cs[i]? = some c → vs[i]? = some v → RV (G.sel s) c v
 | [], vs, _, _ => fun i c v hc => by simp at hc
 | x :: cs, vs, hl, h => fun i c v hc hv => by
   simp only [AV.ltL, Bool.and_eq_true] at hl
   cases i with
   | zero =>
     simp at hc; subst hc
     exact RV.unren x v hl.1 (h 0 _ v (by simp [AV.renL]) hv)
   | succ i =>
     refine RV.unrenL cs (vs.extract 1 vs.size) hl.2 (fun j c v hc hv => h (j + 1) c v (by simpa [AV.renL] using hc) ?_) i c v (by simpa using hc) ?_
     · rw [Array.getElem?_extract] at hv
       split at hv
       · rw [Nat.add_comm]; exact hv
       · cases hv
     · have hlt : i + 1 < vs.size := by
         rcases Nat.lt_or_ge (i + 1) vs.size with g | g
         · exact g
         · rw [Array.getElem?_eq_none g] at hv; cases hv
       rw [Array.getElem?_extract, if_pos (by omega), Nat.add_comm 1 i]; exact hv
end
theorem RV.ren {G G2 : Ghost} {s : List Nat} (hm : ∀ b o v, G.mem b o = some v → G2.mem b o = some v) (ho : ∀ k x, G.obj k = some x → G2.obj (nthD s k) = some x) {c : AV} {v : Value} (r : RV G c v) : RV G2 (AV.ren s c) v := by
 induction r with
 | p hp => exact .p (hp.mono hm)
 | ref off h => exact .ref off (ho _ _ h)
 | tok hp h hle he => exact .tok (hp.mono hm) (ho _ _ h) hle he
 | ms h hn hc => exact .ms (ho _ _ h) hn hc
 | vec h hg hs hv => exact .vec (ho _ _ h) hg hs hv
 | vref h hg hs hv => exact .vref (ho _ _ h) hg hs hv
 | rvec h hg hs hv => exact .rvec (ho _ _ h) hg hs hv
 | rref h hg hs hv => exact .rref (ho _ _ h) hg hs hv
 | rtok hp h hk hv => exact .rtok (hp.mono hm) (ho _ _ h) hk hv
 | nils hn => obtain ⟨b, h1, h2, h3⟩ := hn; exact .nils ⟨b, h1, h2, fun i hi => hm _ _ _ (h3 i hi)⟩
 | mp h => exact .mp (ho _ _ h)
 | ifc hp => exact .ifc (hp.mono hm)
 | fn hl hr ih =>
   simp only [AV.ren, renL_eq]
   refine .fn (by rw [List.length_map]; exact hl) fun i c v hc hv => ?_
   rw [List.getElem?_map, Option.map_eq_some_iff] at hc
   obtain ⟨y, hy, rfl⟩ := hc
   exact ih i y v hy hv
 | full hp => exact .full (hp.mono hm)
 | agg hl hr ih =>
   simp only [AV.ren, renL_eq]
   refine .agg (by rw [List.length_map]; exact hl) fun i c v hc hv => ?_
   rw [List.getElem?_map, Option.map_eq_some_iff] at hc
   obtain ⟨y, hy, rfl⟩ := hc
   exact ih i y v hy hv
 | tup hl hr ih =>
   simp only [AV.ren, renL_eq]
   refine .tup (by rw [List.length_map]; exact hl) fun i c v hc hv => ?_
   rw [List.getElem?_map, Option.map_eq_some_iff] at hc
   obtain ⟨y, hy, rfl⟩ := hc
   exact ih i y v hy hv
 | un v => exact .un v
def idxX : List Nat → Nat → Option Nat
 | [], _ => none
 | x :: r, i => if x = i then some 0 else match idxX r i with | some k => some (k + 1) | none => none
theorem idxX_some : ∀ {s : List Nat} {i k : Nat}, idxX s i = some k → k < s.length ∧ nthD s k = i
 | [], i, k, h => by simp [idxX] at h
 | x :: r, i, k, h => by
   simp only [idxX] at h
   split at h
   · rename_i e; simp at h; subst h; exact ⟨by simp, by simp [nthD, e]⟩
   · split at h <;> try (cases h; done)
     rename_i k' hk
     simp only [Option.some.injEq] at h; subst h
     obtain ⟨h1, h2⟩ := idxX_some hk
     exact ⟨by simpa using h1, by simpa [nthD] using h2⟩
theorem idxX_none : ∀ {s : List Nat} {i : Nat}, idxX s i = none → ∀ k, k < s.length → nthD s k ≠ i
 | [], i, _, k, hk => by simp at hk
 | x :: r, i, h, k, hk => by
   simp only [idxX] at h
   split at h
   · cases h
   · rename_i hne
     split at h <;> try (cases h; done)
     rename_i hn
     cases k with
     | zero => simpa [nthD] using hne
     | succ k => simpa [nthD] using idxX_none hn k (by simpa using hk)
def onceX : List Nat → Bool
 | [] => true
 | x :: r => match idxX r x with | none => onceX r | some _ => false
theorem onceX_inj : ∀ {s : List Nat}, onceX s = true → ∀ i j, i < s.length → j < s.length → nthD s i = nthD s j → i = j
 | [], _, i, j, hi, _, _ => by simp at hi
 | x :: r, h, i, j, hi, hj, e => by
   simp only [onceX] at h
   split at h <;> try (cases h; done)
   rename_i hn
   cases i with
   | zero =>
     cases j with
     | zero => rfl
     | succ j => exact absurd (by simpa [nthD] using e.symm) (idxX_none hn j (by simpa using hj))
   | succ i =>
     cases j with
     | zero => exact absurd (by simpa [nthD] using e) (idxX_none hn i (by simpa using hi))
     | succ j => rw [onceX_inj h i j (by simpa using hi) (by simpa using hj) (by simpa [nthD] using e)]
theorem idxX_nthD {s : List Nat} (h : onceX s = true) {k : Nat} (hk : k < s.length) : idxX s (nthD s k) = some k := by
 cases hi : idxX s (nthD s k) with
 | none => exact absurd rfl (idxX_none hi k hk)
 | some j =>
   obtain ⟨h1, h2⟩ := idxX_some hi
   rw [onceX_inj h j k h1 hk h2]
def backX (s0 : List Nat) : List Nat → List AObj → List AObj → List AObj
 | x :: s, y :: ys, H => backX s0 s ys (setX H x (AObj.ren s0 y))
 | _, _, H => H
theorem backX_get (s0 : List Nat) : ∀ (s : List Nat) (ys H : List AObj), s.length = ys.length → onceX s = true → (∀ k, k < s.length → nthD s k < H.length) →
   (backX s0 s ys H).length = H.length ∧ ∀ i, (backX s0 s ys H)[i]? = match idxX s i with | some k => (ys[k]?).map (AObj.ren s0) | none => H[i]? := by
 intro s
 induction s with
 | nil => intro ys H hl _ _; exact ⟨by simp [backX], fun i => by simp [backX, idxX]⟩
 | cons x s ih =>
   intro ys H hl ho hlt
   cases ys with
   | nil => simp at hl
   | cons y ys =>
     have hx : x < H.length := by simpa [nthD] using hlt 0 (by simp)
     simp only [onceX] at ho
     split at ho <;> try (cases ho; done)
     rename_i hn
     have e : setX H x (AObj.ren s0 y) = H.set x (AObj.ren s0 y) := by rw [setX_eq _ _ _ (by omega), if_pos hx]
     obtain ⟨h1, h2⟩ := ih ys (setX H x (AObj.ren s0 y)) (by simpa using hl) ho (fun k hk => by rw [e, List.length_set]; simpa [nthD] using hlt (k + 1) (by simpa using hk))
     simp only [backX]
     refine ⟨by rw [h1, e, List.length_set], fun i => ?_⟩
     rw [h2]
     simp only [idxX]
     by_cases g : x = i
     · subst g
       rw [if_pos rfl, hn, e, List.getElem?_set_self hx]; rfl
     · rw [if_neg g]
       cases hi : idxX s i with
       | none => rw [e, getElem?_set_ne' g]
       | some k => simp
theorem ACall.frame {P : Program} {f : FuncId} {args0 args : List AV} {H0 H : List AObj} {Q0 Q : AV → List AObj → Prop} (h : ACall P f args0 H0 Q0) (s : List Nat) (hs : onceX s = true)
   (ha : args = AV.renL s args0) (hH : optL (nth H) s = some (mapX (AObj.ren s) H0)) (hlt : (AV.ltL s.length args0 && ltH s.length H0) = true)
   (hq : ∀ r H1, Q0 r H1 → AV.ltB s.length r = true ∧ (takeX H1 s.length).length = s.length ∧ ltH s.length (takeX H1 s.length) = true ∧ Q (AV.ren s r) (backX s s (takeX H1 s.length) H)) : ACall P f args H Q := by
 refine ⟨fun B G w vals wr rv => ?_⟩
 rw [Bool.and_eq_true] at hlt
 obtain ⟨hla, hlh⟩ := hlt
 obtain ⟨s1, s2⟩ := optL_get hH
 rw [mapX_eq, List.length_map] at s1
 have sat : ∀ k, k < s.length → ∃ y, H0[k]? = some y ∧ H[nthD s k]? = some (AObj.ren s y) := by
   intro k hk
   have e := List.getElem?_eq_getElem (l := H0) (i := k) (by omega)
   refine ⟨_, e, ?_⟩
   rw [← nth_eq]
   exact s2 k _ _ (nthD_eq s k hk) (by rw [mapX_eq, List.getElem?_map, e]; rfl)
 have slt : ∀ k, k < s.length → nthD s k < H.length := fun k hk => by
   obtain ⟨y, _, h2⟩ := sat k hk
   exact (List.getElem?_eq_some_iff.1 h2).1
 let out : Nat → Prop := fun b => ∃ i x, G.obj i = some x ∧ x.has b ∧ idxX s i = none
 let B0 : Base := { w := B.w, m := B.m, pr := fun b => match B.pr b with | some y => some y | none => iteP (out b) ((w.heap[b]?).map fun x => (x, G.mem b)) none }
 have hout : ∀ b, out b → ∃ x, B0.pr b = some (x, G.mem b) ∧ w.heap[b]? = some x := by
   intro b hb
   obtain ⟨i, x, h1, h2, h3⟩ := hb
   have hb' : out b := ⟨i, x, h1, h2, h3⟩
   have hlt := (wr.fresh i x b h1 h2).2
   refine ⟨w.heap[b], ?_, Array.getElem?_eq_getElem hlt⟩
   show (match B.pr b with | some y => some y | none => iteP (out b) ((w.heap[b]?).map fun x => (x, G.mem b)) none) = _
   rw [wr.apart i x b h1 h2]
   show iteP (out b) _ none = _
   rw [iteP_pos hb', Array.getElem?_eq_getElem hlt]; rfl
 have hold : ∀ b y, B.pr b = some y → B0.pr b = some y := by
   intro b y hb
   show (match B.pr b with | some y => some y | none => iteP (out b) ((w.heap[b]?).map fun x => (x, G.mem b)) none) = _
   rw [hb]
 have wr0 : WR B0 (G.sel s) H0 w := by
   refine ⟨wr.below, wr.mem, wr.news, wr.olds, fun k x hx => ?_, fun i j x y b hi hj hx hy => ?_, fun i x b hi hb => ?_, fun k hk => ?_, fun b x f hb => ?_, fun i x b hi hb => ?_⟩
   · have hk : k < s.length := by rw [s1]; exact (List.getElem?_eq_some_iff.1 hx).1
     obtain ⟨y, e1, e2⟩ := sat k hk
     rw [hx] at e1; simp only [Option.some.injEq] at e1; subst e1
     have ho := wr.objs _ _ e2
     have eo : (G.sel s).obj k = G.obj (nthD s k) := by simp only [Ghost.sel, hk, if_true]
     cases x with
     | cells cs =>
       obtain ⟨b, arr, t, q1, q2, q3, q4, q5⟩ := ho
       have hl := ltH_get k _ hlh hx
       exact ⟨b, arr, t, by rw [eo]; exact q1, q2, by rw [q3, renL_eq, List.length_map], RV.unrenL cs arr hl q4, q5⟩
     | spare n z =>
       obtain ⟨u, own, q1, q2⟩ := ho
       exact ⟨u, own, by rw [eo]; exact q1, q2⟩
     | gone => trivial
     | elts es z =>
       obtain ⟨q0, kk, b, arr, t, q1, q2, q3, q4, q5⟩ := ho
       refine ⟨q0, kk, b, arr, t, by rw [eo]; exact q1, q2, q3, fun i c v hc hv => ?_, q5⟩
       have r := q4 i c v hc hv
       rcases elC_get hc with ⟨y, rfl⟩ | rfl
       · cases r with | p hp => exact .p hp
       · exact .un v
     | vec g es z =>
       obtain ⟨q0, a, cap, own, q1, q2⟩ := ho
       exact ⟨q0, a, cap, own, by rw [eo]; exact q1, q2⟩
     | rvec g k ls z =>
       obtain ⟨a, cap, own, cv, sub, q1, q2⟩ := ho
       exact ⟨a, cap, own, cv, sub, by rw [eo]; exact q1, q2⟩
     | rhole g k ls z i =>
       obtain ⟨a, cap, own, cv, sub, q1, q2⟩ := ho
       exact ⟨a, cap, own, cv, sub, by rw [eo]; exact q1, q2⟩
     | map es =>
       obtain ⟨b, ms, clk, q1, q2⟩ := ho
       exact ⟨b, ms, clk, by rw [eo]; exact q1, q2⟩
   · simp only [Ghost.sel] at hi hj
     split at hi <;> try (cases hi; done)
     split at hj <;> try (cases hj; done)
     rename_i h1 h2
     exact onceX_inj hs i j h1 h2 (wr.sep _ _ x y b hi hj hx hy)
   · simp only [Ghost.sel] at hi
     split at hi <;> try (cases hi; done)
     exact wr.fresh _ x b hi hb
   · simp only [Ghost.sel]; rw [if_neg (by omega)]
   · have hb' : (match B.pr b with | some y => some y | none => iteP (out b) ((w.heap[b]?).map fun x => (x, G.mem b)) none) = some (x, f) := hb
     cases hp : B.pr b with
     | some y => rw [hp] at hb'; simp only [Option.some.injEq] at hb'; subst hb'; exact wr.keep b x f hp
     | none =>
       rw [hp] at hb'
       have hb2 : iteP (out b) ((w.heap[b]?).map fun x => (x, G.mem b)) none = some (x, f) := hb'
       by_cases g : out b
       · rw [iteP_pos g, Option.map_eq_some_iff] at hb2
         obtain ⟨z, hz, e⟩ := hb2
         simp only [Prod.mk.injEq] at e
         exact ⟨by rw [hz, e.1], e.2⟩
       · rw [iteP_neg g] at hb2; cases hb2
   · simp only [Ghost.sel] at hi
     split at hi <;> try (cases hi; done)
     rename_i hk
     show (match B.pr b with | some y => some y | none => iteP (out b) ((w.heap[b]?).map fun x => (x, G.mem b)) none) = none
     rw [wr.apart _ x b hi hb]
     show iteP (out b) _ none = _
     rw [iteP_neg]
     rintro ⟨j, y, g1, g2, g3⟩
     have := wr.sep _ _ x y b hi g1 hb g2
     rw [← this, idxX_nthD hs hk] at g3; cases g3
 have rv0 : RVL (G.sel s) args0 vals := by
   refine ⟨by rw [rv.1, ha, renL_eq, List.length_map], fun i x v hx hv => ?_⟩
   exact RV.unrenL args0 vals.toArray hla (fun i c v hc hv => rv.2 i c v (by rw [ha]; exact hc) (by simpa using hv)) i x v hx (by simpa using hv)
 refine (h.run B0 (G.sel s) w vals wr0 rv0).mono ?_
 rintro e w' ⟨r, G1, H1, e2, e3, e4, e5⟩
 obtain ⟨q1, q2, q3, q4⟩ := hq r H1 e5
 have wr1 : WR B0 (G1.trunc s.length) (H1.take s.length) w' := e4.trunc (by rw [← takeX_eq]; exact q3)
 have e3' : GExt (G.sel s) (G1.trunc s.length) := e3.trunc fun id hid => by simp only [Ghost.sel]; rw [if_neg (by omega)]
 have e2' : Ends (G1.trunc s.length) r e := by
   cases e2 with
   | ret h => exact .ret (h.trunc q1)
   | die h => exact .die h
 generalize G1.trunc s.length = G1' at wr1 e3' e2'
 have hlen1 : (H1.take s.length).length = s.length := by rw [← takeX_eq]; exact q2
 have hdom1 : ∀ k, s.length ≤ k → G1'.obj k = none := fun k hk => wr1.dom k (by omega)
 let G2 : Ghost := { mem := G1'.mem, obj := fun i => match idxX s i with | some k => G1'.obj k | none => G.obj i }
 have g2in : ∀ i k, idxX s i = some k → G2.obj i = G1'.obj k := fun i k hk => by
   show (match idxX s i with | some k => G1'.obj k | none => G.obj i) = _
   rw [hk]
 have g2out : ∀ i, idxX s i = none → G2.obj i = G.obj i := fun i hk => by
   show (match idxX s i with | some k => G1'.obj k | none => G.obj i) = _
   rw [hk]
 have selk : ∀ i k, idxX s i = some k → (G.sel s).obj k = G.obj i := fun i k hk => by
   obtain ⟨h1, h2⟩ := idxX_some hk
   simp only [Ghost.sel, h1, if_true, h2]
 have ext2 : GExt G G2 := by
   refine ⟨e3'.mem, fun i b hb => ?_, fun i c u o hc => ?_, fun i c u o q cv z hc => ?_⟩
   · cases hi : idxX s i with
     | none => rw [g2out i hi]; exact hb
     | some k => rw [g2in i k hi]; exact e3'.box k b (by rw [selk i k hi]; exact hb)
   · cases hi : idxX s i with
     | none => exact ⟨c, u, o, by rw [g2out i hi]; exact hc, Nat.le_refl _, fun _ => rfl⟩
     | some k => obtain ⟨c', u', o', h1, h2, h3⟩ := e3'.tok k c u o (by rw [selk i k hi]; exact hc); exact ⟨c', u', o', by rw [g2in i k hi]; exact h1, h2, h3⟩
   · cases hi : idxX s i with
     | none => exact ⟨c, u, o, q, cv, z, by rw [g2out i hi]; exact hc, Nat.le_refl _, fun _ => rfl, Nat.le_refl _, fun _ => rfl⟩
     | some k => obtain ⟨c', u', o', q', cv', z', h1, h2, h3⟩ := e3'.fam k c u o q cv z (by rw [selk i k hi]; exact hc); exact ⟨c', u', o', q', cv', z', by rw [g2in i k hi]; exact h1, h2, h3⟩
 have hren : ∀ k x, G1'.obj k = some x → G2.obj (nthD s k) = some x := fun k x hx => by
   have hk : k < s.length := by
     rcases Nat.lt_or_ge k s.length with g | g
     · exact g
     · rw [hdom1 k g] at hx; cases hx
   rw [g2in _ k (idxX_nthD hs hk)]; exact hx
 have hstay : ∀ i x b, G.obj i = some x → x.has b → idxX s i = none → w'.heap[b]? = w.heap[b]? ∧ G1'.mem b = G.mem b ∧ ∃ y, B0.pr b = some y := by
   intro i x b h1 h2 h3
   obtain ⟨y, g1, g2⟩ := hout b ⟨i, x, h1, h2, h3⟩
   obtain ⟨k1, k2⟩ := wr1.keep b _ _ g1
   exact ⟨by rw [k1, g2], k2, _, g1⟩
 obtain ⟨l1, l2⟩ := backX_get s s (H1.take s.length) H hlen1.symm hs slt
 rw [takeX_eq] at q4
 have e2'' : Ends G2 (AV.ren s r) e := by
   cases e2' with
   | ret h => exact .ret (RV.ren (G := G1') (G2 := G2) (s := s) (fun _ _ _ h => h) hren h)
   | die h => exact .die h
 refine ⟨_, G2, _, e2'', ext2, ⟨wr1.below, wr1.mem, wr1.news, fun b o v hv => e3'.mem _ _ _ (wr.olds b o v hv), fun i x hx => ?_, fun i j x y b hi hj hx hy => ?_, fun i x b hi hb => ?_, fun i hi => ?_, fun b x f hb => ?_, fun i x b hi hb => ?_⟩, q4⟩
 · rw [l2] at hx
   cases hi : idxX s i with
   | some k =>
     rw [hi] at hx
     simp only [Option.map_eq_some_iff] at hx
     obtain ⟨y, hy, rfl⟩ := hx
     have ho := wr1.objs k y hy
     have eo := g2in i k hi
     cases y with
     | cells cs =>
       obtain ⟨b, arr, t, q1, q2, q3, q4, q5⟩ := ho
       simp only [AObj.ren, renL_eq]
       refine ⟨b, arr, t, by rw [eo]; exact q1, q2, by rw [q3, List.length_map], fun i c v hc hv => ?_, q5⟩
       rw [List.getElem?_map, Option.map_eq_some_iff] at hc
       obtain ⟨z, hz, rfl⟩ := hc
       exact RV.ren (G := G1') (G2 := G2) (s := s) (fun _ _ _ h => h) hren (q4 i z v hz hv)
     | spare n z =>
       obtain ⟨u, own, q1, q2⟩ := ho
       exact ⟨u, own, by rw [eo]; exact q1, q2⟩
     | gone => trivial
     | elts es z =>
       obtain ⟨q0, kk, b, arr, t, q1, q2, q3, q4, q5⟩ := ho
       refine ⟨q0, kk, b, arr, t, by rw [eo]; exact q1, q2, q3, fun i c v hc hv => ?_, q5⟩
       have r := q4 i c v hc hv
       rcases elC_get hc with ⟨y, rfl⟩ | rfl
       · cases r with | p hp => exact .p hp
       · exact .un v
     | vec g es z =>
       obtain ⟨q0, a, cap, own, q1, q2⟩ := ho
       exact ⟨q0, a, cap, own, by rw [eo]; exact q1, q2⟩
     | rvec g k ls z =>
       obtain ⟨a, cap, own, cv, sub, q1, q2⟩ := ho
       exact ⟨a, cap, own, cv, sub, by rw [eo]; exact q1, q2⟩
     | rhole g k ls z i =>
       obtain ⟨a, cap, own, cv, sub, q1, q2⟩ := ho
       exact ⟨a, cap, own, cv, sub, by rw [eo]; exact q1, q2⟩
     | map es =>
       obtain ⟨b, ms, clk, q1, q2⟩ := ho
       exact ⟨b, ms, clk, by rw [eo]; exact q1, q2⟩
   | none =>
     rw [hi] at hx
     refine (wr.objs i x hx).keep ext2 (g2out i hi) (fun g b hg hb => (hstay i g b hg hb hi).1) (fun g b o hg hb => ?_)
     show G1'.mem b o = G.mem b o
     rw [(hstay i g b hg hb hi).2.1]
 · cases hi' : idxX s i with
   | some k =>
     rw [g2in i k hi'] at hi
     cases hj' : idxX s j with
     | some l =>
       rw [g2in j l hj'] at hj
       have := wr1.sep k l x y b hi hj hx hy
       rw [← (idxX_some hi').2, ← (idxX_some hj').2, this]
     | none =>
       rw [g2out j hj'] at hj
       obtain ⟨_, _, z, hz⟩ := hstay j y b hj hy hj'
       rw [wr1.apart k x b hi hx] at hz; cases hz
   | none =>
     rw [g2out i hi'] at hi
     cases hj' : idxX s j with
     | some l =>
       rw [g2in j l hj'] at hj
       obtain ⟨_, _, z, hz⟩ := hstay i x b hi hx hi'
       rw [wr1.apart l y b hj hy] at hz; cases hz
     | none =>
       rw [g2out j hj'] at hj
       exact wr.sep i j x y b hi hj hx hy
 · cases hi' : idxX s i with
   | some k => rw [g2in i k hi'] at hi; exact wr1.fresh k x b hi hb
   | none =>
     rw [g2out i hi'] at hi
     obtain ⟨_, _, z, hz⟩ := hstay i x b hi hb hi'
     exact ⟨(wr.fresh i x b hi hb).1, wr1.pr_lt hz⟩
 · rw [l1] at hi
   have hi' : idxX s i = none := by
     cases hk : idxX s i with
     | none => rfl
     | some k =>
       obtain ⟨h1, h2⟩ := idxX_some hk
       have := slt k h1
       omega
   rw [g2out i hi']; exact wr.dom i hi
 · exact wr1.keep b x f (hold b _ hb)
 · have none_of : B0.pr b = none → B.pr b = none := fun h => by
     cases hp : B.pr b with
     | none => rfl
     | some y => rw [hold b y hp] at h; cases h
   cases hi' : idxX s i with
   | some k => rw [g2in i k hi'] at hi; exact none_of (wr1.apart k x b hi hb)
   | none => rw [g2out i hi'] at hi; exact wr.apart i x b hi hb
end Go.Proofs.Ytcajncmjlmpkgaa
