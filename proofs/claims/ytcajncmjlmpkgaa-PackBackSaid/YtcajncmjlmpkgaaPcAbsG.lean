/- An append to an empty list literal whose result is the function's own, stored into by index. Own work; no condition. -/
import Derived.Test.YtcajncmjlmpkgaaPcAbsE
namespace Go.Proofs.Ytcajncmjlmpkgaa
open Go Go.RowKit
theorem flat_cell {m : Mem} {size : Nat} {es : List (List PV)} {vs : List Value} (f : Flat m size es vs) (hall : ∀ e, e ∈ es → e.length = size) {j : Nat} {c : PV} (hc : es.flatten[j]? = some c) : ∃ v, vs[j]? = some v ∧ RP m c v := by
 have hlt := (List.getElem?_eq_some_iff.1 hc).1
 rw [flat_len hall] at hlt
 have hs : 0 < size := by
   rcases Nat.eq_zero_or_pos size with h | h
   · rw [h, Nat.mul_zero] at hlt; omega
   · exact h
 have hi : j / size < es.length := (Nat.div_lt_iff_lt_mul hs).2 hlt
 have he := List.getElem?_eq_getElem hi
 obtain ⟨f1, _⟩ := flat_get _ _ hall he
 have hr : j % size < size := Nat.mod_lt _ hs
 have hj : j / size * size + j % size = j := by rw [Nat.mul_comm]; exact Nat.div_add_mod j size
 have hej : es[j / size][j % size]? = some c := by
   rw [← f1, List.getElem?_take_of_lt hr, List.getElem?_drop, hj, hc]
 obtain ⟨v, h1, h2⟩ := f.get _ _ _ _ he hej
 rw [hj] at h1
 exact ⟨v, h1, h2⟩
theorem append_made {P : Program} {B : Base} {G : Ghost} {H : List AObj} {w : World} (wr : WR B G H w) {t xt ty e es eb : Nat} {ti xi ei : TI} (kt : tinfo P t = some ti) (kk : ti.kind = .slice e es eb) (kx : tinfo P xt = some xi) (ke : tinfo P e = some ei)
   {a : Option Addr} {x : AV} {xs : List (List PV)} {xv : Value} (rl : RP G.mem (.sl []) (.slice a 0 0)) (rx : RV G x xv) (hsrc : srcV xi.kind x = some xs)
   (okx : okEs es xs = true) (hmax : xs.length ≤ maxLen) (hb : xs.length * eb ≤ 140737488355328) (hgt : 0 < xs.length) :
   ∃ v w' G', (Builtin.append_ #[t, xt] ty #[.slice a 0 0, xv]).run P w = .ok v w' ∧ GExt G G' ∧ WR B G' (H ++ [.elts xs es]) w' ∧ RV G' (.ms H.length xs.length) v := by
 obtain ⟨i, d, z, k⟩ := tinfo_ok kt
 obtain ⟨i', d', z', k'⟩ := tinfo_ok ke
 have hd := k.kind
 rw [kk] at hd
 cases d <;> simp only [tkind, reduceCtorEq, TK.slice.injEq] at hd
 rename_i et
 obtain ⟨he, hes, heb⟩ := hd
 subst he
 have hsize : i'.size = es := by rw [← hes]; simp [Program.cellsOf, k'.info]
 have hbytes : i'.bytes = eb := by rw [← heb]; simp [Program.bytesOf, k'.info]
 obtain ⟨news, src, fx⟩ := srcV_ok (P := P) wr rx hsrc okx
 obtain ⟨_, _, _, olds, fl, hk⟩ := rl.flat (size := es) rfl
 have h0 : olds = [] := List.eq_nil_of_length_eq_zero (by simpa using fl.len)
 subst h0
 have ho := firstCells_ok (P := P) w.drew wr.mem fl.len hk (len := 0) (cap := 0)
 have hrun := run_append_grow' w t xt ty et i' z' k.und (okInt_of_str kx hsrc) k'.info k'.zero (hsize ▸ src) (hsize ▸ ho) (n := 0) (cap := 0) (by omega) (by simp only [maxLen] at hmax; omega) (by rw [hbytes]; exact growslice_fits (by omega) (by rw [Nat.zero_add]; exact hb))
 have hge := grownCap_ge w (0 + xs.length) 0 et
 have hcm := grownCap_le_maxLen w (0 + xs.length) 0 et (by omega)
 have hzs : z'.cells.size = es := by rw [k'.zero_rv (G := G) |>.1, k'.zl, ← k'.size, hsize]
 have hall : ∀ e, e ∈ xs → e.length = es := fun e he => (okEs_mem okx he).1
 have g := wr.drew.newBox ([] ++ (news ++ (Builtin.zeroCells z'.cells (grownCap w (0 + xs.length) 0 et - (0 + xs.length))).toList)).toArray et (elC xs ((grownCap w (0 + xs.length) 0 et - (0 + xs.length)) * es))
   (by rw [elC_len, flat_len hall]; simp only [List.nil_append, List.size_toArray, List.length_append, Array.length_toList, size_zeroCells, hzs, fx.len])
   (fun j c v hc hv => by
     by_cases hj : j < xs.flatten.length
     · rw [elC_left hj, Option.map_eq_some_iff] at hc
       obtain ⟨y, hy, rfl⟩ := hc
       obtain ⟨u, h1, h2⟩ := flat_cell fx hall hy
       rw [List.getElem?_toArray, List.nil_append, List.getElem?_append_left (List.getElem?_eq_some_iff.1 h1).1, h1] at hv
       simp only [Option.some.injEq] at hv
       subst hv
       exact .p h2
     · rw [elC_right hj hc]; exact .un v)
 have g2 := g.1.reobj (id := H.length) (x := .cells (elC xs ((grownCap w (0 + xs.length) 0 et - (0 + xs.length)) * es))) (y := .elts xs es) (by simp) (fun h => ⟨hall, _, h⟩)
 rw [show (H ++ [AObj.cells (elC xs ((grownCap w (0 + xs.length) 0 et - (0 + xs.length)) * es))]).set H.length (.elts xs es) = H ++ [.elts xs es] by simp] at g2
 rw [Nat.zero_add] at hrun hge hcm g2 g
 refine ⟨_, _, _, hrun, g.2, g2, .ms (b := w.heap.size) ?_ hcm hge⟩
 exact if_pos rfl
theorem append_none {P : Program} {B : Base} {G : Ghost} {H : List AObj} {w : World} (wr : WR B G H w) {t xt ty e es eb : Nat} {ti xi ei : TI} (kt : tinfo P t = some ti) (kk : ti.kind = .slice e es eb) (kx : tinfo P xt = some xi) (ke : tinfo P e = some ei)
   {a : Option Addr} {x : AV} {xv : Value} (rx : RV G x xv) (hsrc : srcV xi.kind x = some []) :
   (Builtin.append_ #[t, xt] ty #[.slice a 0 0, xv]).run P w = .ok (.slice a 0 0) w := by
 obtain ⟨i, d, z, k⟩ := tinfo_ok kt
 obtain ⟨i', d', z', k'⟩ := tinfo_ok ke
 have hd := k.kind
 rw [kk] at hd
 cases d <;> simp only [tkind, reduceCtorEq, TK.slice.injEq] at hd
 rename_i et
 obtain ⟨he, hes, heb⟩ := hd
 subst he
 obtain ⟨news, src, fx⟩ := srcV_ok (P := P) (size := i'.size) wr rx hsrc rfl
 have hn : news = [] := List.eq_nil_of_length_eq_zero (by simpa using fx.len)
 subst hn
 exact run_append_same w t xt ty et i' k.und (okInt_of_str kx hsrc) k'.info (a := a) (n := 0) src
def appArgs (fz : List (Nat × List Nat)) (get : List (Nat × List Nat) → Nat → List Nat) (dst : Option Nat) (c : Call) : Option (Nat × Operand × Operand × TypeId × TypeId) :=
 match dst with
 | some d => match get fz 999999 with
   | [] => none
   | d' :: _ => if d = d' then (match c.callee with
     | .builtin .append => match c.args.toList with
       | [s, x] => match c.argTypes.toList with
         | [t, xt] => some (d, s, x, t, xt)
         | _ => none
       | _ => none
     | _ => none) else none
 | none => none
theorem appArgs_ok {fz : List (Nat × List Nat)} {get : List (Nat × List Nat) → Nat → List Nat} {dst : Option Nat} {c : Call} {d : Nat} {s x : Operand} {t xt : TypeId} (h : appArgs fz get dst c = some (d, s, x, t, xt)) :
   dst = some d ∧ c = ⟨.builtin .append, #[s, x], #[t, xt]⟩ := by
 obtain ⟨callee, args, ats⟩ := c
 unfold appArgs at h
 split at h <;> try (cases h; done)
 split at h <;> try (cases h; done)
 split at h <;> try (cases h; done)
 split at h <;> try (cases h; done)
 split at h <;> try (cases h; done)
 split at h <;> try (cases h; done)
 rename_i hc _ _ _ ha _ _ _ ht
 simp only [Option.some.injEq, Prod.mk.injEq] at h
 obtain ⟨rfl, rfl, rfl, rfl, rfl⟩ := h
 simp only at hc ha ht
 refine ⟨rfl, ?_⟩
 rw [hc, arr2 ha, arr2 ht]
def appG (tt : TypeId → Option TI) (src : TK → AV → (List (List PV) → Prop) → Prop) (A : AS) (d : Nat) (t xt : TypeId) (s x : AV) (K : AS → Prop) : Prop :=
 need (tt t) fun ti => need (tt xt) fun xi => match ti.kind with
   | .slice e es eb => need (tt e) fun _ => src xi.kind x fun xs => match s with
     | .full [] => Asm (fun _ => okEs es xs = true ∧ xs.length ≤ maxLen ∧ xs.length * eb ≤ 140737488355328) fun _ =>
         Nm (fun _ => xs.length) fun m => Nm (fun _ => decide (m = 0)) fun z => IfB z (fun _ => K ⟨(d, .p (.sl [])) :: A.T, A.H⟩) (fun _ => K ⟨(d, .ms (lenX A.H) m) :: A.T, catX A.H [.elts xs es]⟩)
     | _ => False
   | _ => False
theorem appG_ok {P : Program} {tt : TypeId → Option TI} (htt : TTOk P tt) {src : TK → AV → (List (List PV) → Prop) → Prop} (hsrc : ∀ tk x K, src tk x K → ∃ xs, srcV tk x = some xs ∧ K xs) {B : Base} {G : Ghost} {A : AS} {w : World} (wr : WR B G A.H w) {d : Nat} {t xt ty : TypeId} {s x : AV} {sv xv : Value} (rs : RV G s sv) (rx : RV G x xv) {K : AS → Prop} (h : appG tt src A d t xt s x K) :
   ∃ v w' G' y H', (Builtin.append_ #[t, xt] ty #[sv, xv]).run P w = .ok v w' ∧ GExt G G' ∧ WR B G' H' w' ∧ RV G' y v ∧ K ⟨(d, y) :: A.T, H'⟩ := by
 unfold appG at h
 obtain ⟨ti, hti, h⟩ := need_iff.1 h
 obtain ⟨xi, hxi, h⟩ := need_iff.1 h
 split at h <;> try (exact h.elim)
 rename_i e es eb hk
 obtain ⟨ei, hei, h⟩ := need_iff.1 h
 obtain ⟨xs, hxs, h⟩ := hsrc _ _ _ h
 split at h <;> try (exact h.elim)
 obtain ⟨okx, hmax, hb⟩ := h.c
 have h := h.k.get.get
 cases rs with
 | @full _ a n hp =>
   obtain ⟨a', cap', he⟩ := hp.slice_len
   simp only [List.length_nil, Value.slice.injEq] at he
   obtain ⟨_, rfl, _⟩ := he
   by_cases hz : xs.length = 0
   · have hK := h.t (by simpa using hz)
     have hnil : xs = [] := List.eq_nil_of_length_eq_zero hz
     subst hnil
     exact ⟨_, w, G, .p (.sl []), A.H, append_none wr (htt _ _ hti) hk (htt _ _ hxi) (htt _ _ hei) rx hxs, GExt.refl G, wr, .p hp, hK⟩
   · have hK := h.f (by simpa using hz)
     obtain ⟨v, w', G', r1, r2, r3, r4⟩ := append_made (ty := ty) wr (htt _ _ hti) hk (htt _ _ hxi) (htt _ _ hei) hp rx hxs okx hmax hb (by omega)
     exact ⟨v, w', G', _, _, r1, r2, r3, r4, by rw [← lenX_eq, ← catX_eq]; exact hK⟩
end Go.Proofs.Ytcajncmjlmpkgaa
