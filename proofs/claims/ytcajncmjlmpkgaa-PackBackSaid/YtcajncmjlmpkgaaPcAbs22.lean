/- Loops whose rounds make objects that are dropped behind each round; lists that are full taken for own ones. Own work; no condition. -/
import Derived.Test.YtcajncmjlmpkgaaPcAbs21
namespace Go.Proofs.Ytcajncmjlmpkgaa
open Go Go.RowKit
mutual
def AV.ltB (n : Nat) : AV → Bool
 | .ref id _ => decide (id < n)
 | .tok id _ => decide (id < n)
 | .ms id _ => decide (id < n)
 | .vec id _ _ _ _ => decide (id < n)
 | .vref id _ _ => decide (id < n)
 | .rvec id _ _ => decide (id < n)
 | .rref id _ _ => decide (id < n)
 | .rtok id _ _ _ => decide (id < n)
 | .nils _ => true
 | .mp id => decide (id < n)
 | .ifc _ _ => true
 | .die _ _ => true
 | .fn _ caps => AV.ltL n caps
 | .agg cs => AV.ltL n cs
 | .tup cs => AV.ltL n cs
 | .p _ => true
 | .full _ => true
 | .un => true
def AV.ltL (n : Nat) : List AV → Bool
 | [] => true
 | x :: r => AV.ltB n x && AV.ltL n r
end
theorem ltL_get {n : Nat} : ∀ {l : List AV} (i : Nat) (x : AV), AV.ltL n l = true → l[i]? = some x → AV.ltB n x = true := by
 intro l
 induction l with
 | nil => intro i x _ h; simp at h
 | cons a l ih =>
   intro i x h hx
   simp only [AV.ltL, Bool.and_eq_true] at h
   cases i with
   | zero => simp at hx; subst hx; exact h.1
   | succ i => exact ih i x h.2 (by simpa using hx)
def ltT (n : Nat) : List (Nat × AV) → Bool
 | [] => true
 | (_, x) :: r => AV.ltB n x && ltT n r
def ltO (n : Nat) : AObj → Bool
 | .cells cs => AV.ltL n cs
 | _ => true
def ltH (n : Nat) : List AObj → Bool
 | [] => true
 | x :: r => ltO n x && ltH n r
theorem ltT_look {n : Nat} : ∀ {T : List (Nat × AV)} (t : Nat) (x : AV), ltT n T = true → look T t = some x → AV.ltB n x = true := by
 intro T
 induction T with
 | nil => intro t x _ h; simp [look] at h
 | cons p T ih =>
   obtain ⟨k, y⟩ := p
   intro t x h hx
   simp only [ltT, Bool.and_eq_true] at h
   simp only [look] at hx
   split at hx
   · simp only [Option.some.injEq] at hx; subst hx; exact h.1
   · exact ih t x h.2 hx
theorem ltH_get {n : Nat} : ∀ {H : List AObj} (i : Nat) (x : AObj), ltH n H = true → H[i]? = some x → ltO n x = true := by
 intro H
 induction H with
 | nil => intro i x _ h; simp at h
 | cons a H ih =>
   intro i x h hx
   simp only [ltH, Bool.and_eq_true] at h
   cases i with
   | zero => simp at hx; subst hx; exact h.1
   | succ i => exact ih i x h.2 (by simpa using hx)
def Ghost.trunc (G : Ghost) (n : Nat) : Ghost := { G with obj := fun i => if i < n then G.obj i else none }
theorem RV.trunc {G : Ghost} {n : Nat} {x : AV} {v : Value} (r : RV G x v) : AV.ltB n x = true → RV (G.trunc n) x v := by
 induction r with
 | p hp => intro _; exact .p hp
 | ref off ho => intro h; exact .ref off (by simp only [AV.ltB, decide_eq_true_eq] at h; simp only [Ghost.trunc, h, if_true]; exact ho)
 | tok hp ho hle he => intro h; exact .tok hp (by simp only [AV.ltB, decide_eq_true_eq] at h; simp only [Ghost.trunc, h, if_true]; exact ho) hle he
 | ms ho hn hc => intro h; exact .ms (by simp only [AV.ltB, decide_eq_true_eq] at h; simp only [Ghost.trunc, h, if_true]; exact ho) hn hc
 | fn hl hr ih => intro h; exact .fn hl (fun i c v hc hv => ih i c v hc hv (ltL_get i c h hc))
 | full hp => intro _; exact .full hp
 | agg hl hr ih => intro h; exact .agg hl (fun i c v hc hv => ih i c v hc hv (ltL_get i c h hc))
 | tup hl hr ih => intro h; exact .tup hl (fun i c v hc hv => ih i c v hc hv (ltL_get i c h hc))
 | un v => intro _; exact .un v
 | vec ho hg hs hv => intro h; exact .vec (by simp only [AV.ltB, decide_eq_true_eq] at h; simp only [Ghost.trunc, h, if_true]; exact ho) hg hs hv
 | vref ho hg hs hv => intro h; exact .vref (by simp only [AV.ltB, decide_eq_true_eq] at h; simp only [Ghost.trunc, h, if_true]; exact ho) hg hs hv
 | rvec ho hg hs hv => intro h; exact .rvec (by simp only [AV.ltB, decide_eq_true_eq] at h; simp only [Ghost.trunc, h, if_true]; exact ho) hg hs hv
 | rref ho hg hs hv => intro h; exact .rref (by simp only [AV.ltB, decide_eq_true_eq] at h; simp only [Ghost.trunc, h, if_true]; exact ho) hg hs hv
 | rtok hp ho hk hv => intro h; exact .rtok hp (by simp only [AV.ltB, decide_eq_true_eq] at h; simp only [Ghost.trunc, h, if_true]; exact ho) hk hv
 | nils hn => intro _; exact .nils hn
 | ifc hp => intro _; exact .ifc hp
 | mp ho => intro h; exact .mp (by simp only [AV.ltB, decide_eq_true_eq] at h; simp only [Ghost.trunc, h, if_true]; exact ho)
theorem GExt.trunc {G G' : Ghost} {n : Nat} (h : GExt G G') (hd : ∀ id, n ≤ id → G.obj id = none) : GExt G (G'.trunc n) := by
 have lt : ∀ id x, G.obj id = some x → id < n := fun id x hx => by
   rcases Nat.lt_or_ge id n with g | g
   · exact g
   · rw [hd id g] at hx; cases hx
 refine ⟨h.mem, fun id b hb => ?_, fun id c u o hc => ?_, fun id c u o k cv s hc => ?_⟩
 · simp only [Ghost.trunc, lt id _ hb, if_true]; exact h.box id b hb
 · simp only [Ghost.trunc, lt id _ hc, if_true]; exact h.tok id c u o hc
 · simp only [Ghost.trunc, lt id _ hc, if_true]; exact h.fam id c u o k cv s hc
theorem WR.trunc {B : Base} {G : Ghost} {H : List AObj} {w : World} (h : WR B G H w) {n : Nat} (hlt : ltH n (H.take n) = true) : WR B (G.trunc n) (H.take n) w := by
 refine ⟨h.below, h.mem, h.news, h.olds, fun id x hx => ?_, fun i j x y b hi hj => ?_, fun i x b hi => ?_, fun id hid => ?_, h.keep, fun i x b hi => ?_⟩
 · have hx' := hx
   rw [List.getElem?_take] at hx
   split at hx
   · rename_i hidn
     have ho := h.objs id x hx
     have hl := ltH_get id x hlt hx'
     have eo : (G.trunc n).obj id = G.obj id := by simp [Ghost.trunc, hidn]
     cases x with
     | cells cs =>
       obtain ⟨b, arr, t, h1, h2, h3, h4, h5⟩ := ho
       exact ⟨b, arr, t, by rw [eo]; exact h1, h2, h3, fun i c v hc hv => (h4 i c v hc hv).trunc (ltL_get i c hl hc), h5⟩
     | spare m size =>
       obtain ⟨u, own, h1, h2⟩ := ho
       exact ⟨u, own, by rw [eo]; exact h1, h2⟩
     | gone => trivial
     | elts es size =>
       obtain ⟨h0, k, b, arr, t, h1, h2, h3, h4, h5⟩ := ho
       exact ⟨h0, k, b, arr, t, by rw [eo]; exact h1, h2, h3, fun i c v hc hv => (h4 i c v hc hv).trunc (by
         rcases elC_get hc with ⟨y, rfl⟩ | rfl <;> rfl), h5⟩
     | vec g es size =>
       obtain ⟨h0, a, cap, own, h1, h2⟩ := ho
       exact ⟨h0, a, cap, own, by rw [eo]; exact h1, h2⟩
     | rvec g k ls size =>
       obtain ⟨a, cap, own, cv, sub, h1, h2⟩ := ho
       exact ⟨a, cap, own, cv, sub, by rw [eo]; exact h1, h2⟩
     | rhole g k ls size i =>
       obtain ⟨a, cap, own, cv, sub, h1, h2⟩ := ho
       exact ⟨a, cap, own, cv, sub, by rw [eo]; exact h1, h2⟩
     | map es =>
       obtain ⟨b, ms, clk, h1, h2⟩ := ho
       exact ⟨b, ms, clk, by rw [eo]; exact h1, h2⟩
   · cases hx
 · simp only [Ghost.trunc] at hi hj
   split at hi <;> try (cases hi; done)
   split at hj <;> try (cases hj; done)
   exact h.sep i j x y b hi hj
 · simp only [Ghost.trunc] at hi
   split at hi <;> try (cases hi; done)
   exact h.fresh i x b hi
 · simp only [List.length_take] at hid
   simp only [Ghost.trunc]
   split
   · exact h.dom id (by omega)
   · rfl
 · simp only [Ghost.trunc] at hi
   split at hi <;> try (cases hi; done)
   exact h.apart i x b hi
section
variable {P : Program} {nt : NT} {Q : Exit → AS → Prop} {A : AS}
theorem Wp.loopT {ι : Type} {c : Code} (inv : ι → AS) (ok : ι → Prop) (μ : ι → Nat) (n : Nat) (hlen : ∀ i, ok i → (inv i).H.length = n) (hlt : ∀ i, ok i → (ltT n (inv i).T && ltH n (inv i).H) = true) (i₀ : ι) (h0 : ok i₀) (hT : subT A.T (inv i₀).T) (hH : A.H = (inv i₀).H)
   (round : ∀ i, ok i → Wp P nt c (Th (fun A' => ∃ i', ok i' ∧ μ i' < μ i ∧ subT A'.T (inv i').T ∧ A'.H.take n = (inv i').H) Q) (inv i)) : Wp P nt (.loop c) Q A := by
 intro B G a w tr wr
 have start : TR nt G (inv i₀).T a := ⟨tr.size, tr.defers, fun t x hx => tr.slots t x (hT t x hx)⟩
 have hdom : ∀ id, n ≤ id → G.obj id = none := fun id hid => wr.dom id (by rw [hH, hlen i₀ h0]; exact hid)
 refine wp_loop_ghost (fun n a w => ∃ i G', ok i ∧ μ i = n ∧ GExt G G' ∧ TR nt G' (inv i).T a ∧ WR B G' (inv i).H w) (μ i₀) ⟨i₀, G, h0, rfl, GExt.refl G, start, hH ▸ wr⟩ ?_
 rintro k a w ⟨i, G', hi, rfl, ext, tr', wr'⟩
 refine wp_mono (round i hi B G' a w tr' wr') ?_
 rintro e a' w' ⟨G2, A2, e', k1, k2, k3, k4⟩
 cases k2 with
 | go he k2 =>
   cases e with
   | normal =>
     obtain ⟨i', o1, o2, o3, o4⟩ := k4
     have hl := hlt i' o1
     simp only [Bool.and_eq_true] at hl
     refine ⟨μ i', o2, i', G2.trunc n, o1, rfl, (ext.trans k1).trunc hdom, ⟨k2.size, k2.defers, fun t x hx => ?_⟩, ?_⟩
     · obtain ⟨v, h1, h2⟩ := k2.slots t x (o3 t x hx)
       exact ⟨v, h1, h2.trunc (ltT_look t x hl.1 hx)⟩
     · rw [← o4]; exact k3.trunc (by rw [o4]; exact hl.2)
   | panic c => exact absurd rfl (he c)
   | _ => exact Po.go (fun _ => nofun) (ext.trans k1) k2 k3 k4
 | die tr rp => exact ⟨G2, _, _, ext.trans k1, .die tr rp, k3, k4⟩
theorem WR.mint {B : Base} {G : Ghost} {H : List AObj} {w : World} (h : WR B G H w) {id j : Nat} {cs : List AV} {l : List (List PV)} (size : Nat) (hid : H[id]? = some (.cells cs)) (hj : cs[j]? = some (.full l)) :
   ∃ G', GExt G G' ∧ WR B G' (H.set id (.cells (cs.set j (.tok H.length l))) ++ [.spare l.length size]) w := by
 obtain ⟨b, arr, t, h1, h2, h3, h4, h5⟩ := h.objs id _ hid
 have hjl : j < cs.length := (List.getElem?_eq_some_iff.1 hj).1
 have hja : arr[j]? = some (arr[j]'(by omega)) := Array.getElem?_eq_getElem _
 have rv := h4 j _ _ hj hja
 have hdom := h.dom H.length (Nat.le_refl _)
 have hidl : id < H.length := (List.getElem?_eq_some_iff.1 hid).1
 generalize hv : arr[j]'(by omega) = v at rv hja
 cases rv with
 | @full _ ad n hp =>
   have hn : n = l.length := by obtain ⟨a', cap', e'⟩ := hp.slice_len; simp only [Value.slice.injEq] at e'; exact e'.2.1
   subst hn
   have hne : ∀ i x, G.obj i = some x → i ≠ H.length := fun i x hx e => by subst e; rw [hdom] at hx; cases hx
   have ext : GExt G { G with obj := fun i => if i = H.length then some (.tok l.length (.slice ad l.length l.length) none) else G.obj i } :=
     ⟨fun _ _ _ h => h, fun i b hb => by simp only; rw [if_neg (hne _ _ hb)]; exact hb, fun i c u o hc => ⟨c, u, o, by simp only; rw [if_neg (hne _ _ hc)]; exact hc, Nat.le_refl _, fun _ => rfl⟩, fun i c u o k cv s hc => ⟨c, u, o, k, cv, s, by simp only; rw [if_neg (hne _ _ hc)]; exact hc, Nat.le_refl _, fun _ => rfl, Nat.le_refl _, fun _ => rfl⟩⟩
   refine ⟨_, ext, ⟨h.below, h.mem, h.news, h.olds, fun i x hx => ?_, fun i k x y b' hi hk hx hy => ?_, fun i x b' hi hb => ?_, fun i hi => ?_, h.keep, fun i x b' hi hb => ?_⟩⟩
   · rcases Nat.lt_or_ge i H.length with g | g
     · rw [List.getElem?_append_left (by simpa using g)] at hx
       by_cases e : id = i
       · subst e
         rw [List.getElem?_set_self hidl] at hx
         simp only [Option.some.injEq] at hx; subst hx
         refine ⟨b, arr, t, by simp only; rw [if_neg (by omega)]; exact h1, h2, by simpa using h3, fun k c u hc hu => ?_, h5⟩
         by_cases ek : j = k
         · subst ek
           rw [List.getElem?_set_self hjl] at hc
           simp only [Option.some.injEq] at hc; subst hc
           rw [hja] at hu; simp only [Option.some.injEq] at hu; subst hu
           exact RV.tok (c := l.length) (u := .slice ad l.length l.length) (own := none) hp (by simp) (Nat.le_refl _) (fun _ => rfl)
         · rw [getElem?_set_ne' ek] at hc
           exact (h4 k c u hc hu).mono ext
       · rw [getElem?_set_ne' e] at hx
         exact (h.objs i x hx).keep ext (by simp only; rw [if_neg (by omega)]) (fun _ _ _ _ => rfl) (fun _ _ _ _ _ => rfl)
     · rw [List.getElem?_append_right (by simpa using g)] at hx
       simp only [List.length_set] at hx
       have e : i = H.length := by
         rcases Nat.eq_or_lt_of_le g with e | e
         · exact e.symm
         · rw [show i - H.length = (i - H.length - 1) + 1 by omega] at hx; simp at hx
       subst e
       simp at hx; subst hx
       exact ⟨.slice ad l.length l.length, none, by simp, .inl ⟨rfl, ad, rfl⟩⟩
   · simp only at hi hk
     split at hi <;> split at hk
     · omega
     · simp at hi; subst hi; simp [GO.has] at hx
     · simp at hk; subst hk; simp [GO.has] at hy
     · exact h.sep i k x y b' hi hk hx hy
   · simp only at hi
     split at hi
     · simp at hi; subst hi; simp [GO.has] at hb
     · exact h.fresh i x b' hi hb
   · simp at hi
     simp only; rw [if_neg (by omega)]; exact h.dom i (by omega)
   · simp only at hi
     split at hi
     · simp at hi; subst hi; simp [GO.has] at hb
     · exact h.apart i x b' hi hb
theorem Wp.mint {c : Code} (size id j : Nat) {cs : List AV} {l : List (List PV)} (hid : A.H[id]? = some (.cells cs)) (hj : cs[j]? = some (.full l))
   (h : Wp P nt c Q ⟨A.T, A.H.set id (.cells (cs.set j (.tok A.H.length l))) ++ [.spare l.length size]⟩) : Wp P nt c Q A := by
 intro B G a w tr wr
 obtain ⟨G', e, wr'⟩ := wr.mint size hid hj
 exact wp_mono (h B G' a w (tr.mono e) wr') fun _ _ _ p => p.pre e
end
theorem mintX {P : Program} {lp : LP} {nt : NT} (hlp : (fun c Q A => Wp P nt (.loop c) Q A) = lp) {c : Code} {Q : Exit → AS → Prop} {T : List (Nat × AV)} {H : List AObj} (size id j : Nat) {cs : List AV} {l : List (List PV)} (hid : nth H id = some (.cells cs)) (hj : nth cs j = some (.full l))
   (h : lp c Q ⟨T, catX (setX H id (.cells (setX cs j (.tok (lenX H) l)))) [.spare l.length size]⟩) : lp c Q ⟨T, H⟩ := by
 rw [nth_eq] at hid hj
 have h1 := (List.getElem?_eq_some_iff.1 hid).1
 have h2 := (List.getElem?_eq_some_iff.1 hj).1
 rw [catX_eq, lenX_eq, setX_eq _ _ _ (by omega), setX_eq _ _ _ (by omega), if_pos h1, if_pos h2] at h
 subst hlp
 exact Wp.mint size id j hid hj h
theorem loopTz (fz : List (Nat × List Nat)) {P : Program} (hm : P.follows .mixedOrders = true) {tt : TypeId → Option TI} (htt : TTOk P tt) {cp : FuncId → List PV → (CR → Prop) → Prop} (hcp : PC1 P = cp) {cc : FuncId → List AV → List AObj → (AV → List AObj → Prop) → Prop} (hcc : ACall P = cc) {lp : LP} {nt : NT} (hlp : (fun c Q A => Wp P nt (.loop c) Q A) = lp)
   {c : Code} {Q : Exit → AS → Prop} {T : List (Nat × AV)} {H : List AObj} {ι : Type} (ks : List Nat) (ch : ι → List (Nat × AV)) (Hf : ι → List AObj) (ok : ι → Prop) (μ : ι → Nat) (i₀ : ι) (n : Nat)
   (hn : ∀ i, (decide (lenX (Hf i) = n) && (ltT n (catX (ch i) (pickX T ks)) && ltH n (Hf i))) = true) (h0 : ok i₀) (hT : subL T (ch i₀)) (hH : H = Hf i₀)
   (round : ∀ (R : AS → Prop) i, ok i → (∀ i' A', ok i' → μ i' < μ i → subL A'.T (ch i') → subP A'.T T ks → takeX A'.H n = Hf i' → R A') → xc tt fz cp cc lp nt c (ThX R Q) ⟨catX (ch i) (pickX T ks), Hf i⟩) : lp c Q ⟨T, H⟩ := by
 subst hlp
 have hn' : ∀ i, (Hf i).length = n ∧ (ltT n (catX (ch i) (pickX T ks)) && ltH n (Hf i)) = true := fun i => by
   have := hn i
   rw [Bool.and_eq_true, decide_eq_true_eq, lenX_eq] at this
   exact this
 refine Wp.loopT (fun i => ⟨catX (ch i) (pickX T ks), Hf i⟩) ok μ n (fun i _ => (hn' i).1) (fun i _ => (hn' i).2) i₀ h0 (subL_ok (subL_cat hT (subL_pick subP_refl))) hH (fun i hi => ?_)
 have := round (fun A' => ∃ i', ok i' ∧ μ i' < μ i ∧ subT A'.T (catX (ch i') (pickX T ks)) ∧ A'.H.take n = Hf i') i hi (fun i' A' h1 h2 h3 h4 h5 => ⟨i', h1, h2, subL_ok (subL_cat h3 (subL_pick h4)), by rw [← takeX_eq]; exact h5⟩)
 refine (xc_ok hm htt hcp hcc rfl c _ _ this).mono fun e A' hq => ?_
 cases e <;> exact hq
theorem loopT {P : Program} (hm : P.follows .mixedOrders = true) {tt : TypeId → Option TI} (htt : TTOk P tt) {cp : FuncId → List PV → (CR → Prop) → Prop} (hcp : PC1 P = cp) {cc : FuncId → List AV → List AObj → (AV → List AObj → Prop) → Prop} (hcc : ACall P = cc) {lp : LP} {nt : NT} (hlp : (fun c Q A => Wp P nt (.loop c) Q A) = lp)
   {c : Code} {Q : Exit → AS → Prop} {T : List (Nat × AV)} {H : List AObj} {ι : Type} (ks : List Nat) (ch : ι → List (Nat × AV)) (Hf : ι → List AObj) (ok : ι → Prop) (μ : ι → Nat) (i₀ : ι) (n : Nat)
   (hn : ∀ i, (decide (lenX (Hf i) = n) && (ltT n (catX (ch i) (pickX T ks)) && ltH n (Hf i))) = true) (h0 : ok i₀) (hT : subL T (ch i₀)) (hH : H = Hf i₀)
   (round : ∀ (R : AS → Prop) i, ok i → (∀ i' A', ok i' → μ i' < μ i → subL A'.T (ch i') → subP A'.T T ks → takeX A'.H n = Hf i' → R A') → xc tt [] cp cc lp nt c (ThX R Q) ⟨catX (ch i) (pickX T ks), Hf i⟩) : lp c Q ⟨T, H⟩ := loopTz [] hm htt hcp hcc hlp ks ch Hf ok μ i₀ n hn h0 hT hH round
theorem loopKz (fz : List (Nat × List Nat)) {P : Program} (hm : P.follows .mixedOrders = true) {tt : TypeId → Option TI} (htt : TTOk P tt) {cp : FuncId → List PV → (CR → Prop) → Prop} (hcp : PC1 P = cp) {cc : FuncId → List AV → List AObj → (AV → List AObj → Prop) → Prop} (hcc : ACall P = cc) {lp : LP} {nt : NT} (hlp : (fun c Q A => Wp P nt (.loop c) Q A) = lp)
   {c : Code} {Q : Exit → AS → Prop} {T : List (Nat × AV)} {H : List AObj} {ι : Type} (ks : List Nat) (ch : ι → List (Nat × AV)) (ok : ι → Prop) (μ : ι → Nat) (i₀ : ι)
   (hn : ∀ i, (ltT (lenX H) (catX (ch i) (pickX T ks)) && ltH (lenX H) H) = true) (h0 : ok i₀) (hT : subL T (ch i₀))
   (round : ∀ (R : AS → Prop) i, ok i → (∀ i' A', ok i' → μ i' < μ i → subL A'.T (ch i') → subP A'.T T ks → takeX A'.H (lenX H) = H → R A') → xc tt fz cp cc lp nt c (ThX R Q) ⟨catX (ch i) (pickX T ks), H⟩) : lp c Q ⟨T, H⟩ :=
 loopTz fz hm htt hcp hcc hlp ks ch (fun _ => H) ok μ i₀ (lenX H) (fun i => by simpa using hn i) h0 hT rfl round
theorem loopK {P : Program} (hm : P.follows .mixedOrders = true) {tt : TypeId → Option TI} (htt : TTOk P tt) {cp : FuncId → List PV → (CR → Prop) → Prop} (hcp : PC1 P = cp) {cc : FuncId → List AV → List AObj → (AV → List AObj → Prop) → Prop} (hcc : ACall P = cc) {lp : LP} {nt : NT} (hlp : (fun c Q A => Wp P nt (.loop c) Q A) = lp)
   {c : Code} {Q : Exit → AS → Prop} {T : List (Nat × AV)} {H : List AObj} {ι : Type} (ks : List Nat) (ch : ι → List (Nat × AV)) (ok : ι → Prop) (μ : ι → Nat) (i₀ : ι)
   (hn : ∀ i, (ltT (lenX H) (catX (ch i) (pickX T ks)) && ltH (lenX H) H) = true) (h0 : ok i₀) (hT : subL T (ch i₀))
   (round : ∀ (R : AS → Prop) i, ok i → (∀ i' A', ok i' → μ i' < μ i → subL A'.T (ch i') → subP A'.T T ks → takeX A'.H (lenX H) = H → R A') → xc tt [] cp cc lp nt c (ThX R Q) ⟨catX (ch i) (pickX T ks), H⟩) : lp c Q ⟨T, H⟩ := loopKz [] hm htt hcp hcc hlp ks ch ok μ i₀ hn h0 hT round
theorem Ix.at_ {α : Type} {enc : α → List PV} {l : List (List PV)} {v : List α} {es : Nat} {n : Int} {K : List PV → Prop} {x : α} (hl : v.map enc = l) (he : ∀ x, (enc x).length = es) (hes : es ≠ 0) (h0 : 0 ≤ n) (hx : v[n.toNat]? = some x) (g : K (enc x)) : Ix es l n K :=
 ⟨enc x, h0, by rw [← hl, List.getElem?_map, hx]; rfl, he _, hes, g⟩
end Go.Proofs.Ytcajncmjlmpkgaa
