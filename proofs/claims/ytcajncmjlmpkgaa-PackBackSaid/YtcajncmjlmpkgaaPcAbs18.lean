/- A region whose order is open: the rule. Own work; no condition. -/
import Derived.Test.YtcajncmjlmpkgaaPcAbs17
namespace Go.Proofs.Ytcajncmjlmpkgaa
open Go Go.RowKit
def unl (n : Nat) (S : Nat → Bool) : Nat := ((List.range n).filter fun j => !S j).length
theorem filter_less {p q : Nat → Bool} : ∀ (l : List Nat) (i : Nat), i ∈ l → p i = true → q i = false → (∀ j, j ∈ l → q j = true → p j = true) → (l.filter q).length < (l.filter p).length := by
 have le : ∀ (l : List Nat), (∀ j, j ∈ l → q j = true → p j = true) → (l.filter q).length ≤ (l.filter p).length := by
   intro l
   induction l with
   | nil => intro _; simp
   | cons a l ih =>
     intro h
     have ih := ih (fun j hj => h j (by simp [hj]))
     cases hq : q a with
     | true => have hp := h a (by simp) hq; simp [hq, hp]; exact ih
     | false => cases hp : p a <;> simp [hq, hp] <;> omega
 intro l
 induction l with
 | nil => intro i h; simp at h
 | cons a l ih =>
   intro i hi hp hq h
   rcases List.mem_cons.1 hi with e | e
   · subst e
     have := le l (fun j hj => h j (by simp [hj]))
     simp [hq, hp]; omega
   · have ih := ih i e hp hq (fun j hj => h j (by simp [hj]))
     cases hq' : q a with
     | true => have hp' := h a (by simp) hq'; simp [hq', hp']; exact ih
     | false => cases hp' : p a <;> simp [hq', hp'] <;> omega
theorem unl_less {n i : Nat} {S S' : Nat → Bool} (hi : i < n) (h0 : S i = false) (h1 : S' i = true) (hne : ∀ j, j ≠ i → S' j = S j) : unl n S' < unl n S :=
 filter_less _ i (by simpa using hi) (by simp [h0]) (by simp [h1]) (fun j _ hq => by
   by_cases e : j = i
   · subst e; simp [h1] at hq
   · rw [hne j e] at hq; exact hq)
theorem unl_zero {n : Nat} {S : Nat → Bool} (h : unl n S = 0) {j : Nat} (hj : j < n) : S j = true := by
 have := List.filter_eq_nil_iff.1 (List.eq_nil_of_length_eq_zero h) j (by simpa using hj)
 simpa using this
theorem names_dst {ops : List Oper} {o : Oper} {d : Nat} (h : o.dst = some d) : d ∈ namesOf ops o := by simp [namesOf, h]
theorem names_op {ops : List Oper} {o : Oper} {t : Nat} (h : Operand.tmp t ∈ o.op.operands.toList) : t ∈ namesOf ops o := by
 simp only [namesOf, List.mem_append, List.mem_filterMap]
 exact .inl (.inr ⟨.tmp t, h, rfl⟩)
theorem names_guard {ops : List Oper} {o : Oper} {j t : Nat} {b : Bool} (hg : o.guard = some (j, b)) (h : dstOf ops j = some t) : t ∈ namesOf ops o := by
 simp [namesOf, hg, h]
theorem guardN_ok {nt : NT} {G : Ghost} {T : List (Nat × AV)} {a : Act} (tr : TR nt G T a) {ops : Array Oper} {j : Nat} (h : guardN ops.toList T j) : yielded ops a.tmps j = none := by
 unfold guardN at h
 rw [Option.bind_eq_some_iff] at h
 obtain ⟨t, ht, hl⟩ := h
 obtain ⟨v, h1, h2⟩ := tr.slots t _ hl
 have ht' : (ops[j]?).bind (·.dst) = some t := by simpa using ht
 unfold yielded
 rw [ht']
 cases h2 with
 | tup hl hr => simp only [Option.bind_some, h1]
section
variable {P : Program} {nt : NT} {ops : Array Oper} {A A' : AS} {nxl : Nat} {E : List Ef} {F : List (List Nat × Bool)}
theorem bad_names (hn : namesOk ops.toList = true) {i j : Nat} {a b : Oper} (ha : ops.toList[i]? = some a) (hb : ops.toList[j]? = some b) (hij : i < j)
   (h : (∃ d, a.dst = some d ∧ d ∈ namesOf ops.toList b) ∨ (∃ d, b.dst = some d ∧ d ∈ namesOf ops.toList a)) : i ∈ (ancs ops.toList []).getD j [] := by
 refine pairs_spec hn hij (List.getElem?_eq_some_iff.1 hb).1 ?_
 simp only [ha, hb, Bool.or_eq_true]
 rcases h with ⟨d, h1, h2⟩ | ⟨d, h1, h2⟩
 · exact .inl (by simp [h1, h2])
 · exact .inr (by simp [h1, h2])
theorem bad_fp (hf : fpOk ops.toList F = true) {i j : Nat} {a b : List Nat × Bool} (ha : F[i]? = some a) (hb : F[j]? = some b) (hij : i < j) (hj : j < ops.toList.length) {id : Nat}
   (h1 : id ∈ a.1) (h2 : id ∈ b.1) (hw : a.2 = true ∨ b.2 = true) : i ∈ (ancs ops.toList []).getD j [] := by
 refine pairs_spec hf hij hj ?_
 simp only [ha, hb, Bool.and_eq_true, Bool.or_eq_true, List.any_eq_true, List.contains_iff_mem]
 exact ⟨hw, id, h1, h2⟩
theorem draw_any (hdst : dstOk nt ops.toList = true) (hs : orderOk ops.toList = true) {R : Nat → Option AObj}
   (hE : E.length = ops.size)
   (lo : Nat) (hnull : ∀ j e, E[j]? = some e → j < lo → e.t = none ∧ e.h = none)
   (hat : ∀ i o, lo ≤ i → ops.toList[i]? = some o → ∃ Ai nxi nxi' e f, At P ops.toList o i A.T R A.H.length nxl E F Ai nxi nxi' e f)
   (hf : fpOk ops.toList F = true) {B : Base} {G0 : Ghost} {Q : Exit → Act → World → Prop}
   (hq : ∀ G T H a w, GExt G0 G → TR nt G T a → WR B G H w → (∀ t, look T t = mT E (fun _ => true) 0 t (look A.T t)) → H.length = nxl → (∀ id, id < nxl → H[id]? = mH E (fun _ => true) 0 id (R id)) → Q .normal a w) :
   ∀ (fuel : Nat) (listed : Array Bool) (a : Act) (w : World) (G : Ghost) (T : List (Nat × AV)) (H : List AObj), listed.size = ops.size → (∀ j, j < lo → listed.getD j false = true) →
     (∀ j, listed.getD j false = true → ∀ k, k ∈ (ancs ops.toList []).getD j [] → listed.getD k false = true) →
     unl ops.size (listed.getD · false) ≤ fuel → TR nt G T a → WR B G H w → GExt G0 G →
     (∀ t, look T t = mT E (listed.getD · false) 0 t (look A.T t)) → H.length = nxl → (∀ id, id < nxl → H[id]? = mH E (listed.getD · false) 0 id (R id)) →
     (∀ id, A.H.length ≤ id → (∀ j e x, E[j]? = some e → e.h = some (id, x) → listed.getD j false = false) → G.obj id = none) →
     wpAny P .any ops Q fuel listed a w := by
 have hb := (Bool.and_eq_true _ _ ▸ hs : backOk ops.toList = true ∧ namesOk ops.toList = true)
 obtain ⟨hback, hn⟩ := hb
 have done : ∀ (listed : Array Bool) (a : Act) (w : World) (G : Ghost) (T : List (Nat × AV)) (H : List AObj), (∀ j, j < ops.size → listed.getD j false = true) → TR nt G T a → WR B G H w → GExt G0 G →
     (∀ t, look T t = mT E (listed.getD · false) 0 t (look A.T t)) → H.length = nxl → (∀ id, id < nxl → H[id]? = mH E (listed.getD · false) 0 id (R id)) → Q .normal a w := by
   intro listed a w G T H hall tr wr ext hT hl hH
   refine hq G T H a w ext tr wr (fun t => ?_) hl (fun id hid => ?_)
   · rw [hT t]
     refine mT_congr E _ _ 0 t _ (fun j e d x hj _ _ => ?_)
     have := (List.getElem?_eq_some_iff.1 hj).1
     rw [Nat.zero_add]; exact hall j (by omega)
   · rw [hH id hid]
     refine mH_congr E _ _ 0 id _ (fun j e d x hj _ _ => ?_)
     have := (List.getElem?_eq_some_iff.1 hj).1
     rw [Nat.zero_add]; exact hall j (by omega)
 have getDtf : ∀ (listed : Array Bool) (j : Nat), listed.size = ops.size → j < ops.size → listed.getD j true = listed.getD j false := by
   intro listed j hsz hj; simp [Array.getD, hsz, hj]
 have ready_all : ∀ (listed : Array Bool), listed.size = ops.size → Region.ready .any ops listed = [] → ∀ j, j < ops.size → listed.getD j false = true := by
   intro listed hsz hr j
   induction j using Nat.strongRecOn with
   | _ j ih =>
     intro hj
     cases hl : listed.getD j false with
     | true => rfl
     | false =>
       exfalso
       have : j ∈ Region.ready .any ops listed := by
         refine mem_ready.2 ⟨by rw [getDtf listed j hsz hj]; exact hl, ops[j], by simp [hj], fun e he hbd => ?_⟩
         simp only [backOk, List.all_eq_true, List.mem_range] at hback
         have := hback j (by simpa using hj)
         simp only [Array.getElem?_toList, Array.getElem?_eq_getElem hj, List.all_eq_true, Bool.or_eq_true, Bool.not_eq_true', decide_eq_true_eq] at this
         have := (this e (by simpa using he)).resolve_left (by simp [hbd])
         exact ih e.on this (by omega)
       rw [hr] at this; cases this
 intro fuel
 induction fuel with
 | zero =>
   intro listed a w G T H hsz hpre hcl hfu tr wr ext hT hl hH hnew
   have hall : ∀ j, j < ops.size → listed.getD j false = true := fun j hj => unl_zero (S := (listed.getD · false)) (by omega) hj
   refine ⟨?_, done listed a w G T H hall tr wr ext hT hl hH⟩
   cases hr : Region.ready .any ops listed with
   | nil => rfl
   | cons i l =>
     have : i ∈ Region.ready .any ops listed := by rw [hr]; simp
     obtain ⟨h0, o, ho, _⟩ := mem_ready.1 this
     have hi := (Array.getElem?_eq_some_iff.1 ho).1
     rw [getDtf listed i hsz hi, hall i hi] at h0; cases h0
 | succ fuel ih =>
   intro listed a w G T H hsz hpre hcl hfu tr wr ext hT hl hH hnew
   refine ⟨fun hr => done listed a w G T H (ready_all listed hsz hr) tr wr ext hT hl hH, fun i hi => ?_⟩
   obtain ⟨h0, o, ho, haft⟩ := mem_ready.1 hi
   have hin := (Array.getElem?_eq_some_iff.1 ho).1
   rw [getDtf listed i hsz hin] at h0
   have ho' : ops.toList[i]? = some o := by simpa using ho
   have hlo : lo ≤ i := by
     rcases Nat.lt_or_ge i lo with g | g
     · rw [hpre i g] at h0; cases h0
     · exact g
   have loT : ∀ {j : Nat} {e' : Ef} {y : Nat × AV}, E[j]? = some e' → e'.t = some y → lo ≤ j := by
     intro j e' y hj hy
     rcases Nat.lt_or_ge j lo with g | g
     · rw [(hnull j e' hj g).1] at hy; cases hy
     · exact g
   have loH : ∀ {j : Nat} {e' : Ef} {y : Nat × AObj}, E[j]? = some e' → e'.h = some y → lo ≤ j := by
     intro j e' y hj hy
     rcases Nat.lt_or_ge j lo with g | g
     · rw [(hnull j e' hj g).2] at hy; cases hy
     · exact g
   obtain ⟨Ai, nxi, nxi', e, f, q⟩ := hat i o hlo ho'
   have hS : ∀ j, j ≠ i → (listed.setIfInBounds i true).getD j false = listed.getD j false := fun j hj => getD_set_ne false (Ne.symm hj)
   have hSi : (listed.setIfInBounds i true).getD i false = true := by simp [Array.getD, hsz, hin]
   obtain ⟨s1, s2, s3, s4, s5, s6, s7⟩ := q.link.shape q.len
   have before : ∀ j, j ∈ (ancs ops.toList []).getD i [] → listed.getD j false = true := by
     intro j hj
     obtain ⟨e', he', hb', hk⟩ := (anc_spec ops.toList []).2 i o ho' j (by simpa using hj)
     have := haft e' (by simpa using he') hb'
     rcases hk with rfl | hk
     · exact this
     · exact hcl _ this _ hk
   have after : ∀ j, i ∈ (ancs ops.toList []).getD j [] → listed.getD j false = false := by
     intro j hj
     cases hl : listed.getD j false with
     | false => rfl
     | true => rw [hcl j hl i hj] at h0; cases h0
   have len_of : ∀ {j : Nat} {e' : Ef}, E[j]? = some e' → ∃ oj, ops.toList[j]? = some oj := by
     intro j e' hj
     have := (List.getElem?_eq_some_iff.1 hj).1
     exact ⟨ops.toList[j]'(by simp; omega), by simp⟩
   have agS : ∀ t, t ∈ namesOf ops.toList o → look T t = look Ai.T t := by
     intro t ht
     rw [hT t, q.T_at t]
     refine mT_congr E _ _ 0 t _ (fun j e' d x hj hx hd => ?_)
     subst hd
     rw [Nat.zero_add]
     obtain ⟨oj, hoj⟩ := len_of hj
     obtain ⟨Aj, nxj, nxj', ej, fj, qj⟩ := hat j oj (loT hj hx) hoj
     have ee : e' = ej := by have := qj.e_at; rw [hj] at this; exact Option.some.inj this
     subst ee
     have hdj := (qj.link.shape qj.len).1 d x hx
     rcases Nat.lt_trichotomy j i with g | g | g
     · rw [before j (bad_names hn hoj ho' g (.inl ⟨d, hdj, ht⟩))]; simp [lt, g]
     · subst g; rw [h0]; simp [lt]
     · rw [after j (bad_names hn ho' hoj g (.inr ⟨d, hdj, ht⟩))]; simp [lt]; omega
   have agH : ∀ id, id ∈ f.1 → id < nxi → H[id]? = Ai.H[id]? := by
     intro id hid hlt
     have := q.hi
     rw [hH id (by omega), q.H_at id hlt]
     refine mH_congr E _ _ 0 id _ (fun j e' d x hj hx hd => ?_)
     subst hd
     rw [Nat.zero_add]
     obtain ⟨oj, hoj⟩ := len_of hj
     obtain ⟨Aj, nxj, nxj', ej, fj, qj⟩ := hat j oj (loH hj hx) hoj
     have ee : e' = ej := by have := qj.e_at; rw [hj] at this; exact Option.some.inj this
     subst ee
     obtain ⟨m1, m2, _⟩ := (qj.link.shape qj.len).2.1 d x hx
     rcases Nat.lt_trichotomy j i with g | g | g
     · rw [before j (bad_fp hf qj.f_at q.f_at g (by simpa using hin) m1 hid (.inl m2))]; simp [lt, g]
     · subst g; rw [h0]; simp [lt]
     · have hjl := (List.getElem?_eq_some_iff.1 hoj).1
       rw [after j (bad_fp hf q.f_at qj.f_at g hjl hid m1 (.inr m2))]; simp [lt]; omega
   have gSame : ∀ j b, o.guard = some (j, b) → guardV ops.toList T j = guardV ops.toList Ai.T j := by
     intro j b hg
     unfold guardV
     cases hd : (ops.toList[j]?).bind (·.dst) with
     | none => rfl
     | some t => simp only [Option.bind_some]; rw [agS t (names_guard hg hd)]
   have hd : ∀ d, o.dst = some d → d < nt := by
     intro d hd
     have := List.all_eq_true.1 hdst o (List.mem_of_getElem? ho')
     rw [hd] at this; simpa using this
   have next : ∀ a' w', Goes nt B G T H e a' w' → wpAny P .any ops Q fuel (listed.setIfInBounds i true) a' w' := by
     rintro a' w' ⟨G', e1, e2, e3, e4⟩
     refine ih (listed.setIfInBounds i true) a' w' G' (e.T T) (e.H H) (by simpa using hsz) (fun j hj => getD_set_true (hpre j hj)) (fun j hj k hk => ?_) ?_ e2 e3 (ext.trans e1) (fun t => ?_) ?_ (fun id hid => ?_) (fun id hid hno => ?_)
     · by_cases hji : j = i
       · subst hji; exact getD_set_true (before k hk)
       · rw [hS j hji] at hj; exact getD_set_true (hcl j hj k hk)
     · have := unl_less (S := (listed.getD · false)) (S' := ((listed.setIfInBounds i true).getD · false)) hin h0 hSi hS
       omega
     · have := mT_add E (listed.getD · false) ((listed.setIfInBounds i true).getD · false) 0 t i e (look A.T t) q.e_at (by rw [Nat.zero_add]; exact hSi) (fun j hj => by rw [Nat.zero_add]; exact hS j hj) (fun j e' d x hij hj hx hdt hy => by
         rw [Nat.zero_add]
         subst hdt
         obtain ⟨y, hy⟩ := hy
         obtain ⟨oj, hoj⟩ := len_of hj
         obtain ⟨Aj, nxj, nxj', ej, fj, qj⟩ := hat j oj (loT hj hx) hoj
         have ee : e' = ej := by have := qj.e_at; rw [hj] at this; exact Option.some.inj this
         subst ee
         exact after j (bad_names hn ho' hoj hij (.inl ⟨d, s1 d y hy, names_dst ((qj.link.shape qj.len).1 d x hx)⟩))) (by rw [Nat.zero_add]; exact h0)
       rw [this]
       cases he : e.t with
       | none => simp only [Ef.T, he]; exact hT t
       | some y => obtain ⟨d, x⟩ := y; simp only [Ef.T, he, look]; rw [hT t]
     · cases he : e.h with
       | none => simpa [Ef.H, he] using hl
       | some y => simpa [Ef.H, he] using hl
     · have := mH_add E (listed.getD · false) ((listed.setIfInBounds i true).getD · false) 0 id i e (R id) q.e_at (by rw [Nat.zero_add]; exact hSi) (fun j hj => by rw [Nat.zero_add]; exact hS j hj) (fun j e' d x hij hj hx hdt hy => by
         rw [Nat.zero_add]
         subst hdt
         obtain ⟨y, hy⟩ := hy
         obtain ⟨oj, hoj⟩ := len_of hj
         obtain ⟨Aj, nxj, nxj', ej, fj, qj⟩ := hat j oj (loH hj hx) hoj
         have ee : e' = ej := by have := qj.e_at; rw [hj] at this; exact Option.some.inj this
         subst ee
         obtain ⟨m1, m2, _⟩ := (qj.link.shape qj.len).2.1 d x hx
         exact after j (bad_fp hf q.f_at qj.f_at hij (List.getElem?_eq_some_iff.1 hoj).1 (s2 d y hy).1 m1 (.inr m2))) (by rw [Nat.zero_add]; exact h0)
       rw [this]
       cases he : e.h with
       | none => simp only [Ef.H, he]; exact hH id hid
       | some y =>
         obtain ⟨d, x⟩ := y
         simp only [Ef.H, he, List.getElem?_set]
         by_cases hdi : d = id
         · subst hdi; simp only [if_true]; rw [if_pos (by omega)]
         · simp only [hdi, if_false]; exact hH id hid
     · refine e4 id (fun x hx => ?_) (hnew id hid (fun j e' x hj hx => ?_))
       · have := hno i e x q.e_at hx; rw [hSi] at this; cases this
       · have := hno j e' x hj hx
         by_cases hji : j = i
         · subst hji; exact h0
         · rw [hS j hji] at this; exact this
   unfold wpOp
   simp only [ho]
   rcases q.link with ⟨hg, hop, hf2⟩ | ⟨⟨j, b, hg, hgv⟩, he, hff, _⟩
   · have hw : Region.wanted o (yielded ops a.tmps) = true := by
       rcases hg with hg | ⟨j, b, hg, hgv⟩
       · simp [Region.wanted, hg]
       · rw [← gSame j b hg] at hgv
         simp [Region.wanted, hg, guard_ok tr hgv]
     rw [if_pos hw]
     refine .inl (Oper.wp_mono next (hop.goes tr wr hd (fun t ht => agS t (names_op ht)) agH q.len (fun hm => ?_) Q))
     have hlt := s7 hm
     have := q.hi
     refine ⟨⟨H[nxi]'(by omega), by simp⟩, hnew nxi q.lo (fun j e' x hj hx => ?_)⟩
     rcases Nat.lt_trichotomy j i with g | g | g
     · exact absurd (q.old j e' nxi x g hj hx) (Nat.lt_irrefl _)
     · subst g; exact h0
     · obtain ⟨oj, hoj⟩ := len_of hj
       obtain ⟨Aj, nxj, nxj', ej, fj, qj⟩ := hat j oj (loH hj hx) hoj
       have ee : e' = ej := by have := qj.e_at; rw [hj] at this; exact Option.some.inj this
       subst ee
       obtain ⟨m1, m2, _⟩ := (qj.link.shape qj.len).2.1 nxi x hx
       exact after j (bad_fp hf q.f_at qj.f_at g (List.getElem?_eq_some_iff.1 hoj).1 hm m1 (.inr m2))
   · have hw : ¬ Region.wanted o (yielded ops a.tmps) = true := by
       rcases hgv with hgv | hgv
       · rw [← gSame j b hg] at hgv
         simp [Region.wanted, hg, guard_ok tr hgv]
       · have hgv' : guardN ops.toList T j := by
           unfold guardN at hgv ⊢
           cases hd : (ops.toList[j]?).bind (·.dst) with
           | none => rw [hd] at hgv; cases hgv
           | some t => rw [hd] at hgv; simp only [Option.bind_some] at hgv ⊢; rw [agS t (names_guard hg hd)]; exact hgv
         simp [Region.wanted, hg, guardN_ok tr hgv']
     rw [if_neg hw]
     refine next _ _ ⟨G, GExt.refl G, ?_, ?_, fun _ _ h => h⟩
     · rw [he, ← putT_tw]; exact tr.put o.dst (.tup []) undef hd (.tup rfl (fun i c v hc => by simp at hc))
     · rw [he]; exact wr
end
end Go.Proofs.Ytcajncmjlmpkgaa
