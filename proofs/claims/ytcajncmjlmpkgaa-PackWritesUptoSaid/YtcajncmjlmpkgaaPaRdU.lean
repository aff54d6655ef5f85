/- As Rd, with what the reading's bulk bounds. Own work; no condition. -/
import Derived.Test.YtcajncmjlmpkgaaRows
import Derived.Test.YtcajncmjlmpkgaaPaRd
namespace Go.Proofs.Ytcajncmjlmpkgaa
open Go Go.RowKit Go.WideShapes
open Go.Proofs.Ytcajncmjlmpkgaa.Rows (uptoBulk uptoBulkAll)
mutual
def bk : PV → Nat
 | .str s => s.size + 1
 | .sl es => bkLL es + 1
 | .agg cs => bkL cs + 1
 | .ip cs => bkL cs + 1
 | .bool _ => 1
 | .int _ _ => 1
 | .nilp => 1
 | .nilf => 1
 | .nili => 1
 | .nilm => 1
 | .fn _ _ => 1
def bkL : List PV → Nat
 | [] => 0
 | c :: r => bk c + bkL r
def bkLL : List (List PV) → Nat
 | [] => 0
 | c :: r => bkL c + bkLL r
end
theorem bkL_append : ∀ (a b : List PV), bkL (a ++ b) = bkL a + bkL b
 | [], b => by simp [bkL]
 | c :: a, b => by simp only [List.cons_append, bkL, bkL_append a b]; omega
theorem bk_pos (x : PV) : 1 ≤ bk x := by cases x <;> simp [bk]
theorem bkL_len : ∀ (l : List PV), l.length ≤ bkL l
 | [] => by simp [bkL]
 | c :: r => by simp only [bkL, List.length_cons]; have := bk_pos c; have := bkL_len r; omega
theorem bkL_mem : ∀ {l : List PV} {c : PV}, c ∈ l → bk c ≤ bkL l
 | [], _, h => by simp at h
 | a :: r, c, h => by
   simp only [bkL]
   rcases List.mem_cons.1 h with e | e
   · subst e; omega
   · have := bkL_mem e; omega
theorem bkLL_mem : ∀ {l : List (List PV)} {c : List PV}, c ∈ l → bkL c ≤ bkLL l
 | [], _, h => by simp at h
 | a :: r, c, h => by
   simp only [bkLL]
   rcases List.mem_cons.1 h with e | e
   · subst e; omega
   · have := bkLL_mem e; omega
theorem bkLL_len : ∀ (l : List (List PV)), (∀ e, e ∈ l → e ≠ []) → l.length ≤ bkLL l
 | [], _ => by simp [bkLL]
 | c :: r, h => by
   simp only [bkLL, List.length_cons]
   have h1 := bkL_len c
   have h2 : 0 < c.length := List.length_pos_iff.2 (h c (by simp))
   have := bkLL_len r (fun e he => h e (by simp [he]))
   omega
section
variable {H : Type} {enc : TypeId × Value → H} {P : Program} {w : World} {sp : Nat → Bool} {S : List TypeId}
theorem bulk_pos (d : DataW H) : 1 ≤ uptoBulk d := by
 cases d with
 | lit l => cases l <;> simp [uptoBulk]
 | _ => simp [uptoBulk]
theorem bkLL_le : ∀ {es : List (List PV)} {ds : List (DataW H)}, es.length = ds.length → (∀ (i : Nat) (c : List PV), es[i]? = some c → ∃ d, ds[i]? = some d ∧ bkL c ≤ uptoBulk d) → bkLL es ≤ uptoBulkAll ds
 | [], ds, _, _ => by simp [bkLL]
 | c :: es, [], h, _ => by simp at h
 | c :: es, d :: ds, h, f => by
   simp only [bkLL, uptoBulkAll]
   have ih := bkLL_le (es := es) (ds := ds) (by simpa using h) (fun i c hi => by
     obtain ⟨d', h1, h2⟩ := f (i + 1) c (by simpa using hi)
     exact ⟨d', by simpa using h1, h2⟩)
   obtain ⟨d', h1, h2⟩ := f 0 c rfl
   simp at h1; subst h1
   omega
theorem trodU_parts {n : Nat} {vs : List Value} (ih : ∀ t us d ps, t ∈ S → DataW.trod enc P w 0 sp true n t us = some (d, ps) → (∀ x ∈ d.weights P t, x ≤ reachBytes) → ∃ cs, RL (memOf w) cs us ∧ Fits P n t cs ∧ bkL cs ≤ uptoBulk d) :
   ∀ (fs : List Field) (off tot : Nat) (xs : List (DataW H × List MemPlace)), tile P off fs = some tot → vs.length = tot → (∀ f, f ∈ fs → f.type ∈ S) → (fs.mapM fun f => DataW.trod enc P w 0 sp true n f.type ((vs.drop f.offset).take (P.cellsOf f.type))) = some xs →
   (∀ x ∈ DataW.weightsEach P (fs.map (·.type)) (xs.map (·.1)), x ≤ reachBytes) →
   off ≤ tot ∧ ∃ cs, RL (memOf w) cs (vs.drop off) ∧ bkL cs ≤ uptoBulkAll (xs.map (·.1)) ∧ ∀ f, f ∈ fs → off ≤ f.offset ∧ Fits P n f.type ((cs.drop (f.offset - off)).take (P.cellsOf f.type)) := by
 intro fs
 induction fs with
 | nil =>
   intro off tot xs h hl _ hx _
   simp only [tile, Option.some.injEq] at h
   exact ⟨by omega, [], ⟨by simp; omega, fun i c v hc => by simp at hc⟩, by simp [bkL], fun f hf => by simp at hf⟩
 | cons f fs iht =>
   intro off tot xs h hl hS hx hw
   simp only [tile] at h
   split at h <;> try (cases h; done)
   rename_i hoff
   simp only [List.mapM_cons, Option.pure_def, Option.bind_eq_bind, Option.bind_eq_some_iff, Option.some.injEq] at hx
   obtain ⟨⟨d, ps⟩, hd, xs', hx, rfl⟩ := hx
   simp only [List.map_cons, DataW.weightsEach, List.mem_append] at hw
   obtain ⟨hle, cs, hcs, hbk, hfit⟩ := iht _ _ _ h hl (fun g hg => hS g (by simp [hg])) hx (fun x hx => hw x (.inr hx))
   obtain ⟨c1, hc1, hf1, hb1⟩ := ih _ _ d ps (hS f (by simp)) hd (fun x hx => hw x (.inl hx))
   have hlen : c1.length = P.cellsOf f.type := by rw [← hc1.1]; simp; omega
   refine ⟨by omega, c1 ++ cs, ?_, by rw [bkL_append]; simp only [List.map_cons, uptoBulkAll]; omega, fun g hg => ?_⟩
   · have e : vs.drop off = (vs.drop f.offset).take (P.cellsOf f.type) ++ vs.drop (off + P.cellsOf f.type) := by
       rw [hoff, ← List.drop_drop, List.take_append_drop]
     rw [e]; exact hc1.append hcs
   · rcases List.mem_cons.1 hg with e | e
     · subst e
       refine ⟨by omega, ?_⟩
       rw [hoff, Nat.sub_self, List.drop_zero, List.take_append_of_le_length (by omega), List.take_of_length_le (by omega)]
       exact hf1
     · obtain ⟨h1, h2⟩ := hfit g e
       refine ⟨by omega, ?_⟩
       rw [List.drop_append, List.drop_eq_nil_of_le (by omega), List.nil_append, hlen, show g.offset - off - P.cellsOf f.type = g.offset - (off + P.cellsOf f.type) by omega]
       exact h2
theorem trodU_fits (hS : plainSet P S = true) : ∀ (n : Nat) (t : TypeId) (vs : List Value) (d : DataW H) (ps : List MemPlace), t ∈ S → DataW.trod enc P w 0 sp true n t vs = some (d, ps) → (∀ x ∈ d.weights P t, x ≤ reachBytes) → ∃ cs, RL (memOf w) cs vs ∧ Fits P n t cs ∧ bkL cs ≤ uptoBulk d := by
 intro n
 induction n with
 | zero => intro t vs d ps _ h; cases h
 | succ n ih =>
   intro t vs d ps ht h hW
   have hp := plain_at hS ht
   simp only [Fits]
   simp only [DataW.trod] at h
   cases hu : P.underlying t with
   | none => rw [hu] at hp; cases hp
   | some u =>
     rw [hu] at hp
     simp only [hu] at h
     cases u <;> simp only [Bool.false_eq_true] at hp
     case bool =>
       split at h <;> try (rename_i he; cases he; done)
       all_goals try (simp at h; done)
       rename_i b _
       exact ⟨_, RL.one (.bool b), ⟨b, rfl⟩, by have bp := bulk_pos d; simp only [bkL, bk]; omega⟩
     case int k =>
       split at h <;> try (rename_i he; cases he; done)
       all_goals simp_all
       rename_i k' v _
       obtain ⟨⟨rfl, hw⟩, hd⟩ := h
       exact ⟨_, RL.one (.int k' v), ⟨v, rfl, hw⟩, by have bp := bulk_pos d; simp only [bkL, bk]; omega⟩
     case string =>
       split at h <;> try (rename_i he; cases he; done)
       all_goals try (simp at h; done)
       rename_i s _
       split at h <;> try (cases h; done)
       simp only [Option.some.injEq, Prod.mk.injEq] at h
       obtain ⟨rfl, _⟩ := h
       exact ⟨_, RL.one (.str s), ⟨s, rfl, by simpa [DataW.weights] using hW⟩, by simp [bkL, bk, uptoBulk]⟩
     case slice e =>
       simp only [Bool.and_eq_true, bne_iff_ne, ne_eq, List.contains_iff_mem] at hp
       split at h <;> try (rename_i he; cases he; done)
       all_goals try (simp at h; done)
       · exact ⟨[.sl []], RL.one (.sl0 _ _ (by simp [maxLen])), ⟨[], rfl, by simp, by simp⟩, by have bp := bulk_pos d; simp only [bkL, bkLL, bk]; omega⟩
       · rename_i e1 a len cap he
         simp only [Option.some.injEq, TypeDesc.slice.injEq] at he
         subst he
         split at h <;> try (cases h; done)
         rename_i hc
         obtain ⟨_, hlc, hcm⟩ := hc
         rw [Option.bind_eq_some_iff] at h
         obtain ⟨elems, hel, h⟩ := h
         rw [Option.map_eq_some_iff] at h
         obtain ⟨rest, _, h⟩ := h
         simp only [Prod.mk.injEq] at h
         obtain ⟨rfl, _⟩ := h
         simp only [DataW.weights, hu, List.mem_cons, List.mem_append, List.length_map] at hW
         obtain ⟨hl, hel⟩ := mapM_range hel
         have hes : ∀ i, i < len → ∃ c, ∃ us, (w.cells? 0 (a.add (i * P.cellsOf e)) (P.cellsOf e)) = some us ∧ RL (memOf w) c us ∧ Fits P n e c ∧ ∃ y, elems[i]? = some y ∧ bkL c ≤ uptoBulk y.1 := by
           intro i hi
           obtain ⟨y, hy, hey⟩ := hel i hi
           rw [Option.bind_eq_some_iff] at hy
           obtain ⟨us, hus, hy⟩ := hy
           obtain ⟨d', ps'⟩ := y
           obtain ⟨c, hc, hf, hbk⟩ := ih e us d' ps' hp.1 hy (fun x hx => hW x (.inr (.inl (mem_weightsAll i (by simp [hey]) hx))))
           exact ⟨c, us, hus, hc, hf, _, hey, hbk⟩
         obtain ⟨es, hesl, hes⟩ := choose_list len hes
         have cells : ∀ i c, es[i]? = some c → c.length = P.cellsOf e ∧ ∀ j, j < c.length → ∃ v, w.cell? ((a.add (i * P.cellsOf e)).add j) = some v ∧ ∀ x, c[j]? = some x → RP (memOf w) x v := by
           intro i c hi
           obtain ⟨us, hus, hr, _, _⟩ := hes i c hi
           simp only [World.cells?, Nat.zero_le, if_true] at hus
           obtain ⟨h1, h2⟩ := mapM_range hus
           have hcl : c.length = P.cellsOf e := by rw [← hr.1, h1]
           refine ⟨hcl, fun j hj => ?_⟩
           obtain ⟨v, hv, huv⟩ := h2 j (by omega)
           exact ⟨v, hv, fun x hx => hr.2 j x v hx huv⟩
         have hbytes : es.length * P.bytesOf e ≤ reachBytes := by
           have h1 := hW _ (.inl rfl)
           have h2 : es.length * P.bytesOf e ≤ (elems.length + rest.length) * P.bytesOf e := Nat.mul_le_mul_right _ (by omega)
           omega
         have hbk : bkLL es ≤ uptoBulkAll (elems.map (·.1)) := bkLL_le (by rw [List.length_map]; omega) (fun i c hi => by
           obtain ⟨_, _, _, _, y, hy, hb⟩ := hes i c hi
           exact ⟨y.1, by simp [hy], hb⟩)
         refine ⟨[.sl es], RL.one ?_, ⟨es, rfl, ⟨by omega, hbytes⟩, fun x hx => ?_⟩, by simp only [bkL, bk, uptoBulk]; omega⟩
         · rcases Nat.eq_zero_or_pos len with e0 | e0
           · subst e0
             have : es = [] := List.eq_nil_of_length_eq_zero hesl
             subst this
             exact .sl0 _ _ hcm
           · have hsp : a.spot = none := by
               have h0 : es[0]? = some (es[0]'(by omega)) := List.getElem?_eq_getElem _
               obtain ⟨h1, h2⟩ := cells 0 _ h0
               obtain ⟨v, hv, _⟩ := h2 0 (by omega)
               have := World.cell?_spot hv
               simpa [Addr.add] using this
             obtain ⟨b, o, s⟩ := a
             simp only at hsp; subst hsp
             refine .sl es (P.cellsOf e) b o len cap (fun i j => (memOf w b (o + i * P.cellsOf e + j)).getD undef) hesl hlc hcm (fun x hx => ?_) (fun i x j hi hj => ?_) (fun i x j c hi hj => ?_)
             · obtain ⟨i, hi⟩ := List.getElem?_of_mem hx
               exact (cells i x hi).1
             · obtain ⟨v, hv, _⟩ := (cells i x hi).2 j hj
               have : memOf w b (o + i * P.cellsOf e + j) = some v := by rw [Addr.add_lit, Addr.add_lit] at hv; exact hv
               simp [this]
             · obtain ⟨v, hv, hr⟩ := (cells i x hi).2 j (List.getElem?_eq_some_iff.1 hj).1
               have : memOf w b (o + i * P.cellsOf e + j) = some v := by rw [Addr.add_lit, Addr.add_lit] at hv; exact hv
               simp only [this, Option.getD_some]
               exact hr c hj
         · obtain ⟨i, hi⟩ := List.getElem?_of_mem hx
           obtain ⟨_, _, _, hf, _⟩ := hes i x hi
           exact ⟨(cells i x hi).1, hf⟩
     case struct fs =>
       simp only [Bool.and_eq_true, List.all_eq_true, beq_iff_eq, List.contains_iff_mem] at hp
       have h' : vs.length = P.cellsOf t ∧ ∃ xs, (fs.toList.mapM fun f => DataW.trod enc P w 0 sp true n f.type ((vs.drop f.offset).take (P.cellsOf f.type))) = some xs ∧ d = .agg (xs.map (·.1)) := by
         split at h <;> try (rename_i he; cases he; done)
         all_goals try (simp at h; done)
         all_goals try (exact ((by assumption : ∀ fs_1 : Array Field, some (TypeDesc.struct fs) = some (TypeDesc.struct fs_1) → False) fs rfl).elim)
         rename_i fs' he
         simp only [Option.some.injEq, TypeDesc.struct.injEq] at he
         subst he
         split at h <;> try (cases h; done)
         rename_i h1
         rw [Option.map_eq_some_iff] at h
         obtain ⟨xs, h2, h⟩ := h
         simp only [Prod.mk.injEq] at h
         exact ⟨h1, xs, h2, h.1.symm⟩
       obtain ⟨hl, xs, hxs, rfl⟩ := h'
       simp only [DataW.weights, hu] at hW
       obtain ⟨_, cs, hcs, hbk, hfit⟩ := trodU_parts (vs := vs) ih fs.toList 0 _ xs hp.2 hl (fun f hf => hp.1 f hf) hxs hW
       simp only [List.drop_zero] at hcs
       exact ⟨cs, hcs, ⟨by rw [← hcs.1, hl], fun f hf => by have := (hfit f hf).2; simpa using this⟩, by simp only [uptoBulk]; omega⟩
theorem readU_arg (hS : plainSet P S = true) {t : TypeId} (ht : t ∈ S) {v : Value} {d : DataW H} {ps : List MemPlace} {r : Reach} {b0 : Nat} (hv : Value.okWide P w r b0 t v) (h : DataW.Trod enc P w 0 sp true t v d ps) (hW : ∀ x ∈ d.weights P t, x ≤ reachBytes) :
   ∃ n x, RP (memOf w) x v ∧ FitsA P n t x ∧ bk x ≤ uptoBulk d + 1 := by
 obtain ⟨n, hn⟩ := h
 obtain ⟨cs, hcs, hf, hbk⟩ := trodU_fits hS n t _ d ps ht hn hW
 have hp := plain_at hS ht
 have one : v.cells = #[v] → (∀ y, cs = [y] → RP (memOf w) y v) := by
   intro hc y hy
   subst hy
   exact hcs.2 0 y v rfl (by simp [hc])
 cases n with
 | zero => exact hf.elim
 | succ n =>
   simp only [Fits] at hf
   refine ⟨n + 1, ?_⟩
   unfold FitsA
   simp only [Fits]
   cases hu : P.underlying t with
   | none => rw [hu] at hp; cases hp
   | some u =>
     rw [hu] at hp hf
     cases u <;> simp only [Bool.false_eq_true] at hp
     case bool =>
       obtain ⟨b, rfl⟩ := okWide_bool hu hv
       obtain ⟨b', rfl⟩ := hf
       exact ⟨_, one rfl _ rfl, ⟨b', rfl⟩, by simp only [bkL] at hbk; omega⟩
     case int k =>
       obtain ⟨b, rfl⟩ := okWide_int hu hv
       obtain ⟨b', rfl, hw⟩ := hf
       exact ⟨_, one rfl _ rfl, ⟨b', rfl, hw⟩, by simp only [bkL] at hbk; omega⟩
     case string =>
       obtain ⟨b, rfl⟩ := okWide_string hu hv
       obtain ⟨b', rfl, hw⟩ := hf
       exact ⟨_, one rfl _ rfl, ⟨b', rfl, hw⟩, by simp only [bkL] at hbk; omega⟩
     case slice e =>
       obtain ⟨a, l, c, rfl⟩ := okWide_slice hu hv
       obtain ⟨es, rfl, h1, h2⟩ := hf
       exact ⟨_, one rfl _ rfl, ⟨es, rfl, h1, h2⟩, by simp only [bkL] at hbk; omega⟩
     case struct fs =>
       obtain ⟨us, rfl, hl⟩ := okWide_struct hu hv
       refine ⟨.agg cs, .agg _ _ (by simpa [Value.cells] using hcs.1) (fun i c v hc hv => hcs.2 i c v hc (by simpa [Value.cells] using hv)), ⟨cs, rfl, hf⟩, by simp only [bk]; omega⟩
end
end Go.Proofs.Ytcajncmjlmpkgaa
