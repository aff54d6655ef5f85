/- What came in reads as values without a heap. Own work; no condition. -/
import Derived.Test.YtcajncmjlmpkgaaPc6
import Derived.ProofKit
import Derived.OpenShut
import Derived.ShutString
import Derived.ChangeOld
import Derived.Below
namespace Go.Proofs.Ytcajncmjlmpkgaa
open Go Go.RowKit Go.WideShapes
def memOf (w : World) : Mem := fun b o => w.cell? ⟨b, o, none⟩
def Fits (P : Program) : Nat → TypeId → List PV → Prop
 | 0, _, _ => False
 | n + 1, t, cs => match P.underlying t with
   | some .bool => ∃ b, cs = [.bool b]
   | some (.int k) => ∃ v, cs = [.int k v] ∧ (Lit.int k v).wf = true
   | some .string => ∃ s, cs = [.str s] ∧ s.size ≤ reachBytes
   | some (.slice e) => ∃ es, cs = [.sl es] ∧ (es.length ≤ maxLen ∧ es.length * P.bytesOf e ≤ reachBytes) ∧ ∀ x, x ∈ es → x.length = P.cellsOf e ∧ Fits P n e x
   | some (.struct fs) => cs.length = P.cellsOf t ∧ ∀ f, f ∈ fs.toList → Fits P n f.type ((cs.drop f.offset).take (P.cellsOf f.type))
   | _ => False
def tile (P : Program) : Nat → List Field → Option Nat
 | off, [] => some off
 | off, f :: r => if f.offset = off then tile P (off + P.cellsOf f.type) r else none
def plainSet (P : Program) (S : List TypeId) : Bool := S.all fun t => match P.underlying t with
 | some .bool | some (.int _) | some .string => true
 | some (.slice e) => S.contains e && P.cellsOf e != 0
 | some (.struct fs) => fs.toList.all (fun f => S.contains f.type) && tile P 0 fs.toList == some (P.cellsOf t)
 | _ => false
def RL (m : Mem) (cs : List PV) (vs : List Value) : Prop := vs.length = cs.length ∧ ∀ (i : Nat) c v, cs[i]? = some c → vs[i]? = some v → RP m c v
theorem RL.one {m : Mem} {c : PV} {v : Value} (h : RP m c v) : RL m [c] [v] := ⟨rfl, fun i x y hx hy => by
 cases i with
 | zero => simp at hx hy; subst hx hy; exact h
 | succ i => simp at hx⟩
theorem RL.append {m : Mem} {a b : List PV} {u v : List Value} (h : RL m a u) (k : RL m b v) : RL m (a ++ b) (u ++ v) := by
 refine ⟨by simp [h.1, k.1], fun i x y hx hy => ?_⟩
 rcases Nat.lt_or_ge i a.length with g | g
 · rw [List.getElem?_append_left g] at hx
   rw [List.getElem?_append_left (by rw [h.1]; exact g)] at hy
   exact h.2 i x y hx hy
 · rw [List.getElem?_append_right g] at hx
   rw [List.getElem?_append_right (by rw [h.1]; exact g), h.1] at hy
   exact k.2 _ x y hx hy
theorem mapM_some {α β : Type} {f : α → Option β} : ∀ {l : List α} {r : List β}, l.mapM f = some r → l.length = r.length ∧ ∀ x, x ∈ l → ∃ y, f x = some y := by
 intro l
 induction l with
 | nil => intro r h; simp at h; subst h; simp
 | cons a l ih =>
   intro r h
   simp only [List.mapM_cons, Option.pure_def, Option.bind_eq_bind, Option.bind_eq_some_iff, Option.some.injEq] at h
   obtain ⟨x, hx, xs, hxs, rfl⟩ := h
   obtain ⟨h1, h2⟩ := ih hxs
   refine ⟨by simp [h1], fun y hy => ?_⟩
   rcases List.mem_cons.1 hy with e | e
   · subst e; exact ⟨x, hx⟩
   · exact h2 y e
theorem mapM_range {β : Type} {f : Nat → Option β} {n : Nat} {r : List β} (h : (List.range n).mapM f = some r) : r.length = n ∧ ∀ i, i < n → ∃ y, f i = some y ∧ r[i]? = some y := by
 have key : ∀ {l : List Nat} {r : List β}, l.mapM f = some r → l.length = r.length ∧ ∀ (i : Nat) x, l[i]? = some x → ∃ y, f x = some y ∧ r[i]? = some y := by
   intro l
   induction l with
   | nil => intro r h; simp at h; subst h; simp
   | cons a l ih =>
     intro r h
     simp only [List.mapM_cons, Option.pure_def, Option.bind_eq_bind, Option.bind_eq_some_iff, Option.some.injEq] at h
     obtain ⟨x, hx, xs, hxs, rfl⟩ := h
     obtain ⟨h1, h2⟩ := ih hxs
     refine ⟨by simp [h1], fun i y hy => ?_⟩
     cases i with
     | zero => simp at hy; subst hy; exact ⟨x, hx, rfl⟩
     | succ i => exact h2 i y (by simpa using hy)
 obtain ⟨h1, h2⟩ := key h
 refine ⟨by simpa using h1.symm, fun i hi => h2 i i (by simp [hi])⟩
theorem choose_list {α : Type} {Q : Nat → α → Prop} : ∀ (n : Nat), (∀ i, i < n → ∃ x, Q i x) → ∃ l : List α, l.length = n ∧ ∀ (i : Nat) x, l[i]? = some x → Q i x := by
 intro n
 induction n with
 | zero => intro _; exact ⟨[], rfl, fun i x h => by simp at h⟩
 | succ n ih =>
   intro h
   obtain ⟨l, h1, h2⟩ := ih (fun i hi => h i (by omega))
   obtain ⟨x, hx⟩ := h n (by omega)
   refine ⟨l ++ [x], by simp [h1], fun i y hy => ?_⟩
   rcases Nat.lt_or_ge i n with g | g
   · rw [List.getElem?_append_left (by omega)] at hy; exact h2 i y hy
   · rw [List.getElem?_append_right (by omega)] at hy
     have : i - l.length = 0 := by
       rcases Nat.eq_zero_or_pos (i - l.length) with e | e
       · exact e
       · rw [show i - l.length = (i - l.length - 1) + 1 by omega] at hy; simp at hy
     rw [this] at hy; simp at hy; subst hy
     have : i = n := by omega
     subst this; exact hx
section
variable {H : Type} {enc : TypeId × Value → H} {P : Program} {w : World} {sp : Nat → Bool} {S : List TypeId}
theorem plain_at (hS : plainSet P S = true) {t : TypeId} (ht : t ∈ S) : (match P.underlying t with
 | some .bool | some (.int _) | some .string => true
 | some (.slice e) => S.contains e && P.cellsOf e != 0
 | some (.struct fs) => fs.toList.all (fun f => S.contains f.type) && tile P 0 fs.toList == some (P.cellsOf t)
 | _ => false) = true := List.all_eq_true.1 hS t ht
theorem mem_weightsAll {e : TypeId} {d : DataW H} {x : Nat} : ∀ {l : List (DataW H)} (i : Nat), l[i]? = some d → x ∈ d.weights P e → x ∈ DataW.weightsAll P e l := by
 intro l
 induction l with
 | nil => intro i h; simp at h
 | cons a l ih =>
   intro i h hx
   simp only [DataW.weightsAll, List.mem_append]
   cases i with
   | zero => simp at h; subst h; exact .inl hx
   | succ i => exact .inr (ih i (by simpa using h) hx)
theorem weights_at {R : Nat} : ∀ {ts : List TypeId} {ds : List (DataW H)}, (∀ x ∈ DataW.weightsEach P ts ds, x ≤ R) → ∀ (j : Nat) t d, ts[j]? = some t → ds[j]? = some d → ∀ x ∈ d.weights P t, x ≤ R := by
 intro ts
 induction ts with
 | nil => intro ds _ j t d h; simp at h
 | cons a ts ih =>
   intro ds h j t d ht hd
   cases ds with
   | nil => simp at hd
   | cons b ds =>
     simp only [DataW.weightsEach, List.mem_append] at h
     cases j with
     | zero => simp at ht hd; subst ht hd; exact fun x hx => h x (.inl hx)
     | succ j => exact ih (fun x hx => h x (.inr hx)) j t d (by simpa using ht) (by simpa using hd)
theorem trod_parts {n : Nat} {vs : List Value} (ih : ∀ t us d ps, t ∈ S → DataW.trod enc P w 0 sp true n t us = some (d, ps) → (∀ x ∈ d.weights P t, x ≤ reachBytes) → ∃ cs, RL (memOf w) cs us ∧ Fits P n t cs) :
   ∀ (fs : List Field) (off tot : Nat) (xs : List (DataW H × List MemPlace)), tile P off fs = some tot → vs.length = tot → (∀ f, f ∈ fs → f.type ∈ S) → (fs.mapM fun f => DataW.trod enc P w 0 sp true n f.type ((vs.drop f.offset).take (P.cellsOf f.type))) = some xs →
   (∀ x ∈ DataW.weightsEach P (fs.map (·.type)) (xs.map (·.1)), x ≤ reachBytes) →
   off ≤ tot ∧ ∃ cs, RL (memOf w) cs (vs.drop off) ∧ ∀ f, f ∈ fs → off ≤ f.offset ∧ Fits P n f.type ((cs.drop (f.offset - off)).take (P.cellsOf f.type)) := by
 intro fs
 induction fs with
 | nil =>
   intro off tot xs h hl _ _ _
   simp only [tile, Option.some.injEq] at h
   exact ⟨by omega, [], ⟨by simp; omega, fun i c v hc => by simp at hc⟩, fun f hf => by simp at hf⟩
 | cons f fs iht =>
   intro off tot xs h hl hS hx hw
   simp only [tile] at h
   split at h <;> try (cases h; done)
   rename_i hoff
   simp only [List.mapM_cons, Option.pure_def, Option.bind_eq_bind, Option.bind_eq_some_iff, Option.some.injEq] at hx
   obtain ⟨⟨d, ps⟩, hd, xs', hx, rfl⟩ := hx
   simp only [List.map_cons, DataW.weightsEach, List.mem_append] at hw
   obtain ⟨hle, cs, hcs, hfit⟩ := iht _ _ _ h hl (fun g hg => hS g (by simp [hg])) hx (fun x hx => hw x (.inr hx))
   obtain ⟨c1, hc1, hf1⟩ := ih _ _ d ps (hS f (by simp)) hd (fun x hx => hw x (.inl hx))
   have hlen : c1.length = P.cellsOf f.type := by rw [← hc1.1]; simp; omega
   refine ⟨by omega, c1 ++ cs, ?_, fun g hg => ?_⟩
   · have e : vs.drop off = (vs.drop f.offset).take (P.cellsOf f.type) ++ vs.drop (off + P.cellsOf f.type) := by
       rw [hoff, ← List.drop_drop, List.take_append_drop]
     rw [e]; exact hc1.append hcs
   · rcases List.mem_cons.1 hg with e | e
     · subst e
       refine ⟨by omega, ?_⟩
       rw [hoff, Nat.sub_self, List.drop_zero, List.take_append_of_le_length (by omega), List.take_of_length_le (by omega)]
       exact hf1
     · obtain ⟨h1, h2⟩ := hfit g e
       refine ⟨by omega, ?_⟩
       rw [List.drop_append, List.drop_eq_nil_of_le (by omega), List.nil_append, hlen, show g.offset - off - P.cellsOf f.type = g.offset - (off + P.cellsOf f.type) by omega]
       exact h2
theorem trod_fits (hS : plainSet P S = true) : ∀ (n : Nat) (t : TypeId) (vs : List Value) (d : DataW H) (ps : List MemPlace), t ∈ S → DataW.trod enc P w 0 sp true n t vs = some (d, ps) → (∀ x ∈ d.weights P t, x ≤ reachBytes) → ∃ cs, RL (memOf w) cs vs ∧ Fits P n t cs := by
 intro n
 induction n with
 | zero => intro t vs d ps _ h; cases h
 | succ n ih =>
   intro t vs d ps ht h hW
   have hp := plain_at hS ht
   simp only [Fits]
   simp only [DataW.trod] at h
   cases hu : P.underlying t with
   | none => rw [hu] at hp; cases hp
   | some u =>
     rw [hu] at hp
     simp only [hu] at h
     cases u <;> simp only [Bool.false_eq_true] at hp
     case bool =>
       split at h <;> try (rename_i he; cases he; done)
       all_goals try (simp at h; done)
       rename_i b _
       exact ⟨_, RL.one (.bool b), b, rfl⟩
     case int k =>
       split at h <;> try (rename_i he; cases he; done)
       all_goals simp_all
       rename_i k' v _
       obtain ⟨⟨rfl, hw⟩, _⟩ := h
       exact ⟨_, RL.one (.int k' v), v, rfl, hw⟩
     case string =>
       split at h <;> try (rename_i he; cases he; done)
       all_goals try (simp at h; done)
       rename_i s _
       split at h <;> try (cases h; done)
       simp only [Option.some.injEq, Prod.mk.injEq] at h
       obtain ⟨rfl, _⟩ := h
       exact ⟨_, RL.one (.str s), s, rfl, by simpa [DataW.weights] using hW⟩
     case slice e =>
       simp only [Bool.and_eq_true, bne_iff_ne, ne_eq, List.contains_iff_mem] at hp
       split at h <;> try (rename_i he; cases he; done)
       all_goals try (simp at h; done)
       · exact ⟨[.sl []], RL.one (.sl0 _ _ (by simp [maxLen])), [], rfl, by simp, by simp⟩
       · rename_i e1 a len cap he
         simp only [Option.some.injEq, TypeDesc.slice.injEq] at he
         subst he
         split at h <;> try (cases h; done)
         rename_i hc
         obtain ⟨_, hlc, hcm⟩ := hc
         rw [Option.bind_eq_some_iff] at h
         obtain ⟨elems, hel, h⟩ := h
         rw [Option.map_eq_some_iff] at h
         obtain ⟨rest, _, h⟩ := h
         simp only [Prod.mk.injEq] at h
         obtain ⟨rfl, _⟩ := h
         simp only [DataW.weights, hu, List.mem_cons, List.mem_append, List.length_map] at hW
         obtain ⟨hl, hel⟩ := mapM_range hel
         have hes : ∀ i, i < len → ∃ c, ∃ us, (w.cells? 0 (a.add (i * P.cellsOf e)) (P.cellsOf e)) = some us ∧ RL (memOf w) c us ∧ Fits P n e c := by
           intro i hi
           obtain ⟨y, hy, hey⟩ := hel i hi
           rw [Option.bind_eq_some_iff] at hy
           obtain ⟨us, hus, hy⟩ := hy
           obtain ⟨d', ps'⟩ := y
           obtain ⟨c, hc, hf⟩ := ih e us d' ps' hp.1 hy (fun x hx => hW x (.inr (.inl (mem_weightsAll i (by simp [hey]) hx))))
           exact ⟨c, us, hus, hc, hf⟩
         obtain ⟨es, hesl, hes⟩ := choose_list len hes
         have cells : ∀ i c, es[i]? = some c → c.length = P.cellsOf e ∧ ∀ j, j < c.length → ∃ v, w.cell? ((a.add (i * P.cellsOf e)).add j) = some v ∧ ∀ x, c[j]? = some x → RP (memOf w) x v := by
           intro i c hi
           obtain ⟨us, hus, hr, _⟩ := hes i c hi
           simp only [World.cells?, Nat.zero_le, if_true] at hus
           obtain ⟨h1, h2⟩ := mapM_range hus
           have hcl : c.length = P.cellsOf e := by rw [← hr.1, h1]
           refine ⟨hcl, fun j hj => ?_⟩
           obtain ⟨v, hv, huv⟩ := h2 j (by omega)
           exact ⟨v, hv, fun x hx => hr.2 j x v hx huv⟩
         have hbytes : es.length * P.bytesOf e ≤ reachBytes := by
           have h1 := hW _ (.inl rfl)
           have h2 : es.length * P.bytesOf e ≤ (elems.length + rest.length) * P.bytesOf e := Nat.mul_le_mul_right _ (by omega)
           omega
         refine ⟨[.sl es], RL.one ?_, es, rfl, ⟨by omega, hbytes⟩, fun x hx => ?_⟩
         · rcases Nat.eq_zero_or_pos len with e0 | e0
           · subst e0
             have : es = [] := List.eq_nil_of_length_eq_zero hesl
             subst this
             exact .sl0 _ _ hcm
           · have hsp : a.spot = none := by
               have h0 : es[0]? = some (es[0]'(by omega)) := List.getElem?_eq_getElem _
               obtain ⟨h1, h2⟩ := cells 0 _ h0
               obtain ⟨v, hv, _⟩ := h2 0 (by omega)
               have := World.cell?_spot hv
               simpa [Addr.add] using this
             obtain ⟨b, o, s⟩ := a
             simp only at hsp; subst hsp
             refine .sl es (P.cellsOf e) b o len cap (fun i j => (memOf w b (o + i * P.cellsOf e + j)).getD undef) hesl hlc hcm (fun x hx => ?_) (fun i x j hi hj => ?_) (fun i x j c hi hj => ?_)
             · obtain ⟨i, hi⟩ := List.getElem?_of_mem hx
               exact (cells i x hi).1
             · obtain ⟨v, hv, _⟩ := (cells i x hi).2 j hj
               have : memOf w b (o + i * P.cellsOf e + j) = some v := by rw [Addr.add_lit, Addr.add_lit] at hv; exact hv
               simp [this]
             · obtain ⟨v, hv, hr⟩ := (cells i x hi).2 j (List.getElem?_eq_some_iff.1 hj).1
               have : memOf w b (o + i * P.cellsOf e + j) = some v := by rw [Addr.add_lit, Addr.add_lit] at hv; exact hv
               simp only [this, Option.getD_some]
               exact hr c hj
         · obtain ⟨i, hi⟩ := List.getElem?_of_mem hx
           obtain ⟨_, _, _, hf⟩ := hes i x hi
           exact ⟨(cells i x hi).1, hf⟩
     case struct fs =>
       simp only [Bool.and_eq_true, List.all_eq_true, beq_iff_eq, List.contains_iff_mem] at hp
       have h' : vs.length = P.cellsOf t ∧ ∃ xs, (fs.toList.mapM fun f => DataW.trod enc P w 0 sp true n f.type ((vs.drop f.offset).take (P.cellsOf f.type))) = some xs ∧ d = .agg (xs.map (·.1)) := by
         split at h <;> try (rename_i he; cases he; done)
         all_goals try (simp at h; done)
         all_goals try (exact ((by assumption : ∀ fs_1 : Array Field, some (TypeDesc.struct fs) = some (TypeDesc.struct fs_1) → False) fs rfl).elim)
         rename_i fs' he
         simp only [Option.some.injEq, TypeDesc.struct.injEq] at he
         subst he
         split at h <;> try (cases h; done)
         rename_i h1
         rw [Option.map_eq_some_iff] at h
         obtain ⟨xs, h2, h⟩ := h
         simp only [Prod.mk.injEq] at h
         exact ⟨h1, xs, h2, h.1.symm⟩
       obtain ⟨hl, xs, hxs, rfl⟩ := h'
       simp only [DataW.weights, hu] at hW
       obtain ⟨_, cs, hcs, hfit⟩ := trod_parts (vs := vs) ih fs.toList 0 _ xs hp.2 hl (fun f hf => hp.1 f hf) hxs hW
       simp only [List.drop_zero] at hcs
       exact ⟨cs, hcs, by rw [← hcs.1, hl], fun f hf => by have := (hfit f hf).2; simpa using this⟩
def FitsA (P : Program) (n : Nat) (t : TypeId) (x : PV) : Prop :=
 match P.underlying t with
 | some (.struct _) => ∃ cs, x = .agg cs ∧ Fits P n t cs
 | _ => Fits P n t [x]
theorem read_arg (hS : plainSet P S = true) {t : TypeId} (ht : t ∈ S) {v : Value} {d : DataW H} {ps : List MemPlace} {r : Reach} {b0 : Nat} (hv : Value.okWide P w r b0 t v) (h : DataW.Trod enc P w 0 sp true t v d ps) (hW : ∀ x ∈ d.weights P t, x ≤ reachBytes) :
   ∃ n x, RP (memOf w) x v ∧ FitsA P n t x := by
 obtain ⟨n, hn⟩ := h
 obtain ⟨cs, hcs, hf⟩ := trod_fits hS n t _ d ps ht hn hW
 have hp := plain_at hS ht
 have one : v.cells = #[v] → (∀ y, cs = [y] → RP (memOf w) y v) := by
   intro hc y hy
   subst hy
   exact hcs.2 0 y v rfl (by simp [hc])
 cases n with
 | zero => exact hf.elim
 | succ n =>
   simp only [Fits] at hf
   refine ⟨n + 1, ?_⟩
   unfold FitsA
   simp only [Fits]
   cases hu : P.underlying t with
   | none => rw [hu] at hp; cases hp
   | some u =>
     rw [hu] at hp hf
     cases u <;> simp only [Bool.false_eq_true] at hp
     case bool =>
       obtain ⟨b, rfl⟩ := okWide_bool hu hv
       obtain ⟨b', rfl⟩ := hf
       exact ⟨_, one rfl _ rfl, b', rfl⟩
     case int k =>
       obtain ⟨b, rfl⟩ := okWide_int hu hv
       obtain ⟨b', rfl, hw⟩ := hf
       exact ⟨_, one rfl _ rfl, b', rfl, hw⟩
     case string =>
       obtain ⟨b, rfl⟩ := okWide_string hu hv
       obtain ⟨b', rfl, hw⟩ := hf
       exact ⟨_, one rfl _ rfl, b', rfl, hw⟩
     case slice e =>
       obtain ⟨a, l, c, rfl⟩ := okWide_slice hu hv
       obtain ⟨es, rfl, h1, h2⟩ := hf
       exact ⟨_, one rfl _ rfl, es, rfl, h1, h2⟩
     case struct fs =>
       obtain ⟨us, rfl, hl⟩ := okWide_struct hu hv
       refine ⟨.agg cs, .agg _ _ (by simpa [Value.cells] using hcs.1) (fun i c v hc hv => hcs.2 i c v hc (by simpa [Value.cells] using hv)), cs, rfl, hf⟩
end
theorem Fits.int {P : Program} {n : Nat} {t : TypeId} {cs : List PV} {k : IntKind} (h : Fits P n t cs) (hu : P.underlying t = some (.int k)) : ∃ v, cs = [.int k v] ∧ (Lit.int k v).wf = true := by
 cases n with
 | zero => exact h.elim
 | succ n => simp only [Fits, hu] at h; exact h
theorem Fits.str {P : Program} {n : Nat} {t : TypeId} {cs : List PV} (h : Fits P n t cs) (hu : P.underlying t = some .string) : ∃ s, cs = [.str s] ∧ s.size ≤ reachBytes := by
 cases n with
 | zero => exact h.elim
 | succ n => simp only [Fits, hu] at h; exact h
theorem Fits.bool {P : Program} {n : Nat} {t : TypeId} {cs : List PV} (h : Fits P n t cs) (hu : P.underlying t = some .bool) : ∃ b, cs = [.bool b] := by
 cases n with
 | zero => exact h.elim
 | succ n => simp only [Fits, hu] at h; exact h
theorem Fits.slice {P : Program} {n : Nat} {t e : TypeId} {cs : List PV} (h : Fits P n t cs) (hu : P.underlying t = some (.slice e)) : ∃ m es, n = m + 1 ∧ cs = [.sl es] ∧ (es.length ≤ maxLen ∧ es.length * P.bytesOf e ≤ reachBytes) ∧ ∀ x, x ∈ es → x.length = P.cellsOf e ∧ Fits P m e x := by
 cases n with
 | zero => exact h.elim
 | succ n => simp only [Fits, hu] at h; obtain ⟨es, h1, h2, h3⟩ := h; exact ⟨n, es, rfl, h1, h2, h3⟩
theorem Fits.struct {P : Program} {n : Nat} {t : TypeId} {cs : List PV} {fs : Array Field} (h : Fits P n t cs) (hu : P.underlying t = some (.struct fs)) :
   ∃ m, n = m + 1 ∧ cs.length = P.cellsOf t ∧ ∀ (i : Nat) f, fs[i]? = some f → Fits P m f.type ((cs.drop f.offset).take (P.cellsOf f.type)) := by
 cases n with
 | zero => exact h.elim
 | succ n =>
   simp only [Fits, hu] at h
   exact ⟨n, rfl, h.1, fun i f hf => h.2 f (by rw [← Array.getElem?_toList] at hf; exact List.mem_of_getElem? hf)⟩
theorem FitsA.one {P : Program} {n : Nat} {t : TypeId} {x : PV} {u : TypeDesc} (h : FitsA P n t x) (hu : P.underlying t = some u) (hs : isAg u = false) : Fits P n t [x] := by
 unfold FitsA at h
 rw [hu] at h
 cases u <;> first | exact h | simp [isAg] at hs
theorem FitsA.agg {P : Program} {n : Nat} {t : TypeId} {x : PV} {fs : Array Field} (h : FitsA P n t x) (hu : P.underlying t = some (.struct fs)) : ∃ cs, x = .agg cs ∧ Fits P n t cs := by
 unfold FitsA at h
 rw [hu] at h; exact h
theorem law_walk {P : Program} {f : FuncId} {args : List PV} {vals : List Value} {W : World} (hc : callable P f = true) (h : PCall P f args fun r => r = [.bool true]) (hv : RL (memOf W) args vals) :
   Calls P f vals.toArray W fun e w' => e = .returned (.bool true) ∧ Below W.heap.size W w' := by
 refine ((h.run (memOf W) W vals (fun _ _ _ h => h) hv).calls hc).mono ?_
 rintro e w' ⟨v, rs, m', rfl, e2, _, _, _, e6, rfl⟩
 refine ⟨?_, e6⟩
 have := p_bool e2
 rw [this]
end Go.Proofs.Ytcajncmjlmpkgaa
