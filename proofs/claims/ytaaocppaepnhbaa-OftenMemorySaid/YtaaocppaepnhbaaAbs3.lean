/- Operations that only read: what they give on abstract values, and that the model gives the same. Own work; no condition. -/
import Derived.Test.YtaaocppaepnhbaaAbs2
namespace Go.Proofs.Ytaaocppaepnhbaa
open Go Go.RowKit

/-! ### loads -/
def ldV (H : List AObj) (ti : TI) : AV → Option AV
  | .ref id off => match H[id]? with
    | some (.cells cs) => if ti.agg then (if off + ti.size ≤ cs.length then some (.agg ((cs.drop off).take ti.size)) else none) else cs[off]?
    | _ => none
  | .p (.ip cs) => if ti.agg then (if ti.size ≤ cs.length then some (.p (.agg (cs.take ti.size))) else none) else (cs[0]?).map .p
  | _ => none

theorem run_loadVar_agg {P : Program} {t : TypeId} {ti : TI} {i : TypeInfo} {d : TypeDesc} {z : Value} (k : TOk P t ti i d z) (w : World) (ha : ti.agg = true) (b o : Nat) (vs : List Value) (hl : vs.length = ti.size)
    (h : ∀ (j : Nat) v, vs[j]? = some v → w.cell? ⟨b, o + j, none⟩ = some v) : (loadVar t ⟨b, o, none⟩).run P w = .ok (.agg vs.toArray) w := by
  have hc := run_loadCells_list (P := P) w ⟨b, o, none⟩ vs (fun j v hv => by rw [Addr.add_lit]; exact h j v hv)
  rw [hl] at hc
  simp only [loadVar, Sem.run_bind, k.run_agg, Result.andThen_ok, ha, if_true, k.run_size, hc, Sem.run_pure]

theorem run_loadVar_one {P : Program} {t : TypeId} {ti : TI} {i : TypeInfo} {d : TypeDesc} {z : Value} (k : TOk P t ti i d z) (w : World) (ha : ti.agg = false) (a : Addr) (v : Value) (h : w.cell? a = some v) :
    (loadVar t a).run P w = .ok v w := by
  simp [loadVar, k.run_agg, ha, h]

theorem ldV_ok {P : Program} {t : TypeId} {ti : TI} (k : tinfo P t = some ti) {B : Base} {G : Ghost} {H : List AObj} {w : World} (wr : WR B G H w) {p x : AV} {pv : Value} (rp : RV G p pv)
    (h : ldV H ti p = some x) : ∃ v, (Instr.loadAt t pv).run P w = .ok v w ∧ RV G x v := by
  obtain ⟨i, d, z, k⟩ := tinfo_ok k
  unfold ldV at h
  split at h
  · rename_i id off
    split at h
    · rename_i cs hcs
      obtain ⟨b, arr, ty, h1, h2, h3, h4, h5⟩ := wr.objs id _ hcs
      cases rp with
      | @ref _ b' _ hb =>
        rw [h1] at hb; simp only [Option.some.injEq, GO.box.injEq] at hb; subst hb
        split at h
        · rename_i ha
          split at h
          · rename_i hle
            simp only [Option.some.injEq] at h; subst h
            have hlen : ((arr.toList.drop off).take ti.size).length = ti.size := by simp [h3]; omega
            refine ⟨.agg ((arr.toList.drop off).take ti.size).toArray, ?_, ?_⟩
            · simp only [Instr.loadAt, Instr.sureAddr, Sem.run_bind, Sem.run_pure, Result.andThen_ok]
              refine run_loadVar_agg k w ha b off _ hlen (fun j v hv => ?_)
              rw [cell_of_row w b (off + j) arr ty (0, 0) h2]
              rw [List.getElem?_take] at hv
              split at hv
              · simpa [List.getElem?_drop] using hv
              · cases hv
            · refine .agg (by simp [h3]) (fun j c v hc hv => ?_)
              rw [List.getElem?_take] at hc
              split at hc
              · rw [List.getElem?_drop] at hc
                refine h4 (off + j) c v hc ?_
                rename_i hj
                simpa [hj, List.getElem?_drop, List.getElem?_take] using hv
              · cases hc
          · cases h
        · rename_i ha
          have ha' : ti.agg = false := by simpa using ha
          have hlt : off < arr.size := by
            rcases Nat.lt_or_ge off cs.length with g | g
            · omega
            · simp [List.getElem?_eq_none g] at h
          refine ⟨arr[off], ?_, h4 off x _ h (by simp [hlt])⟩
          simp only [Instr.loadAt, Instr.sureAddr, Sem.run_bind, Sem.run_pure, Result.andThen_ok]
          exact run_loadVar_one k w ha' _ _ (by rw [cell_of_row w b off arr ty (0, 0) h2]; simp [hlt])
    · cases h
  · rename_i cs
    cases rp with
    | p hp =>
      cases hp with
      | ip _ b o vs hm hr =>
        split at h
        · rename_i ha
          split at h
          · rename_i hle
            simp only [Option.some.injEq] at h; subst h
            refine ⟨.agg ((List.range ti.size).map vs).toArray, ?_, .p (.agg _ _ (by simp; omega) (fun j c v hc hv => ?_))⟩
            · simp only [Instr.loadAt, Instr.sureAddr, Sem.run_bind, Sem.run_pure, Result.andThen_ok]
              refine run_loadVar_agg k w ha b o _ (by simp) (fun j v hv => ?_)
              rw [List.getElem?_map, Option.map_eq_some_iff] at hv
              obtain ⟨j', hj', rfl⟩ := hv
              rw [List.getElem?_eq_some_iff] at hj'
              obtain ⟨hlt, hj'⟩ := hj'
              simp at hlt hj'
              subst hj'
              exact wr.mem b (o + j) _ (hm j (by omega))
            · rw [List.getElem?_take] at hc
              split at hc
              · rename_i hj
                have : v = vs j := by simp [hj] at hv; exact hv.symm
                subst this
                exact hr j c hc
              · cases hc
          · cases h
        · rename_i ha
          have ha' : ti.agg = false := by simpa using ha
          rw [Option.map_eq_some_iff] at h
          obtain ⟨c, hc, rfl⟩ := h
          have hlt : 0 < cs.length := by
            rcases Nat.eq_zero_or_pos cs.length with g | g
            · simp [List.eq_nil_of_length_eq_zero g] at hc
            · exact g
          refine ⟨vs 0, ?_, .p (hr 0 c hc)⟩
          simp only [Instr.loadAt, Instr.sureAddr, Sem.run_bind, Sem.run_pure, Result.andThen_ok]
          exact run_loadVar_one k w ha' _ _ (wr.mem b (o + 0) _ (hm 0 hlt))
  · cases h

/-! ### addresses of fields and elements -/
def faV (ti : TI) (f : Nat) : AV → Option AV
  | .ref id off => match ti.kind with
    | .fields l => match l[f]? with
      | some (o, s, _) => if s = 0 then none else some (.ref id (off + o))
      | none => none
    | _ => none
  | .p (.ip cs) => match ti.kind with
    | .fields l => match l[f]? with
      | some (o, s, _) => if s = 0 then none else some (.p (.ip (cs.drop o)))
      | none => none
    | _ => none
  | _ => none

theorem RP.ip_drop {m : Mem} {cs : List PV} {b o : Nat} (n : Nat) (h : RP m (.ip cs) (.pointer (some ⟨b, o, none⟩))) : RP m (.ip (cs.drop n)) (.pointer (some ⟨b, o + n, none⟩)) := by
  cases h with
  | ip _ _ _ vs hm hr =>
    refine .ip _ b (o + n) (fun i => vs (n + i)) (fun i hi => ?_) (fun i c hc => ?_)
    · have := hm (n + i) (by simp at hi; omega)
      rw [Nat.add_assoc]; exact this
    · rw [List.getElem?_drop] at hc; exact hr _ _ hc

theorem info_of_cells {P : Program} {t : TypeId} (h : P.cellsOf t ≠ 0) : ∃ i, P.info? t = some i := by
  unfold Program.cellsOf at h
  cases hi : P.info? t with
  | none => simp [hi] at h
  | some i => exact ⟨i, rfl⟩

theorem run_sizeOf' {P : Program} {t : TypeId} (h : P.cellsOf t ≠ 0) (w : World) : (sizeOf t).run P w = .ok (P.cellsOf t) w := by
  obtain ⟨i, hi⟩ := info_of_cells h
  exact run_sizeOf w hi

theorem faV_ok {P : Program} {t : TypeId} {ti : TI} (k : tinfo P t = some ti) {G : Ghost} (w : World) {f : Nat} {p x : AV} {pv : Value} (rp : RV G p pv)
    (h : faV ti f p = some x) : ∃ v, (Instr.fieldAt t pv f).run P w = .ok v w ∧ RV G x v := by
  obtain ⟨i, d, z, k⟩ := tinfo_ok k
  have key : ∀ l o s g, ti.kind = .fields l → l[f]? = some (o, s, g) → s ≠ 0 → ∀ b off, (Instr.fieldAt t (.pointer (some ⟨b, off, none⟩)) f).run P w = .ok (.pointer (some ⟨b, off + o, none⟩)) w := by
    intro l o s g hk hl hs b off
    have hd := k.kind
    rw [hk] at hd
    cases d <;> simp only [tkind, reduceCtorEq, TK.fields.injEq] at hd
    rename_i fs
    subst hd
    rw [List.getElem?_map, Option.map_eq_some_iff] at hl
    obtain ⟨fd, hfd, he⟩ := hl
    simp only [Prod.mk.injEq] at he
    obtain ⟨rfl, rfl, rfl⟩ := he
    have hfd' : fs[f]? = some fd := by simpa using hfd
    simp [Instr.fieldAt, Instr.sureAddr, fieldPlace, k.run_und, hfd', run_sizeOf' hs, hs, Addr.add_lit]
  unfold faV at h
  split at h
  · split at h
    · rename_i l hk
      split at h
      · rename_i o s g hl
        split at h
        · cases h
        · rename_i hs
          simp only [Option.some.injEq] at h; subst h
          cases rp with
          | ref off ho => exact ⟨_, key l o s g hk hl hs _ _, .ref _ ho⟩
      · cases h
    · cases h
  · split at h
    · rename_i l hk
      split at h
      · rename_i o s g hl
        split at h
        · cases h
        · rename_i hs
          simp only [Option.some.injEq] at h; subst h
          cases rp with
          | p hp =>
            have hp' := hp
            cases hp with
            | ip _ b off vs hm hr => exact ⟨_, key l o s g hk hl hs _ _, .p (hp'.ip_drop o)⟩
      · cases h
    · cases h
  · cases h

/-- The elements that a slice has, if they can be read off it. -/
def elemsV : AV → Option (List (List PV))
  | .p (.sl es) => some es
  | .tok _ es => some es
  | .full es => some es
  | .rtok _ _ _ l => some l
  | .nils n => some (List.replicate n [.sl []])
  | _ => none

theorem RP.ofNils {m : Mem} {n : Nat} {v : Value} (h : ∃ b, v = .slice (some ⟨b, 0, none⟩) n n ∧ n ≤ maxLen ∧ ∀ i, i < n → m b i = some (.slice none 0 0)) : RP m (.sl (List.replicate n [.sl []])) v := by
  obtain ⟨b, rfl, hn, hm⟩ := h
  have key : ∀ (i : Nat) e, (List.replicate n [PV.sl []])[i]? = some e → i < n ∧ e = [.sl []] := fun i e he => by
    rw [List.getElem?_replicate] at he
    split at he <;> simp at he
    exact ⟨by assumption, he.symm⟩
  refine .sl _ 1 b 0 n n (fun _ _ => .slice none 0 0) (by simp) (Nat.le_refl _) hn (fun e he => by rw [(List.mem_replicate.1 he).2]; rfl) (fun i e j he hj => ?_) (fun i e j c he hc => ?_)
  · obtain ⟨h1, rfl⟩ := key i e he
    simp at hj; subst hj
    simpa using hm i h1
  · obtain ⟨h1, rfl⟩ := key i e he
    cases j with
    | zero => simp at hc; subst hc; exact .sl0 _ _ (Nat.zero_le _)
    | succ j => simp at hc

theorem elemsV_ok {G : Ghost} {x : AV} {v : Value} {es : List (List PV)} (r : RV G x v) (h : elemsV x = some es) : RP G.mem (.sl es) v := by
  unfold elemsV at h
  split at h
  · simp only [Option.some.injEq] at h; subst h; cases r with | p hp => exact hp
  · simp only [Option.some.injEq] at h; subst h; cases r with | tok hp => exact hp
  · simp only [Option.some.injEq] at h; subst h; cases r with | full hp => exact hp
  · simp only [Option.some.injEq] at h; subst h; cases r with | rtok hp => exact hp
  · simp only [Option.some.injEq] at h; subst h; cases r with | nils hn => exact RP.ofNils hn
  · cases h

def iaV (ti : TI) (x : AV) (i : AV) : Option AV :=
  match ti.kind, i with
  | .slice _ es _, .p (.int _ n) => match x with
    | .ms id len => if 0 ≤ n ∧ n < len ∧ es ≠ 0 then some (.ref id (n.toNat * es)) else none
    | x => match elemsV x with
      | some l => match l[n.toNat]? with
        | some e => if 0 ≤ n ∧ e.length = es ∧ es ≠ 0 then some (.p (.ip e)) else none
        | none => none
      | none => none
  | .array len es _, .p (.int _ n) => match x with
    | .ref id off => if 0 ≤ n ∧ n < len ∧ es ≠ 0 then some (.ref id (off + n.toNat * es)) else none
    | .p (.ip cs) => if 0 ≤ n ∧ n < len ∧ es ≠ 0 then some (.p (.ip (cs.drop (n.toNat * es)))) else none
    | _ => none
  | _, _ => none

theorem RP.elem {m : Mem} {es : List (List PV)} {v : Value} (h : RP m (.sl es) v) {i : Nat} {e : List PV} (hi : es[i]? = some e) :
    ∃ b o len cap, v = .slice (some ⟨b, o, none⟩) len cap ∧ i < len ∧ len = es.length ∧ RP m (.ip e) (.pointer (some ⟨b, o + i * e.length, none⟩)) := by
  cases h with
  | sl0 => simp at hi
  | sl _ size b o len cap vs hlen hcap hmax hsz hm hr =>
    have hlt : i < es.length := (List.getElem?_eq_some_iff.1 hi).1
    have hs : e.length = size := hsz e (List.mem_of_getElem? hi)
    refine ⟨b, o, len, cap, rfl, by omega, hlen.symm, ?_⟩
    refine .ip e b _ (fun j => vs i j) (fun j hj => ?_) (fun j c hc => hr i e j c hi hc)
    rw [hs]; exact hm i e j hi hj

theorem iaV_ok {P : Program} {t : TypeId} {ti : TI} (k : tinfo P t = some ti) {G : Ghost} (w : World) {p i x : AV} {pv iv : Value} (rp : RV G p pv) (ri : RV G i iv)
    (h : iaV ti p i = some x) : ∃ v, (Instr.indexAt t pv iv).run P w = .ok v w ∧ RV G x v := by
  obtain ⟨i, d, z, k⟩ := tinfo_ok k
  unfold iaV at h
  split at h
  · rename_i e es eb ik n hk
    cases ri with
    | p hri =>
    cases hri
    have hd := k.kind
    rw [hk] at hd
    cases d <;> simp only [tkind, reduceCtorEq, TK.slice.injEq] at hd
    obtain ⟨rfl, rfl, _⟩ := hd
    have und := k.run_und w
    split at h
    · rename_i id len
      split at h
      · rename_i hc
        simp only [Option.some.injEq] at h; subst h
        cases rp with
        | ms ho hn =>
          refine ⟨_, ?_, .ref _ ho⟩
          simp [Instr.indexAt, asIntOf, und, hc.1, hc.2.1, run_sizeOf' hc.2.2, Addr.add_lit]
      · cases h
    · split at h
      · rename_i l hl
        split at h
        · rename_i e' he
          split at h
          · rename_i hc
            simp only [Option.some.injEq] at h; subst h
            obtain ⟨b, o, len, cap, rfl, hlt, hle, hr⟩ := (elemsV_ok rp hl).elem he
            have hlt' : n < (len : Int) := by omega
            refine ⟨_, ?_, .p hr⟩
            simp [Instr.indexAt, asIntOf, und, hc.1, hlt', run_sizeOf' hc.2.2, Addr.add_lit, hc.2.1]
          · cases h
        · cases h
      · cases h
  · rename_i len es ag ik n hk
    cases ri with
    | p hri =>
    cases hri
    have hd := k.kind
    rw [hk] at hd
    cases d <;> simp only [tkind, reduceCtorEq, TK.array.injEq] at hd
    obtain ⟨rfl, rfl, _⟩ := hd
    have und := k.run_und w
    split at h
    · split at h
      · rename_i hc
        simp only [Option.some.injEq] at h; subst h
        cases rp with
        | ref off ho =>
          refine ⟨_, ?_, .ref _ ho⟩
          simp [Instr.indexAt, Instr.sureAddr, asIntOf, und, hc.1, hc.2.1, run_sizeOf' hc.2.2, Addr.add_lit]
      · cases h
    · split at h
      · rename_i hc
        simp only [Option.some.injEq] at h; subst h
        cases rp with
        | p hp =>
          have hp' := hp
          cases hp with
          | ip _ b off vs hm hr =>
            refine ⟨_, ?_, .p (hp'.ip_drop _)⟩
            simp [Instr.indexAt, Instr.sureAddr, asIntOf, und, hc.1, hc.2.1, run_sizeOf' hc.2.2, Addr.add_lit]
      · cases h
    · cases h
  · cases h
end Go.Proofs.Ytaaocppaepnhbaa
