/- Parts of texts and lists, parts of tuples and structs, comparing structs; all reading operations under one name: 'vop'. Own work; no condition. -/
import Derived.Test.YtaaocppaepnhbaaAbs4
namespace Go.Proofs.Ytaaocppaepnhbaa
open Go Go.RowKit

def intO : Option AV → Option (Option Int)
  | none => some none
  | some (.p (.int _ n)) => some (some n)
  | _ => none

def slV (ti : TI) (x : AV) (lo hi : Option Int) : Option AV :=
  match ti.kind with
  | .str => match x with
    | .p (.str s) => if 0 ≤ lo.getD 0 ∧ lo.getD 0 ≤ hi.getD s.size ∧ hi.getD s.size ≤ s.size then some (.p (.str (s.extract (lo.getD 0).toNat (hi.getD s.size).toNat))) else none
    | _ => none
  | .slice _ es _ => match elemsV x with
    | some l => if 0 ≤ lo.getD 0 ∧ lo.getD 0 ≤ hi.getD l.length ∧ hi.getD l.length ≤ l.length ∧ l.all (fun e => e.length == es) ∧ es ≠ 0 then
        some (.p (.sl ((l.drop (lo.getD 0).toNat).take ((hi.getD l.length).toNat - (lo.getD 0).toNat)))) else none
    | none => none
  | _ => none

theorem RP.sub {m : Mem} {l : List (List PV)} {a : Option Addr} {len cap es lo hi : Nat} (h : RP m (.sl l) (.slice a len cap)) (hes : ∀ e, e ∈ l → e.length = es) (h1 : lo ≤ hi) (h2 : hi ≤ l.length) :
    len = l.length ∧ len ≤ cap ∧ RP m (.sl ((l.drop lo).take (hi - lo))) (.slice (if cap = lo then a else a.map (·.add (lo * es))) (hi - lo) (cap - lo)) := by
  cases h with
  | sl0 a cap hc =>
    simp at h2
    have h3 : hi = 0 := by omega
    subst h3
    have h4 : lo = 0 := by omega
    subst h4
    exact ⟨rfl, by omega, by simpa using RP.sl0 _ _ (by omega)⟩
  | sl _ size b o len cap vs hlen hcap hmax hsz hm hr =>
    refine ⟨hlen.symm, hcap, ?_⟩
    by_cases hz : hi - lo = 0
    · rw [hz]; simpa using RP.sl0 _ _ (by omega)
    · have hne : ¬ cap = lo := by omega
      rw [if_neg hne]
      simp only [Option.map_some, Addr.add_lit]
      have hsize : size = es := by
        have hlt : lo < l.length := by omega
        rw [← hsz _ (List.getElem_mem hlt), hes _ (List.getElem_mem hlt)]
      subst hsize
      refine .sl _ size b (o + lo * size) (hi - lo) (cap - lo) (fun i j => vs (lo + i) j) (by simp; omega) (by omega) (by omega) (fun e he => hsz e (List.mem_of_mem_drop (List.mem_of_mem_take he))) (fun i e j hi' hj => ?_) (fun i e j c hi' hc => ?_)
      · rw [List.getElem?_take] at hi'
        split at hi'
        · rw [List.getElem?_drop] at hi'
          have := hm (lo + i) e j hi' hj
          rw [← this, Nat.add_mul]; congr 1; omega
        · cases hi'
      · rw [List.getElem?_take] at hi'
        split at hi'
        · rw [List.getElem?_drop] at hi'
          exact hr (lo + i) e j c hi' hc
        · cases hi'

theorem slV_ok {P : Program} {t : TypeId} {ti : TI} (k : tinfo P t = some ti) {G : Ghost} (w : World) {x y : AV} {xv : Value} {lo hi : Option Int} {lov hiv : Option Value} (rx : RV G x xv)
    (hlo : ∀ v, lov = some v → ∃ q n, v = .int q n ∧ lo = some n) (hlo' : lov = none → lo = none) (hhi : ∀ v, hiv = some v → ∃ q n, v = .int q n ∧ hi = some n) (hhi' : hiv = none → hi = none)
    (h : slV ti x lo hi = some y) : ∃ v, (Instr.sliceAt t xv lov hiv none).run P w = .ok v w ∧ RV G y v := by
  obtain ⟨i, d, z, k⟩ := tinfo_ok k
  have hd := k.kind
  have bound : ∀ (q : IntKind) (n : Int) (y : Nat) (code : BoundsCode), 0 ≤ n → n ≤ y → (Instr.sliceBound (.int q n) y code).run P w = .ok n.toNat w := by
    intro q n y code h1 h2
    simp [Instr.sliceBound, asIntOf, h1, h2]
  have bounds : ∀ (isS : Bool) (len cap : Nat), len ≤ cap → 0 ≤ lo.getD 0 → lo.getD 0 ≤ hi.getD len → hi.getD len ≤ len → (Instr.sliceBounds isS len cap lov hiv none).run P w = .ok ((lo.getD 0).toNat, (hi.getD len).toNat, cap) w := by
    intro isS len cap hc h1 h2 h3
    cases hiv with
    | none =>
      have e := hhi' rfl
      subst e
      cases lov with
      | none =>
        have e := hlo' rfl
        subst e
        simp [Instr.sliceBounds]
      | some v =>
        obtain ⟨q, n, rfl, rfl⟩ := hlo v rfl
        simp only [Option.getD_some, Option.getD_none] at h1 h2 h3
        simp [Instr.sliceBounds, bound q n len _ h1 h2]
    | some u =>
      obtain ⟨q', n', rfl, rfl⟩ := hhi u rfl
      simp only [Option.getD_some] at h2 h3
      cases lov with
      | none =>
        have e := hlo' rfl
        subst e
        simp only [Option.getD_none] at h1 h2
        simp [Instr.sliceBounds, bound q' n' cap _ h2 (by omega)]
      | some v =>
        obtain ⟨q, n, rfl, rfl⟩ := hlo v rfl
        simp only [Option.getD_some] at h1 h2
        simp [Instr.sliceBounds, bound q' n' cap _ (by omega) (by omega), bound q n n'.toNat _ h1 (by omega)]
  unfold slV at h
  split at h
  · rename_i hk
    rw [hk] at hd
    cases d <;> simp only [tkind, reduceCtorEq] at hd
    split at h <;> try (cases h; done)
    rename_i s
    split at h <;> try (cases h; done)
    rename_i hc
    simp only [Option.some.injEq] at h; subst h
    cases rx with
    | p hp =>
    cases hp
    refine ⟨_, ?_, .p (.str _)⟩
    simp only [Instr.sliceAt, Instr.slice, Sem.run_bind, k.run_und w, Result.andThen_ok, bounds false s.size s.size (Nat.le_refl _) hc.1 hc.2.1 hc.2.2, Option.isSome, Bool.false_eq_true, if_false, Sem.run_pure]
  · rename_i e es eb hk
    rw [hk] at hd
    cases d <;> simp only [tkind, reduceCtorEq, TK.slice.injEq] at hd
    obtain ⟨rfl, rfl, _⟩ := hd
    split at h <;> try (cases h; done)
    rename_i l hl
    split at h <;> try (cases h; done)
    rename_i hc
    simp only [Option.some.injEq] at h; subst h
    have rp := elemsV_ok rx hl
    obtain ⟨a, cap, rfl⟩ := rp.slice_len
    have hes : ∀ x, x ∈ l → x.length = P.cellsOf _ := fun x hx => by simpa using List.all_eq_true.1 hc.2.2.2.1 x hx
    obtain ⟨_, hcap, r⟩ := rp.sub (lo := (lo.getD 0).toNat) (hi := (hi.getD l.length).toNat) hes (by omega) (by omega)
    refine ⟨_, ?_, .p r⟩
    simp only [Instr.sliceAt, Instr.slice, Sem.run_bind, k.run_und w, Result.andThen_ok, bounds true l.length cap hcap hc.1 hc.2.1 hc.2.2.1, run_sizeOf' hc.2.2.2.2, Sem.run_pure]
  · cases h

/-! ### comparing structs -/
def eqC : List (Nat × TK) → List PV → List PV → Option Bool
  | [], _, _ => some true
  | (o, tk) :: r, xs, ys => match tk, xs[o]?, ys[o]? with
    | .num _, some (.int k a), some (.int k' b) => if k = k' then (eqC r xs ys).map (decide (a = b) && ·) else none
    | .str, some (.str a), some (.str b) => (eqC r xs ys).map (sbeq a b && ·)
    | .bool, some (.bool a), some (.bool b) => (eqC r xs ys).map ((a == b) && ·)
    | _, _, _ => none

def isAg : TypeDesc → Bool
  | .struct _ | .array _ _ => true
  | _ => false

theorem run_part_one {P : Program} {t : TypeId} {d : TypeDesc} (h : P.underlying t = some d) (ha : isAg d = false) (w : World) (cs : Array Value) (o : Nat) (v : Value) (hv : cs[o]? = some v) :
    (part t cs o).run P w = .ok v w := by
  have : (isAgg t).run P w = .ok false w := by
    simp only [isAgg, Sem.run_bind, run_underlying h, Result.andThen_ok]
    cases d <;> first | rfl | simp [isAg] at ha
  simp only [part, Sem.run_bind, this, Result.andThen_ok, Bool.false_eq_true, if_false, hv, Sem.run_pure]

theorem RP.cell {m : Mem} {cs : List PV} {vs : Array Value} (h : RP m (.agg cs) (.agg vs)) {i : Nat} {c : PV} (hc : cs[i]? = some c) : ∃ v, vs[i]? = some v ∧ RP m c v := by
  cases h with
  | agg _ _ hl hr =>
    have hlt : i < cs.length := (List.getElem?_eq_some_iff.1 hc).1
    have : i < vs.size := by omega
    exact ⟨vs[i], by simp [this], hr i c _ hc (by simp [this])⟩

theorem eqC_ok {P : Program} {m : Mem} (w : World) (dp : Nat) {xs ys : List PV} {xv yv : Array Value} (rx : RP m (.agg xs) (.agg xv)) (ry : RP m (.agg ys) (.agg yv)) :
    ∀ (fs : List Field) (l : List (Nat × TK)) (b : Bool), fs.mapM (eqKind P) = some l → eqC l xs ys = some b → (Op.eqFields (dp + 1) xv yv fs).run P w = .ok b w := by
  intro fs
  induction fs with
  | nil =>
    intro l b hl h
    simp at hl; subst hl
    simp only [eqC, Option.some.injEq] at h; subst h
    simp [Op.eqFields]
  | cons f fs ih =>
    intro l b hl h
    simp only [List.mapM_cons, Option.pure_def, Option.bind_eq_bind, Option.bind_eq_some_iff, Option.some.injEq] at hl
    obtain ⟨x, hx, l', hl', rfl⟩ := hl
    unfold eqKind at hx
    split at hx
    · cases hx
    rename_i hname
    have step : ∀ (v u : Value) (r : Bool) (dd : TypeDesc), P.underlying f.type = some dd → isAg dd = false → xv[f.offset]? = some v → yv[f.offset]? = some u →
        (Op.equalIn (dp + 1) f.type v u).run P w = .ok r w → (∀ b', eqC l' xs ys = some b' → (r && b') = b) → (∃ b', eqC l' xs ys = some b') → (Op.eqFields (dp + 1) xv yv (f :: fs)).run P w = .ok b w := by
      intro v u r dd hu ha hv hu' hr hb hex
      obtain ⟨b', hb'⟩ := hex
      have hbb := hb b' hb'
      simp only [Op.eqFields, ne_eq, hname, not_false_eq_true, if_true, Sem.run_bind, run_part_one hu ha w xv _ v hv, run_part_one hu ha w yv _ u hu', Result.andThen_ok, hr]
      cases r
      · simp at hbb; subst hbb; simp
      · simp at hbb; subst hbb; simpa using ih l' b' hl' hb'
    split at hx
    · rename_i kk hu
      simp only [Option.some.injEq] at hx; subst hx
      simp only [eqC] at h
      split at h <;> try (cases h; done)
      · rename_i k1 a k2 c _ ha hc
        split at h <;> try (cases h; done)
        rename_i hk; subst hk
        rw [Option.map_eq_some_iff] at h
        obtain ⟨b', hb', rfl⟩ := h
        obtain ⟨v, hv, rv⟩ := rx.cell ha
        obtain ⟨u, hu', ru⟩ := ry.cell hc
        cases rv; cases ru
        exact step _ _ _ _ hu rfl hv hu' (run_equalIn_int w dp f.type k1 kk a c hu) (fun b1 h1 => by rw [hb'] at h1; simp at h1; subst h1; rfl) ⟨b', hb'⟩
      · rename_i he _ _; cases he
      · rename_i he _ _; cases he
    · rename_i hu
      simp only [Option.some.injEq] at hx; subst hx
      simp only [eqC] at h
      split at h <;> try (cases h; done)
      · rename_i he _ _; cases he
      · rename_i a c _ ha hc
        rw [Option.map_eq_some_iff] at h
        obtain ⟨b', hb', rfl⟩ := h
        obtain ⟨v, hv, rv⟩ := rx.cell ha
        obtain ⟨u, hu', ru⟩ := ry.cell hc
        cases rv; cases ru
        exact step _ _ _ _ hu rfl hv hu' (run_equalIn_string w dp f.type a c hu) (fun b1 h1 => by rw [hb'] at h1; simp at h1; subst h1; rfl) ⟨b', hb'⟩
      · rename_i he _ _; cases he
    · rename_i hu
      simp only [Option.some.injEq] at hx; subst hx
      simp only [eqC] at h
      split at h <;> try (cases h; done)
      · rename_i he _ _; cases he
      · rename_i he _ _; cases he
      · rename_i a c _ ha hc
        rw [Option.map_eq_some_iff] at h
        obtain ⟨b', hb', rfl⟩ := h
        obtain ⟨v, hv, rv⟩ := rx.cell ha
        obtain ⟨u, hu', ru⟩ := ry.cell hc
        cases rv; cases ru
        exact step _ _ _ _ hu rfl hv hu' (run_equalIn_bool' w dp f.type a c hu) (fun b1 h1 => by rw [hb'] at h1; simp at h1; subst h1; rfl) ⟨b', hb'⟩
    · cases hx

def eqA (ti : TI) (op : BinOp) (xs ys : List PV) : Option PV :=
  match ti.eqs with
  | some l => match eqC l xs ys with
    | some b => match op with
      | .eql => some (.bool b)
      | .neq => some (.bool (!b))
      | _ => none
    | none => none
  | none => none

theorem eqA_ok {P : Program} {t : TypeId} {ti : TI} (k : tinfo P t = some ti) {m : Mem} (w : World) {op : BinOp} {xo yo : Operand} {xs ys : List PV} {xv yv : Array Value} {r : PV}
    (rx : RP m (.agg xs) (.agg xv)) (ry : RP m (.agg ys) (.agg yv)) (h : eqA ti op xs ys = some r) : ∃ v, (do eqGuard op t xo yo (.agg xv) (.agg yv); binOp op t (.agg xv) (.agg yv)).run P w = .ok v w ∧ RP m r v := by
  obtain ⟨i, d, z, k⟩ := tinfo_ok k
  unfold eqA at h
  split at h <;> try (cases h; done)
  rename_i l hl
  split at h <;> try (cases h; done)
  rename_i b hb
  have he := k.eqs
  rw [hl] at he
  unfold eqFs at he
  split at he <;> try (cases he; done)
  rename_i fs
  split at he <;> try (cases he; done)
  rename_i hst
  have hf : P.fieldsOf t = fs := by simp [Program.fieldsOf, k.und]
  have hrun : (Op.equalIn 10000 t (.agg xv) (.agg yv)).run P w = .ok b w := by
    rw [show (10000 : Nat) = 9999 + 1 from rfl, run_equalIn_agg w 9999 t xv yv (by rw [hf]; exact k.und) hst.1, hf]
    exact eqC_ok w 9998 rx ry fs.toList l b he hb
  split at h <;> try (cases h; done)
  · simp only [Option.some.injEq] at h; subst h
    refine ⟨_, ?_, .bool _⟩
    simp only [Sem.run_bind, run_eqGuard_agg w _ t _ _ xv yv hst.2, Result.andThen_ok, run_eql_struct, hrun]
  · simp only [Option.some.injEq] at h; subst h
    refine ⟨_, ?_, .bool _⟩
    simp only [Sem.run_bind, run_eqGuard_agg w _ t _ _ xv yv hst.2, Result.andThen_ok, run_neq_struct, hrun]

end Go.Proofs.Ytaaocppaepnhbaa
