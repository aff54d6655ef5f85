/- The same operations for a quick walk: every number, truth, text and list that is not known stands under a name of its own. Own work; no condition. -/
import Derived.Test.YtcajncmjlmpkgaaPcAbs18
namespace Go.Proofs.Ytcajncmjlmpkgaa
open Go Go.RowKit
structure Nm {α : Type} (v : Unit → α) (K : α → Prop) : Prop where
 of : ∀ z, v () = z → K z
structure Asm (c k : Unit → Prop) : Prop where
 c : c ()
 k : k ()
structure IfB (z : Bool) (X Y : Unit → Prop) : Prop where
 t : z = true → X ()
 f : z = false → Y ()
structure Ix (es : Nat) (l : List (List PV)) (n : Int) (K : List PV → Prop) : Prop where
 ix : ∃ e, 0 ≤ n ∧ l[n.toNat]? = some e ∧ e.length = es ∧ es ≠ 0 ∧ K e
structure AIx (cs : List AV) (len : Nat) (n : Int) (K : AV → Prop) : Prop where
 ix : ∃ c, 0 ≤ n ∧ n < len ∧ cs[n.toNat]? = some c ∧ K c
structure SIx (s : ByteArray) (n : Int) (K : Int → Prop) : Prop where
 ix : ∃ b : UInt8, 0 ≤ n ∧ s[n.toNat]? = some b ∧ ∀ z : Int, (b.toNat : Int) = z → K z
theorem Nm.get {α : Type} {v : Unit → α} {K : α → Prop} (h : Nm v K) : K (v ()) := h.of _ rfl
def nth {α : Type} : List α → Nat → Option α
 | [], _ => none
 | x :: r, n => if n = 0 then some x else nth r (n - 1)
theorem nth_eq {α : Type} : ∀ (l : List α) (n : Nat), nth l n = l[n]?
 | [], n => by simp [nth]
 | x :: r, 0 => by simp [nth]
 | x :: r, n + 1 => by simp [nth, nth_eq r n]
def dropX {α : Type} : List α → Nat → List α
 | [], _ => []
 | x :: r, n => if n = 0 then x :: r else dropX r (n - 1)
theorem dropX_eq {α : Type} : ∀ (l : List α) (n : Nat), dropX l n = l.drop n
 | [], n => by simp [dropX]
 | x :: r, 0 => by simp [dropX]
 | x :: r, n + 1 => by simp [dropX, dropX_eq r n]
def takeX {α : Type} : List α → Nat → List α
 | [], _ => []
 | x :: r, n => if n = 0 then [] else x :: takeX r (n - 1)
theorem takeX_eq {α : Type} : ∀ (l : List α) (n : Nat), takeX l n = l.take n
 | [], n => by simp [takeX]
 | x :: r, 0 => by simp [takeX]
 | x :: r, n + 1 => by simp [takeX, takeX_eq r n]
def lenX {α : Type} : List α → Nat
 | [] => 0
 | _ :: r => lenX r + 1
theorem lenX_eq {α : Type} : ∀ (l : List α), lenX l = l.length
 | [] => rfl
 | _ :: r => by simp [lenX, lenX_eq r]
def catX {α : Type} : List α → List α → List α
 | [], b => b
 | x :: r, b => x :: catX r b
theorem catX_eq {α : Type} : ∀ (a b : List α), catX a b = a ++ b
 | [], _ => rfl
 | x :: r, b => by simp [catX, catX_eq r b]
def setX {α : Type} : List α → Nat → α → List α
 | [], _, x => [x]
 | y :: r, n, x => if n = 0 then x :: r else y :: setX r (n - 1) x
theorem setX_eq {α : Type} : ∀ (l : List α) (n : Nat) (x : α), n ≤ l.length → setX l n x = if n < l.length then l.set n x else l ++ [x]
 | [], n, x, h => by simp [setX]
 | y :: r, 0, x, h => by simp [setX]
 | y :: r, n + 1, x, h => by
   have := setX_eq r n x (by simpa using h)
   simp only [setX, Nat.succ_ne_zero, if_false, Nat.add_sub_cancel, this, List.length_cons, Nat.add_lt_add_iff_right, List.set_cons_succ, List.cons_append]
   split <;> rfl
def splX {α : Type} (cs : List α) (o : Nat) (l : List α) : List α := catX (takeX cs o) (catX l (dropX cs (o + lenX l)))
theorem splX_eq {α : Type} (cs : List α) (o : Nat) (l : List α) : splX cs o l = splice cs o l := by
 simp [splX, splice, catX_eq, takeX_eq, dropX_eq, lenX_eq]
def allX {α : Type} (p : α → Bool) : List α → Bool
 | [] => true
 | x :: r => match p x with | true => allX p r | false => false
theorem allX_eq {α : Type} (p : α → Bool) : ∀ (l : List α), allX p l = l.all p
 | [] => rfl
 | x :: r => by simp only [allX, List.all_cons, allX_eq p r]; cases p x <;> rfl
def mapX {α β : Type} (f : α → β) : List α → List β
 | [] => []
 | x :: r => f x :: mapX f r
theorem mapX_eq {α β : Type} (f : α → β) : ∀ (l : List α), mapX f l = l.map f
 | [] => rfl
 | x :: r => by simp [mapX, mapX_eq f r]
def optL {α β : Type} (f : α → Option β) : List α → Option (List β)
 | [] => some []
 | x :: r => match f x with
   | some y => match optL f r with
     | some ys => some (y :: ys)
     | none => none
   | none => none
theorem optL_eq {α β : Type} (f : α → Option β) : ∀ (l : List α), optL f l = l.mapM f
 | [] => by simp [optL]
 | x :: r => by
   simp only [optL, List.mapM_cons, optL_eq f r]
   cases f x with
   | none => rfl
   | some y => cases r.mapM f <;> rfl
def TTOk (P : Program) (tt : TypeId → Option TI) : Prop := ∀ t ti, tt t = some ti → tinfo P t = some ti
def ldX (H : List AObj) (ti : TI) (p : AV) : Option AV :=
 match p with
 | .ref id off => match nth H id with
   | some (.cells cs) => match ti.agg with
     | true => if off + ti.size ≤ lenX cs then some (.agg (takeX (dropX cs off) ti.size)) else none
     | false => nth cs off
   | _ => none
 | .p (.ip cs) => match ti.agg with
   | true => if ti.size ≤ lenX cs then some (.p (.agg (takeX cs ti.size))) else none
   | false => match nth cs 0 with | some c => some (.p c) | none => none
 | _ => none
theorem ldX_eq (H : List AObj) (ti : TI) (p : AV) : ldX H ti p = ldV H ti p := by
 unfold ldX ldV
 simp only [nth_eq, lenX_eq, takeX_eq, dropX_eq]
 split
 · split <;> rename_i h <;> simp only [h]
   · cases ti.agg <;> rfl
 · cases ti.agg with
   | true => simp
   | false =>
     simp only [Bool.false_eq_true, if_false]
     cases h : (_ : List PV)[0]? <;> simp
 · rename_i h1 h2
   split
   · rename_i h; exact absurd rfl (h1 _ _)
   · rename_i h; exact absurd rfl (h2 _)
   · rfl
def cellsX : AV → Option (List AV)
 | .p (.agg cs) => match allX PV.one cs with | true => some (mapX .p cs) | false => none
 | .agg cs => match allX AV.one cs with | true => some cs | false => none
 | x => match x.one with | true => some [x] | false => none
theorem cellsX_eq (x : AV) : cellsX x = x.cells := by
 cases x with
 | p y =>
   cases y with
   | agg cs => simp only [cellsX, AV.cells, allX_eq, mapX_eq]; split <;> rename_i h <;> simp [h]
   | _ => rfl
 | agg cs => simp only [cellsX, AV.cells, allX_eq]; split <;> rename_i h <;> simp [h]
 | _ => rfl
def faX (ti : TI) (f : Nat) (x : AV) : Option AV :=
 match ti.kind with
 | .fields l => match nth l f with
   | some (o, s, _) => if s = 0 then none else match x with
     | .ref id off => some (.ref id (off + o))
     | .p (.ip cs) => some (.p (.ip (dropX cs o)))
     | _ => none
   | none => none
 | _ => none
theorem faX_ok {ti : TI} {f : Nat} {x y : AV} (h : faX ti f x = some y) : faV ti f x = some y := by
 unfold faX at h
 split at h <;> try (cases h; done)
 rename_i l hk
 simp only [nth_eq] at h
 split at h <;> try (cases h; done)
 rename_i o s g hl
 split at h <;> try (cases h; done)
 rename_i hs
 split at h <;> simp only [Option.some.injEq, reduceCtorEq] at h <;> subst h
 · simp [faV, hk, hl, hs]
 · simp [faV, hk, hl, hs, dropX_eq]
def fieldX (ti : TI) (f : Nat) (cs : List AV) : Option AV :=
 match ti.kind with
 | .fields l => match nth l f with
   | some (o, _, false) => nth cs o
   | _ => none
 | _ => none
theorem fieldX_eq (ti : TI) (f : Nat) (cs : List AV) : fieldX ti f cs = fieldV ti f cs := by
 unfold fieldX fieldV; simp only [nth_eq]; rfl
def pureX : AV → Option PV
 | .agg cs => match optL AV.pure1 cs with | some ps => some (.agg ps) | none => none
 | x => x.pure1
theorem pureX_eq (x : AV) : pureX x = x.pure := by
 cases x with
 | agg cs => simp only [pureX, AV.pure, optL_eq]; cases cs.mapM AV.pure1 <;> rfl
 | _ => rfl
def biX (op : BinOp) (k : IntKind) (a b : Int) (K : PV → Prop) : Prop :=
 match op with
 | .shl => Asm (fun _ => ¬ b < 0) fun _ => Nm (fun _ => k.wrap (a * 2 ^ (min b.toNat k.bits))) fun z => K (.int k z)
 | .shr => Asm (fun _ => ¬ b < 0) fun _ => Nm (fun _ => a.fdiv (2 ^ (min b.toNat k.bits))) fun z => K (.int k z)
 | .add => Nm (fun _ => k.wrap (a + b)) fun z => K (.int k z)
 | .sub => Nm (fun _ => k.wrap (a - b)) fun z => K (.int k z)
 | .mul => Nm (fun _ => k.wrap (a * b)) fun z => K (.int k z)
 | .quo => Asm (fun _ => ¬ b = 0) fun _ => Nm (fun _ => k.wrap (a.tdiv b)) fun z => K (.int k z)
 | .rem => Asm (fun _ => ¬ b = 0) fun _ => Nm (fun _ => a.tmod b) fun z => K (.int k z)
 | .and => Nm (fun _ => k.wrap (BitVec.ofInt k.bits a &&& BitVec.ofInt k.bits b).toNat) fun z => K (.int k z)
 | .or => Nm (fun _ => k.wrap (BitVec.ofInt k.bits a ||| BitVec.ofInt k.bits b).toNat) fun z => K (.int k z)
 | .xor => Nm (fun _ => k.wrap (BitVec.ofInt k.bits a ^^^ BitVec.ofInt k.bits b).toNat) fun z => K (.int k z)
 | .andNot => Nm (fun _ => k.wrap (BitVec.ofInt k.bits a &&& ~~~BitVec.ofInt k.bits b).toNat) fun z => K (.int k z)
 | .eql => Nm (fun _ => decide (a = b)) fun z => K (.bool z)
 | .neq => Nm (fun _ => !decide (a = b)) fun z => K (.bool z)
 | .lss => Nm (fun _ => decide (a < b)) fun z => K (.bool z)
 | .leq => Nm (fun _ => decide (a ≤ b)) fun z => K (.bool z)
 | .gtr => Nm (fun _ => decide (b < a)) fun z => K (.bool z)
 | .geq => Nm (fun _ => decide (b ≤ a)) fun z => K (.bool z)
theorem biX_ok {op : BinOp} {k : IntKind} {a b : Int} {K : PV → Prop} (h : biX op k a b K) : ∃ r, bopI op k a b = some r ∧ K r := by
 cases op <;> simp only [biX] at h <;> simp only [bopI]
 case shl => exact ⟨_, if_neg h.c, h.k.get⟩
 case shr => exact ⟨_, if_neg h.c, h.k.get⟩
 case quo => exact ⟨_, if_neg h.c, h.k.get⟩
 case rem => exact ⟨_, if_neg h.c, h.k.get⟩
 all_goals exact ⟨_, rfl, h.get⟩
def bsX (op : BinOp) (a b : ByteArray) (K : PV → Prop) : Prop :=
 match op with
 | .add => Asm (fun _ => ¬ maxI < ((a.size + b.size : Nat) : Int)) fun _ => Nm (fun _ => a ++ b) fun z => K (.str z)
 | .eql => Nm (fun _ => sbeq a b) fun z => K (.bool z)
 | .neq => Nm (fun _ => !sbeq a b) fun z => K (.bool z)
 | .lss => Nm (fun _ => sless a b) fun z => K (.bool z)
 | .leq => Nm (fun _ => sless a b || sbeq a b) fun z => K (.bool z)
 | .gtr => Nm (fun _ => !(sless a b || sbeq a b)) fun z => K (.bool z)
 | .geq => Nm (fun _ => !sless a b) fun z => K (.bool z)
 | _ => False
theorem bsX_ok {op : BinOp} {a b : ByteArray} {K : PV → Prop} (h : bsX op a b K) : ∃ r, bopS op a b = some r ∧ K r := by
 cases op <;> simp only [bsX] at h <;> try (exact h.elim)
 case add => exact ⟨_, if_neg h.c, h.k.get⟩
 all_goals exact ⟨_, rfl, h.get⟩
def bvX (tk : TK) (op : BinOp) (x y : PV) (K : PV → Prop) : Prop :=
 match x, y with
 | .int k a, .int k' b => if k = k' ∨ op = .shl ∨ op = .shr then biX op k a b K else False
 | .str a, .str b => bsX op a b K
 | .bool a, .bool b => match tk, op with
   | .bool, .eql => Nm (fun _ => a == b) fun z => K (.bool z)
   | .bool, .neq => Nm (fun _ => !(a == b)) fun z => K (.bool z)
   | _, _ => False
 | _, _ => False
theorem bvX_ok {tk : TK} {op : BinOp} {x y : PV} {K : PV → Prop} (h : bvX tk op x y K) : ∃ r, bopV tk op x y = some r ∧ K r := by
 unfold bvX at h
 split at h
 · split at h
   · rename_i hk
     simp only [bopV]; rw [if_pos hk]; exact biX_ok h
   · exact h.elim
 · exact bsX_ok h
 · split at h
   · exact ⟨_, rfl, h.get⟩
   · exact ⟨_, rfl, h.get⟩
   · exact h.elim
 · exact h.elim
def eqOk : List (Nat × TK) → List PV → List PV → Bool
 | [], _, _ => true
 | (o, tk) :: r, xs, ys => match tk with
   | .num _ => match nth xs o with
     | some (.int k _) => match nth ys o with
       | some (.int k' _) => if k = k' then eqOk r xs ys else false
       | _ => false
     | _ => false
   | .str => match nth xs o with
     | some (.str _) => match nth ys o with
       | some (.str _) => eqOk r xs ys
       | _ => false
     | _ => false
   | .bool => match nth xs o with
     | some (.bool _) => match nth ys o with
       | some (.bool _) => eqOk r xs ys
       | _ => false
     | _ => false
   | _ => false
def eq1 : Option PV → Option PV → Bool
 | some (.int _ a), some (.int _ b) => decide (a = b)
 | some (.str a), some (.str b) => sbeq a b
 | some (.bool a), some (.bool b) => a == b
 | _, _ => false
def eqB : List (Nat × TK) → List PV → List PV → Bool
 | [], _, _ => true
 | (o, _) :: r, xs, ys => eq1 xs[o]? ys[o]? && eqB r xs ys
theorem eqOk_ok : ∀ (l : List (Nat × TK)) (xs ys : List PV), eqOk l xs ys = true → eqC l xs ys = some (eqB l xs ys) := by
 intro l
 induction l with
 | nil => intro xs ys _; rfl
 | cons p l ih =>
   intro xs ys h
   obtain ⟨o, tk⟩ := p
   simp only [eqOk, nth_eq] at h
   split at h <;> try (cases h; done)
   all_goals
     split at h <;> try (cases h; done)
     rename_i h1
     split at h <;> try (cases h; done)
     rename_i h2
   · split at h <;> try (cases h; done)
     rename_i hk
     simp only [eqC, eqB, h1, h2, hk, if_true, ih xs ys h, Option.map_some, eq1]
   · simp only [eqC, eqB, h1, h2, ih xs ys h, Option.map_some, eq1]
   · simp only [eqC, eqB, h1, h2, ih xs ys h, Option.map_some, eq1]
def eqX (ti : TI) (op : BinOp) (xs ys : List PV) (K : PV → Prop) : Prop :=
 match ti.eqs with
 | some l => match eqOk l xs ys with
   | true => match op with
     | .eql => Nm (fun _ => eqB l xs ys) fun z => K (.bool z)
     | .neq => Nm (fun _ => !eqB l xs ys) fun z => K (.bool z)
     | _ => False
   | false => False
 | none => False
theorem eqX_ok {ti : TI} {op : BinOp} {xs ys : List PV} {K : PV → Prop} (h : eqX ti op xs ys K) : ∃ r, eqA ti op xs ys = some r ∧ K r := by
 unfold eqX at h
 split at h <;> try (exact h.elim)
 rename_i l hl
 split at h <;> try (exact h.elim)
 rename_i ho
 have := eqOk_ok l xs ys ho
 split at h
 · exact ⟨_, by simp only [eqA, hl, this], h.get⟩
 · exact ⟨_, by simp only [eqA, hl, this], h.get⟩
 · exact h.elim
def iaX (ti : TI) (x i : AV) (K : AV → Prop) : Prop :=
 match i with
 | .p (.int _ n) => match ti.kind with
   | .slice _ es _ => match x with
     | .ms id len => Asm (fun _ => 0 ≤ n ∧ n < len ∧ es ≠ 0) fun _ => Nm (fun _ => n.toNat * es) fun off => K (.ref id off)
     | x => need (elemsV x) fun l => Ix es l n fun e => K (.p (.ip e))
   | .array len es _ => match x with
     | .ref id off => Asm (fun _ => 0 ≤ n ∧ n < len ∧ es ≠ 0) fun _ => Nm (fun _ => off + n.toNat * es) fun off => K (.ref id off)
     | .p (.ip cs) => Asm (fun _ => 0 ≤ n ∧ n < len ∧ es ≠ 0) fun _ => Nm (fun _ => cs.drop (n.toNat * es)) fun ds => K (.p (.ip ds))
     | _ => False
   | _ => False
 | _ => False
theorem iaX_ok {ti : TI} {x i : AV} {K : AV → Prop} (h : iaX ti x i K) : ∃ v, iaV ti x i = some v ∧ K v := by
 unfold iaX at h
 split at h <;> try (exact h.elim)
 rename_i q n
 split at h <;> try (exact h.elim)
 · rename_i e es eb hk
   split at h
   · rename_i id len
     have hc := h.c
     exact ⟨_, by simp only [iaV, hk]; exact if_pos hc, h.k.get⟩
   · rename_i hms
     obtain ⟨l, hl, ⟨e', h0, h1, h2, h3, hk'⟩⟩ := need_iff.1 h
     refine ⟨_, ?_, hk'⟩
     simp only [iaV, hk]
     simp only [hl, h1]
     simp [h0, h2, h3]
 · rename_i len es ag hk
   split at h
   · have hc := h.c
     exact ⟨_, by simp only [iaV, hk]; exact if_pos hc, h.k.get⟩
   · have hc := h.c
     exact ⟨_, by simp only [iaV, hk]; exact if_pos hc, h.k.get⟩
   · exact h.elim
def ixX (ti : TI) (x i : AV) (K : AV → Prop) : Prop :=
 match x with
 | .agg cs => match i with
   | .p (.int _ n) => match ti.kind with
     | .array len 1 false => AIx cs len n K
     | _ => False
   | _ => False
 | .p (.str s) => match i with
   | .p (.int _ n) => match ti.kind with
     | .str => SIx s n fun z => K (.p (.int .u8 z))
     | _ => False
   | _ => False
 | _ => False
theorem ixX_ok {ti : TI} {x i : AV} {K : AV → Prop} (h : ixX ti x i K) : ∃ v, ixV ti x i = some v ∧ K v := by
 unfold ixX at h
 split at h <;> try (exact h.elim)
 · split at h <;> try (exact h.elim)
   split at h <;> try (exact h.elim)
   rename_i hk
   obtain ⟨c, h0, h1, h2, h3⟩ := h.ix
   refine ⟨c, ?_, h3⟩
   simp only [ixV, hk]
   rw [if_pos ⟨h0, h1, by trivial⟩]; exact h2
 split at h <;> try (exact h.elim)
 split at h <;> try (exact h.elim)
 rename_i hk
 obtain ⟨b, h0, h1, h2⟩ := h.ix
 exact ⟨_, by simp only [ixV, hk, h0, if_true, h1], h2 _ rfl⟩
def slX (ti : TI) (x : AV) (lo hi : Option Int) (K : AV → Prop) : Prop :=
 match ti.kind with
 | .str => match x with
   | .p (.str s) => Asm (fun _ => 0 ≤ lo.getD 0 ∧ lo.getD 0 ≤ hi.getD s.size ∧ hi.getD s.size ≤ s.size) fun _ => Nm (fun _ => s.extract (lo.getD 0).toNat (hi.getD s.size).toNat) fun z => K (.p (.str z))
   | _ => False
 | .slice _ es _ => need (elemsV x) fun l => Asm (fun _ => 0 ≤ lo.getD 0 ∧ lo.getD 0 ≤ hi.getD l.length ∧ hi.getD l.length ≤ l.length ∧ l.all (fun e => e.length == es) ∧ es ≠ 0) fun _ =>
     Nm (fun _ => (l.drop (lo.getD 0).toNat).take ((hi.getD l.length).toNat - (lo.getD 0).toNat)) fun z => K (.p (.sl z))
 | _ => False
theorem slX_ok {ti : TI} {x : AV} {lo hi : Option Int} {K : AV → Prop} (h : slX ti x lo hi K) : ∃ v, slV ti x lo hi = some v ∧ K v := by
 unfold slX at h
 split at h <;> try (exact h.elim)
 · rename_i hk
   split at h <;> try (exact h.elim)
   have hc := h.c
   exact ⟨_, by simp only [slV, hk]; exact if_pos hc, h.k.get⟩
 · rename_i hk
   obtain ⟨l, hl, h⟩ := need_iff.1 h
   have hc := h.c
   exact ⟨_, by simp only [slV, hk, hl]; exact if_pos hc, h.k.get⟩
def fillX (place : Nat → Option (Nat × Nat)) : List AV → List (Nat × AV) → Option (List AV)
 | cs, [] => some cs
 | cs, (i, x) :: r => match place i with
   | some (o, s) => match cellsX x with
     | some l => if lenX l = s then (if o + s ≤ lenX cs then fillX place (splX cs o l) r else none) else none
     | none => none
   | none => none
theorem fillX_ok (place : Nat → Option (Nat × Nat)) : ∀ (l : List (Nat × AV)) (cs r : List AV), fillX place cs l = some r → fillV place cs l = some r := by
 intro l
 induction l with
 | nil => intro cs r h; exact h
 | cons p l ih =>
   intro cs r h
   obtain ⟨i, x⟩ := p
   simp only [fillX, cellsX_eq, lenX_eq, splX_eq] at h
   split at h <;> try (cases h; done)
   rename_i o s hp
   split at h <;> try (cases h; done)
   rename_i l' hl
   split at h <;> try (cases h; done)
   rename_i h1
   split at h <;> try (cases h; done)
   rename_i h2
   simp only [fillV, hp, hl]
   rw [if_pos ⟨h1, h2⟩]
   exact ih _ _ h
def anyZero (l : List (Nat × Nat × Bool)) : Bool := allX (fun x => match x.2.1 with | 0 => false | _ => true) l
def buildX (ti : TI) (ps : List (Nat × AV)) : Option AV :=
 match ti.kind with
 | .fields l => match anyZero l with
   | true => match fillX (fun i => match nth l i with | some x => some (x.1, x.2.1) | none => none) ti.zero ps with
     | some cs => some (.agg cs)
     | none => none
   | false => none
 | .array _ es _ => match es with
   | 0 => none
   | es => match fillX (fun i => some (i * es, es)) ti.zero ps with
     | some cs => some (.agg cs)
     | none => none
 | _ => none
theorem buildX_ok {ti : TI} {ps : List (Nat × AV)} {y : AV} (h : buildX ti ps = some y) : buildV ti ps = some y := by
 unfold buildX at h
 split at h <;> try (cases h; done)
 rotate_left 1
 · rename_i n es ag hk
   split at h <;> try (cases h; done)
   rename_i hne
   split at h <;> try (cases h; done)
   rename_i cs hcs
   simp only [Option.some.injEq] at h; subst h
   simp only [buildV, hk]
   rw [if_pos (fun e => hne e), fillX_ok _ _ _ _ hcs]; rfl
 rename_i l hk
 split at h <;> try (cases h; done)
 rename_i hz
 split at h <;> try (cases h; done)
 rename_i cs hcs
 have e : (fun i => match nth l i with | some x => some (x.1, x.2.1) | none => none) = fun i => (l[i]?).map fun x => (x.1, x.2.1) := by
   funext i; rw [nth_eq]; cases l[i]? <;> rfl
 rw [e] at hcs
 have hz' : l.all (fun x => x.2.1 != 0) = true := by
   rw [← hz, anyZero, allX_eq]
   congr 1; funext x
   obtain ⟨a, b, c⟩ := x
   cases b <;> rfl
 simp only [Option.some.injEq] at h; subst h
 simp only [buildV, hk, hz', if_true, fillX_ok _ _ _ _ hcs, Option.map_some]
def lenK (tk : TK) (x : AV) (K : AV → Prop) : Prop :=
 match tk with
 | .str => match x with
   | .p (.str s) => Nm (fun _ => (s.size : Int)) fun z => K (.p (.int .i64 z))
   | _ => False
 | .slice _ _ _ => match x with
   | .ms _ n => Nm (fun _ => (n : Int)) fun z => K (.p (.int .i64 z))
   | .vec _ _ _ _ n => Nm (fun _ => (n : Int)) fun z => K (.p (.int .i64 z))
   | .rvec _ _ n => Nm (fun _ => (n : Int)) fun z => K (.p (.int .i64 z))
   | x => need (elemsV x) fun l => Nm (fun _ => (l.length : Int)) fun z => K (.p (.int .i64 z))
 | _ => False
theorem lenK_ok {tk : TK} {x : AV} {K : AV → Prop} (h : lenK tk x K) : ∃ v, lenV tk x = some v ∧ K v := by
 unfold lenK at h
 split at h <;> try (exact h.elim)
 · split at h <;> try (exact h.elim)
   exact ⟨_, rfl, h.get⟩
 · split at h
   · exact ⟨_, rfl, h.get⟩
   · exact ⟨_, rfl, h.get⟩
   · exact ⟨_, rfl, h.get⟩
   · obtain ⟨l, hl, h⟩ := need_iff.1 h
     refine ⟨_, ?_, h.get⟩
     unfold lenV
     split <;> first | (simp [elemsV] at hl; done) | simp [hl]
def intL : Option AV → Option Int
 | some (.p (.int _ n)) => some n
 | _ => none
def xv (tt : TypeId → Option TI) (T : List (Nat × AV)) (H : List AObj) (op : Op) (K : AV → Prop) : Prop :=
 match op with
 | .move x => need (ev T x) K
 | .assign x => need (ev T x) K
 | .pick c a b => need (ev T c) fun v => match v with
   | .p (.bool z) => IfB z (fun _ => need (ev T a) K) (fun _ => need (ev T b) K)
   | _ => False
 | .load t a => need (tt t) fun ti => need (ev T a) fun p => need (ldX H ti p) K
 | .fieldAddr t a f => need (tt t) fun ti => need (ev T a) fun p => need (faX ti f p) K
 | .indexAddr t a i => need (tt t) fun ti => need (ev T a) fun p => need (ev T i) fun j => iaX ti p j K
 | .index t a i => need (tt t) fun ti => need (ev T a) fun p => need (ev T i) fun j => ixX ti p j K
 | .field t x f => need (tt t) fun ti => need (ev T x) fun v => match v with
   | .agg cs => need (fieldX ti f cs) K
   | .p (.agg cs) => need (fieldX ti f (mapX .p cs)) K
   | _ => False
 | .nilCheck x => need (ev T x) fun v => match v with
   | .ref i o => K (.ref i o)
   | .p (.ip cs) => K (.p (.ip cs))
   | _ => False
 | .binOp op t x y _ => need (tt t) fun ti => need (ev T x) fun xv => need (ev T y) fun yv => need (pureX xv) fun a => need (pureX yv) fun b => match a, b with
   | .agg xs, .agg ys => eqX ti op xs ys fun r => K (.p r)
   | a, b => bvX ti.kind op a b fun r => K (.p r)
 | .unOp op _ x => need (ev T x) fun v => match v with
   | .p (.bool b) => match op with | .not => Nm (fun _ => !b) fun z => K (.p (.bool z)) | _ => False
   | .p (.int k n) => match op with
     | .neg => Nm (fun _ => k.wrap (0 - n)) fun z => K (.p (.int k z))
     | .xor => Nm (fun _ => k.wrap (BitVec.ofInt k.bits (if k.signed then -1 else k.max) ^^^ BitVec.ofInt k.bits n).toNat) fun z => K (.p (.int k z))
     | _ => False
   | _ => False
 | .convert s d x => need (tt s) fun si => need (tt d) fun di => need (ev T x) fun v => match v with
   | .p (.int _ n) => match di.kind with | .num k => Nm (fun _ => k.wrap n) fun z => K (.p (.int k z)) | _ => False
   | .p (.str q) => match si.kind with | .str => (match di.kind with | .str => K (.p (.str q)) | _ => False) | _ => False
   | _ => False
 | .extract t i => need (ev T t) fun v => match v with
   | .tup vs => need (nth vs i) K
   | _ => False
 | .makeInterface t x => need (tt t) fun ti => need (ev T x) fun v => need (pureX v) fun y => match ti.kind with
   | .fields _ => K (.ifc t y)
   | _ => False
 | .makeFunc (.func f) first caps => match first.toList with
   | [] => need (optL (ev T) caps.toList) fun l => K (.fn f l)
   | _ => False
 | .slice t x lo hi none => need (tt t) fun ti => need (ev T x) fun v => match lo with
   | none => match hi with
     | none => slX ti v none none K
     | some h => need (intL (ev T h)) fun h => slX ti v none (some h) K
   | some l => need (intL (ev T l)) fun l => match hi with
     | none => slX ti v (some l) none K
     | some h => need (intL (ev T h)) fun h => slX ti v (some l) (some h) K
 | .build t ps => need (tt t) fun ti => need (optL (fun x => match ev T x.2 with | some v => some (x.1, v) | none => none) ps.toList) fun l => need (buildX ti l) K
 | .call c => match c.callee with
   | .builtin .len => match c.args.toList with
     | [x] => match c.argTypes.toList with
       | [t] => need (tt t) fun ti => need (ev T x) fun v => lenK ti.kind v K
       | _ => False
     | _ => False
   | .builtin .max => match c.args.toList with
     | [x, y] => need (ev T x) fun a => need (ev T y) fun b => match a, b with
       | .p (.int k a), .p (.int _ b) => Nm (fun _ => if a < b then b else a) fun z => K (.p (.int k z))
       | _, _ => False
     | _ => False
   | .builtin .min => match c.args.toList with
     | [x, y] => need (ev T x) fun a => need (ev T y) fun b => match a, b with
       | .p (.int k a), .p (.int _ b) => Nm (fun _ => if b < a then b else a) fun z => K (.p (.int k z))
       | _, _ => False
     | _ => False
   | _ => False
 | _ => False
theorem intL_ok {o : Option AV} {n : Int} (h : intL o = some n) : ∃ q, o = some (.p (.int q n)) := by
 unfold intL at h
 split at h <;> simp only [Option.some.injEq, reduceCtorEq] at h
 subst h; exact ⟨_, rfl⟩
theorem xv_ok {P : Program} {tt : TypeId → Option TI} (htt : TTOk P tt) {T : List (Nat × AV)} {H : List AObj} {op : Op} {K : AV → Prop} (h : xv tt T H op K) : ∃ v, vop P T H op = some v ∧ K v := by
 unfold xv at h
 split at h
 · exact need_iff.1 h
 · exact need_iff.1 h
 · obtain ⟨v, hv, h⟩ := need_iff.1 h
   split at h <;> try (exact h.elim)
   rename_i z
   cases z with
   | true => obtain ⟨y, hy, hk⟩ := need_iff.1 (h.t rfl); exact ⟨y, by simp only [vop, hv, hy], hk⟩
   | false => obtain ⟨y, hy, hk⟩ := need_iff.1 (h.f rfl); exact ⟨y, by simp only [vop, hv, hy], hk⟩
 · obtain ⟨ti, hti, h⟩ := need_iff.1 h
   obtain ⟨p, hp, h⟩ := need_iff.1 h
   obtain ⟨y, hy, hk⟩ := need_iff.1 h
   rw [ldX_eq] at hy
   exact ⟨y, by simp only [vop, htt _ _ hti, hp, hy], hk⟩
 · obtain ⟨ti, hti, h⟩ := need_iff.1 h
   obtain ⟨p, hp, h⟩ := need_iff.1 h
   obtain ⟨y, hy, hk⟩ := need_iff.1 h
   exact ⟨y, by simp only [vop, htt _ _ hti, hp, faX_ok hy], hk⟩
 · obtain ⟨ti, hti, h⟩ := need_iff.1 h
   obtain ⟨p, hp, h⟩ := need_iff.1 h
   obtain ⟨j, hj, h⟩ := need_iff.1 h
   obtain ⟨y, hy, hk⟩ := iaX_ok h
   exact ⟨y, by simp only [vop, htt _ _ hti, hp, hj, hy], hk⟩
 · obtain ⟨ti, hti, h⟩ := need_iff.1 h
   obtain ⟨p, hp, h⟩ := need_iff.1 h
   obtain ⟨j, hj, h⟩ := need_iff.1 h
   obtain ⟨y, hy, hk⟩ := ixX_ok h
   exact ⟨y, by simp only [vop, htt _ _ hti, hp, hj, hy], hk⟩
 · obtain ⟨ti, hti, h⟩ := need_iff.1 h
   obtain ⟨p, hp, h⟩ := need_iff.1 h
   split at h <;> try (exact h.elim)
   · obtain ⟨y, hy, hk⟩ := need_iff.1 h
     rw [fieldX_eq] at hy
     exact ⟨y, by simp only [vop, htt _ _ hti, hp, hy], hk⟩
   · obtain ⟨y, hy, hk⟩ := need_iff.1 h
     rw [fieldX_eq, mapX_eq] at hy
     exact ⟨y, by simp only [vop, htt _ _ hti, hp, hy], hk⟩
 · obtain ⟨p, hp, h⟩ := need_iff.1 h
   split at h <;> try (exact h.elim)
   · exact ⟨_, by simp only [vop, hp], h⟩
   · exact ⟨_, by simp only [vop, hp], h⟩
 · obtain ⟨ti, hti, h⟩ := need_iff.1 h
   obtain ⟨x1, hx, h⟩ := need_iff.1 h
   obtain ⟨y1, hy, h⟩ := need_iff.1 h
   obtain ⟨a, ha, h⟩ := need_iff.1 h
   obtain ⟨b, hb, h⟩ := need_iff.1 h
   rw [pureX_eq] at ha hb
   split at h
   · obtain ⟨r, hr, hk⟩ := eqX_ok h
     exact ⟨_, by simp only [vop, htt _ _ hti, hx, hy, Option.bind_some, ha, hb, hr, Option.map_some], hk⟩
   · rename_i hne
     obtain ⟨r, hr, hk⟩ := bvX_ok h
     refine ⟨_, ?_, hk⟩
     simp only [vop, htt _ _ hti, hx, hy, Option.bind_some, ha, hb]
     simp only [hr, Option.map_some]
 · obtain ⟨x1, hx, h⟩ := need_iff.1 h
   split at h <;> try (exact h.elim)
   · split at h <;> try (exact h.elim)
     exact ⟨_, by simp only [vop, hx, unV, Option.map_some], h.get⟩
   · split at h <;> try (exact h.elim)
     · exact ⟨_, by simp only [vop, hx, unV, Option.map_some], h.get⟩
     · exact ⟨_, by simp only [vop, hx, unV, bopI, Option.map_some], h.get⟩
 · obtain ⟨si, hsi, h⟩ := need_iff.1 h
   obtain ⟨di, hdi, h⟩ := need_iff.1 h
   obtain ⟨x1, hx, h⟩ := need_iff.1 h
   split at h <;> try (exact h.elim)
   · split at h <;> try (exact h.elim)
     rename_i hk
     exact ⟨_, by simp only [vop, htt _ _ hsi, htt _ _ hdi, hx, cvV, hk, Option.map_some], h.get⟩
   · split at h <;> try (exact h.elim)
     rename_i hk1
     split at h <;> try (exact h.elim)
     rename_i hk2
     exact ⟨_, by simp only [vop, htt _ _ hsi, htt _ _ hdi, hx, cvV, hk1, hk2, Option.map_some], h⟩
 · obtain ⟨x1, hx, h⟩ := need_iff.1 h
   split at h <;> try (exact h.elim)
   obtain ⟨y, hy, hk⟩ := need_iff.1 h
   rw [nth_eq] at hy
   exact ⟨y, by simp only [vop, hx, hy], hk⟩
 · obtain ⟨ti, hti, h⟩ := need_iff.1 h
   obtain ⟨x1, hx, h⟩ := need_iff.1 h
   obtain ⟨y, hy, h⟩ := need_iff.1 h
   rw [pureX_eq] at hy
   split at h <;> try (exact h.elim)
   rename_i hk
   exact ⟨_, by simp only [vop, htt _ _ hti, hx, Option.bind_some, hy, hk], h⟩
 · rename_i f first caps
   split at h <;> try (exact h.elim)
   rename_i hf
   obtain ⟨l, hl, hk⟩ := need_iff.1 h
   rw [optL_eq] at hl
   have : first.size = 0 := by rw [← Array.length_toList, hf]; rfl
   exact ⟨_, by simp only [vop, this, if_true, hl, Option.map_some], hk⟩
 · obtain ⟨ti, hti, h⟩ := need_iff.1 h
   obtain ⟨x1, hx, h⟩ := need_iff.1 h
   split at h
   · split at h
     · obtain ⟨y, hy, hk⟩ := slX_ok h
       exact ⟨y, by simp [vop, htt _ _ hti, hx, intO, hy], hk⟩
     · obtain ⟨n, hn, h⟩ := need_iff.1 h
       obtain ⟨q, hq⟩ := intL_ok hn
       obtain ⟨y, hy, hk⟩ := slX_ok h
       exact ⟨y, by simp [vop, htt _ _ hti, hx, intO, hq, hy], hk⟩
   · obtain ⟨n, hn, h⟩ := need_iff.1 h
     obtain ⟨q, hq⟩ := intL_ok hn
     split at h
     · obtain ⟨y, hy, hk⟩ := slX_ok h
       exact ⟨y, by simp [vop, htt _ _ hti, hx, intO, hq, hy], hk⟩
     · obtain ⟨n', hn', h⟩ := need_iff.1 h
       obtain ⟨q', hq'⟩ := intL_ok hn'
       obtain ⟨y, hy, hk⟩ := slX_ok h
       exact ⟨y, by simp [vop, htt _ _ hti, hx, intO, hq, hq', hy], hk⟩
 · obtain ⟨ti, hti, h⟩ := need_iff.1 h
   obtain ⟨l, hl, h⟩ := need_iff.1 h
   obtain ⟨y, hy, hk⟩ := need_iff.1 h
   rw [optL_eq] at hl
   have e : (fun (x : Nat × Operand) => match ev T x.2 with | some v => some (x.1, v) | none => none) = fun x => (ev T x.2).map fun v => (x.1, v) := by
     funext x; cases ev T x.2 <;> rfl
   rw [e] at hl
   exact ⟨y, by simp only [vop, htt _ _ hti, hl, buildX_ok hy], hk⟩
 · rename_i c
   obtain ⟨callee, args, ats⟩ := c
   simp only at h
   split at h <;> try (exact h.elim)
   · split at h <;> try (exact h.elim)
     rename_i x ha
     split at h <;> try (exact h.elim)
     rename_i t ht
     obtain ⟨ti, hti, h⟩ := need_iff.1 h
     obtain ⟨v, hv, h⟩ := need_iff.1 h
     obtain ⟨y, hy, hk⟩ := lenK_ok h
     exact ⟨y, by simp only [vop, ha, ht, htt _ _ hti, hv, hy], hk⟩
   · split at h <;> try (exact h.elim)
     rename_i x y ha
     obtain ⟨a, hx, h⟩ := need_iff.1 h
     obtain ⟨b, hy, h⟩ := need_iff.1 h
     split at h <;> try (exact h.elim)
     exact ⟨_, by simp only [vop, ha, hx, hy], h.get⟩
   · split at h <;> try (exact h.elim)
     rename_i x y ha
     obtain ⟨a, hx, h⟩ := need_iff.1 h
     obtain ⟨b, hy, h⟩ := need_iff.1 h
     split at h <;> try (exact h.elim)
     exact ⟨_, by simp only [vop, ha, hx, hy], h.get⟩
 · exact h.elim
end Go.Proofs.Ytcajncmjlmpkgaa
