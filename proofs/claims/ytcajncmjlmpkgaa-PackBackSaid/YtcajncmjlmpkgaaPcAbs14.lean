/- A region whose order is open: the text's order stands for every order, where no two operations that touch one thing are free of each other. Own work; no condition. -/
import Derived.Test.YtcajncmjlmpkgaaPc6
namespace Go.Proofs.Ytcajncmjlmpkgaa
open Go Go.RowKit
structure Ef where
 t : Option (Nat × AV)
 h : Option (Nat × AObj)
def setH (H : List AObj) (id : Nat) (x : AObj) : List AObj := if id < H.length then H.set id x else H ++ [x]
def Ef.ap (e : Ef) (A : AS) : AS :=
 ⟨match e.t with | some y => y :: A.T | none => A.T, match e.h with | some (id, x) => setH A.H id x | none => A.H⟩
def tw (d : Option Nat) (x : AV) : Option (Nat × AV) := d.map fun d => (d, x)
inductive CR where
 | pure (rs : List PV)
 | own (L : List (List PV)) (es : Nat)
abbrev CT := FuncId → List PV → Option CR
def CROk (P : Program) (f : FuncId) (args : List PV) : CR → Prop
 | .pure rs => PCall P f args fun r => r = rs
 | .own L es => TCall P f args (fun l => l = L) es
def CTOk (P : Program) (C : CT) : Prop := ∀ f args rs, C f args = some rs → CROk P f args rs
def loadFp (T : List (Nat × AV)) : Op → List Nat
 | .load _ a => match ev T a with | some (.ref id _) => [id] | _ => []
 | _ => []
def efApp (P : Program) (A : AS) (nx : Nat) (dst : Option Nat) (t xt : TypeId) (s x : AV) : Option (Ef × List Nat × Nat) :=
 match tinfo P t, tinfo P xt with
 | some ti, some xi => match ti.kind with
   | .slice e es eb => match tinfo P e, srcV xi.kind x with
     | some _, some xs => match s with
       | .tok id l => match A.H[id]? with
         | some (.spare n sz) => if n = l.length ∧ sz = es ∧ okEs es l = true ∧ okEs es xs = true ∧ l.length + xs.length ≤ maxLen ∧ (l.length + xs.length) * eb ≤ 140737488355328 then
             some (⟨tw dst (.tok id (l ++ xs)), some (id, .spare (l.length + xs.length) es)⟩, [id], nx) else none
         | _ => none
       | .full l => if okEs es l = true ∧ okEs es xs = true ∧ l.length + xs.length ≤ maxLen ∧ (l.length + xs.length) * eb ≤ 140737488355328 then
             some (⟨tw dst (.tok nx (l ++ xs)), some (nx, .spare (l.length + xs.length) es)⟩, [nx], nx + 1) else none
       | _ => none
     | _, _ => none
   | _ => none
 | _, _ => none
def efSt (H : List AObj) (ti : TI) (p : AV) (l : List AV) : Option (Nat × AObj) :=
 match p with
 | .ref id off => match H[id]? with
   | some (.cells cs) => if l.length = ti.size ∧ off + l.length ≤ cs.length then some (id, .cells (splice cs off l)) else none
   | _ => none
 | _ => none
def efOp (P : Program) (C : CT) (o : Oper) (A : AS) (nx : Nat) : Option (Ef × List Nat × Nat) :=
 match o.op with
 | .alloc t => match tinfo P t with | some ti => some (⟨tw o.dst (.ref nx 0), some (nx, .cells ti.zero)⟩, [nx], nx + 1) | none => none
 | .box _ x => match (ev A.T x).bind AV.cells with | some l => some (⟨tw o.dst (.ref nx 0), some (nx, .cells l)⟩, [nx], nx + 1) | none => none
 | .store t a x => match o.dst, tinfo P t, ev A.T a, (ev A.T x).bind AV.cells with
   | none, some ti, some p, some l => match efSt A.H ti p l with | some (id, y) => some (⟨none, some (id, y)⟩, [id], nx) | none => none
   | _, _, _, _ => none
 | .buildSlice t n ps => match tinfo P t with
   | some ti => match ti.kind with
     | .slice e es _ => match tinfo P e, ps.toList.mapM fun x => (ev A.T x.2).map fun v => (x.1, v) with
       | some ei, some l => match (fillV (fun i => some (i * es, es)) (List.replicate n ei.zero).flatten l).bind fun cs => cs.mapM AV.pure1 with
         | some pv => if n * es ≤ 16777216 ∧ es ≠ 0 ∧ ei.size = es then some (⟨tw o.dst (.full (chunk es n pv)), none⟩, [], nx) else none
         | none => none
       | _, _ => none
     | _ => none
   | none => none
 | .call c => match c.callee, c.args.toList, c.argTypes.toList with
   | .builtin .append, [s, x], [t, xt] => match ev A.T s, ev A.T x with | some sv, some xv => efApp P A nx o.dst t xt sv xv | _, _ => none
   | .value f, args, _ => match (ev A.T f).bind AV.pure1, (args.mapM (ev A.T)).bind fun vs => vs.mapM AV.pure with
     | some (.fn k pc), some pargs => match C k (pargs ++ pc) with | some (.pure rs) => some (⟨tw o.dst (packV (rs.map .p)), none⟩, [], nx) | some (.own L es) => some (⟨tw o.dst (.tok nx L), some (nx, .spare L.length es)⟩, [nx], nx + 1) | none => none
     | _, _ => none
   | _, _, _ => match vop P A.T A.H (.call c) with | some v => some (⟨tw o.dst v, none⟩, [], nx) | none => none
 | op => match vop P A.T A.H op with | some v => some (⟨tw o.dst v, none⟩, loadFp A.T op, nx) | none => none
def ancs : List Oper → List (List Nat) → List (List Nat)
 | [], acc => acc
 | o :: r, acc => ancs r (acc ++ [o.after.toList.flatMap fun e => if Region.binds .any e then e.on :: acc.getD e.on [] else []])
def namesOf (ops : List Oper) (o : Oper) : List Nat :=
 o.dst.toList ++ (o.op.operands.toList.filterMap fun | .tmp t => some t | _ => none) ++ (match o.guard with | some (j, _) => (dstOf ops j).toList | none => [])
def pairsOk (n : Nat) (anc : List (List Nat)) (bad : Nat → Nat → Bool) : Bool :=
 (List.range n).all fun j => (List.range j).all fun i => !bad i j || (anc.getD j []).contains i
def namesOk (ops : List Oper) : Bool :=
 pairsOk ops.length (ancs ops []) fun i j => match ops[i]?, ops[j]? with
   | some a, some b => a.dst.any (fun d => (namesOf ops b).contains d) || b.dst.any (fun d => (namesOf ops a).contains d)
   | _, _ => true
def fpOk (ops : List Oper) (acc : List (List Nat × Bool)) : Bool :=
 pairsOk ops.length (ancs ops []) fun i j => match acc[i]?, acc[j]? with
   | some a, some b => (a.2 || b.2) && a.1.any fun x => b.1.contains x
   | _, _ => true
end Go.Proofs.Ytcajncmjlmpkgaa
