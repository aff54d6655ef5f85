/- sketch.Often: a map of values as the list of its entries. Own work; no condition. -/
import Derived.WalkKit
import Derived.Maps.RangeWalk
import Derived.DeepKeys4
import Derived.WideKeyEntry
import Derived.Test.YtaaocppaepnhbaaChecked
namespace Go.Proofs.Ytaaocppaepnhbaa
open Go Go.RowKit Go.MapKept
open Go.Maps (Keyed)
open Go.ChangeMaps (setBlock)
set_option linter.unusedVariables false
set_option linter.unusedSimpArgs false

/-- A value of the engine, as a key. -/
structure VK where
  k : Int
  n : Int
  s : ByteArray
instance : DecidableEq VK := fun a b => decidable_of_iff (a.k = b.k ∧ a.n = b.n ∧ a.s = b.s) (by cases a; cases b; simp)
def VK.val (q : VK) : Value := .agg #[.int .i64 q.k, .int .i64 q.n, .string q.s]
structure VK.Ok (q : VK) : Prop where
  k : (Lit.int .i64 q.k).wf = true
  n : (Lit.int .i64 q.n).wf = true
  s : q.s.size ≤ maxLen
theorem VK.inj {a b : VK} (h : a.val = b.val) : a = b := by
  cases a; cases b; simp [VK.val] at h; obtain ⟨rfl, rfl, rfl⟩ := h; rfl

abbrev Ents := List (VK × Int)
def lkE : Ents → VK → Option Int
  | [], _ => none
  | p :: r, q => if p.1 = q then some p.2 else lkE r q
def put : Ents → VK → Int → Ents
  | [], q, x => [(q, x)]
  | p :: r, q, x => if p.1 = q then (q, x) :: r else p :: put r q x
def del (E : Ents) (q : VK) : Ents := E.filter fun p => !decide (p.1 = q)
def Uniq (E : Ents) : Prop := E.Pairwise fun p r => p.1 ≠ r.1

theorem look_none {E : Ents} {q : VK} : lkE E q = none ↔ ∀ p ∈ E, p.1 ≠ q := by
  induction E with
  | nil => simp [lkE]
  | cons p r ih => rw [lkE]; split <;> simp_all
theorem look_at {q : VK} {x : Int} : ∀ {E : Ents} {j : Nat}, Uniq E → E[j]? = some (q, x) → lkE E q = some x
  | [], j, _, h => by simp at h
  | p :: r, 0, _, h => by simp at h; subst h; simp [lkE]
  | p :: r, j + 1, u, h => by
    obtain ⟨u1, u2⟩ := List.pairwise_cons.1 u
    simp at h
    rw [lkE, if_neg (u1 _ (List.mem_of_getElem? h))]
    exact look_at u2 h
theorem look_mem {E : Ents} {q : VK} {x : Int} (u : Uniq E) : lkE E q = some x ↔ (q, x) ∈ E := by
  constructor
  · intro h
    induction E with
    | nil => simp [lkE] at h
    | cons p r ih =>
      rw [lkE] at h
      split at h
      · rename_i e; simp at h; subst e h; simp
      · exact List.mem_cons_of_mem _ (ih (List.pairwise_cons.1 u).2 h)
  · intro h
    obtain ⟨j, hj⟩ := List.getElem?_of_mem h
    exact look_at u hj
theorem put_new {q : VK} {x : Int} : ∀ {E : Ents}, (∀ p ∈ E, p.1 ≠ q) → put E q x = E ++ [(q, x)]
  | [], _ => rfl
  | p :: r, h => by rw [put, if_neg (h p (by simp)), put_new (fun a ha => h a (by simp [ha]))]; rfl
theorem put_old {q : VK} {x y : Int} : ∀ {E : Ents} {j : Nat}, Uniq E → E[j]? = some (q, y) → put E q x = E.set j (q, x)
  | [], j, _, h => by simp at h
  | p :: r, 0, _, h => by simp at h; subst h; simp [put]
  | p :: r, j + 1, u, h => by
    obtain ⟨u1, u2⟩ := List.pairwise_cons.1 u
    simp at h
    rw [put, if_neg (u1 _ (List.mem_of_getElem? h)), put_old u2 h]; rfl
theorem del_none {E : Ents} {q : VK} (h : ∀ p ∈ E, p.1 ≠ q) : del E q = E := List.filter_eq_self.2 fun p hp => by simp [h p hp]
theorem del_old {q : VK} {y : Int} : ∀ {E : Ents} {j : Nat}, Uniq E → E[j]? = some (q, y) → del E q = E.eraseIdx j
  | [], j, _, h => by simp at h
  | p :: r, 0, u, h => by
    obtain ⟨u1, u2⟩ := List.pairwise_cons.1 u
    simp at h; subst h
    have := del_none (E := r) (q := q) fun a ha => (u1 a ha).symm
    simpa [del] using this
  | p :: r, j + 1, u, h => by
    obtain ⟨u1, u2⟩ := List.pairwise_cons.1 u
    simp at h
    have := del_old u2 h
    have hn := u1 _ (List.mem_of_getElem? h)
    simp only [del] at this ⊢
    rw [List.filter_cons, if_pos (by simpa using hn), this]; rfl

theorem laidE : laidOutB Try.prog = true := by kernel_rfl
theorem row28 : (28 : TypeId) < Try.prog.types.size := of_decide_eq_true (by kernel_rfl)
theorem wide28 : (match Try.prog.underlying 28 with | some (.array _ _) | some (.struct _) => true | _ => false) = true := by kernel_rfl
theorem keyed28 : Keyed Try.prog 28 := Keyed.of_law (deep_law_laid laidE (m := 2) (by omega) row28 (by kernel_rfl) wide28)
theorem type28 : Try.prog.keyType 28 = true := by kernel_rfl
theorem und28a : (match Try.prog.underlying 28 with | some (.struct fs) => some (fs.toList.map (fun (f : Field) => (f.type, f.offset)), fs.all (fun (f : Field) => f.name != "_")) | _ => none) = some ([(3, 0), (2, 1), (9, 2)], true) := by kernel_rfl
theorem und28 : ∃ fs : Array Field, Try.prog.underlying 28 = some (.struct fs) ∧ fs.toList.map (fun (f : Field) => (f.type, f.offset)) = [(3, 0), (2, 1), (9, 2)] ∧ fs.all (fun (f : Field) => f.name != "_") = true := by
  have h := und28a
  split at h
  · rename_i fs e; simp only [Option.some.injEq, Prod.mk.injEq] at h; exact ⟨fs, e, h.1, h.2⟩
  · cases h
theorem und3 : Try.prog.underlying 3 = some (.int .i64) := by kernel_rfl
theorem und2 : Try.prog.underlying 2 = some (.int .i64) := by kernel_rfl
theorem und9 : Try.prog.underlying 9 = some .string := by kernel_rfl
theorem und44 : Try.prog.underlying 44 = some (.map 28 2) := by kernel_rfl
theorem cells28 : Try.prog.cellsOf 28 = 3 ∧ Try.prog.cellsOf 3 = 1 ∧ Try.prog.cellsOf 2 = 1 ∧ Try.prog.cellsOf 9 = 1 := by refine ⟨?_, ?_, ?_, ?_⟩ <;> kernel_rfl
theorem size2 : ∃ m, Try.prog.types.size = m + 1 := ⟨116, by kernel_rfl⟩
theorem VK.Ok.key {q : VK} (h : q.Ok) : ∃ l, keyOf Try.prog 28 q.val = some l := by
  obtain ⟨fs, e, e1, e2⟩ := und28
  obtain ⟨m, hm⟩ := size2
  obtain ⟨c1, c2, c3, c4⟩ := cells28
  have hf : q.val.formed Try.prog 28 = true := by simp [VK.val, Value.formed, e, c1]
  have hl : ∃ ls, Try.prog.keyLits (Try.prog.types.size + 1) 28 q.val.cells.toList = some ls := by
    rw [hm]
    have l3 : fs.toList = [fs.toList[0]!, fs.toList[1]!, fs.toList[2]!] := by
      have : fs.toList.length = 3 := by have := congrArg List.length e1; simpa using this
      match hfs : fs.toList, this with
      | [a, b, c], _ => rfl
    generalize fs.toList[0]! = a at l3
    generalize fs.toList[1]! = b at l3
    generalize fs.toList[2]! = c at l3
    rw [l3] at e1
    simp only [List.map_cons, List.map_nil, List.cons.injEq, Prod.mk.injEq, and_true] at e1
    obtain ⟨⟨a1, a2⟩, ⟨b1, b2⟩, d1, d2⟩ := e1
    have e2' : (fs.all fun x => x.name != "_") = true := e2
    refine ⟨[.int .i64 q.k, .int .i64 q.n, .string q.s.data.toList], ?_⟩
    simp [Program.keyLits, e, VK.val, Value.cells, c1, e2', l3, a1, a2, b1, b2, d1, d2, c2, c3, c4, und3, und2, und9, h.k, h.n, h.s]
  obtain ⟨ls, hl⟩ := hl
  refine ⟨.string (keyBytes ls), ?_⟩
  unfold keyOf
  rw [e]
  show (if (Try.prog.keyType 28 && q.val.formed Try.prog 28) = true then _ else none) = _
  rw [type28, hf, hl]; rfl
