/- Facts of a loop over a list's places, once for all loops. Own work; no condition. -/
import Derived.Test.YtlabphnonlicdaaGreatPaAbs22
namespace Go.Proofs.YtlabphnonlicdaaGreat
open Go Go.RowKit
theorem lenZ {α : Type} {l : List α} {n : Nat} {z : Int} (hn : l.length = n) (h : ((l.length : Nat) : Int) = z) : z.toNat = n ∧ 0 ≤ z := by omega
structure Rng (n : Nat) (zl i : Int) : Prop where
 lo : 0 ≤ i
 hi : i ≤ zl
 len : zl = (n : Int)
 top : zl ≤ 140737488355328
theorem Rng.start {n : Nat} {zl : Int} (h : zl.toNat = n ∧ 0 ≤ zl) (ht : zl ≤ 140737488355328) : Rng n zl 0 := ⟨by omega, by omega, by omega, ht⟩
theorem Rng.lt {n : Nat} {zl i : Int} (r : Rng n zl i) (h : decide (i < zl) = true) : i < (n : Int) := by simp only [decide_eq_true_eq] at h; have := r.len; omega
theorem Rng.ltN {n : Nat} {zl i : Int} (r : Rng n zl i) (h : decide (i < zl) = true) : i.toNat < n := by simp only [decide_eq_true_eq] at h; have := r.len; have := r.lo; omega
theorem Rng.wrap {n : Nat} {zl i : Int} (r : Rng n zl i) (h : decide (i < zl) = true) : IntKind.i64.wrap (i + 1) = i + 1 := by
 simp only [decide_eq_true_eq] at h; have := r.top; have := r.lo; exact wrap_in (by omega)
theorem Rng.next {n : Nat} {zl i : Int} (r : Rng n zl i) (h : decide (i < zl) = true) : Rng n zl (i + 1) := by
 simp only [decide_eq_true_eq] at h; have := r.lo; exact ⟨by omega, by omega, r.len, r.top⟩
theorem Rng.less {n : Nat} {zl i : Int} (_ : Rng n zl i) (h : decide (i < zl) = true) : (zl - (i + 1)).toNat < (zl - i).toNat := by
 simp only [decide_eq_true_eq] at h; omega
theorem Rng.toNat {n : Nat} {zl i : Int} (r : Rng n zl i) : (i + 1).toNat = i.toNat + 1 := by have := r.lo; omega
theorem Rng.step {n : Nat} {zl i : Int} (r : Rng n zl i) {α : Type} {l : List α} {x : α} (hx : l[i.toNat]? = some x) : l.drop i.toNat = x :: l.drop (i + 1).toNat := by
 rw [List.drop_eq_getElem_cons (List.getElem?_eq_some_iff.1 hx).1, (List.getElem?_eq_some_iff.1 hx).2, r.toNat]
theorem Rng.stop {n : Nat} {zl i : Int} (r : Rng n zl i) (h : decide (i < zl) = false) : n ≤ i.toNat ∧ i = zl ∧ i = (n : Int) := by
 simp only [decide_eq_false_iff_not] at h; have := r.lo; have := r.hi; have := r.len; omega
theorem Rng.end_ {n : Nat} {zl i : Int} (r : Rng n zl i) {α : Type} {l : List α} (hl : l.length = n) (h : decide (i < zl) = false) : l.drop i.toNat = [] := List.drop_eq_nil_of_le (by have := (r.stop h).1; omega)
theorem Rng.take_ {n : Nat} {zl i : Int} (r : Rng n zl i) {α : Type} {l : List α} (hl : l.length = n) (h : decide (i < zl) = false) : l.take i.toNat = l := List.take_of_length_le (by have := (r.stop h).1; omega)
theorem Rng.take {n : Nat} {zl i : Int} (r : Rng n zl i) {α : Type} {l : List α} {x : α} (hx : l[i.toNat]? = some x) : l.take (i + 1).toNat = l.take i.toNat ++ [x] := by
 rw [r.toNat, List.take_add_one, hx]; rfl
theorem Nm.lit {v : Unit → Nat} {K : Nat → Prop} (k : Nat) (h : v () = k) (g : K k) : Nm v K := ⟨fun z hz => by rw [h] at hz; subst hz; exact g⟩
theorem Nm.b {v : Unit → Bool} {K : Bool → Prop} (b : Bool) (h : v () = b) (g : K b) : Nm v K := ⟨fun z hz => by rw [h] at hz; subst hz; exact g⟩
theorem Nm.three {v : Unit → Nat} {K : Nat → Prop} (h : v () = 0 ∨ v () = 1 ∨ v () = 2) (a : v () = 0 → K 0) (b : v () = 1 → K 1) (c : v () = 2 → K 2) : Nm v K := ⟨fun z hz => by
 rcases h with h | h | h
 · have := a h; rw [h] at hz; subst hz; exact this
 · have := b h; rw [h] at hz; subst hz; exact this
 · have := c h; rw [h] at hz; subst hz; exact this⟩
end Go.Proofs.YtlabphnonlicdaaGreat
