/- OftenMemory: Add and Merge in one contract each; three sketches. Own work; no condition. -/
import Derived.Test.YtaaocppaepnhbaaOm3
namespace Go.Proofs.Ytaaocppaepnhbaa
open Go Go.RowKit Go.Deep Go.Sort Go.Shelf
set_option linter.unusedVariables false
set_option linter.unusedSimpArgs false

abbrev ft (x : Sk) (q : Nat) : Prop := q = x.o ∨ q = x.b
structure OneM (w : World) (k : Nat) (x : Sk) : Prop where
  sk : OftAt w x.o x.b k x.tot x.lost x.E
  inv : Inv k x.tot x.lost x.E x.N
  nu : Uniq x.N
theorem OneM.lt {w : World} {k : Nat} {x : Sk} (h : OneM w k x) {q : Nat} (hq : ft x q) : q < w.heap.size := by
  rcases hq with rfl | rfl
  · exact h.sk.lt
  · exact h.sk.map.lt
theorem OneM.keep {w w' : World} {k : Nat} {x : Sk} (h : OneM w k x) (hk : ∀ q, ft x q → w'.heap[q]? = w.heap[q]?) : OneM w' k x := ⟨h.sk.keep (hk _ (.inl rfl)) (hk _ (.inr rfl)), h.inv, h.nu⟩
def codeA (tot n : Int) : Int := if n < 0 then 1 else if 4611686018427387904 - tot < n then 3 else 0
structure AddRel (k : Nat) (x : Sk) (v : VK) (n : Int) (x' : Sk) : Prop where
  o : x'.o = x.o
  b : x'.b = x.b
  ex : (codeA x.tot n ≠ 0 ∧ x' = x) ∨ (codeA x.tot n = 0 ∧ x'.tot = x.tot + n ∧ Low k x.lost (if 0 < n then put x.E (cleanV v) ((lkE x.E (cleanV v)).getD 0 + n) else x.E) x'.lost x'.E)
structure SameT (x y : Sk) : Prop where
  tot : x.tot = y.tot
  lost : x.lost = y.lost
  look : ∀ r, lkE x.E r = lkE y.E r
theorem AddRel.same {k : Nat} {x y x' y' : Sk} {v : VK} {n : Int} (ux : Uniq x.E) (uy : Uniq y.E) (h : SameT x y) (hx : AddRel k x v n x') (hy : AddRel k y v n y') : SameT x' y' := by
  rcases hx.ex with ⟨a1, rfl⟩ | ⟨a1, a2, a3⟩
  · rcases hy.ex with ⟨b1, rfl⟩ | ⟨b1, b2, b3⟩
    · exact h
    · rw [← h.tot] at b1; exact absurd b1 a1
  · rcases hy.ex with ⟨b1, rfl⟩ | ⟨b1, b2, b3⟩
    · rw [← h.tot] at b1; exact absurd a1 b1
    · have hl : ∀ q, lkE (if 0 < n then put x.E (cleanV v) ((lkE x.E (cleanV v)).getD 0 + n) else x.E) q = lkE (if 0 < n then put y.E (cleanV v) ((lkE y.E (cleanV v)).getD 0 + n) else y.E) q := fun q => by
        split
        · rw [h.look (cleanV v)]; exact put_same h.look q
        · exact h.look q
      rw [← h.lost] at b3
      have := Low.same (by split; exact put_uniq ux; exact ux) (by split; exact put_uniq uy; exact uy) hl a3 b3
      exact ⟨by rw [a2, b2, h.tot], this.1, this.2⟩
theorem add_m (x : Sk) (k : Nat) (v : VK) (hv : v.Ok) (n : Int) (w : World) (X : OneM w k x) : Calls Try.prog 10 #[.pointer (some ⟨x.o, 0, none⟩), v.val, .int .i64 n] w fun e w' =>
    e = .returned (.int .i64 (codeA x.tot n)) ∧ ∃ x', OneM w' k x' ∧ AddRel k x v n x' ∧ Turn w w' (ft x) := by
  have ht0 := X.inv.tot0
  have ht1 := X.inv.htot
  by_cases h1 : n < 0
  · have hc : codeA x.tot n = 1 := by simp [codeA, h1]
    refine (add_neg (some ⟨x.o, 0, none⟩) v n h1 w).mono ?_
    rintro e w' ⟨rfl, T⟩
    exact ⟨by rw [hc], x, X.keep fun q hq => T.block q (X.lt hq) id, ⟨rfl, rfl, .inl ⟨by rw [hc]; decide, rfl⟩⟩, ⟨T.os, T.tape, T.output, T.size, fun q hq _ => T.block q hq id⟩⟩
  · by_cases h2 : 4611686018427387904 - x.tot < n
    · have hc : codeA x.tot n = 3 := by simp [codeA, h1, h2]
      refine (add_large x.o x.b k x.tot x.lost x.E w X.sk v n (by omega) ⟨ht0, ht1⟩ h2).mono ?_
      rintro e w' ⟨rfl, T⟩
      exact ⟨by rw [hc], x, X.keep fun q hq => T.block q (X.lt hq) id, ⟨rfl, rfl, .inl ⟨by rw [hc]; decide, rfl⟩⟩, ⟨T.os, T.tape, T.output, T.size, fun q hq _ => T.block q hq id⟩⟩
    · have hc : codeA x.tot n = 0 := by simp [codeA, h1, h2]
      have hu := X.sk.map.uniq
      have hbd := X.inv.bound hu
      refine (add_w x.o x.b k x.tot x.lost x.E w X.sk X.inv.hk (by have := X.inv.len; have := X.inv.hk; omega) v hv n (by omega) ht0 (by omega) (fun q hq => by
        have h3 := hbd q.1
        rw [(look_mem hu (q := q.1) (x := q.2)).2 hq] at h3
        have := (X.inv.pos q hq).1
        have := X.inv.hlost
        simp at h3; omega) ⟨X.inv.hlost, by have := hbd v; omega⟩).mono ?_
      rintro e w' ⟨rfl, lost', E', M, T, hL⟩
      refine ⟨by rw [hc], ⟨x.o, x.b, x.c, x.tot + n, lost', E', put x.N (cleanV v) ((lkE x.N (cleanV v)).getD 0 + n)⟩, ⟨M, ?_, put_uniq X.nu⟩, ⟨rfl, rfl, .inr ⟨hc, rfl, hL⟩⟩, T⟩
      exact (X.inv.ofAdd hu X.nu v (by omega) (by omega)).low (by split; exact put_uniq hu; exact hu) (put_uniq X.nu) hL
theorem merge_m (x y : Sk) (k : Nat) (w : World) (X : OneM w k x) (Y : OneM w k y) : Calls Try.prog 8 #[.pointer (some ⟨x.o, 0, none⟩), .pointer (some ⟨y.o, 0, none⟩)] w fun e w' =>
    ∃ c, e = .returned (.int .i64 c) ∧ ∃ x', OneM w' k x' ∧ x'.o = x.o ∧ (∀ q, ft x' q → ft x q ∨ w.heap.size ≤ q) ∧ Turn w w' (ft x) ∧ (c = 0 ∨ (c = 3 ∧ x'.tot = x.tot ∧ 4611686018427387904 - x.tot < y.tot)) := by
  have ht0 := X.inv.tot0
  have ht1 := X.inv.htot
  by_cases h2 : 4611686018427387904 - x.tot < y.tot
  · refine (merge_large x.o x.b y.o y.b k x.tot x.lost y.tot y.lost x.E y.E w X.sk Y.sk ⟨ht0, ht1⟩ h2).mono ?_
    rintro e w' ⟨rfl, T⟩
    exact ⟨3, rfl, x, X.keep fun q hq => T.block q (X.lt hq) id, rfl, fun q h => .inl h, ⟨T.os, T.tape, T.output, T.size, fun q hq _ => T.block q hq id⟩, .inr ⟨rfl, rfl, h2⟩⟩
  · have hu := X.sk.map.uniq
    have hu2 := Y.sk.map.uniq
    have hbd := X.inv.bound hu
    have hbd2 := Y.inv.bound hu2
    refine (merge_w x.o x.b y.o y.b k x.tot x.lost y.tot y.lost x.E y.E w X.sk Y.sk X.inv.hk (by have := X.inv.len; have := X.inv.hk; omega) (by have := Y.inv.len; have := Y.inv.hk; omega) (by omega) (fun q hq => by
      have h1 := hbd q.1
      rw [(look_mem hu (q := q.1) (x := q.2)).2 hq] at h1
      simpa using h1) (fun q hq => by
      have h1 := hbd2 q.1
      rw [(look_mem hu2 (q := q.1) (x := q.2)).2 hq] at h1
      simpa using h1) ⟨X.inv.hlost, by have := hbd markV; omega⟩ ⟨Y.inv.hlost, by have := hbd2 markV; omega⟩).mono ?_
    rintro e w' ⟨rfl, m, D, lost', E', hm, M, T, hD, hDu, _, hL⟩
    refine ⟨0, rfl, ⟨x.o, m, x.c, x.tot + y.tot, lost', E', mix x.N y.N⟩, ⟨M, ?_, mix_uniq X.nu⟩, rfl, fun q h => ?_, ⟨T.os, T.tape, T.output, T.size, fun q hq hn => T.block q hq fun e => hn (.inl e)⟩, .inl rfl⟩
    · exact (X.inv.ofMerge Y.inv hu hu2 X.nu Y.nu hDu (mix_uniq X.nu) hD (fun q => mix_look Y.nu) (by omega)).low hDu (mix_uniq X.nu) hL
    · rcases h with h | h
      · exact .inl (.inl h)
      · exact .inr (by rw [h]; exact hm)
theorem all_m (x : Sk) (k : Nat) (w : World) (X : OneM w k x) : Calls Try.prog 7 #[.pointer (some ⟨x.o, 0, none⟩)] w fun e w' => ∃ t F, e = .returned t ∧ w'.ownsRow w.heap.size 39 5 t F.length (flatF F) ∧ w.Since w.heap.size w' ∧ Told x.E x.lost F ∧ SortedIn (ltOf ordF) 0 F.length F.toArray :=
  all_w x.o x.b k x.tot x.lost x.E w X.sk (by have := X.inv.len; have := X.inv.hk; omega) fun p hp => by
    have hu := X.sk.map.uniq
    have h1 := X.inv.bound hu p.1
    rw [(look_mem hu (q := p.1) (x := p.2)).2 hp] at h1
    have := X.inv.hlost
    have := X.inv.htot
    simp at h1; omega

/-- Three of them. -/
structure Sm (H : Nat) (w : World) (k : Nat) (s : Nat → Sk) : Prop where
  one : ∀ i, i < 3 → OneM w k (s i)
  dis : ∀ i j q, i < 3 → j < 3 → i ≠ j → ft (s i) q → ¬ ft (s j) q
  old : ∀ i q, i < 3 → ft (s i) q → H ≤ q
theorem Sm.keep {H : Nat} {w w' : World} {k : Nat} {s : Nat → Sk} (h : Sm H w k s) (T : Turn w w' (fun _ => False)) : Sm H w' k s :=
  ⟨fun i hi => (h.one i hi).keep fun q hq => T.block q ((h.one i hi).lt hq) id, h.dis, h.old⟩
theorem Sm.keepF {H : Nat} {w w' : World} {k : Nat} {s : Nat → Sk} {own : Nat → Prop} (h : Sm H w k s) (T : Turn w w' own) (ho : ∀ i q, i < 3 → ft (s i) q → ¬ own q) : Sm H w' k s :=
  ⟨fun i hi => (h.one i hi).keep fun q hq => T.block q ((h.one i hi).lt hq) (ho i q hi hq), h.dis, h.old⟩
theorem Sm.upd {H : Nat} {w w1 : World} {k : Nat} {s : Nat → Sk} (h : Sm H w k s) (hH : H ≤ w.heap.size) {j : Nat} (hj : j < 3) {x : Sk} (X : OneM w1 k x) (hf : ∀ q, ft x q → ft (s j) q ∨ w.heap.size ≤ q) (T : Turn w w1 (ft (s j))) : Sm H w1 k (upd s j x) := by
  have hu : ∀ i, i ≠ j → Go.Proofs.Ytaaocppaepnhbaa.upd s j x i = s i := fun i hi => upd_ne _ _ hi
  refine ⟨fun i hi => ?_, fun i i' q hi hi' hij hq hq' => ?_, fun i q hi hq => ?_⟩
  · by_cases e : i = j
    · subst e; rw [upd_same]; exact X
    · rw [hu i e]
      exact (h.one i hi).keep fun q hq => T.block q ((h.one i hi).lt hq) (h.dis i j q hi hj e hq)
  · by_cases e : i = j
    · subst e
      rw [upd_same] at hq; rw [hu i' (Ne.symm hij)] at hq'
      rcases hf q hq with g | g
      · exact h.dis i i' q hi hi' hij g hq'
      · have := (h.one i' hi').lt hq'; omega
    · rw [hu i e] at hq
      by_cases e' : i' = j
      · subst e'
        rw [upd_same] at hq'
        rcases hf q hq' with g | g
        · exact h.dis i i' q hi hi' hij hq g
        · have := (h.one i hi).lt hq; omega
      · rw [hu i' e'] at hq'; exact h.dis i i' q hi hi' hij hq hq'
  · by_cases e : i = j
    · subst e
      rw [upd_same] at hq
      rcases hf q hq with g | g
      · exact h.old i q hi g
      · omega
    · rw [hu i e] at hq; exact h.old i q hi hq
end Go.Proofs.Ytaaocppaepnhbaa
