/- OftenTells: what adding and merging keep, plain. Own work; no condition. -/
import Derived.Test.YtaaocppaepnhbaaOf20
namespace Go.Proofs.Ytaaocppaepnhbaa
open Go Go.RowKit
set_option linter.unusedVariables false
set_option linter.unusedSimpArgs false

/-- An Inv ahead of the lowering. -/
structure Pre (k : Nat) (tot lost : Int) (E N : Ents) : Prop where
  hk : 1 ≤ k ∧ k ≤ 1024
  pos : ∀ p ∈ E, 0 < p.2 ∧ cleanV p.1 = p.1
  npos : ∀ p ∈ N, 0 ≤ p.2 ∧ p.2 ≤ tot ∧ cleanV p.1 = p.1
  near : ∀ q, (lkE E q).getD 0 ≤ (lkE N q).getD 0 ∧ (lkE N q).getD 0 ≤ (lkE E q).getD 0 + lost
  hlost : 0 ≤ lost
  sum : lost * (k + 1) + sumE E ≤ tot
  htot : tot ≤ 4611686018427387904
theorem look_cut {least : Int} {q : VK} : ∀ {E : Ents}, Uniq E → lkE (E.filterMap (cut least)) q = (lkE E q).bind fun x => if x ≤ least then none else some (x - least)
  | [], _ => rfl
  | p :: r, hu => by
    obtain ⟨u1, u2⟩ := List.pairwise_cons.1 hu
    have ih := look_cut (least := least) (q := q) u2
    rw [List.filterMap_cons]
    by_cases e : p.1 = q
    · have hr : lkE (r.filterMap (cut least)) q = none := by
        rw [ih, look_none.2 fun a ha h => u1 a ha (e.trans h.symm)]; rfl
      by_cases hl : p.2 ≤ least
      · simp [cut, hl, lkE, e, hr]
      · simp [cut, hl, lkE, e]
    · by_cases hl : p.2 ≤ least
      · simp [cut, hl, lkE, e, ih]
      · simp [cut, hl, lkE, e, ih]
theorem cut_sum {least : Int} (h0 : 0 ≤ least) : ∀ {E : Ents}, (∀ p ∈ E, 0 < p.2) → sumE (E.filterMap (cut least)) + least * ((E.filter fun p => decide (least ≤ p.2)).length : Nat) ≤ sumE E
  | [], _ => by simp [sumE]
  | p :: r, h => by
    have h1 := h p (by simp)
    have ih := cut_sum h0 (E := r) fun q hq => h q (List.mem_cons_of_mem p hq)
    rw [List.filterMap_cons, List.filter_cons]
    by_cases hl : p.2 ≤ least
    · by_cases he : least ≤ p.2
      · simp only [cut, hl, he, if_true, decide_true, List.length_cons, sumE, List.map_cons, List.sum_cons] at ih ⊢
        have : least * (((r.filter fun p => decide (least ≤ p.2)).length + 1 : Nat) : Int) = least * ((r.filter fun p => decide (least ≤ p.2)).length : Nat) + least := by rw [Int.natCast_add, Int.mul_add]; simp
        rw [this]; omega
      · simp only [cut, hl, he, if_true, decide_false, Bool.false_eq_true, if_false, sumE, List.map_cons, List.sum_cons] at ih ⊢
        omega
    · have he : least ≤ p.2 := by omega
      simp only [cut, hl, he, if_false, if_true, decide_true, List.length_cons, sumE, List.map_cons, List.sum_cons] at ih ⊢
      have : least * (((r.filter fun p => decide (least ≤ p.2)).length + 1 : Nat) : Int) = least * ((r.filter fun p => decide (least ≤ p.2)).length : Nat) + least := by rw [Int.natCast_add, Int.mul_add]; simp
      rw [this]; omega
theorem npos_look {N : Ents} {tot : Int} (h : ∀ p ∈ N, 0 ≤ p.2 ∧ p.2 ≤ tot ∧ cleanV p.1 = p.1) (hu : Uniq N) (ht : 0 ≤ tot) (q : VK) : 0 ≤ (lkE N q).getD 0 ∧ (lkE N q).getD 0 ≤ tot := by
  cases hx : lkE N q with
  | none => simp [ht]
  | some x => have := h _ ((look_mem hu).1 hx); simp at this ⊢; omega
theorem Pre.low {k : Nat} {tot lost lost' : Int} {E E' N : Ents} (h : Pre k tot lost E N) (hu : Uniq E) (hn : Uniq N) (hL : Low k lost E lost' E') : Inv k tot lost' E' N := by
  have ht : 0 ≤ tot := by
    have h1 := sum_pos fun p hp => (h.pos p hp).1
    have h2 := h.sum
    have : 0 ≤ lost * (k + 1) := Int.mul_nonneg h.hlost (by omega)
    omega
  rcases hL.ex with ⟨h1, rfl, rfl⟩ | ⟨h1, least, rfl, rfl, h2, h3, p, hp, hp2⟩
  · exact ⟨h.hk, h1, h.pos, h.npos, h.near, h.hlost, h.sum, h.htot⟩
  · have hl0 : 0 < least := by have := (h.pos p hp).1; omega
    refine ⟨h.hk, by rw [cut_len]; exact h2, fun p' hp' => ?_, h.npos, fun q => ?_, by have := h.hlost; omega, ?_, h.htot⟩
    · obtain ⟨p0, hp0, hc⟩ := List.mem_filterMap.1 hp'
      have := h.pos p0 hp0
      unfold cut at hc
      split at hc
      · cases hc
      · cases hc; exact ⟨by simp only; omega, this.2⟩
    · have hn1 := h.near q
      have hn2 := npos_look h.npos hn ht q
      rw [look_cut hu]
      cases hx : lkE E q with
      | none => rw [hx] at hn1; simp at hn1 ⊢; omega
      | some x =>
        rw [hx] at hn1
        simp only [Option.getD_some, Option.bind_some] at hn1 ⊢
        split
        · simp; omega
        · simp; omega
    · have hs := cut_sum (least := least) (by omega) fun p hp => (h.pos p hp).1
      have h5 : least * (k + 1) ≤ least * ((E.filter fun p => decide (least ≤ p.2)).length : Nat) := Int.mul_le_mul_of_nonneg_left (by omega) (by omega)
      have h6 := h.sum
      have h7 : (lost + least) * (k + 1) = lost * (k + 1) + least * (k + 1) := Int.add_mul _ _ _
      rw [h7]; omega
theorem sum_put {q : VK} {y : Int} : ∀ {E : Ents}, sumE (put E q y) = sumE E - (lkE E q).getD 0 + y
  | [] => by simp [put, lkE, sumE]
  | p :: r => by
    have ih := sum_put (E := r) (q := q) (y := y)
    by_cases e : p.1 = q
    · simp [put, lkE, e, sumE]; omega
    · simp only [put, lkE, e, if_false, sumE, List.map_cons, List.sum_cons] at ih ⊢; omega
theorem Uniq.nodup' {E : Ents} (h : Uniq E) : E.Nodup := by rw [List.nodup_iff_pairwise_ne]; exact h.imp fun hne e => hne (by rw [e])
theorem perm_sum {a b : List Int} (h : a.Perm b) : a.sum = b.sum := by
  induction h with
  | nil => rfl
  | cons x _ ih => simp [ih]
  | swap x y l => simp; omega
  | trans _ _ h1 h2 => exact h1.trans h2
theorem sum_ext {D D' : Ents} (h : Uniq D) (h' : Uniq D') (hl : ∀ q, lkE D q = lkE D' q) : sumE D = sumE D' := by
  have hp : D.Perm D' := (List.perm_ext_iff_of_nodup h.nodup' h'.nodup').2 fun a => by
    rw [show a = (a.1, a.2) from rfl, ← look_mem h, ← look_mem h', hl]
  exact perm_sum (hp.map _)
theorem put_key {q : VK} {x : Int} {a : VK} : ∀ {E : Ents}, (∃ p ∈ put E q x, p.1 = a) → a = q ∨ ∃ p ∈ E, p.1 = a := by
  rintro E ⟨p, hp, rfl⟩
  rcases put_mem hp with e | e
  · exact .inl (by rw [e])
  · exact .inr ⟨p, e, rfl⟩
theorem put_uniq {q : VK} {x : Int} : ∀ {E : Ents}, Uniq E → Uniq (put E q x)
  | [], _ => by simp [put, Uniq]
  | p :: r, h => by
    obtain ⟨h1, h2⟩ := List.pairwise_cons.1 h
    rw [put]
    split
    · rename_i e
      exact List.pairwise_cons.2 ⟨fun a ha => by rw [← e]; exact h1 a ha, h2⟩
    · rename_i e
      refine List.pairwise_cons.2 ⟨fun a ha => ?_, put_uniq h2⟩
      rcases put_mem ha with e' | e'
      · rw [e']; exact e
      · exact h1 a e'
/-- The second list put on the first one by one. -/
def mix (E : Ents) : Ents → Ents
  | [] => E
  | p :: r => mix (put E p.1 ((lkE E p.1).getD 0 + p.2)) r
theorem mix_uniq : ∀ {E2 E : Ents}, Uniq E → Uniq (mix E E2)
  | [], _, h => h
  | p :: r, _, h => mix_uniq (E2 := r) (put_uniq h)
theorem mix_sum : ∀ {E2 E : Ents}, sumE (mix E E2) = sumE E + sumE E2
  | [], E => by simp [mix, sumE]
  | p :: r, E => by
    rw [mix, mix_sum, sum_put]
    simp only [sumE, List.map_cons, List.sum_cons]; omega
theorem mix_look : ∀ {E2 E : Ents} {q : VK}, Uniq E2 → lkE (mix E E2) q = both E E2 q
  | [], E, q, _ => rfl
  | p :: r, E, q, h => by
    obtain ⟨h1, h2⟩ := List.pairwise_cons.1 h
    rw [mix, mix_look h2]
    unfold both
    by_cases e : p.1 = q
    · have : lkE r q = none := look_none.2 fun a ha h' => h1 a ha (e.trans h'.symm)
      rw [this]
      simp [lkE, e, look_put]
    · have e' : ¬ q = p.1 := fun h => e h.symm
      simp only [lkE, e, if_false, look_put, e']
theorem both_sum {E E2 D : Ents} (hD : Uniq D) (hE : Uniq E) (hE2 : Uniq E2) (h : ∀ q, lkE D q = both E E2 q) : sumE D = sumE E + sumE E2 := by
  rw [← mix_sum]
  exact sum_ext hD (mix_uniq hE) fun q => by rw [h, mix_look hE2]
theorem both_getD {E E2 : Ents} (q : VK) : (both E E2 q).getD 0 = (lkE E q).getD 0 + (lkE E2 q).getD 0 := by
  unfold both
  cases lkE E2 q with
  | none => simp
  | some x => simp
theorem both_mem {E E2 D : Ents} (hD : Uniq D) (hE : Uniq E) (hE2 : Uniq E2) (h : ∀ q, lkE D q = both E E2 q) {p : VK × Int} (hp : p ∈ D) : (∃ a ∈ E, a.1 = p.1) ∨ ∃ a ∈ E2, a.1 = p.1 := by
  have h1 := (look_mem hD (q := p.1) (x := p.2)).2 hp
  rw [h] at h1
  unfold both at h1
  cases h2 : lkE E2 p.1 with
  | none => rw [h2] at h1; exact .inl ⟨_, (look_mem hE).1 h1, rfl⟩
  | some x => exact .inr ⟨_, (look_mem hE2).1 h2, rfl⟩
theorem Inv.tot0 {k : Nat} {tot lost : Int} {E N : Ents} (h : Inv k tot lost E N) : 0 ≤ tot := by
  have h1 := sum_pos fun p hp => (h.pos p hp).1
  have h2 := h.sum
  have : 0 ≤ lost * (k + 1) := Int.mul_nonneg h.hlost (by omega)
  omega
theorem Inv.ofAdd {k : Nat} {tot lost : Int} {E N : Ents} (h : Inv k tot lost E N) (hu : Uniq E) (hn : Uniq N) (v : VK) {n : Int} (h0 : 0 ≤ n) (h1 : n ≤ 4611686018427387904 - tot) :
    Pre k (tot + n) lost (if 0 < n then put E (cleanV v) ((lkE E (cleanV v)).getD 0 + n) else E) (put N (cleanV v) ((lkE N (cleanV v)).getD 0 + n)) := by
  have ht := h.tot0
  have hb := h.bound hu (cleanV v)
  have hN := npos_look h.npos hn ht (cleanV v)
  have hnr := h.near
  have hci := cleanV_idem v
  generalize cleanV v = q at *
  refine ⟨h.hk, fun p hp => ?_, fun p hp => ?_, fun r => ?_, h.hlost, ?_, by omega⟩
  · split at hp
    · rcases put_mem hp with e | e
      · rw [e]; exact ⟨by simp only; omega, hci⟩
      · exact h.pos p e
    · exact h.pos p hp
  · rcases put_mem hp with e | e
    · rw [e]; exact ⟨by simp only; omega, by simp only; omega, hci⟩
    · have := h.npos p e; exact ⟨this.1, by omega, this.2.2⟩
  · rw [look_put]
    have := hnr r
    by_cases e : r = q
    · subst e
      rw [if_pos rfl]
      split
      · rw [look_put, if_pos rfl]; simp; omega
      · simp; omega
    · rw [if_neg e]
      split
      · rw [look_put, if_neg e]; exact this
      · exact this
  · have := h.sum
    split
    · rw [sum_put]; omega
    · omega
theorem Inv.ofMerge {k : Nat} {tot lost tot2 lost2 : Int} {E N E2 N2 D M : Ents} (h : Inv k tot lost E N) (h2 : Inv k tot2 lost2 E2 N2) (hu : Uniq E) (hu2 : Uniq E2) (hn : Uniq N) (hn2 : Uniq N2) (hD : Uniq D) (hM : Uniq M)
    (hd : ∀ q, lkE D q = both E E2 q) (hm : ∀ q, lkE M q = both N N2 q) (ht : tot + tot2 ≤ 4611686018427387904) : Pre k (tot + tot2) (lost + lost2) D M := by
  have t1 := h.tot0
  have t2 := h2.tot0
  have hl1 := h.hlost
  have hl2 := h2.hlost
  refine ⟨h.hk, fun p hp => ⟨?_, ?_⟩, fun p hp => ⟨?_, ?_, ?_⟩, fun q => ?_, by omega, ?_, ht⟩
  · have h1 := (look_mem hD (q := p.1) (x := p.2)).2 hp
    have e : (lkE D p.1).getD 0 = p.2 := by rw [h1]; rfl
    rw [hd, both_getD] at e
    have b1 := h.bound hu p.1
    have b2 := h2.bound hu2 p.1
    rw [hd] at h1
    unfold both at h1
    cases hx : lkE E2 p.1 with
    | none =>
      rw [hx] at h1
      exact (h.pos _ ((look_mem hu).1 h1)).1
    | some x =>
      have := (h2.pos _ ((look_mem hu2).1 hx)).1
      rw [hx] at e
      simp at e this; omega
  · rcases both_mem hD hu hu2 hd hp with ⟨a, ha, e⟩ | ⟨a, ha, e⟩
    · rw [← e]; exact (h.pos a ha).2
    · rw [← e]; exact (h2.pos a ha).2
  all_goals try (
    have h1 := (look_mem hM (q := p.1) (x := p.2)).2 hp
    have e : (lkE M p.1).getD 0 = p.2 := by rw [h1]; rfl
    rw [hm, both_getD] at e
    have b1 := npos_look h.npos hn t1 p.1
    have b2 := npos_look h2.npos hn2 t2 p.1)
  · omega
  · omega
  · rcases both_mem hM hn hn2 hm hp with ⟨a, ha, e'⟩ | ⟨a, ha, e'⟩
    · rw [← e']; exact (h.npos a ha).2.2
    · rw [← e']; exact (h2.npos a ha).2.2
  · rw [hd, hm, both_getD, both_getD]
    have b1 := h.near q
    have b2 := h2.near q
    omega
  · rw [both_sum hD hu hu2 hd]
    have s1 := h.sum
    have s2 := h2.sum
    have : (lost + lost2) * ((k : Int) + 1) = lost * (k + 1) + lost2 * (k + 1) := Int.add_mul _ _ _
    rw [this]; omega
theorem Inv.start {k : Nat} (hk : 1 ≤ k ∧ k ≤ 1024) : Inv k 0 0 [] [] := ⟨hk, by simp, by simp, by simp, fun q => by simp [lkE], by omega, by simp [sumE], by omega⟩
end Go.Proofs.Ytaaocppaepnhbaa
