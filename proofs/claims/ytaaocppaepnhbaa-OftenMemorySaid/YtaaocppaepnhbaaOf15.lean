/- sketch.Often: what a lowering leaves, plain. Own work; no condition. -/
import Derived.Test.YtaaocppaepnhbaaOf14
namespace Go.Proofs.Ytaaocppaepnhbaa
open Go Go.RowKit Go.Deep Go.Sort Go.Shelf
set_option linter.unusedVariables false
set_option linter.unusedSimpArgs false

theorem put_len {q : VK} {x : Int} : ∀ {E : Ents}, (put E q x).length ≤ E.length + 1
  | [] => by simp [put]
  | p :: r => by
    rw [put]; split
    · simp
    · have := put_len (E := r) (q := q) (x := x); simp; omega
theorem put_mem {q : VK} {x : Int} {p : VK × Int} : ∀ {E : Ents}, p ∈ put E q x → p = (q, x) ∨ p ∈ E
  | [], h => by simp [put] at h; exact .inl h
  | a :: r, h => by
    rw [put] at h; split at h
    · rcases List.mem_cons.1 h with h | h
      · exact .inl h
      · exact .inr (List.mem_cons_of_mem _ h)
    · rcases List.mem_cons.1 h with h | h
      · exact .inr (h ▸ List.mem_cons_self)
      · exact (put_mem h).imp id (List.mem_cons_of_mem _)
theorem filterMap_eq {α β : Type} {f g : α → Option β} : ∀ {l : List α}, (∀ p ∈ l, f p = g p) → l.filterMap f = l.filterMap g
  | [], _ => rfl
  | p :: r, h => by
    rw [List.filterMap_cons, List.filterMap_cons, h p (by simp), filterMap_eq fun q hq => h q (by simp [hq])]
def cut (least : Int) (p : VK × Int) : Option (VK × Int) := if p.2 ≤ least then none else some (p.1, p.2 - least)
def half (least : Int) (L : List VK) (p : VK × Int) : Option (VK × Int) := if p.1 ∈ L then some p else cut least p
theorem cut_key {least : Int} {p p' : VK × Int} (h : cut least p = some p') : p'.1 = p.1 := by
  unfold cut at h; split at h
  · cases h
  · cases h; rfl
theorem half_key {least : Int} {L : List VK} {p p' : VK × Int} (h : half least L p = some p') : p'.1 = p.1 := by
  unfold half at h; split at h
  · cases h; rfl
  · exact cut_key h
theorem half_all {least : Int} {E : Ents} : E.filterMap (half least (E.map (·.1))) = E := by
  have : ∀ p ∈ E, half least (E.map (·.1)) p = some p := fun p hp => by
    unfold half; rw [if_pos (List.mem_map.2 ⟨p, hp, rfl⟩)]
  rw [show E.filterMap (half least (E.map (·.1))) = E.filterMap some from filterMap_eq this]
  simp
theorem half_nil {least : Int} {E : Ents} : E.filterMap (half least []) = E.filterMap (cut least) := by
  apply filterMap_eq
  intro p _; unfold half; simp
theorem look_half {least : Int} {L : List VK} {q : VK} (hq : q ∈ L) : ∀ {E : Ents}, lkE (E.filterMap (half least L)) q = lkE E q
  | [] => rfl
  | p :: r => by
    rw [List.filterMap_cons]
    have ih := look_half (least := least) (L := L) (q := q) hq (E := r)
    by_cases e : p.1 = q
    · have : half least L p = some p := by unfold half; rw [if_pos (e ▸ hq)]
      rw [this]; simp only [lkE, e, if_true]
    · cases h : half least L p with
      | none => simp only [lkE, e, if_false]; exact ih
      | some p' => simp only [lkE, half_key h, e, if_false]; exact ih
theorem half_other {least : Int} {L : List VK} {q : VK} {p : VK × Int} (h : p.1 ≠ q) : half least (L.erase q) p = half least L p := by
  unfold half
  simp only [List.mem_erase_of_ne h]
theorem half_self {least : Int} {L : List VK} {q : VK} {p : VK × Int} (hn : L.Nodup) (h : p.1 = q) : half least (L.erase q) p = cut least p := by
  unfold half
  rw [if_neg]
  rw [h]; exact fun h' => (hn.mem_erase_iff.1 h').1 rfl
theorem half_del {least x : Int} {L : List VK} {q : VK} {E : Ents} (hu : Uniq E) (hn : L.Nodup) (hx : lkE E q = some x) (hq : q ∈ L) (hl : x ≤ least) : del (E.filterMap (half least L)) q = E.filterMap (half least (L.erase q)) := by
  unfold del
  rw [List.filter_filterMap]
  apply filterMap_eq
  intro p hp
  by_cases e : p.1 = q
  · rw [half_self hn e]
    have h1 : half least L p = some p := by unfold half; rw [if_pos (e ▸ hq)]
    have hpx : p.2 = x := by
      have := (look_mem hu (q := q) (x := p.2)).2 (by rw [← e]; exact hp)
      rw [hx] at this; simpa using this.symm
    rw [h1]
    unfold cut
    rw [if_pos (by omega)]
    simp [e]
  · rw [half_other e]
    cases h : half least L p with
    | none => rfl
    | some p' => simp [half_key h, e]
theorem half_put {least x : Int} {L : List VK} {q : VK} (hn : L.Nodup) (hq : q ∈ L) (hl : ¬ x ≤ least) : ∀ {E : Ents}, Uniq E → lkE E q = some x → put (E.filterMap (half least L)) q (x - least) = E.filterMap (half least (L.erase q))
  | [], _, h => by simp [lkE] at h
  | p :: r, hu, hx => by
    obtain ⟨u1, u2⟩ := List.pairwise_cons.1 hu
    rw [List.filterMap_cons, List.filterMap_cons]
    by_cases e : p.1 = q
    · have h1 : half least L p = some p := by unfold half; rw [if_pos (e ▸ hq)]
      have hpx : p.2 = x := by simp [lkE, e] at hx; exact hx
      rw [h1, half_self hn e]
      unfold cut
      rw [if_neg (by omega)]
      simp only [put, e, if_true, hpx]
      congr 1
      apply filterMap_eq
      intro p' hp'
      exact (half_other (fun e' => u1 p' hp' (e.trans e'.symm))).symm
    · rw [half_other e]
      have hx' : lkE r q = some x := by simpa [lkE, e] using hx
      have ih := half_put (least := least) hn hq hl u2 hx'
      cases h : half least L p with
      | none => simpa using ih
      | some p' =>
        simp only [put]
        rw [if_neg (by rw [half_key h]; exact e), ih]

theorem vals_perm {E D : Ents} (hu : Uniq E) (hk : (D.map (·.1)).Perm (E.map (·.1))) (hd : ∀ d ∈ D, lkE E d.1 = some d.2) : (D.map (·.2)).Perm (E.map (·.2)) := by
  have e1 : D.map (·.2) = (D.map (·.1)).map fun q => (lkE E q).getD 0 := by
    rw [List.map_map]
    apply List.map_congr_left
    intro d h
    simp [hd d h]
  have e2 : E.map (·.2) = (E.map (·.1)).map fun q => (lkE E q).getD 0 := by
    rw [List.map_map]
    apply List.map_congr_left
    intro d h
    simp [(look_mem hu (q := d.1) (x := d.2)).2 h]
  rw [e1, e2]
  exact hk.map _

/-- What a lowering leaves. -/
structure Low (k : Nat) (lost : Int) (E : Ents) (lost' : Int) (E' : Ents) : Prop where
  ex : (E.length ≤ k ∧ lost' = lost ∧ E' = E) ∨ (k < E.length ∧ ∃ least, lost' = lost + least ∧ E' = E.filterMap (cut least) ∧ (E.filter fun p => decide (least < p.2)).length ≤ k ∧ k + 1 ≤ (E.filter fun p => decide (least ≤ p.2)).length ∧ ∃ p ∈ E, p.2 = least)

theorem sorted_split {S : List Int} (h : S.Pairwise (· ≤ ·)) {i : Nat} {least : Int} (hi : S[i]? = some least) :
    (S.filter fun x => decide (least < x)).length ≤ S.length - (i + 1) ∧ S.length - i ≤ (S.filter fun x => decide (least ≤ x)).length := by
  have hil := (List.getElem?_eq_some_iff.1 hi).1
  have hiv := (List.getElem?_eq_some_iff.1 hi).2
  have hle : ∀ a b (ha : a < S.length) (hb : b < S.length), a ≤ b → S[a] ≤ S[b] := fun a b ha hb hab => by
    rcases Nat.lt_or_eq_of_le hab with g | g
    · exact List.pairwise_iff_getElem.1 h a b ha hb g
    · subst g; omega
  constructor
  · have e : S = S.take (i + 1) ++ S.drop (i + 1) := (List.take_append_drop _ _).symm
    have h1 : (S.take (i + 1)).filter (fun x => decide (least < x)) = [] := by
      rw [List.filter_eq_nil_iff]
      intro x hx
      obtain ⟨j, hj⟩ := List.getElem?_of_mem hx
      rw [List.getElem?_take] at hj
      split at hj
      · rename_i g
        obtain ⟨hjl, rfl⟩ := List.getElem?_eq_some_iff.1 hj
        have := hle j i hjl hil (by omega)
        simp; omega
      · cases hj
    rw [e, List.filter_append, h1, List.nil_append]
    refine Nat.le_trans (List.length_filter_le _ _) ?_
    simp
  · have e : S = S.take i ++ S.drop i := (List.take_append_drop _ _).symm
    have h1 : (S.drop i).filter (fun x => decide (least ≤ x)) = S.drop i := by
      rw [List.filter_eq_self]
      intro x hx
      obtain ⟨j, hj⟩ := List.getElem?_of_mem hx
      rw [List.getElem?_drop] at hj
      obtain ⟨hjl, rfl⟩ := List.getElem?_eq_some_iff.1 hj
      have := hle i (i + j) hil hjl (by omega)
      simp; omega
    have : (S.filter fun x => decide (least ≤ x)) = (S.take i).filter (fun x => decide (least ≤ x)) ++ S.drop i := by
      conv => lhs; rw [e]
      rw [List.filter_append, h1]
    rw [this]
    simp
theorem Low.of {k : Nat} {lost : Int} {E : Ents} (hk : k < E.length) {V : List Int} (hV : V.Perm (E.map (·.2))) {least : Int} (hi : (V.mergeSort fun x y => decide (x ≤ y))[E.length - k - 1]? = some least) : Low k lost E (lost + least) (E.filterMap (cut least)) := by
  have hs : (V.mergeSort fun x y => decide (x ≤ y)).Pairwise (· ≤ ·) := by
    have := List.pairwise_mergeSort (le := fun x y : Int => decide (x ≤ y)) (fun a b c h1 h2 => by simp at *; omega) (fun a b => by simp; omega) V
    exact this.imp fun h => by simpa using h
  have hp : (V.mergeSort fun x y => decide (x ≤ y)).Perm (E.map (·.2)) := (List.mergeSort_perm _ _).trans hV
  have hl := hp.length_eq
  simp only [List.length_map] at hl
  obtain ⟨h1, h2⟩ := sorted_split hs hi
  have f1 : ∀ p : Int → Bool, ((V.mergeSort fun x y => decide (x ≤ y)).filter p).length = (E.filter fun e => p e.2).length := fun p => by
    rw [(hp.filter p).length_eq, List.filter_map, List.length_map]; rfl
  rw [f1, hl] at h1 h2
  have hm : least ∈ E.map (·.2) := hp.mem_iff.1 (List.mem_of_getElem? hi)
  obtain ⟨p, hp1, hp2⟩ := List.mem_map.1 hm
  exact ⟨.inr ⟨hk, least, rfl, rfl, by omega, by omega, p, hp1, hp2⟩⟩
end Go.Proofs.Ytaaocppaepnhbaa
