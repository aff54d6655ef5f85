/- OftenMemory: two that are told the same tell the same, plain; sameFound, walked in the world. Own work; no condition. -/
import Derived.Test.YtaaocppaepnhbaaOm2
namespace Go.Proofs.Ytaaocppaepnhbaa
open Go Go.RowKit Go.Deep Go.Sort Go.Shelf
set_option linter.unusedVariables false
set_option linter.unusedSimpArgs false

theorem same_perm {D D' : Ents} (h : Uniq D) (h' : Uniq D') (hl : ∀ q, lkE D q = lkE D' q) : D.Perm D' :=
  (List.perm_ext_iff_of_nodup h.nodup' h'.nodup').2 fun a => by
    rw [show a = (a.1, a.2) from rfl, ← look_mem h, ← look_mem h', hl]
theorem Low.same {k : Nat} {lost l1 l2 : Int} {E1 E2 E1' E2' : Ents} (u1 : Uniq E1) (u2 : Uniq E2) (hl : ∀ q, lkE E1 q = lkE E2 q) (h1 : Low k lost E1 l1 E1') (h2 : Low k lost E2 l2 E2') : l1 = l2 ∧ ∀ q, lkE E1' q = lkE E2' q := by
  have hp := same_perm u1 u2 hl
  have hlen := hp.length_eq
  rcases h1.ex with ⟨a1, rfl, rfl⟩ | ⟨a1, x, rfl, rfl, a2, a3, p, hp1, hp2⟩
  · rcases h2.ex with ⟨b1, rfl, rfl⟩ | ⟨b1, _⟩
    · exact ⟨rfl, hl⟩
    · omega
  · rcases h2.ex with ⟨b1, rfl, rfl⟩ | ⟨b1, y, rfl, rfl, b2, b3, r, hr1, hr2⟩
    · omega
    · have hc : ∀ f : VK × Int → Bool, (E1.filter f).length = (E2.filter f).length := fun f => (hp.filter f).length_eq
      rw [hc] at a2 a3
      have sub : ∀ {c d : Int}, c < d → (E2.filter fun p => decide (d ≤ p.2)).length ≤ (E2.filter fun p => decide (c < p.2)).length := fun {c d} h => by
        rw [← List.countP_eq_length_filter, ← List.countP_eq_length_filter]
        exact List.countP_mono_left fun a _ ha => by simp at ha ⊢; omega
      have e : x = y := by
        rcases Int.lt_trichotomy x y with g | g | g
        · have := sub g; omega
        · exact g
        · have := sub g; omega
      subst e
      exact ⟨rfl, fun q => by rw [look_cut u1, look_cut u2, hl]⟩
theorem put_same {D D' : Ents} {q : VK} {x : Int} (hl : ∀ q, lkE D q = lkE D' q) : ∀ r, lkE (put D q x) r = lkE (put D' q x) r := fun r => by rw [look_put, look_put, hl]
theorem eq_of_sorted {α : Type} {R : α → α → Prop} (hasy : ∀ a b, R a b → ¬ R b a) : ∀ {l l' : List α}, l.Perm l' → l.Pairwise R → l'.Pairwise R → l = l'
  | [], l', h, _, _ => h.nil_eq
  | a :: r, [], h, _, _ => by have := h.length_eq; simp at this
  | a :: r, b :: r', h, h1, h2 => by
    obtain ⟨p1, p2⟩ := List.pairwise_cons.1 h1
    obtain ⟨q1, q2⟩ := List.pairwise_cons.1 h2
    have ha : a ∈ b :: r' := h.mem_iff.1 List.mem_cons_self
    have hb : b ∈ a :: r := h.mem_iff.2 List.mem_cons_self
    rcases List.mem_cons.1 ha with e | ha
    · subst e
      rw [eq_of_sorted hasy (List.Perm.cons_inv h) p2 q2]
    · rcases List.mem_cons.1 hb with e | hb
      · subst e
        rw [eq_of_sorted hasy (List.Perm.cons_inv h) p2 q2]
      · exact absurd (q1 a ha) (hasy _ _ (p1 b hb))
theorem Told.pair {E : Ents} {lost : Int} {F : List FV} (hu : Uniq E) (hc : ∀ p ∈ E, cleanV p.1 = p.1) (h : Told E lost F) (hs : SortedIn (ltOf ordF) 0 F.length F.toArray) : (F.map (·.v)).Pairwise fun a b => cmpV a b < 0 := by
  have hcl : ∀ x : FV, x ∈ F → cleanV x.v = x.v := fun x hx => by
    have := h.val x hx
    exact hc _ ((look_mem hu).1 this.1)
  have hnd : (F.map (·.v)).Nodup := h.keys.nodup_iff.2 hu.nodup
  rw [List.pairwise_iff_getElem]
  intro i j hi hj hij
  have hi' : i < F.length := by simpa using hi
  have hj' : j < F.length := by simpa using hj
  have h1 := hs i j (Nat.zero_le _) hij hj'
  have e1 : F.toArray[i]! = F[i] := by simp [getElem!_def, List.getElem?_eq_getElem hi']
  have e2 : F.toArray[j]! = F[j] := by simp [getElem!_def, List.getElem?_eq_getElem hj']
  rw [e1, e2] at h1
  have h2 : 0 ≤ ordV F[j].v F[i].v := by have := of_decide_eq_false h1; simp only [ordF] at this; omega
  rw [ordV_eq, hcl _ (List.getElem_mem hi'), hcl _ (List.getElem_mem hj')] at h2
  have h3 := cmpV_cmp.swap F[j].v F[i].v
  simp only [List.getElem_map]
  rcases Int.lt_or_eq_of_le h2 with h4 | h4
  · omega
  · have e := cmpV_cmp.eq0 _ _ h4.symm
    have := List.pairwise_iff_getElem.1 (List.nodup_iff_pairwise_ne.1 hnd) i j hi hj hij
    simp only [List.getElem_map] at this
    exact absurd e.symm this
/-- What is told of two that are the same is the same. -/
theorem Told.same {E E' : Ents} {lost : Int} {F F' : List FV} (hu : Uniq E) (hu' : Uniq E') (hc : ∀ p ∈ E, cleanV p.1 = p.1) (hc' : ∀ p ∈ E', cleanV p.1 = p.1) (hl : ∀ q, lkE E q = lkE E' q) (h : Told E lost F) (h' : Told E' lost F')
    (hs : SortedIn (ltOf ordF) 0 F.length F.toArray) (hs' : SortedIn (ltOf ordF) 0 F'.length F'.toArray) : F = F' := by
  have hp : (F.map (·.v)).Perm (F'.map (·.v)) := h.keys.trans (((same_perm hu hu' hl).map _).trans h'.keys.symm)
  have he : F.map (·.v) = F'.map (·.v) := eq_of_sorted (R := fun a b => cmpV a b < 0) (fun a b h1 h2 => by have := cmpV_cmp.swap a b; omega) hp (h.pair hu hc hs) (h'.pair hu' hc' hs')
  have g : ∀ (E : Ents) (F : List FV), Told E lost F → F = (F.map (·.v)).map fun v => ⟨v, (lkE E v).getD 0, (lkE E v).getD 0 + lost⟩ := fun E F h => by
    rw [List.map_map]
    conv => lhs; rw [← List.map_id F]
    apply List.map_congr_left
    intro f hf
    obtain ⟨h1, h2⟩ := h.val f hf
    cases f
    simp at h1 h2 ⊢
    simp [h1, h2]
  rw [g E F h, g E' F' h', he]
  apply List.map_congr_left
  intro v _
  rw [hl]

set_option maxRecDepth 100000 in
set_option maxHeartbeats 4000000 in
theorem sameF_w (a b : Value) (F : List FV) (w : World) (B1 B2 : Nat) (h1 : w.ownsRow B1 39 5 a F.length (flatF F)) (h2 : w.ownsRow B2 39 5 b F.length (flatF F)) (hF : F.length ≤ 2000) : Calls Try.prog 12 #[a, b] w fun e w' => e = .returned (.bool true) ∧ Turn w w' (fun _ => False) ∧ w'.heap.size = w.heap.size := by
  obtain ⟨a1, c1, rfl⟩ := ownsRow_slice h1
  obtain ⟨a2, c2, rfl⟩ := ownsRow_slice h2
  go_enter Try.func12, Try.ntmps12
  go_wp2_with fail
  go_loopg [13] F.length (fun g t wr => ∃ i : Nat, t = .int .i64 i ∧ g + i = F.length ∧ Turn w wr (fun _ => False) ∧ wr.heap.size = w.heap.size)
  case atStart => exact ⟨0, rfl, rfl, Turn.refl _ _, rfl⟩
  case round =>
    obtain ⟨i, rfl, hgi, T, hz⟩ := hrel
    have hi0 : (0 : Int) ≤ (i : Int) := Int.natCast_nonneg _
    by_cases hi : i < F.length
    · have hi1 : (i : Int) < (F.length : Int) := by omega
      have hi2 : (i : Int) ≤ 2000 := by omega
      obtain ⟨f, hf⟩ : ∃ f, F[i]? = some f := ⟨_, List.getElem?_eq_getElem hi⟩
      have r1 : wr.ownsRow B1 39 5 (.slice a1 F.length c1) F.length (flatF F) := ownsRow_keep h1 fun q e => T.block q (h1.lt q e).2 id
      have r2 : wr.ownsRow B2 39 5 (.slice a2 F.length c2) F.length (flatF F) := ownsRow_keep h2 fun q e => T.block q (h2.lt q e).2 id
      obtain ⟨g1, d1, e, _, _⟩ := r1.form (by omega)
      cases e
      obtain ⟨g2, d2, e, _, _⟩ := r2.form (by omega)
      cases e
      have x0 := row_cell r1 hf (j := 0) rfl
      have x1 := row_cell r1 hf (j := 1) rfl
      have x2 := row_cell r1 hf (j := 2) rfl
      have x3 := row_cell r1 hf (j := 3) rfl
      have x4 := row_cell r1 hf (j := 4) rfl
      have y0 := row_cell r2 hf (j := 0) rfl
      have y1 := row_cell r2 hf (j := 1) rfl
      have y2 := row_cell r2 hf (j := 2) rfl
      have y3 := row_cell r2 hf (j := 3) rfl
      have y4 := row_cell r2 hf (j := 4) rfl
      simp only [Nat.add_zero] at x0 y0
      have HT : Hid (Turn w wr (fun _ => False) ∧ wr.heap.size = w.heap.size ∧ gk + i = F.length) := ⟨T, hz, hgi⟩
      clear r1 r2 h1 h2 T hz hgi hf
      obtain ⟨⟨k0, n0, s0⟩, lo, hh⟩ := f
      go_wp2_with fail
      go_quiet (fail)
      go_wp2_with fail
      go_roundg (gk - 1)
      case measure => have := (show _ ∧ _ from HT); omega
      case rel =>
        obtain ⟨T, hz, hgi⟩ := (show _ ∧ _ from HT)
        exact ⟨i + 1, by simp, by omega, ⟨T.os, T.tape, T.output, T.size, T.block⟩, hz⟩
    · have hi1 : ¬ (i : Int) < (F.length : Int) := by omega
      have HT : Hid (Turn w wr (fun _ => False) ∧ wr.heap.size = w.heap.size) := ⟨T, hz⟩
      clear h1 h2 T hz
      go_wp2_with fail
      go_ret
      exact ⟨rfl, HT⟩
end Go.Proofs.Ytaaocppaepnhbaa
