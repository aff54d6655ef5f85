/- What a good column's values are made of; Joined, in both texts. Own work; no condition. -/
import Derived.Test.YtnhmnfokbinplaaVec12
namespace Go.Proofs.Ytnhmnfokbinplaa
open Go Go.RowKit
set_option maxRecDepth 100000
set_option linter.unusedSimpArgs false
set_option linter.unusedVariables false

theorem size0 : ((⟨#[]⟩ : ByteArray).size : Int) = 0 := rfl
theorem goodV_cases {a : Int} {B : List Bool} {N : List Int} {S : List ByteArray} (h : goodV ⟨a, B, N, S⟩ = true) :
    (a = 1 ∧ N.length = B.length ∧ S = [] ∧ ∀ i, i < B.length → okN B N i = true) ∨ (a = 2 ∧ S.length = B.length ∧ N = [] ∧ ∀ i, i < B.length → okS B S i = true) := by
  by_cases ha : a = 1
  · subst ha
    simp [goodV] at h
    exact .inl ⟨rfl, h.1.1, h.1.2, fun i hi => allUp_at h.2 (by omega)⟩
  · by_cases hb : a = 2
    · subst hb
      simp [goodV] at h
      exact .inr ⟨rfl, h.1.1, h.1.2, fun i hi => allUp_at h.2 (by omega)⟩
    · simp [goodV, ha, hb] at h

theorem clean_at (a : Int) (B : List Bool) (N : List Int) (S : List ByteArray) (i : Nat) : clean (atV a B N S i) = atV a B N S i := by
  unfold atV
  split
  · simp [clean, Val.zero]
  · split <;> simp [clean, num, str]
theorem at_null (a : Int) (B : List Bool) (N : List Int) (S : List ByteArray) (i : Nat) : decide ((clean (atV a B N S i)).k = 0) = (B[i]?).getD false := by
  rw [clean_at]; unfold atV
  split
  · rename_i h; simp [h, Val.zero]
  · rename_i h
    have : (B[i]?).getD false = false := by simpa using h
    rw [this]
    split <;> simp [num, str]
theorem at_n {B : List Bool} {N : List Int} {S : List ByteArray} {i : Nat} (h : okN B N i = true) : (clean (atV 1 B N S i)).n = (N[i]?).getD 0 := by
  rw [clean_at]; unfold atV
  split
  · rename_i hb
    simp only [okN, hb] at h
    simp at h
    simp [Val.zero, h]
  · simp [num]
theorem at_s {B : List Bool} {N : List Int} {S : List ByteArray} {i : Nat} (h : okS B S i = true) : (clean (atV 2 B N S i)).s = (S[i]?).getD ⟨⟨[]⟩⟩ := by
  rw [clean_at]; unfold atV
  split
  · rename_i hb
    simp only [okS, hb] at h
    simp at h
    simp [Val.zero, h.1]
  · simp [str]

/-- A column's values at places. -/
def pickL (v : Vec) (p : List Nat) : List Val := p.map (atV v.kind v.null v.ns v.ss)
theorem pick_parts {v : Vec} (hg : goodV v = true) (p : List Nat) (hp : ∀ i, i ∈ p → i < v.null.length) :
    nullsOf (pickL v p) = p.map (fun i => (v.null[i]?).getD false) ∧ numsOf v.kind (pickL v p) = (if v.kind = 1 then p.map (fun i => (v.ns[i]?).getD 0) else []) ∧
    textsOf v.kind (pickL v p) = (if v.kind = 1 then [] else p.map (fun i => (v.ss[i]?).getD ⟨⟨[]⟩⟩)) ∧ kinds v.kind (pickL v p) = true ∧ bigs (pickL v p) = false := by
  obtain ⟨a, B, N, S⟩ := v
  have hn : nullsOf (pickL ⟨a, B, N, S⟩ p) = p.map (fun i => (B[i]?).getD false) := by
    simp only [nullsOf, pickL, List.map_map]
    refine List.map_congr_left fun i _ => ?_
    exact at_null a B N S i
  refine ⟨hn, ?_, ?_, ?_, ?_⟩
  · rcases goodV_cases hg with ⟨rfl, _, _, hok⟩ | ⟨rfl, _, _, hok⟩
    · simp only [numsOf, if_true, pickL, List.map_map]
      exact List.map_congr_left fun i hi => at_n (hok i (hp i hi))
    · simp [numsOf]
  · rcases goodV_cases hg with ⟨rfl, _, _, hok⟩ | ⟨rfl, _, _, hok⟩
    · simp [textsOf]
    · simp only [textsOf, pickL, List.map_map]
      rw [if_neg (by decide), if_neg (by decide)]
      exact List.map_congr_left fun i hi => at_s (hok i (hp i hi))
  · simp only [kinds, pickL, List.all_map, List.all_eq_true]
    intro i hi
    simp only [Function.comp, clean_at]
    rcases goodV_cases hg with ⟨rfl, _, _, hok⟩ | ⟨rfl, _, _, hok⟩ <;> (unfold atV; split <;> simp [Val.zero, num, str])
  · simp only [bigs, pickL, List.any_map]
    rw [List.any_eq_false]
    intro i hi
    simp only [Function.comp, clean_at]
    rcases goodV_cases hg with ⟨rfl, _, _, hok⟩ | ⟨rfl, _, _, hok⟩
    · unfold atV; split <;> simp [Val.zero, num, size0]
    · have := hok i (hp i hi)
      simp only [okS, Bool.and_eq_true, Bool.not_eq_true', decide_eq_false_iff_not] at this
      unfold atV; split
      · simp [Val.zero, size0]
      · simp only [str]; simpa using this.2

theorem range_map {α : Type} (l : List α) (d : α) : (List.range l.length).map (fun i => (l[i]?).getD d) = l := by
  apply List.ext_getElem?
  intro i
  rw [List.getElem?_map]
  by_cases h : i < l.length
  · simp [h]
  · rw [List.getElem?_eq_none (by simp; omega), List.getElem?_eq_none (by omega)]; rfl

theorem good_parts {v : Vec} (hg : goodV v = true) : nullsOf (valuesM v) = v.null ∧ numsOf v.kind (valuesM v) = v.ns ∧ textsOf v.kind (valuesM v) = v.ss ∧ kinds v.kind (valuesM v) = true ∧ bigs (valuesM v) = false := by
  have e : valuesM v = pickL v (List.range v.null.length) := by simp [valuesM, hg, pickL]
  obtain ⟨h1, h2, h3, h4, h5⟩ := pick_parts hg (List.range v.null.length) (fun i hi => by simpa using hi)
  rw [e]
  refine ⟨by rw [h1, range_map], ?_, ?_, h4, h5⟩
  · rw [h2]
    obtain ⟨a, B, N, S⟩ := v
    rcases goodV_cases hg with ⟨rfl, hl, _, _⟩ | ⟨rfl, _, rfl, _⟩
    · simp only [if_true]; rw [← hl, range_map]
    · simp
  · rw [h3]
    obtain ⟨a, B, N, S⟩ := v
    rcases goodV_cases hg with ⟨rfl, _, rfl, _⟩ | ⟨rfl, hl, _, _⟩
    · simp
    · simp only; rw [if_neg (by decide), ← hl, range_map]

theorem good_kind {v : Vec} (hg : goodV v = true) : v.kind = 1 ∨ v.kind = 2 := by
  obtain ⟨a, B, N, S⟩ := v
  rcases goodV_cases hg with ⟨rfl, _⟩ | ⟨rfl, _⟩
  · exact .inl rfl
  · exact .inr rfl

def joinM (v w : Vec) : Vec × Int := if goodV v = false ∨ goodV w = false then (Vec.zero, 1) else if v.kind ≠ w.kind then (Vec.zero, 4) else (⟨v.kind, v.null ++ w.null, v.ns ++ w.ns, v.ss ++ w.ss⟩, 0)

theorem nullsOf_app (p q : List Val) : nullsOf (p ++ q) = nullsOf p ++ nullsOf q := by simp [nullsOf]
theorem numsOf_app (k : Int) (p q : List Val) : numsOf k (p ++ q) = numsOf k p ++ numsOf k q := by unfold numsOf; split <;> simp
theorem textsOf_app (k : Int) (p q : List Val) : textsOf k (p ++ q) = textsOf k p ++ textsOf k q := by unfold textsOf; split <;> simp
theorem vfrom_join {v w : Vec} (hv : goodV v = true) (hw : goodV w = true) (hk : v.kind = w.kind) : vfrom v.kind (valuesM v ++ valuesM w) = (⟨v.kind, v.null ++ w.null, v.ns ++ w.ns, v.ss ++ w.ss⟩, 0) := by
  obtain ⟨a1, a2, a3, a4, a5⟩ := good_parts hv
  obtain ⟨b1, b2, b3, b4, b5⟩ := good_parts hw
  rw [← hk] at b2 b3 b4
  have h1 : kinds v.kind (valuesM v ++ valuesM w) = true := by simp only [kinds, List.all_append] at a4 b4 ⊢; rw [a4, b4]; rfl
  have h2 : bigs (valuesM v ++ valuesM w) = false := by simp only [bigs, List.any_append] at a5 b5 ⊢; rw [a5, b5]; rfl
  unfold vfrom
  rw [if_neg (by have := good_kind hv; omega), if_neg (by rw [h1]; decide), if_neg (by rw [h2]; decide), nullsOf_app, numsOf_app, textsOf_app, a1, a2, a3, b1, b2, b3]

end Go.Proofs.Ytnhmnfokbinplaa
