/- Pick, in both texts. Own work; no condition. -/
import Derived.Test.YtnhmnfokbinplaaVec14
namespace Go.Proofs.Ytnhmnfokbinplaa
open Go Go.RowKit
set_option maxRecDepth 100000
set_option linter.unusedSimpArgs false
set_option linter.unusedVariables false

def inR (n : Nat) (x : Int) : Bool := decide (0 ≤ x) && decide (x < (n : Int))
def pickM (v : Vec) (P : List Int) : Vec × Int :=
  if goodV v = false then (Vec.zero, 1) else if P.all (inR v.null.length) = true then vfrom v.kind (pickL v (P.map Int.toNat)) else (Vec.zero, 1)

theorem take_at {α : Type} {l : List α} {i : Nat} {x : α} (h : l[i]? = some x) : l.take (i + 1) = l.take i ++ [x] := by rw [List.take_add_one, h]; rfl
theorem all_at {l : List Int} {n i : Nat} {x : Int} (h : l[i]? = some x) (hx : inR n x = false) : l.all (inR n) = false := by
  rw [List.all_eq_false]; exact ⟨x, List.mem_of_getElem? h, by rw [hx]; decide⟩

theorem rpick_c (a : Int) (B : List Bool) (N : List Int) (S : List ByteArray) (n1 n2 n3 : List (List PV)) (h1 : B.map boolc = n1) (h2 : N.map i64c = n2) (h3 : S.map strc = n3) (l1 : B.length ≤ 1048577)
    (P : List Int) (PL : List (List PV)) (hP : P.map i64c = PL) (lP : P.length ≤ 1048577) :
    PCall Try.prog 45 [.agg [.int .i64 a, .sl n1, .sl n2, .sl n3], .sl PL] fun r => r = [(pickM ⟨a, B, N, S⟩ P).1.enc, .int .i64 (pickM ⟨a, B, N, S⟩ P).2] := by
  have hPl : PL.length = P.length := by rw [← hP]; simp
  have hV := rvalues_c a B N S n1 n2 n3 h1 h2 h3 l1
  refine PCall.x (nt := 45) (res := [.cell 4 34, .tmp 5]) mixed tt_ok [] Try.func45 rfl rfl rfl c45 (Nat.le_of_ble_eq_true rfl) ?_
  intro cp cc lp Q' hcp hcc hlp hQ
  repeat' (first
    | (with_reducible refine Nm.mk ?_; intro z hz)
    | (with_reducible refine IfB.mk ?_ ?_ <;> (intro h; cases h))
    | (with_reducible refine Asm.mk ?_ ?_; focus (first | kernel_rfl | decide))
    | (with_reducible refine isCP hcp ?_; first | (refine lP hcp (hV) ?_; intro z hz) | (refine bP hcp (rgood_c a B N S n1 n2 n3 h1 h2 h3) ?_; intro z hz))
    | (with_reducible refine isCC hcc ?_; first | (refine lA hcc (hV) rfl ?_; intro z hz) | (refine bA hcc (rgood_c a B N S n1 n2 n3 h1 h2 h3) rfl ?_; intro z hz))
    | (with_reducible refine Asm.mk2 ?_ ?_)
    | ((fail_if_success (with_reducible refine hQ _ ?_)); (fail_if_success (with_reducible refine Side.mk ?_)); (fail_if_success (with_reducible refine isCP hcp ?_)); (fail_if_success (with_reducible refine isCC hcc ?_)); (fail_if_success (with_reducible refine isLP hlp ?_)); (fail_if_success (with_reducible refine Ix.mk ?_)); (fail_if_success (with_reducible refine SIx.mk ?_)); (fail_if_success (with_reducible refine SEx.mk ?_)); (fail_if_success (with_reducible refine EIx.mk ?_)); (fail_if_success (with_reducible show False)); (fail_if_success (with_reducible refine hR ?_ _ ?_ ?_ ?_ ?_ ?_)); (fail_if_success (with_reducible refine hR2 ?_ _ ?_ ?_ ?_ ?_ ?_)); cbv))
  · refine hQ _ ?_
    have hg : goodV ⟨a, B, N, S⟩ = false := by clear hQ hcp hcc hlp; simp_all
    clear hQ hcp hcc hlp
    simp [pickM, hg, Vec.zero, Vec.enc]
  · rename_i L0 hL0 gz hgz hgn
    have hg : goodV ⟨a, B, N, S⟩ = true := by clear hQ hcp hcc hlp hL0 hz; simp_all
    have hVl : (valuesM ⟨a, B, N, S⟩).length = B.length := by simp [valuesM, hg]
    have hVx : ∀ j, j < B.length → (valuesM ⟨a, B, N, S⟩)[j]? = some (atV a B N S j) := by intro j hj; simp [valuesM, hg, hj]
    have hLl : L0.length = B.length := by rw [← hL0, List.length_map, hVl]
    have hz' : z.toNat = P.length ∧ 0 ≤ z := by
      simp only [nc] at hz
      simp only [nc'] at hz
      omega
    obtain ⟨hzP, hz0⟩ := hz'
    clear hz
    generalize z = zn at *
    refine mintT hlp 3 7 rfl ?_
    refine loopT (ι := Int × List (List PV) × Nat) mixed tt_ok hcp hcc hlp [2, 4, 6, 16, 17] (fun p => [(7, .tok 2 p.2.1), (18, .p (.int .i64 p.1))])
      (fun p => [.cells [.p (.int .i64 a), .p (.sl n1), .p (.sl n2), .p (.sl n3)], .cells [.p (.int .i64 0), .full [], .full [], .full []], .spare p.2.2 3])
      (fun p => (0 ≤ p.1 ∧ p.1 ≤ zn) ∧ (P.take p.1.toNat).all (inR B.length) = true ∧ (pickL ⟨a, B, N, S⟩ ((P.take p.1.toNat).map Int.toNat)).map Val.cells = p.2.1 ∧ p.2.1.length = p.2.2) (fun p => (zn - p.1).toNat)
      (0, [], 0) 3 (fun _ => rfl) ⟨⟨by omega, by omega⟩, by simp, by simp [pickL], rfl⟩ ⟨rfl, rfl, trivial⟩ rfl ?_
    rintro R ⟨i, L, m⟩ ⟨⟨hi0, hi1⟩, hall, hl, hm⟩ hR
    have hi0 : 0 ≤ i := hi0
    have hi1 : i ≤ zn := hi1
    have hall : (P.take i.toNat).all (inR B.length) = true := hall
    have hl : (pickL ⟨a, B, N, S⟩ ((P.take i.toNat).map Int.toNat)).map Val.cells = L := hl
    have hm : L.length = m := hm
    have hll : L.length ≤ i.toNat := by rw [← hl]; simp [pickL]; omega
    have hok : okEs 3 L = true := by rw [← hl]; simp [okEs, Val.cells, PV.one]
    have hk2 : decide (i < zn) = true → i < P.length := by intro h; simp only [decide_eq_true_eq] at h; omega
    have hk4 : ∀ x : Int, decide (x < 0) = false → 0 ≤ x := by intro x h; simp only [decide_eq_false_iff_not] at h; omega
    have hk3 : ∀ (x z : Int), (L0.length : Int) = z → decide (z ≤ x) = false → x < (valuesM ⟨a, B, N, S⟩).length := by
      intro x z h g; simp only [decide_eq_false_iff_not] at g; omega
    have hb1 : ∀ x : Int, decide (x < 0) = true → inR B.length x = false := by intro x h; simp only [decide_eq_true_eq] at h; simp [inR]; omega
    have hb2 : ∀ (x z : Int), (L0.length : Int) = z → decide (z ≤ x) = true → inR B.length x = false := by
      intro x z h g; simp only [decide_eq_true_eq] at g; simp [inR]; omega
    have hcall : PCall Try.prog 22 [.int .i64 a, .sl L] fun r => r = [(vfrom a (pickL ⟨a, B, N, S⟩ ((P.take i.toNat).map Int.toNat))).1.enc, .int .i64 (vfrom a (pickL ⟨a, B, N, S⟩ ((P.take i.toNat).map Int.toNat))).2] :=
      rfrom_c a _ L hl (by simp [pickL]; omega)
    repeat' (first
      | (with_reducible refine Nm.mk ?_; intro z hz)
      | (with_reducible refine IfB.mk ?_ ?_ <;> (intro h; cases h))
      | (with_reducible refine Asm.mk ?_ ?_; focus (first | (refine ⟨hm.symm, rfl, hok, rfl, ?_, ?_⟩ <;> (clear hR hQ hk2 hk3 hk4 hcall; simp only [List.length_cons, List.length_nil, maxLen]; omega)) | kernel_rfl))
      | (with_reducible refine isCP hcp ?_; first | (refine veP hcp (hcall) ?_; intro a2 p1 p2 p3 e2 ha2 k1 k2 k3 ke))
      | (with_reducible refine isCC hcc ?_; first | (refine veA hcc (hcall) rfl ?_; intro a2 p1 p2 p3 e2 ha2 k1 k2 k3 ke))
      | (with_reducible refine Ix.map hP i64c_len (by decide) hi0 (hk2 (by assumption)) ?_; intro x hx)
      | (with_reducible refine Ix.map hL0 cells_len (by decide) (hk4 _ (by assumption)) (hk3 _ _ (by assumption) (by assumption)) ?_; intro y hy)
      | (with_reducible refine Asm.mk2 ?_ ?_)
      | ((fail_if_success (with_reducible refine hQ _ ?_)); (fail_if_success (with_reducible refine Side.mk ?_)); (fail_if_success (with_reducible refine isCP hcp ?_)); (fail_if_success (with_reducible refine isCC hcc ?_)); (fail_if_success (with_reducible refine isLP hlp ?_)); (fail_if_success (with_reducible refine Ix.mk ?_)); (fail_if_success (with_reducible refine SIx.mk ?_)); (fail_if_success (with_reducible refine SEx.mk ?_)); (fail_if_success (with_reducible refine EIx.mk ?_)); (fail_if_success (with_reducible show False)); (fail_if_success (with_reducible refine hR ?_ _ ?_ ?_ ?_ ?_ ?_)); (fail_if_success (with_reducible refine hR2 ?_ _ ?_ ?_ ?_ ?_ ?_)); cbv))
    all_goals first
      | (have hb : inR B.length x = false := by first | exact hb1 _ (by assumption) | exact hb2 _ _ (by assumption) (by assumption)
         refine hQ _ ?_
         simp only [pickM, hg, all_at hx hb]
         rfl)
      | (have hlt : decide (i < zn) = true := by assumption
         simp only [decide_eq_true_eq] at hlt
         have e1 : IntKind.i64.wrap (i + 1) = i + 1 := wrap_in (by omega)
         rw [e1] at hz
         rename_i hy L2 hL2 m2 hm2
         have hx0 : 0 ≤ x := hk4 _ (by assumption)
         have hxl : x < (valuesM ⟨a, B, N, S⟩).length := hk3 _ _ (by assumption) (by assumption)
         have hy2 : y = atV a B N S x.toNat := by rw [hVx x.toNat (by omega)] at hy; exact (Option.some.inj hy).symm
         refine hR (i + 1, L2, m2) _ ⟨⟨by show 0 ≤ i + 1; omega, by show i + 1 ≤ zn; omega⟩, ?_, ?_, by show L2.length = m2; rw [← hL2, ← hm2, List.length_append]⟩ (by show (zn - (i + 1)).toNat < (zn - i).toNat; omega) ⟨rfl, hz ▸ rfl, trivial⟩ ⟨rfl, rfl, rfl, rfl, rfl, trivial⟩ rfl
         · show (P.take (i + 1).toNat).all (inR B.length) = true
           rw [show (i + 1).toNat = i.toNat + 1 by omega, take_at hx, List.all_append, hall]
           simp [inR]; omega
         · show (pickL ⟨a, B, N, S⟩ ((P.take (i + 1).toNat).map Int.toNat)).map Val.cells = L2
           rw [show (i + 1).toNat = i.toNat + 1 by omega, take_at hx, List.map_append, pickL, List.map_append, List.map_append, ← hL2, ← hl, hy2]
           rfl)
      | (have hge : decide (i < zn) = false := by assumption
         simp only [decide_eq_false_iff_not] at hge
         have hP2 : P.take i.toNat = P := List.take_of_length_le (by omega)
         rw [hP2] at hall
         refine hQ _ ?_
         simp only [pickM, hg, hall]
         subst_vars
         simp_all [Vec.enc])
end Go.Proofs.Ytnhmnfokbinplaa
