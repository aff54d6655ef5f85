/- vec: Pick. Own work; no condition. -/
import Derived.Test.YtnhmnfokbinplaaVec15
namespace Go.Proofs.Ytnhmnfokbinplaa
open Go Go.RowKit
set_option maxRecDepth 100000
set_option linter.unusedSimpArgs false
set_option linter.unusedVariables false

def nullP (B : List Bool) (p : List Int) : List Bool := p.map fun x => (B[x.toNat]?).getD false
def numP (a : Int) (N : List Int) (p : List Int) : List Int := if a = 1 then p.map fun x => (N[x.toNat]?).getD 0 else []
def strP (a : Int) (S : List ByteArray) (p : List Int) : List ByteArray := if a = 1 then [] else p.map fun x => (S[x.toNat]?).getD ⟨⟨[]⟩⟩

theorem pickM_ok {a : Int} {B : List Bool} {N : List Int} {S : List ByteArray} {P : List Int} (hg : goodV ⟨a, B, N, S⟩ = true) (hP : P.all (inR B.length) = true) : pickM ⟨a, B, N, S⟩ P = (⟨a, nullP B P, numP a N P, strP a S P⟩, 0) := by
  have hp : ∀ i, i ∈ P.map Int.toNat → i < (⟨a, B, N, S⟩ : Vec).null.length := by
    intro i hi
    obtain ⟨x, hx, rfl⟩ := List.mem_map.1 hi
    have := List.all_eq_true.1 hP x hx
    simp only [inR, Bool.and_eq_true, decide_eq_true_eq] at this
    show x.toNat < B.length
    omega
  obtain ⟨k1, k2, k3, k4, k5⟩ := pick_parts hg (P.map Int.toNat) hp
  have hk := good_kind hg
  simp only [pickM]
  rw [if_neg (by rw [hg]; decide), if_pos hP]
  unfold vfrom
  simp only at k1 k2 k3 k4 k5 hk ⊢
  rw [if_neg (by omega), if_neg (by rw [k4]; decide), if_neg (by rw [k5]; decide), k1, k2, k3]
  simp only [nullP, numP, strP, List.map_map]
  rfl

theorem nullP_snoc (B : List Bool) (p : List Int) (x : Int) : nullP B (p ++ [x]) = nullP B p ++ [(B[x.toNat]?).getD false] := by simp [nullP]
theorem numP_1 (N : List Int) (p : List Int) (x : Int) : numP 1 N (p ++ [x]) = numP 1 N p ++ [(N[x.toNat]?).getD 0] := by simp [numP]
theorem numP_2 {a : Int} (ha : ¬ a = 1) (N : List Int) (p : List Int) : numP a N p = [] := by simp [numP, ha]
theorem strP_1 (S : List ByteArray) (p : List Int) : strP 1 S p = [] := by simp [strP]
theorem strP_2 {a : Int} (ha : ¬ a = 1) (S : List ByteArray) (p : List Int) (x : Int) : strP a S (p ++ [x]) = strP a S p ++ [(S[x.toNat]?).getD ⟨⟨[]⟩⟩] := by simp [strP, ha]

structure PickOk (a : Int) (B : List Bool) (N : List Int) (S : List ByteArray) (P : List Int) (zn : Int) (i : Int) (N0 : List (List PV)) (m0 : Nat) (N1 : List (List PV)) (m1 : Nat) (N2 : List (List PV)) (m2 : Nat) : Prop where
  i0 : 0 ≤ i
  i1 : i ≤ zn
  all : (P.take i.toNat).all (inR B.length) = true
  n0 : (nullP B (P.take i.toNat)).map boolc = N0
  c0 : N0.length = m0
  n1 : (numP a N (P.take i.toNat)).map i64c = N1
  c1 : N1.length = m1
  n2 : (strP a S (P.take i.toNat)).map strc = N2
  c2 : N2.length = m2

set_option maxHeartbeats 1000000 in
theorem pick_c (a : Int) (B : List Bool) (N : List Int) (S : List ByteArray) (n1 n2 n3 : List (List PV)) (h1 : B.map boolc = n1) (h2 : N.map i64c = n2) (h3 : S.map strc = n3) (l1 : B.length ≤ 1048577)
    (P : List Int) (PL : List (List PV)) (hP : P.map i64c = PL) (lP : P.length ≤ 1048577) :
    PCall Try.prog 44 [.agg [.int .i64 a, .sl n1, .sl n2, .sl n3], .sl PL] fun r => r = [(pickM ⟨a, B, N, S⟩ P).1.enc, .int .i64 (pickM ⟨a, B, N, S⟩ P).2] := by
  have hPl : PL.length = P.length := by rw [← hP]; simp
  have b1 : n1.length = B.length := by rw [← h1]; simp
  refine PCall.x (nt := 67) (res := [.cell 4 34, .tmp 5]) mixed tt_ok [] Try.func44 rfl rfl rfl c44 (Nat.le_of_ble_eq_true rfl) ?_
  intro cp cc lp Q' hcp hcc hlp hQ
  repeat' (first
    | (with_reducible refine Nm.mk ?_; intro z hz)
    | (with_reducible refine IfB.mk ?_ ?_ <;> (intro h; cases h))
    | (with_reducible refine Asm.mk ?_ ?_; focus (first | kernel_rfl | decide))
    | (with_reducible refine isCP hcp ?_; first | (refine bP hcp (good_c a B N S n1 n2 n3 h1 h2 h3) ?_; intro z hz))
    | (with_reducible refine isCC hcc ?_; first | (refine bA hcc (good_c a B N S n1 n2 n3 h1 h2 h3) rfl ?_; intro z hz))
    | (with_reducible refine Asm.mk2 ?_ ?_)
    | ((fail_if_success (with_reducible refine hQ _ ?_)); (fail_if_success (with_reducible refine Side.mk ?_)); (fail_if_success (with_reducible refine isCP hcp ?_)); (fail_if_success (with_reducible refine isCC hcc ?_)); (fail_if_success (with_reducible refine isLP hlp ?_)); (fail_if_success (with_reducible refine Ix.mk ?_)); (fail_if_success (with_reducible refine SIx.mk ?_)); (fail_if_success (with_reducible refine SEx.mk ?_)); (fail_if_success (with_reducible refine EIx.mk ?_)); (fail_if_success (with_reducible show False)); (fail_if_success (with_reducible refine hR ?_ _ ?_ ?_ ?_ ?_ ?_)); (fail_if_success (with_reducible refine hR2 ?_ _ ?_ ?_ ?_ ?_ ?_)); cbv))
  · refine hQ _ ?_
    have hg : goodV ⟨a, B, N, S⟩ = false := by clear hQ hcp hcc hlp; simp_all
    clear hQ hcp hcc hlp
    simp [pickM, hg, Vec.zero, Vec.enc]
  · rename_i gz hgz hgn
    have hg : goodV ⟨a, B, N, S⟩ = true := by clear hQ hcp hcc hlp hz; simp_all
    have hz' : z.toNat = P.length ∧ 0 ≤ z := by
      simp only [nc] at hz
      simp only [nc'] at hz
      omega
    obtain ⟨hzP, hz0⟩ := hz'
    clear hz
    generalize z = zn at *
    refine mintX hlp 1 2 1 rfl rfl ?_
    refine mintX hlp 1 2 2 rfl rfl ?_
    refine mintX hlp 1 2 3 rfl rfl ?_
    refine loopT (ι := Int × List (List PV) × Nat × List (List PV) × Nat × List (List PV) × Nat) mixed tt_ok hcp hcc hlp [2, 4, 6, 16, 17] (fun p => [(18, .p (.int .i64 p.1))])
      (fun p => [.cells [.p (.int .i64 a), .p (.sl n1), .p (.sl n2), .p (.sl n3)], .cells [.p (.int .i64 0), .full [], .full [], .full []], .cells [.p (.int .i64 a), .tok 3 p.2.1, .tok 4 p.2.2.2.1, .tok 5 p.2.2.2.2.2.1], .spare p.2.2.1 1, .spare p.2.2.2.2.1 1, .spare p.2.2.2.2.2.2 1])
      (fun p => PickOk a B N S P zn p.1 p.2.1 p.2.2.1 p.2.2.2.1 p.2.2.2.2.1 p.2.2.2.2.2.1 p.2.2.2.2.2.2) (fun p => (zn - p.1).toNat)
      (0, [], 0, [], 0, [], 0) 6 (fun _ => rfl) ⟨by show (0 : Int) ≤ 0; omega, by show (0 : Int) ≤ zn; omega, by simp, by simp [nullP], rfl, by simp [numP], rfl, by simp [strP], rfl⟩ ⟨rfl, trivial⟩ rfl ?_
    rintro R ⟨i, N0, m0, N1, m1, N2, m2⟩ hi hR
    have hi : PickOk a B N S P zn i N0 m0 N1 m1 N2 m2 := hi
    have hi0 := hi.i0
    have hi1 := hi.i1
    have hall := hi.all
    have c0 := hi.c0
    have c1 := hi.c1
    have c2 := hi.c2
    have q0 : N0.length ≤ i.toNat := by rw [← hi.n0]; simp [nullP]; omega
    have q1 : N1.length ≤ i.toNat := by rw [← hi.n1]; unfold numP; split <;> simp <;> omega
    have q2 : N2.length ≤ i.toNat := by rw [← hi.n2]; unfold strP; split <;> simp <;> omega
    have o0 := ok_bool hi.n0
    have o1 := ok_i64 hi.n1
    have o2 := ok_str hi.n2
    have hk2 : decide (i < zn) = true → i < P.length := by intro h; simp only [decide_eq_true_eq] at h; omega
    have hk4 : ∀ x : Int, decide (x < 0) = false → 0 ≤ x := by intro x h; simp only [decide_eq_false_iff_not] at h; omega
    have hk3 : ∀ (x z : Int), (n1.length : Int) = z → decide (z ≤ x) = false → x < B.length := by
      intro x z h g; simp only [decide_eq_false_iff_not] at g; omega
    have hk5 : ∀ (x z : Int), (n1.length : Int) = z → decide (z ≤ x) = false → decide (a = 1) = true → x < N.length := by
      intro x z h g u; rw [goodV_1 hg (of_decide_eq_true u)]; exact hk3 x z h g
    have hk6 : ∀ (x z : Int), (n1.length : Int) = z → decide (z ≤ x) = false → decide (a = 1) = false → x < S.length := by
      intro x z h g u; rw [goodV_2 hg (of_decide_eq_false u)]; exact hk3 x z h g
    have hb1 : ∀ x : Int, decide (x < 0) = true → inR B.length x = false := by intro x h; simp only [decide_eq_true_eq] at h; simp [inR]; omega
    have hb2 : ∀ (x z : Int), (n1.length : Int) = z → decide (z ≤ x) = true → inR B.length x = false := by
      intro x z h g; simp only [decide_eq_true_eq] at g; simp [inR]; omega
    repeat' (first
      | (with_reducible refine Nm.mk ?_; intro z hz)
      | (with_reducible refine IfB.mk ?_ ?_ <;> (intro h; cases h))
      | (with_reducible refine Asm.mk ?_ ?_; focus (first | kernel_rfl | (clear hR hQ hk2 hk3 hk4 hk5 hk6 hb1 hb2; refine ⟨c0.symm, rfl, o0, rfl, ?_, ?_⟩ <;> simp only [List.length_cons, List.length_nil, maxLen] <;> omega) | (clear hR hQ hk2 hk3 hk4 hk5 hk6 hb1 hb2; refine ⟨c1.symm, rfl, o1, rfl, ?_, ?_⟩ <;> simp only [List.length_cons, List.length_nil, maxLen] <;> omega) | (clear hR hQ hk2 hk3 hk4 hk5 hk6 hb1 hb2; refine ⟨c2.symm, rfl, o2, rfl, ?_, ?_⟩ <;> simp only [List.length_cons, List.length_nil, maxLen] <;> omega)))
      | (with_reducible refine Ix.map hP i64c_len (by decide) hi0 (hk2 (by assumption)) ?_; intro x hx)
      | (with_reducible refine Ix.map h1 boolc_len (by decide) (hk4 _ (by assumption)) (hk3 _ _ (by assumption) (by assumption)) ?_; intro y hy)
      | (with_reducible refine Ix.map h2 i64c_len (by decide) (hk4 _ (by assumption)) (hk5 _ _ (by assumption) (by assumption) (by assumption)) ?_; intro u hu)
      | (with_reducible refine Ix.map h3 strc_len (by decide) (hk4 _ (by assumption)) (hk6 _ _ (by assumption) (by assumption) (by assumption)) ?_; intro u hu)
      | (with_reducible refine Asm.mk2 ?_ ?_)
      | ((fail_if_success (with_reducible refine hQ _ ?_)); (fail_if_success (with_reducible refine Side.mk ?_)); (fail_if_success (with_reducible refine isCP hcp ?_)); (fail_if_success (with_reducible refine isCC hcc ?_)); (fail_if_success (with_reducible refine isLP hlp ?_)); (fail_if_success (with_reducible refine Ix.mk ?_)); (fail_if_success (with_reducible refine SIx.mk ?_)); (fail_if_success (with_reducible refine SEx.mk ?_)); (fail_if_success (with_reducible refine EIx.mk ?_)); (fail_if_success (with_reducible show False)); (fail_if_success (with_reducible refine hR ?_ _ ?_ ?_ ?_ ?_ ?_)); (fail_if_success (with_reducible refine hR2 ?_ _ ?_ ?_ ?_ ?_ ?_)); cbv))
    all_goals first
      | (have hb : inR B.length x = false := by first | exact hb1 _ (by assumption) | exact hb2 _ _ (by assumption) (by assumption)
         refine hQ _ ?_
         simp only [pickM, hg, all_at hx hb]
         rfl)
      | (have hlt : decide (i < zn) = true := by assumption
         simp only [decide_eq_true_eq] at hlt
         have e1 : IntKind.i64.wrap (i + 1) = i + 1 := wrap_in (by omega)
         rw [e1] at hz
         have hx0 : 0 ≤ x := hk4 _ (by assumption)
         have hxl : x < B.length := hk3 _ _ (by assumption) (by assumption)
         have et : P.take (i + 1).toNat = P.take i.toNat ++ [x] := by rw [show (i + 1).toNat = i.toNat + 1 by omega, take_at hx]
         have e0 := hi.n0
         have e2 := hi.n1
         have e3 := hi.n2
         refine hR (i + 1, _, _, _, _, _, _) _ ⟨by show 0 ≤ i + 1; omega, by show i + 1 ≤ zn; omega, ?_, ?_, ?_, ?_, ?_, ?_, ?_⟩ (by show (zn - (i + 1)).toNat < (zn - i).toNat; omega) ⟨hz ▸ rfl, trivial⟩ ⟨rfl, rfl, rfl, rfl, rfl, trivial⟩ rfl
         · show (P.take (i + 1).toNat).all (inR B.length) = true
           rw [et, List.all_append, hall]
           simp [inR]; omega
         · show (nullP B (P.take (i + 1).toNat)).map boolc = _
           rw [et, nullP_snoc, List.map_append, e0, hy]
           clear hQ hcp hcc hlp hR hi hk2 hk3 hk4 hk5 hk6 hb1 hb2
           first | assumption | (subst_vars; rfl)
         · first | exact c0 | exact c1 | exact c2 | (subst_vars; simp)
         · show (numP a N (P.take (i + 1).toNat)).map i64c = _
           first
             | (have hk1 : a = 1 := of_decide_eq_true (by assumption)
                subst hk1
                rw [et, numP_1, List.map_append, e2, hu]
                clear hQ hcp hcc hlp hR hi hk2 hk3 hk4 hk5 hk6 hb1 hb2
                first | assumption | (subst_vars; rfl))
             | (have hk1 : ¬ a = 1 := of_decide_eq_false (by assumption)
                rw [numP_2 hk1] at e2 ⊢; exact e2)
         · first | exact c0 | exact c1 | exact c2 | (subst_vars; simp)
         · show (strP a S (P.take (i + 1).toNat)).map strc = _
           first
             | (have hk1 : a = 1 := of_decide_eq_true (by assumption)
                subst hk1
                rw [strP_1] at e3 ⊢; exact e3)
             | (have hk1 : ¬ a = 1 := of_decide_eq_false (by assumption)
                rw [et, strP_2 hk1, List.map_append, e3, hu]
                clear hQ hcp hcc hlp hR hi hk2 hk3 hk4 hk5 hk6 hb1 hb2
                first | assumption | (subst_vars; rfl))
         · first | exact c0 | exact c1 | exact c2 | (subst_vars; simp))
      | (have hge : decide (i < zn) = false := by assumption
         simp only [decide_eq_false_iff_not] at hge
         have hP2 : P.take i.toNat = P := List.take_of_length_le (by omega)
         have e0 := hi.n0
         have e2 := hi.n1
         have e3 := hi.n2
         rw [hP2] at hall e0 e2 e3
         refine hQ _ ?_
         rw [pickM_ok hg hall]
         simp only [Vec.enc, e0, e2, e3])

end Go.Proofs.Ytnhmnfokbinplaa
