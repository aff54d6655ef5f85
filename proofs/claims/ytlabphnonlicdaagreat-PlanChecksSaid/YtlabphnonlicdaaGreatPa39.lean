/- Expressions: whether a column is lost, as the other text finds it; Expressions: kinds that do not fit, as the other text finds them; Expressions: the kind as the program works it out, plain; Expressions: the kind as the program works it out, walked; Expressions: the program's Kind; Plans: kinds that are the same, conditions, what is projected; Plans: what is grouped, by the program; Plans: what is grouped, by the document. Own work; no condition. -/
import Derived.Test.YtlabphnonlicdaaGreatPa38
import Derived.Test.YtlabphnonlicdaaGreatPaAbsQ
namespace Go.Proofs.YtlabphnonlicdaaGreat
open Go Go.RowKit
set_option maxRecDepth 100000
set_option linter.unusedSimpArgs false
set_option linter.unusedVariables false
def lostH (b : Bool) (C : List (List PV)) : List AObj := [.cells [.p (.bool b)], .cells [.p (.sl C)]]
def lost1 (n : Nat) (op m : Int) (b : Bool) : Bool := b || (decide (op = 1) && decide ((n : Int) ≤ m))
theorem lost_c (C : List (List PV)) (op m vk vn : Int) (vs : ByteArray) (es : List (List PV)) (b : Bool) :
   ACall Tryz.prog 76 [.p (.agg [.int .i64 op, .int .i64 m, .int .i64 vk, .int .i64 vn, .str vs, .sl es]), .ref 0 0, .ref 1 0] (lostH b C) fun r H' => r = .tup [] ∧ takeX H' 2 = lostH (lost1 C.length op m b) C := by
 obtain ⟨q, hq⟩ : ∃ q, lost1 C.length op m b = q := ⟨_, rfl⟩
 rw [hq]
 refine ACall.x (nt := 17) (res := []) mixed tt_ok [] Tryz.func76 rfl rfl rfl c76 (Nat.le_of_ble_eq_true rfl) ?_
 intro cp cc lp Q' hcp hcc hlp hQ
 repeat' (first
   | (with_reducible refine Nm.mk ?_; intro z hz)
   | (with_reducible refine IfB.mk ?_ ?_ <;> (intro h; cases h))
   | (with_reducible refine Two.l ?_; refine Asm.mk ?_ ?_; focus (decide +kernel))
   | (with_reducible refine Two.r ?_)
   | (with_reducible refine TwoT.r ?_)
   | (with_reducible refine Asm.mk ?_ ?_; focus (first | kernel_rfl | decide))
   | (with_reducible refine Asm.mk2 ?_ ?_)
   | ((fail_if_success (with_reducible first | refine hQ _ _ ?_ | refine Side.mk ?_ | refine isCP hcp ?_ | refine isCC hcc ?_ | refine isLP hlp ?_ | refine Ix.mk ?_ | refine SIx.mk ?_ | refine SEx.mk ?_ | refine EIx.mk ?_ | refine RIx.mk ?_ | refine LkX.mk ?_ | show False | refine hR ?_ _ ?_ ?_ ?_ ?_ ?_ | refine hR2 ?_ _ ?_ ?_ ?_ ?_ ?_)); cbv))
 · refine hQ _ _ ⟨rfl, ?_⟩
   rw [← hq]; rfl
 · have h1 : decide (op = 1) = true := by assumption
   rename_i zn hzn
   refine hQ _ _ ⟨rfl, ?_⟩
   have e : q = z := by rw [← hq, lost1, h1, ← hz, ← hzn]; rfl
   rw [e]; rfl
 · refine hQ _ _ ⟨rfl, ?_⟩
   have e : q = false := by rw [← hq, lost1, hz]; rfl
   rw [e]; rfl
mutual
def lostE (n : Nat) : Ex → Bool → Bool
 | .mk op m _ ar, b => lost1 n op m (lostL n ar b)
def lostL (n : Nat) : List Ex → Bool → Bool
 | [], b => b
 | e :: r, b => lostL n r (lostE n e b)
end
def EachC (C : List (List PV)) (e : Ex) : Prop := ∀ (cells : List PV) (b : Bool), e.cells = cells → ∃ b', lostE C.length e b = b' ∧
 ACall Tryz.prog 75 [.p (.agg cells), .fn 76 [.ref 0 0, .ref 1 0]] (lostH b C) fun r H' => r = .tup [] ∧ takeX H' 2 = lostH b' C
set_option maxHeartbeats 2000000 in
theorem each_c (C : List (List PV)) (op m vk vn : Int) (vs : ByteArray) (ar : List Ex) (es : List (List PV)) (hes : ar.map Ex.cells = es) (hal : ar.length ≤ 140737488355328) (IH : ∀ x, x ∈ ar → EachC C x) (b b' : Bool) (hq : lostE C.length (.mk op m ⟨vk, vn, vs⟩ ar) b = b') :
   ACall Tryz.prog 75 [.p (.agg [.int .i64 op, .int .i64 m, .int .i64 vk, .int .i64 vn, .str vs, .sl es]), .fn 76 [.ref 0 0, .ref 1 0]] (lostH b C) fun r H' => r = .tup [] ∧ takeX H' 2 = lostH b' C := by
 have hel : es.length = ar.length := by rw [← hes]; simp
 rw [lostE] at hq
 refine ACall.x (nt := 20) (res := []) mixed tt_ok [] Tryz.func75 rfl rfl rfl c75 (Nat.le_of_ble_eq_true rfl) ?_
 intro cp cc lp Q' hcp hcc hlp hQ
 repeat' (first
   | (with_reducible refine Nm.mk ?_; intro z hz)
   | (with_reducible refine IfB.mk ?_ ?_ <;> (intro h; cases h))
   | (with_reducible refine Two.l ?_; refine Asm.mk ?_ ?_; focus (decide +kernel))
   | (with_reducible refine Two.r ?_)
   | (with_reducible refine TwoT.r ?_)
   | (with_reducible refine Asm.mk ?_ ?_; focus (first | kernel_rfl | decide))
   | (with_reducible refine Asm.mk2 ?_ ?_)
   | ((fail_if_success (with_reducible first | refine hQ _ _ ?_ | refine Side.mk ?_ | refine isCP hcp ?_ | refine isCC hcc ?_ | refine isLP hlp ?_ | refine Ix.mk ?_ | refine SIx.mk ?_ | refine SEx.mk ?_ | refine EIx.mk ?_ | refine RIx.mk ?_ | refine LkX.mk ?_ | show False | refine hR ?_ _ ?_ ?_ ?_ ?_ ?_ | refine hR2 ?_ _ ?_ ?_ ?_ ?_ ?_)); cbv))
 simp only [nc] at hz
 simp only [nc'] at hz
 have hzl : z.toNat = ar.length ∧ 0 ≤ z := by omega
 obtain ⟨hzl, hzl0⟩ := hzl
 clear hz
 generalize z = zl at *
 refine loopT (ι := Int × Bool) mixed tt_ok hcp hcc hlp [1, 2, 7, 8] (fun p => [(9, .p (.int .i64 p.1))]) (fun p => [.cells [.p (.bool p.2)], .cells [.p (.sl C)], .cells [.p (.int .i64 op), .p (.int .i64 m), .p (.int .i64 vk), .p (.int .i64 vn), .p (.str vs), .p (.sl es)]])
   (fun p => (0 ≤ p.1 ∧ p.1 ≤ zl) ∧ lostL C.length (ar.drop p.1.toNat) p.2 = lostL C.length ar b) (fun p => (zl - p.1).toNat) (0, _) 3 (fun _ => rfl) ⟨⟨by show (0 : Int) ≤ 0; omega, by show (0 : Int) ≤ zl; omega⟩, rfl⟩ ⟨rfl, trivial⟩ rfl ?_
 rintro R ⟨i, b1⟩ ⟨⟨hi0, hi1⟩, hf⟩ hR
 replace hi0 : 0 ≤ i := hi0
 replace hi1 : i ≤ zl := hi1
 replace hf : lostL C.length (ar.drop i.toNat) b1 = lostL C.length ar b := hf
 have hk : decide (i < zl) = true → i < ar.length := by simp only [decide_eq_true_eq]; omega
 have hki : decide (i < zl) = true → i + 1 ≤ zl ∧ i < 9223372036854775806 := by simp only [decide_eq_true_eq]; omega
 have hdr : ∀ x, ar[i.toNat]? = some x → ar.drop i.toNat = x :: ar.drop (i + 1).toNat := by
   intro x hx
   rw [List.drop_eq_getElem_cons (List.getElem?_eq_some_iff.1 hx).1, (List.getElem?_eq_some_iff.1 hx).2, show (i + 1).toNat = i.toNat + 1 by omega]
 have hpc : ∀ (op' m' vk' vn' : Int) (vs' : ByteArray) (ar' : List Ex) (es' : List (List PV)), ar[i.toNat]? = some (.mk op' m' ⟨vk', vn', vs'⟩ ar') → ar'.map Ex.cells = es' → ∃ b2, lostE C.length (.mk op' m' ⟨vk', vn', vs'⟩ ar') b1 = b2 ∧
     ACall Tryz.prog 75 [.p (.agg [.int .i64 op', .int .i64 m', .int .i64 vk', .int .i64 vn', .str vs', .sl es']), .fn 76 [.ref 0 0, .ref 1 0]] (lostH b1 C) fun r H' => r = .tup [] ∧ takeX H' 2 = lostH b2 C := by
   intro op' m' vk' vn' vs' ar' es' hx he
   exact IH _ (List.mem_of_getElem? hx) _ b1 (by rw [cells_mk, he])
 have hlast := lost_c C op m vk vn vs es b1
 obtain ⟨bl, hbl⟩ : ∃ q, lost1 C.length op m b1 = q := ⟨_, rfl⟩
 rw [hbl] at hlast
 repeat' (first
   | (with_reducible refine Nm.mk ?_; intro z hz)
   | (with_reducible refine IfB.mk ?_ ?_ <;> (intro h; cases h))
   | (with_reducible refine Two.l ?_; refine Asm.mk ?_ ?_; focus (decide +kernel))
   | (with_reducible refine Two.r ?_)
   | (with_reducible refine TwoT.r ?_)
   | (with_reducible refine Asm.mk ?_ ?_; focus (show (_ : Bool) = true; kernel_rfl))
   | (with_reducible refine Ix.ex hes hi0 (hk (by assumption)) ?_; intro op' m' vk' vn' vs' ar' es' hx hes')
   | (with_reducible refine isCC hcc ?_; obtain ⟨b2, hb2, hcall⟩ := hpc _ _ _ _ _ _ _ hx hes'; refine frameK (H1 := lostH b2 C) hcc [0, 1] hcall rfl rfl rfl rfl rfl rfl rfl ?_)
   | (with_reducible refine isCC hcc ?_; refine frameK (H1 := lostH bl C) hcc [0, 1] hlast rfl rfl rfl rfl rfl rfl rfl ?_)
   | (with_reducible refine Asm.mk2 ?_ ?_)
   | ((fail_if_success (with_reducible first | refine hQ _ _ ?_ | refine Side.mk ?_ | refine isCP hcp ?_ | refine isCC hcc ?_ | refine isLP hlp ?_ | refine Ix.mk ?_ | refine SIx.mk ?_ | refine SEx.mk ?_ | refine EIx.mk ?_ | refine RIx.mk ?_ | refine LkX.mk ?_ | show False | refine hR ?_ _ ?_ ?_ ?_ ?_ ?_ | refine hR2 ?_ _ ?_ ?_ ?_ ?_ ?_)); cbv))
 · have hlt := hki (by assumption)
   have hwi : IntKind.i64.wrap (i + 1) = i + 1 := wrap_in (by omega)
   rw [hwi] at hz
   rw [hdr _ hx, lostL, hb2] at hf
   exact hR (i + 1, b2) _ ⟨⟨by show 0 ≤ i + 1; omega, by show i + 1 ≤ zl; omega⟩, hf⟩ (by show (zl - (i + 1)).toNat < (zl - i).toNat; omega) ⟨hz ▸ rfl, trivial⟩ ⟨rfl, rfl, rfl, rfl, trivial⟩ rfl
 · have hge : ar.length ≤ i.toNat := by
     have : decide (i < zl) = false := by assumption
     simp only [decide_eq_false_iff_not] at this
     omega
   rw [List.drop_eq_nil_of_le hge, lostL] at hf
   rw [← hf, hbl] at hq
   refine hQ _ _ ⟨rfl, ?_⟩
   rw [← hq]; rfl
theorem each_all (C : List (List PV)) : ∀ (m : Nat) (e : Ex), e.sz ≤ m → e.wide → EachC C e
 | 0, .mk op m v ar, h, _ => by simp [Ex.sz] at h
 | k + 1, .mk op m ⟨vk, vn, vs⟩ ar, h, hw => by
   intro cells b he
   rw [cells_mk] at he
   subst he
   have hwi : wideN ar.length ∧ wideL ar := by rw [Ex.wide] at hw; exact hw
   have hwn : wideN ar.length := hwi.1
   unfold wideN at hwn
   refine ⟨_, rfl, each_c C op m vk vn vs ar _ rfl (by omega) (fun x hx => each_all C k x ?_ (wide_mem hwi.2 hx)) b _ rfl⟩
   have := sz_mem hx
   simp only [Ex.sz] at h; omega
end Go.Proofs.YtlabphnonlicdaaGreat

namespace Go.Proofs.YtlabphnonlicdaaGreat
open Go Go.RowKit
set_option maxRecDepth 100000
set_option linter.unusedSimpArgs false
set_option linter.unusedVariables false
def badH (b : Bool) : List AObj := [.cells [.p (.bool b)]]
theorem fit_c (x y : Int) (b b' : Bool) (hb : (b || !pairK x y) = b') :
   ACall Tryz.prog 77 [.p (.int .i64 x), .p (.int .i64 y), .ref 0 0] (badH b) fun r H' => r = .p (.int .i64 (mx x y)) ∧ takeX H' 1 = badH b' := by
 obtain ⟨q, hq⟩ : ∃ q, mx x y = q := ⟨_, rfl⟩
 rw [hq]
 have pf : (!decide (x = y)) = true → (!decide (x = 0)) = true → (!decide (y = 0)) = true → b' = true := by
   intro h1 h2 h3
   have e1 : decide (x = y) = false := by cases h : decide (x = y) <;> rw [h] at h1 <;> first | rfl | cases h1
   have e2 : decide (x = 0) = false := by cases h : decide (x = 0) <;> rw [h] at h2 <;> first | rfl | cases h2
   have e3 : decide (y = 0) = false := by cases h : decide (y = 0) <;> rw [h] at h3 <;> first | rfl | cases h3
   rw [← hb, pairK, e1, e2, e3]; cases b <;> rfl
 have pt : (!decide (x = y)) = false ∨ (!decide (x = 0)) = false ∨ (!decide (y = 0)) = false → b' = b := by
   intro h
   have e1 : pairK x y = true := by
     rw [pairK]
     rcases h with h | h | h
     · have : decide (x = y) = true := by cases h2 : decide (x = y) <;> rw [h2] at h <;> first | rfl | cases h
       rw [this]; rfl
     · have : decide (x = 0) = true := by cases h2 : decide (x = 0) <;> rw [h2] at h <;> first | rfl | cases h
       rw [this]; cases decide (x = y) <;> rfl
     · have : decide (y = 0) = true := by cases h2 : decide (y = 0) <;> rw [h2] at h <;> first | rfl | cases h
       rw [this]; cases decide (x = y) <;> cases decide (x = 0) <;> rfl
   rw [← hb, e1]; cases b <;> rfl
 clear hb
 refine ACall.x (nt := 20) (res := [.tmp 5]) mixed tt_ok [] Tryz.func77 rfl rfl rfl c77 (Nat.le_of_ble_eq_true rfl) ?_
 intro cp cc lp Q' hcp hcc hlp hQ
 repeat' (first
   | (with_reducible refine Nm.mk ?_; intro z hz)
   | (with_reducible refine IfB.mk ?_ ?_ <;> (intro h; cases h))
   | (with_reducible refine Two.l ?_; refine Asm.mk ?_ ?_; focus (decide +kernel))
   | (with_reducible refine Two.r ?_)
   | (with_reducible refine TwoT.r ?_)
   | (with_reducible refine Asm.mk ?_ ?_; focus (first | kernel_rfl | decide))
   | (with_reducible refine Asm.mk2 ?_ ?_)
   | ((fail_if_success (with_reducible first | refine hQ _ _ ?_ | refine Side.mk ?_ | refine isCP hcp ?_ | refine isCC hcc ?_ | refine isLP hlp ?_ | refine Ix.mk ?_ | refine SIx.mk ?_ | refine SEx.mk ?_ | refine EIx.mk ?_ | refine RIx.mk ?_ | refine LkX.mk ?_ | show False | refine hR ?_ _ ?_ ?_ ?_ ?_ ?_ | refine hR2 ?_ _ ?_ ?_ ?_ ?_ ?_)); cbv))
 all_goals
   (have e : z = q := by rw [← hz, ← hq]; rfl
    subst e
    refine hQ _ _ ⟨rfl, ?_⟩
    first
      | (rw [pf (by assumption) (by assumption) (by assumption)]; rfl)
      | (rw [pt (by first | exact .inl (by assumption) | exact .inr (.inl (by assumption)) | exact .inr (.inr (by assumption)))]; rfl))
end Go.Proofs.YtlabphnonlicdaaGreat

namespace Go.Proofs.YtlabphnonlicdaaGreat
open Go Go.RowKit
set_option maxRecDepth 100000
set_option linter.unusedSimpArgs false
set_option linter.unusedVariables false
def g0 (l : List Int) (i : Nat) : Int := (l[i]?).getD 0
def kindO (K : List Int) (op m : Int) (v : Val) (l : List Int) (b : Bool) : Int × Bool :=
 if op = 1 then (g0 K m.toNat, b) else if op = 2 then ((clean v).k, b) else if op = 5 then (1, b)
 else if op = 6 then (1, b || !pairK (g0 l 0) 2)
 else if op = 18 then (2, b || !pairK (g0 l 0) 2 || !pairK (g0 l 1) 2)
 else if 12 ≤ op ∧ op ≤ 17 then (1, b || !pairK (g0 l 0) (g0 l 1))
 else if op = 21 then (mx (g0 l 1) (g0 l 2), b || !pairK (g0 l 0) 1 || !pairK (g0 l 1) (g0 l 2))
 else (1, b || !fitK 1 l)
mutual
def kindF (K : List Int) : Ex → Bool → Int × Bool
 | .mk op m v ar, b => kindO K op m v (kindFL K ar b).1 (kindFL K ar b).2
def kindFL (K : List Int) : List Ex → Bool → List Int × Bool
 | [], b => ([], b)
 | e :: r, b => ((kindF K e b).1 :: (kindFL K r (kindF K e b).2).1, (kindFL K r (kindF K e b).2).2)
end
theorem kindO_true (K : List Int) (op m : Int) (v : Val) (l : List Int) : (kindO K op m v l true).2 = true := by
 unfold kindO
 (repeat' split) <;> simp
mutual
theorem kindF_true (K : List Int) : ∀ e : Ex, (kindF K e true).2 = true
 | .mk op m v ar => by rw [kindF, kindFL_true K ar]; exact kindO_true _ _ _ _ _
theorem kindFL_true (K : List Int) : ∀ l : List Ex, (kindFL K l true).2 = true
 | [] => rfl
 | e :: r => by rw [kindFL]; show (kindFL K r (kindF K e true).2).2 = true; rw [kindF_true K e]; exact kindFL_true K r
end
theorem pair_fit (a w : Int) (hw : w ≠ 0) : pairK a w = (decide (a = w) || decide (a = 0)) := by
 unfold pairK
 rw [show decide (w = 0) = false by simpa using hw, Bool.or_false]
theorem kindL_len (K : List Int) : ∀ (l : List Ex) (r : List Int), kindL K l = some r → r.length = l.length
 | [], r, h => by simp only [kindL, Option.some.injEq] at h; subst h; rfl
 | e :: t, r, h => by
   rw [kindL] at h
   split at h
   · cases hk : kindL K t with
     | none => rw [hk] at h; simp at h
     | some r' =>
       rw [hk] at h
       simp only [Option.map_some, Option.some.injEq] at h
       subst h
       simp [kindL_len K t r' hk]
   · cases h
theorem kindO_some {K : List Int} {op m : Int} {v : Val} {l : List Int} {ar : List Ex} (hl : kindL K ar = some l) (ha : arityE op = (ar.length : Int)) (b : Bool) :
   ((kindE K (.mk op m v ar)).2 = true → kindO K op m v l b = ((kindE K (.mk op m v ar)).1, b)) ∧ ((kindE K (.mk op m v ar)).2 = false → (kindO K op m v l b).2 = true) := by
 have hn := kindL_len K ar l hl
 rw [kindE, hl]
 dsimp only
 unfold kindO
 have two : ∀ o, arityE o = 2 → op = o → ∃ x y, l = [x, y] := by
   rintro o h rfl
   match l, (by omega : l.length = 2) with
   | [x, y], _ => exact ⟨x, y, rfl⟩
 have one : ∀ o, arityE o = 1 → op = o → ∃ x, l = [x] := by
   rintro o h rfl
   match l, (by omega : l.length = 1) with
   | [x], _ => exact ⟨x, rfl⟩
 by_cases h1 : op = 1
 · rw [if_pos h1, if_pos h1]; exact ⟨fun _ => rfl, fun h => by cases h⟩
 by_cases h2 : op = 2
 · rw [if_neg h1, if_neg h1, if_pos h2, if_pos h2]; exact ⟨fun _ => rfl, fun h => by cases h⟩
 by_cases h5 : op = 5
 · rw [if_neg h1, if_neg h1, if_neg h2, if_neg h2, if_pos h5, if_pos h5]; exact ⟨fun _ => rfl, fun h => by cases h⟩
 by_cases h6 : op = 6
 · obtain ⟨x, rfl⟩ := one 6 rfl h6
   simp only [if_neg h1, if_neg h2, if_neg h5, if_pos h6, fitK, List.all_cons, List.all_nil, Bool.and_true, g0, List.getElem?_cons_zero, Option.getD_some, pair_fit x 2 (by decide)]
   refine ⟨fun h => ?_, fun h => ?_⟩ <;> rw [h] <;> simp
 by_cases h18 : op = 18
 · obtain ⟨x, y, rfl⟩ := two 18 rfl h18
   simp only [if_neg h1, if_neg h2, if_neg h5, if_neg h6, if_pos h18, fitK, List.all_cons, List.all_nil, Bool.and_true, g0, List.getElem?_cons_zero, List.getElem?_cons_succ, Option.getD_some, pair_fit x 2 (by decide), pair_fit y 2 (by decide)]
   generalize (decide (x = 2) || decide (x = 0)) = p
   generalize (decide (y = 2) || decide (y = 0)) = q
   cases p <;> cases q <;> cases b <;> decide
 by_cases hc : 12 ≤ op ∧ op ≤ 17
 · simp only [if_neg h1, if_neg h2, if_neg h5, if_neg h6, if_neg h18, if_pos hc]
   refine ⟨fun h => ?_, fun h => ?_⟩
   · rw [show pairK (g0 l 0) (g0 l 1) = true from h]; simp
   · rw [show pairK (g0 l 0) (g0 l 1) = false from h]; simp
 by_cases h21 : op = 21
 · simp only [if_neg h1, if_neg h2, if_neg h5, if_neg h6, if_neg h18, if_neg hc, if_pos h21, fitK, List.all_cons, List.all_nil, Bool.and_true, pair_fit (g0 l 0) 1 (by decide)]
   refine ⟨fun h => ?_, fun h => ?_⟩
   · rw [Bool.and_eq_true] at h
     have h1 : pairK (g0 l 1) (g0 l 2) = true := h.1
     have h2 : (decide (g0 l 0 = 1) || decide (g0 l 0 = 0)) = true := h.2
     rw [h1, h2]
     simp only [Bool.not_true, Bool.or_false]; rfl
   · rw [Bool.and_eq_false_iff] at h
     rcases h with h | h
     · have h1 : pairK (g0 l 1) (g0 l 2) = false := h
       rw [h1]; simp
     · have h1 : (decide (g0 l 0 = 1) || decide (g0 l 0 = 0)) = false := h
       rw [h1]; simp
 · simp only [if_neg h1, if_neg h2, if_neg h5, if_neg h6, if_neg h18, if_neg hc, if_neg h21]
   refine ⟨fun h => ?_, fun h => ?_⟩ <;> rw [h] <;> simp
mutual
theorem kindF_E (K : List Int) : ∀ (e : Ex) (n : Nat) (b : Bool), e.fine n → ((kindE K e).2 = true → kindF K e b = ((kindE K e).1, b)) ∧ ((kindE K e).2 = false → (kindF K e b).2 = true)
 | .mk op m v ar, n, b, hf => by
   rw [Ex.fine] at hf
   obtain ⟨f1, f2, f3⟩ := hf
   have hL := kindFL_E K ar n b f3
   cases hl : kindL K ar with
   | none =>
     rw [hl] at hL
     have hE : kindE K (.mk op m v ar) = (0, false) := by rw [kindE, hl]
     rw [hE, kindF, show (kindFL K ar b).2 = true from hL]
     exact ⟨fun h => (by cases h), fun _ => kindO_true _ _ _ _ _⟩
   | some l =>
     rw [hl] at hL
     rw [kindF, show kindFL K ar b = (l, b) from hL]
     exact kindO_some hl f1 b
theorem kindFL_E (K : List Int) : ∀ (l : List Ex) (n : Nat) (b : Bool), fineL n l → match kindL K l with | some r => kindFL K l b = (r, b) | none => (kindFL K l b).2 = true
 | [], n, b, hf => rfl
 | e :: t, n, b, hf => by
   rw [fineL] at hf
   have he := kindF_E K e n b hf.1
   rw [kindL, kindFL]
   rcases hk : kindE K e with ⟨k, g⟩
   rw [hk] at he
   cases g with
   | false =>
     show (kindFL K t (kindF K e b).2).2 = true
     rw [he.2 rfl]
     exact kindFL_true K t
   | true =>
     rw [he.1 rfl]
     have ht := kindFL_E K t n b hf.2
     cases hl : kindL K t with
     | none => rw [hl] at ht; exact ht
     | some r =>
       rw [hl] at ht
       show (k :: (kindFL K t b).1, (kindFL K t b).2) = (k :: r, b)
       rw [show kindFL K t b = (r, b) from ht]
end
mutual
theorem lostE_or (n : Nat) : ∀ (e : Ex) (b : Bool), lostE n e b = (b || lostK n e.cols)
 | .mk op m v ar, b => by
   rw [lostE, lostL_or n ar b, Ex.cols, lost1, lostK, lostK, List.any_append]
   by_cases h : op = 1
   · rw [if_pos h]; simp [h]
     cases b <;> cases (colsOf ar).any (fun c => decide ((n : Int) ≤ c)) <;> simp
   · rw [if_neg h]; simp [h]
theorem lostL_or (n : Nat) : ∀ (l : List Ex) (b : Bool), lostL n l b = (b || lostK n (colsOf l))
 | [], b => by simp [lostL, colsOf, lostK]
 | e :: r, b => by
   rw [lostL, lostE_or n e b, lostL_or n r, colsOf]
   simp only [lostK, List.any_append, Bool.or_assoc]
end
theorem insC_mem {x c : Int} {L : List Int} (h : c ∈ insC x L) : c ∈ L ∨ c = x := by
 rw [insC] at h
 split at h
 · exact .inl h
 · rcases List.mem_append.1 h with h | h
   · exact .inl (List.mem_of_mem_take h)
   · rcases List.mem_cons.1 h with h | h
     · exact .inr h
     · exact .inl (List.mem_of_mem_drop h)
mutual
theorem colsE_mem : ∀ (e : Ex) (L : List Int) (c : Int), c ∈ colsE e L → c ∈ L ∨ c ∈ e.cols
 | .mk op m v ar, L, c, h => by
   rw [colsE] at h
   rw [Ex.cols]
   by_cases h1 : op = 1
   · rw [if_pos h1] at h ⊢
     rcases colsL_mem ar _ c h with h | h
     · rcases insC_mem h with h | h
       · exact .inl h
       · exact .inr (by simp [h])
     · exact .inr (List.mem_append_right _ h)
   · rw [if_neg h1] at h ⊢
     rcases colsL_mem ar _ c h with h | h
     · exact .inl h
     · exact .inr (by simpa using h)
theorem colsL_mem : ∀ (l : List Ex) (L : List Int) (c : Int), c ∈ colsKL l L → c ∈ L ∨ c ∈ colsOf l
 | [], L, c, h => .inl h
 | e :: r, L, c, h => by
   rw [colsKL] at h
   rw [colsOf]
   rcases colsL_mem r _ c h with h | h
   · rcases colsE_mem e L c h with h | h
     · exact .inl h
     · exact .inr (List.mem_append_left _ h)
   · exact .inr (List.mem_append_right _ h)
end
theorem lostK_cols (n : Nat) (e : Ex) : lostK n (colsE e []) = lostE n e false := by
 rw [lostE_or, Bool.false_or, lostK, lostK, Bool.eq_iff_iff, List.any_eq_true, List.any_eq_true]
 constructor
 · rintro ⟨c, h1, h2⟩
   rcases colsE_mem e [] c h1 with h | h
   · simp at h
   · exact ⟨c, h, h2⟩
 · rintro ⟨c, h1, h2⟩
   exact ⟨c, mem_colsE e [] c (.inr h1), h2⟩
end Go.Proofs.YtlabphnonlicdaaGreat

namespace Go.Proofs.YtlabphnonlicdaaGreat
open Go Go.RowKit
set_option maxRecDepth 100000
set_option linter.unusedSimpArgs false
set_option linter.unusedVariables false
def kH (b : Bool) (C : List (List PV)) : List AObj := [.cells [.fn 78 [.ref 0 0, .ref 1 0, .ref 2 0]], .cells [.p (.sl C)], .cells [.fn 77 [.ref 3 0]], .cells [.p (.bool b)]]
def KindA (K : List Int) (C : List (List PV)) (e : Ex) : Prop := ∀ (cells : List PV) (b : Bool), e.cells = cells → ∃ k b', kindF K e b = (k, b') ∧
 ACall Tryz.prog 78 [.p (.agg cells), .ref 0 0, .ref 1 0, .ref 2 0] (kH b C) fun r H' => r = .p (.int .i64 k) ∧ takeX H' 4 = kH b' C
theorem fit_ex (x y : Int) (b : Bool) : ∃ z b', mx x y = z ∧ (b || !pairK x y) = b' ∧ ACall Tryz.prog 77 [.p (.int .i64 x), .p (.int .i64 y), .ref 0 0] (badH b) fun r H' => r = .p (.int .i64 z) ∧ takeX H' 1 = badH b' :=
 ⟨_, _, rfl, rfl, fit_c x y b _ rfl⟩
theorem g0_take {L : List Int} {i : Nat} {k : Int} (h : L[i]? = some k) : g0 (L.take (i + 1)) i = k ∧ ∀ j, j ≠ i → g0 (L.take (i + 1)) j = g0 (L.take i) j := by
 refine ⟨?_, fun j hj => ?_⟩
 · rw [g0, List.getElem?_take, if_pos (by omega), h]; rfl
 · rw [g0, g0, List.getElem?_take, List.getElem?_take]
   by_cases h1 : j < i
   · rw [if_pos (by omega), if_pos h1]
   · rw [if_neg (by omega), if_neg h1]
theorem kindFL_step {K : List Int} {ar : List Ex} {i : Nat} {x : Ex} {b1 b2 bF : Bool} {k2 : Int} {L : List Int} (h : kindFL K (ar.drop i) b1 = (L.drop i, bF)) (hx : ar.drop i = x :: ar.drop (i + 1)) (hk : kindF K x b1 = (k2, b2)) :
   kindFL K (ar.drop (i + 1)) b2 = (L.drop (i + 1), bF) ∧ L[i]? = some k2 := by
 rw [hx, kindFL, hk] at h
 simp only [Prod.mk.injEq] at h
 have h1 : L[i]? = some k2 := by
   have := congrArg (fun l => l[0]?) h.1
   simpa using this.symm
 refine ⟨?_, h1⟩
 have h2 := congrArg List.tail h.1
 simp only [List.tail_cons, List.tail_drop] at h2
 rw [← h2, ← h.2]
theorem sd0 : (0 : Int) ≤ 0 ∧ (0 : Int) < ((3 : Nat) : Int) ∧ ¬ (1 : Nat) = 0 := by decide
theorem sd1 : (0 : Int) ≤ 1 ∧ (1 : Int) < ((3 : Nat) : Int) ∧ ¬ (1 : Nat) = 0 := by decide
theorem sd2 : (0 : Int) ≤ 2 ∧ (2 : Int) < ((3 : Nat) : Int) ∧ ¬ (1 : Nat) = 0 := by decide
set_option maxHeartbeats 8000000 in
theorem kindA_c (K : List Int) (C : List (List PV)) (hC : K.map i64c = C) (op m vk vn : Int) (vs : ByteArray) (ar : List Ex) (es : List (List PV)) (hes : ar.map Ex.cells = es) (hal : (ar.length : Int) = arityE op) (hm : op = 1 → 0 ≤ m ∧ m < K.length) (IH : ∀ x, x ∈ ar → KindA K C x) (b0 : Bool) (k : Int) (b : Bool) (hq : kindF K (.mk op m ⟨vk, vn, vs⟩ ar) b0 = (k, b)) :
   ACall Tryz.prog 78 [.p (.agg [.int .i64 op, .int .i64 m, .int .i64 vk, .int .i64 vn, .str vs, .sl es]), .ref 0 0, .ref 1 0, .ref 2 0] (kH b0 C) fun r H' => r = .p (.int .i64 k) ∧ takeX H' 4 = kH b C := by
 have hel : es.length = ar.length := by rw [← hes]; simp
 have ha3 : arityE op ≤ 3 := by unfold arityE; (repeat' split) <;> omega
 have ha4 : ar.length ≤ 3 := by omega
 have hal2 : ar.length = (arityE op).toNat ∧ 0 ≤ arityE op := by omega
 clear hal
 rw [kindF] at hq
 obtain ⟨L, bF, hL⟩ : ∃ L bF, kindFL K ar b0 = (L, bF) := ⟨_, _, rfl⟩
 rw [hL] at hq
 dsimp only at hq
 have hLl : ∀ (l : List Ex) (b : Bool), (kindFL K l b).1.length = l.length := by
   intro l
   induction l with
   | nil => intro b; rfl
   | cons e r ih => intro b; rw [kindFL]; simp [ih]
 have hLn : L.length = ar.length := by have := hLl ar b0; rw [hL] at this; exact this
 clear hLl
 have hm0 : decide (op = 1) = true → (0 ≤ m ∧ m < (K.length : Int)) := by simp only [decide_eq_true_eq]; exact hm
 have hmk : decide (op = 1) = true → ∀ y, K[m.toNat]? = some y → g0 K m.toNat = y := by intro _ y h; rw [g0, h]; rfl
 refine ACall.x (nt := 94) (res := [.tmp 5]) mixed tt_ok [] Tryz.func78 rfl rfl rfl c78 (Nat.le_of_ble_eq_true rfl) ?_
 intro cp cc lp Q' hcp hcc hlp hQ
 repeat' (first
   | (with_reducible refine Nm.mk ?_; intro z hz)
   | (with_reducible refine IfB.mk ?_ ?_ <;> (intro h; cases h))
   | (with_reducible refine Two.l ?_; refine Asm.mk ?_ ?_; focus (decide +kernel))
   | (with_reducible refine Two.r ?_)
   | (with_reducible refine TwoT.r ?_)
   | (with_reducible refine Asm.mk ?_ ?_; focus (first | kernel_rfl | decide))
   | (with_reducible refine Asm.mk2 ?_ ?_)
   | ((fail_if_success (with_reducible first | refine hQ _ _ ?_ | refine Side.mk ?_ | refine isCP hcp ?_ | refine isCC hcc ?_ | refine isLP hlp ?_ | refine Ix.mk ?_ | refine SIx.mk ?_ | refine SEx.mk ?_ | refine EIx.mk ?_ | refine RIx.mk ?_ | refine LkX.mk ?_ | show False | refine hR ?_ _ ?_ ?_ ?_ ?_ ?_ | refine hR2 ?_ _ ?_ ?_ ?_ ?_ ?_)); cbv))
 simp only [nc] at hz
 simp only [nc'] at hz
 have hzl := lenZ (n := ar.length) hel hz
 clear hz
 generalize z = zl at *
 refine loopT (ι := Int × (Int × Int × Int) × Bool) mixed tt_ok hcp hcc hlp [1, 2, 3, 4, 6, 11, 12] (fun p => [(13, .p (.int .i64 p.1))]) (fun p => [.cells [.fn 78 [.ref 0 0, .ref 1 0, .ref 2 0]], .cells [.p (.sl C)], .cells [.fn 77 [.ref 3 0]], .cells [.p (.bool p.2.2)], .cells [.p (.int .i64 op), .p (.int .i64 m), .p (.int .i64 vk), .p (.int .i64 vn), .p (.str vs), .p (.sl es)], .cells [.p (.int .i64 p.2.1.1), .p (.int .i64 p.2.1.2.1), .p (.int .i64 p.2.1.2.2)]])
   (fun p => Rng ar.length zl p.1 ∧ kindFL K (ar.drop p.1.toNat) p.2.2 = (L.drop p.1.toNat, bF) ∧ g0 (L.take p.1.toNat) 0 = p.2.1.1 ∧ g0 (L.take p.1.toNat) 1 = p.2.1.2.1 ∧ g0 (L.take p.1.toNat) 2 = p.2.1.2.2) (fun p => (zl - p.1).toNat) (0, (0, 0, 0), b0) 6 (fun _ => rfl)
   ⟨Rng.start hzl (by omega), hL, rfl, rfl, rfl⟩ ⟨rfl, trivial⟩ rfl ?_
 rintro R ⟨i, ⟨x0, x1, x2⟩, b1⟩ ⟨rg, hf, hx0, hx1, hx2⟩ hR
 replace rg : Rng ar.length zl i := rg
 replace hf : kindFL K (ar.drop i.toNat) b1 = (L.drop i.toNat, bF) := hf
 replace hx0 : g0 (L.take i.toNat) 0 = x0 := hx0
 replace hx1 : g0 (L.take i.toNat) 1 = x1 := hx1
 replace hx2 : g0 (L.take i.toNat) 2 = x2 := hx2
 have hpc : ∀ (op' m' vk' vn' : Int) (vs' : ByteArray) (ar' : List Ex) (es' : List (List PV)), ar[i.toNat]? = some (.mk op' m' ⟨vk', vn', vs'⟩ ar') → ar'.map Ex.cells = es' → ∃ k2 b2, kindF K (.mk op' m' ⟨vk', vn', vs'⟩ ar') b1 = (k2, b2) ∧
     ACall Tryz.prog 78 [.p (.agg [.int .i64 op', .int .i64 m', .int .i64 vk', .int .i64 vn', .str vs', .sl es']), .ref 0 0, .ref 1 0, .ref 2 0] (kH b1 C) fun r H' => r = .p (.int .i64 k2) ∧ takeX H' 4 = kH b2 C := by
   intro op' m' vk' vn' vs' ar' es' hx he
   exact IH _ (List.mem_of_getElem? hx) _ b1 (by rw [cells_mk, he])
 have h3i : decide (i < zl) = true → 0 ≤ i ∧ i < ((3 : Nat) : Int) ∧ ¬ (1 : Nat) = 0 := by intro h; have := rg.ltN h; have := rg.lo; omega
 have h3 : decide (i < zl) = true → ∀ v, 0 + i.toNat * 1 = v → v = 0 ∨ v = 1 ∨ v = 2 := by intro h; have := rg.ltN h; omega
 have hend : decide (i < zl) = false → bF = b1 ∧ g0 L 0 = x0 ∧ g0 L 1 = x1 ∧ g0 L 2 = x2 := by
   intro h
   rw [rg.end_ rfl h, kindFL] at hf
   rw [rg.take_ hLn h] at hx0 hx1 hx2
   exact ⟨by simp only [Prod.mk.injEq] at hf; exact hf.2.symm, hx0, hx1, hx2⟩
 obtain ⟨yA, bA, hyA, hbA, cA⟩ := fit_ex x0 2 b1
 obtain ⟨yB, bB, hyB, hbB, cB⟩ := fit_ex x1 2 bA
 obtain ⟨yC, bC, hyC, hbC, cC⟩ := fit_ex x0 x1 b1
 obtain ⟨yD, bD, hyD, hbD, cD⟩ := fit_ex x0 1 b1
 obtain ⟨yE, bE, hyE, hbE, cE⟩ := fit_ex x1 x2 bD
 repeat' (first
   | (with_reducible refine Nm.lit 0 (by with_unfolding_all rfl) ?_)
   | (with_reducible refine Nm.lit 1 (by with_unfolding_all rfl) ?_)
   | (with_reducible refine Nm.lit 2 (by with_unfolding_all rfl) ?_)
   | (with_reducible refine Nm.three (h3 (by assumption) _ rfl) ?_ ?_ ?_ <;> intro hoff)
   | (with_reducible refine Nm.mk ?_; intro z hz)
   | (with_reducible refine IfB.mk ?_ ?_ <;> (intro h; cases h))
   | (with_reducible refine Two.l ?_; refine Asm.mk ?_ ?_; focus (decide +kernel))
   | (with_reducible refine Two.r ?_)
   | (with_reducible refine TwoT.r ?_)
   | (with_reducible refine Asm.mk ?_ ?_; focus (show (_ : Bool) = true; kernel_rfl))
   | (with_reducible refine isCP hcp ?_; first | (refine vP hcp (clean_c vk vn vs) ?_; intro v hv))
   | (with_reducible refine isCC hcc ?_; first | (refine vA hcc (clean_c vk vn vs) rfl ?_; intro v hv))
   | (with_reducible refine Ix.ex hes rg.lo (rg.lt (by assumption)) ?_; intro op' m' vk' vn' vs' ar' es' hx hes')
   | (with_reducible refine Ix.map hC i64c_len (by decide) (hm0 (by assumption)).1 (hm0 (by assumption)).2 ?_; intro xk hxk)
   | (with_reducible refine isCC hcc ?_; obtain ⟨k2, b2, hk2, hcall⟩ := hpc _ _ _ _ _ _ _ hx hes'; refine frameK (H1 := kH b2 C) hcc [0, 1, 2, 3] hcall rfl rfl rfl rfl rfl rfl rfl ?_)
   | (with_reducible refine isCC hcc ?_; first | refine frameK (H1 := badH bA) hcc [3] cA rfl rfl rfl rfl rfl rfl rfl ?_ | refine frameK (H1 := badH bB) hcc [3] cB rfl rfl rfl rfl rfl rfl rfl ?_ | refine frameK (H1 := badH bC) hcc [3] cC rfl rfl rfl rfl rfl rfl rfl ?_ | refine frameK (H1 := badH bD) hcc [3] cD rfl rfl rfl rfl rfl rfl rfl ?_ | refine frameK (H1 := badH bE) hcc [3] cE rfl rfl rfl rfl rfl rfl rfl ?_)
   | (with_reducible refine Asm.mk2 ?_ ?_)
   | ((fail_if_success (with_reducible first | refine hQ _ _ ?_ | refine Side.mk ?_ | refine isCP hcp ?_ | refine isCC hcc ?_ | refine isLP hlp ?_ | refine Ix.mk ?_ | refine SIx.mk ?_ | refine SEx.mk ?_ | refine EIx.mk ?_ | refine RIx.mk ?_ | refine LkX.mk ?_ | show False | refine hR ?_ _ ?_ ?_ ?_ ?_ ?_ | refine hR2 ?_ _ ?_ ?_ ?_ ?_ ?_)); cbv))
 all_goals (try (refine Side.mk ?_; first | exact sd0 | exact sd1 | exact sd2 | exact h3i (by assumption)))
 · have hlt : decide (i < zl) = true := by assumption
   have hi : i.toNat = 0 := by omega
   obtain ⟨s1, s2⟩ := kindFL_step (i := i.toNat) hf (by rw [← rg.toNat]; exact rg.step hx) hk2
   have gt := g0_take s2
   rw [rg.wrap hlt] at hz
   rw [hi] at gt hx0 hx1 hx2 s1 s2
   refine hR (i + 1, (k2, x1, x2), b2) _ ⟨rg.next hlt, by rw [rg.toNat, hi]; exact s1, ?_, ?_, ?_⟩ (rg.less hlt) ⟨hz ▸ rfl, trivial⟩ ⟨rfl, rfl, rfl, rfl, rfl, rfl, rfl, trivial⟩ rfl
   · show g0 (L.take (i + 1).toNat) 0 = _
     rw [rg.toNat, hi]; first | exact gt.1 | (rw [gt.2 0 (by decide)]; exact hx0)
   · show g0 (L.take (i + 1).toNat) 1 = _
     rw [rg.toNat, hi]; first | exact gt.1 | (rw [gt.2 1 (by decide)]; exact hx1)
   · show g0 (L.take (i + 1).toNat) 2 = _
     rw [rg.toNat, hi]; first | exact gt.1 | (rw [gt.2 2 (by decide)]; exact hx2)
 · have hlt : decide (i < zl) = true := by assumption
   have hi : i.toNat = 1 := by omega
   obtain ⟨s1, s2⟩ := kindFL_step (i := i.toNat) hf (by rw [← rg.toNat]; exact rg.step hx) hk2
   have gt := g0_take s2
   rw [rg.wrap hlt] at hz
   rw [hi] at gt hx0 hx1 hx2 s1 s2
   refine hR (i + 1, (x0, k2, x2), b2) _ ⟨rg.next hlt, by rw [rg.toNat, hi]; exact s1, ?_, ?_, ?_⟩ (rg.less hlt) ⟨hz ▸ rfl, trivial⟩ ⟨rfl, rfl, rfl, rfl, rfl, rfl, rfl, trivial⟩ rfl
   · show g0 (L.take (i + 1).toNat) 0 = _
     rw [rg.toNat, hi]; first | exact gt.1 | (rw [gt.2 0 (by decide)]; exact hx0)
   · show g0 (L.take (i + 1).toNat) 1 = _
     rw [rg.toNat, hi]; first | exact gt.1 | (rw [gt.2 1 (by decide)]; exact hx1)
   · show g0 (L.take (i + 1).toNat) 2 = _
     rw [rg.toNat, hi]; first | exact gt.1 | (rw [gt.2 2 (by decide)]; exact hx2)
 · have hlt : decide (i < zl) = true := by assumption
   have hi : i.toNat = 2 := by omega
   obtain ⟨s1, s2⟩ := kindFL_step (i := i.toNat) hf (by rw [← rg.toNat]; exact rg.step hx) hk2
   have gt := g0_take s2
   rw [rg.wrap hlt] at hz
   rw [hi] at gt hx0 hx1 hx2 s1 s2
   refine hR (i + 1, (x0, x1, k2), b2) _ ⟨rg.next hlt, by rw [rg.toNat, hi]; exact s1, ?_, ?_, ?_⟩ (rg.less hlt) ⟨hz ▸ rfl, trivial⟩ ⟨rfl, rfl, rfl, rfl, rfl, rfl, rfl, trivial⟩ rfl
   · show g0 (L.take (i + 1).toNat) 0 = _
     rw [rg.toNat, hi]; first | exact gt.1 | (rw [gt.2 0 (by decide)]; exact hx0)
   · show g0 (L.take (i + 1).toNat) 1 = _
     rw [rg.toNat, hi]; first | exact gt.1 | (rw [gt.2 1 (by decide)]; exact hx1)
   · show g0 (L.take (i + 1).toNat) 2 = _
     rw [rg.toNat, hi]; first | exact gt.1 | (rw [gt.2 2 (by decide)]; exact hx2)
 rotate_right
 · obtain ⟨e1, e2, e3, e4⟩ := hend (by assumption)
   have hq2 : (1, bF || !fitK 1 L) = (k, b) := by
     rw [← hq, kindO]
     clear hQ hR hcp hcc hlp hpc IH hend hz
     simp only [decide_eq_true_eq, decide_eq_false_iff_not] at *
     repeat rw [if_neg (by omega)]
   rw [e1] at hq2
   simp only [Prod.mk.injEq] at hq2
   obtain ⟨q1, q2⟩ := hq2
   clear hR hpc h3 h3i cA cB cC cD cE hbA hbB hbC hbD hbE hyA hyB hyC hyD hyE
   simp only [nc] at hz
   simp only [nc'] at hz
   have hyl := lenZ (n := ar.length) hel hz
   clear hz
   rename Int => yl
   refine loopT (ι := Int × Bool) mixed tt_ok hcp hcc hlp [1, 2, 3, 4, 6, 27, 28] (fun p => [(29, .p (.int .i64 p.1))]) (fun p => [.cells [.fn 78 [.ref 0 0, .ref 1 0, .ref 2 0]], .cells [.p (.sl C)], .cells [.fn 77 [.ref 3 0]], .cells [.p (.bool p.2)], .cells [.p (.int .i64 op), .p (.int .i64 m), .p (.int .i64 vk), .p (.int .i64 vn), .p (.str vs), .p (.sl es)], .cells [.p (.int .i64 x0), .p (.int .i64 x1), .p (.int .i64 x2)]])
     (fun p => Rng ar.length yl p.1 ∧ (b1 || !fitK 1 (L.take p.1.toNat)) = p.2) (fun p => (yl - p.1).toNat) (0, b1) 6 (fun _ => rfl)
     ⟨Rng.start hyl (by omega), by show (b1 || !fitK 1 []) = b1; simp [fitK]⟩ ⟨rfl, trivial⟩ rfl ?_
   rintro R ⟨j, b2⟩ ⟨rj, hb⟩ hR
   replace rj : Rng ar.length yl j := rj
   replace hb : (b1 || !fitK 1 (L.take j.toNat)) = b2 := hb
   have h3i : decide (j < yl) = true → 0 ≤ j ∧ j < ((3 : Nat) : Int) ∧ ¬ (1 : Nat) = 0 := by intro h; have := rj.ltN h; have := rj.lo; omega
   have h3 : decide (j < yl) = true → ∀ v, 0 + j.toNat * 1 = v → v = 0 ∨ v = 1 ∨ v = 2 := by intro h; have := rj.ltN h; omega
   obtain ⟨yA, bA, hyA, hbA, cA⟩ := fit_ex x0 1 b2
   obtain ⟨yB, bB, hyB, hbB, cB⟩ := fit_ex x1 1 b2
   obtain ⟨yC, bC, hyC, hbC, cC⟩ := fit_ex x2 1 b2
   have hstep : ∀ (n : Nat) (x : Int) (b3 : Bool), j.toNat = n → decide (j < yl) = true → g0 L n = x → (b2 || !pairK x 1) = b3 → (b1 || !fitK 1 (L.take (j + 1).toNat)) = b3 := by
     rintro n x b3 hj hlt hx hb3
     have hl : j.toNat < L.length := by have := rj.ltN hlt; omega
     have hxx : L[j.toNat]? = some x := by rw [← hx, g0, ← hj, List.getElem?_eq_getElem hl]; rfl
     rw [rj.take hxx, ← hb3, ← hb, pair_fit x 1 (by decide)]
     simp only [fitK, List.all_append, List.all_cons, List.all_nil, Bool.and_true]
     cases b1 <;> cases (L.take j.toNat).all (fun k => decide (k = 1) || decide (k = 0)) <;> cases (decide (x = 1) || decide (x = 0)) <;> rfl
   have hfin : decide (j < yl) = false → b2 = b := by
     intro h
     rw [rj.take_ hLn h] at hb
     rw [← hb]; exact q2
   repeat' (first
     | (with_reducible refine Nm.lit 0 (by with_unfolding_all rfl) ?_)
     | (with_reducible refine Nm.lit 1 (by with_unfolding_all rfl) ?_)
     | (with_reducible refine Nm.lit 2 (by with_unfolding_all rfl) ?_)
     | (with_reducible refine Nm.three (h3 (by assumption) _ rfl) ?_ ?_ ?_ <;> intro hoff)
     | (with_reducible refine Nm.mk ?_; intro z hz)
     | (with_reducible refine IfB.mk ?_ ?_ <;> (intro h; cases h))
     | (with_reducible refine Two.l ?_; refine Asm.mk ?_ ?_; focus (decide +kernel))
     | (with_reducible refine Two.r ?_)
     | (with_reducible refine TwoT.r ?_)
     | (with_reducible refine Asm.mk ?_ ?_; focus (show (_ : Bool) = true; kernel_rfl))
     | (with_reducible refine isCC hcc ?_; first | refine frameK (H1 := badH bA) hcc [3] cA rfl rfl rfl rfl rfl rfl rfl ?_ | refine frameK (H1 := badH bB) hcc [3] cB rfl rfl rfl rfl rfl rfl rfl ?_ | refine frameK (H1 := badH bC) hcc [3] cC rfl rfl rfl rfl rfl rfl rfl ?_)
     | (with_reducible refine Asm.mk2 ?_ ?_)
     | ((fail_if_success (with_reducible first | refine hQ _ _ ?_ | refine Side.mk ?_ | refine isCP hcp ?_ | refine isCC hcc ?_ | refine isLP hlp ?_ | refine Ix.mk ?_ | refine SIx.mk ?_ | refine SEx.mk ?_ | refine EIx.mk ?_ | refine RIx.mk ?_ | refine LkX.mk ?_ | show False | refine hR ?_ _ ?_ ?_ ?_ ?_ ?_ | refine hR2 ?_ _ ?_ ?_ ?_ ?_ ?_)); cbv))
   all_goals (try (refine Side.mk ?_; first | exact sd0 | exact sd1 | exact sd2 | exact h3i (by assumption)))
   · have hlt : decide (j < yl) = true := by assumption
     rw [rj.wrap hlt] at hz
     exact hR (j + 1, _) _ ⟨rj.next hlt, hstep 0 _ _ (by omega) hlt e2 hbA⟩ (rj.less hlt) ⟨hz ▸ rfl, trivial⟩ ⟨rfl, rfl, rfl, rfl, rfl, rfl, rfl, trivial⟩ rfl
   · have hlt : decide (j < yl) = true := by assumption
     rw [rj.wrap hlt] at hz
     exact hR (j + 1, _) _ ⟨rj.next hlt, hstep 1 _ _ (by omega) hlt e3 hbB⟩ (rj.less hlt) ⟨hz ▸ rfl, trivial⟩ ⟨rfl, rfl, rfl, rfl, rfl, rfl, rfl, trivial⟩ rfl
   · have hlt : decide (j < yl) = true := by assumption
     rw [rj.wrap hlt] at hz
     exact hR (j + 1, _) _ ⟨rj.next hlt, hstep 2 _ _ (by omega) hlt e4 hbC⟩ (rj.less hlt) ⟨hz ▸ rfl, trivial⟩ ⟨rfl, rfl, rfl, rfl, rfl, rfl, rfl, trivial⟩ rfl
   · have hbb := hfin (by assumption)
     subst hbb
     refine hQ _ _ ⟨?_, rfl⟩
     rw [← q1]; rfl
 all_goals
   (obtain ⟨e1, e2, e3, e4⟩ := hend (by assumption)
    have hq2 := hq
    rw [kindO] at hq2
    have hxk' : ∀ xk, decide (op = 1) = true → K[m.toNat]? = some xk → g0 K m.toNat = xk := fun xk h1 h2 => hmk h1 _ h2
    clear hR hcp hcc hlp hpc IH hend hmk hq hL h3 h3i cA cB cC cD cE hf hx0 hx1 hx2
    simp only [e1, e2, e3, e4] at hq2
    simp only [hbA, hbC, hbD] at hq2
    simp only [hbB, hbE] at hq2
    simp only [decide_eq_true_eq, decide_eq_false_iff_not] at *
    repeat (first | rw [if_pos (by omega)] at hq2 | rw [if_neg (by omega)] at hq2)
    simp only [Prod.mk.injEq] at hq2
    obtain ⟨q1, q2⟩ := hq2
    first
      | (refine hQ _ _ ⟨?_, ?_⟩
         · first
             | (rw [← q1]; rfl)
             | (rw [← q1, hyE]; rfl)
             | (rw [← q1, hxk' _ (by assumption) (by assumption)]; rfl)
             | (rename_i hv _; rw [← q1, hv]; rfl)
             | (rw [← q1, hv]; rfl)
         · rw [← q2]; rfl))
end Go.Proofs.YtlabphnonlicdaaGreat

namespace Go.Proofs.YtlabphnonlicdaaGreat
open Go Go.RowKit
set_option maxRecDepth 100000
set_option linter.unusedSimpArgs false
set_option linter.unusedVariables false
theorem kindA_all (K : List Int) (C : List (List PV)) (hC : K.map i64c = C) : ∀ (n : Nat) (e : Ex), e.sz ≤ n → e.fine K.length → KindA K C e
 | 0, .mk op m v ar, h, _ => by simp [Ex.sz] at h
 | n + 1, .mk op m ⟨vk, vn, vs⟩ ar, h, hf => by
   intro cells b he
   rw [cells_mk] at he
   subst he
   rw [Ex.fine] at hf
   obtain ⟨f1, f2, f3⟩ := hf
   refine ⟨_, _, rfl, kindA_c K C hC op m vk vn vs ar _ rfl f1.symm f2 (fun x hx => kindA_all K C hC n x ?_ (fine_mem f3 hx)) b _ _ rfl⟩
   have := sz_mem hx
   simp only [Ex.sz] at h; omega
set_option maxHeartbeats 4000000 in
theorem ekind_c (K : List Int) (C : List (List PV)) (hC : K.map i64c = C) (op n vk vn : Int) (vs : ByteArray) (ar : List Ex) (es : List (List PV)) (hes : ar.map Ex.cells = es) (hw : (Ex.mk op n ⟨vk, vn, vs⟩ ar).wide) :
   PCall Tryz.prog 61 [.agg [.int .i64 op, .int .i64 n, .int .i64 vk, .int .i64 vn, .str vs, .sl es], .sl C] fun r => r = [.int .i64 (kindM K (.mk op n ⟨vk, vn, vs⟩ ar)).1, .int .i64 (kindM K (.mk op n ⟨vk, vn, vs⟩ ar)).2] := by
 refine PCall.know c61 fun hkn => ?_
 have k1 : C.length ≤ maxLen := hkn (.sl C) (by simp)
 clear hkn
 rw [maxLen_eq] at k1
 have b1 : C.length = K.length := by rw [← hC]; simp
 have hbc := ebuilt_c op n vk vn vs ar es hes
 obtain ⟨e, he⟩ : ∃ e, Ex.mk op n ⟨vk, vn, vs⟩ ar = e := ⟨_, rfl⟩
 have hce : e.cells = [.int .i64 op, .int .i64 n, .int .i64 vk, .int .i64 vn, .str vs, .sl es] := by rw [← he, cells_mk, hes]
 obtain ⟨bl, hbl, hlost⟩ := each_all C _ e (Nat.le_refl _) (by rw [← he]; exact hw) _ false hce
 rw [b1] at hbl
 have hkc : builtM e = true → bl = false → ∃ k b, kindF K e false = (k, b) ∧ ACall Tryz.prog 78 [.p (.agg [.int .i64 op, .int .i64 n, .int .i64 vk, .int .i64 vn, .str vs, .sl es]), .ref 0 0, .ref 1 0, .ref 2 0] (kH false C) fun r H' => r = .p (.int .i64 k) ∧ takeX H' 4 = kH b C := by
   intro h1 h2
   exact kindA_all K C hC _ e (Nat.le_refl _) (kind_fine h1 (by rw [lostK_cols, hbl, h2])) _ false hce
 have hkf : builtM e = true → bl = false → ((kindE K e).2 = true → kindF K e false = ((kindE K e).1, false)) ∧ ((kindE K e).2 = false → (kindF K e false).2 = true) := by
   intro h1 h2
   exact kindF_E K e _ false (kind_fine h1 (by rw [lostK_cols, hbl, h2]))
 rw [he] at hbc ⊢
 obtain ⟨kr, er, hkr⟩ : ∃ a b, kindM K e = (a, b) := ⟨_, _, rfl⟩
 rw [hkr]
 obtain ⟨bt, hbt⟩ : ∃ b, builtM e = b := ⟨_, rfl⟩
 rw [hbt] at hbc hkc hkf
 rw [kindM, hbt, lostK_cols, hbl] at hkr
 have hbn : ∀ {z : Bool}, bt = z → (!z) = false → bt = true := by rintro z rfl h; simpa using h
 have hbf : ∀ {z : Bool}, bt = z → (!z) = true → bt = false := by rintro z rfl h; simpa using h
 refine PCall.x (nt := 40) (res := [.tmp 4, .tmp 5]) mixed tt_ok [] Tryz.func61 rfl rfl rfl c61 (Nat.le_of_ble_eq_true rfl) ?_
 intro cp cc lp Q' hcp hcc hlp hQ
 repeat' (first
   | (with_reducible refine Nm.mk ?_; intro z hz)
   | (with_reducible refine IfB.mk ?_ ?_ <;> (intro h; cases h))
   | (with_reducible refine Two.l ?_; refine Asm.mk ?_ ?_; focus (decide +kernel))
   | (with_reducible refine Two.r ?_)
   | (with_reducible refine TwoT.r ?_)
   | (with_reducible refine Asm.mk ?_ ?_; focus kernel_rfl)
   | (with_reducible refine isCP hcp ?_; first | (refine bP hcp (hbc) ?_; intro z hz))
   | (with_reducible refine isCC hcc ?_; first | (refine bA hcc (hbc) rfl ?_; intro z hz))
   | (with_reducible refine Asm.mk2 ?_ ?_)
   | ((fail_if_success (with_reducible first | refine hQ _ ?_ | refine Side.mk ?_ | refine isCP hcp ?_ | refine isCC hcc ?_ | refine isLP hlp ?_ | refine Ix.mk ?_ | refine SIx.mk ?_ | refine SEx.mk ?_ | refine EIx.mk ?_ | refine RIx.mk ?_ | refine LkX.mk ?_ | show False | refine hR ?_ _ ?_ ?_ ?_ ?_ ?_ | refine hR2 ?_ _ ?_ ?_ ?_ ?_ ?_)); cbv))
 · have hb := hbf (by assumption) (by assumption)
   rw [if_pos hb] at hkr
   simp only [Prod.mk.injEq] at hkr
   refine hQ _ ?_
   rw [← hkr.1, ← hkr.2]
 · have hb := hbn (by assumption) (by assumption)
   rw [if_neg (by rw [hb]; decide)] at hkr
   replace hkc := hkc hb
   replace hkf := hkf hb
   clear hbn hbf hbc
   simp only [nc] at hz
   simp only [nc'] at hz
   have hzl := lenZ (n := K.length) b1 hz
   clear hz
   generalize z = zl at *
   obtain ⟨q, hq⟩ : ∃ q, badK K = q := ⟨_, rfl⟩
   rw [hq] at hkr
   refine loopK (ι := Int) mixed tt_ok hcp hcc hlp [2, 3, 16, 17] (fun i => [(18, .p (.int .i64 i))]) (fun i => (0 ≤ i ∧ i ≤ zl) ∧ badK (K.drop i.toNat) = q) (fun i => (zl - i).toNat) 0 (fun _ => rfl) ⟨⟨by omega, by omega⟩, hq⟩ ⟨rfl, trivial⟩ ?_
   rintro R i ⟨⟨hi0, hi1⟩, hf⟩ hR
   have hk : decide (i < zl) = true → i < K.length := by simp only [decide_eq_true_eq]; omega
   have hki : decide (i < zl) = true → IntKind.i64.wrap (i + 1) = i + 1 ∧ i + 1 ≤ zl ∧ (zl - (i + 1)).toNat < (zl - i).toNat := by simp only [decide_eq_true_eq]; intro h; exact ⟨wrap_in (by omega), by omega, by omega⟩
   have hdr : ∀ x, K[i.toNat]? = some x → K.drop i.toNat = x :: K.drop (i + 1).toNat := by
     intro x hx
     rw [List.drop_eq_getElem_cons (List.getElem?_eq_some_iff.1 hx).1, (List.getElem?_eq_some_iff.1 hx).2, show (i + 1).toNat = i.toNat + 1 by omega]
   have hbad : ∀ {x : Int}, K[i.toNat]? = some x → (!decide (x = 1)) = true → (!decide (x = 2)) = true → q = true := by
     intro x hx h1 h2
     rw [← hf, hdr x hx, badK, List.any_cons, h1, h2]; rfl
   have hgood : ∀ {x : Int}, K[i.toNat]? = some x → ((!decide (x = 1)) = false ∨ (!decide (x = 2)) = false) → badK (K.drop (i + 1).toNat) = q := by
     intro x hx h
     rw [← hf, hdr x hx, badK, badK, List.any_cons]
     rcases h with h | h <;> rw [h] <;> simp
   have hout : decide (i < zl) = false → q = false := by
     simp only [decide_eq_false_iff_not]; intro h
     rw [← hf, List.drop_eq_nil_of_le (by omega)]; rfl
   obtain ⟨kk, bb, hkb, hkcall⟩ : ∃ k b, kindF K e false = (k, b) ∧ (bl = false → ACall Tryz.prog 78 [.p (.agg [.int .i64 op, .int .i64 n, .int .i64 vk, .int .i64 vn, .str vs, .sl es]), .ref 0 0, .ref 1 0, .ref 2 0] (kH false C) fun r H' => r = .p (.int .i64 k) ∧ takeX H' 4 = kH b C) := by
     cases hb2 : bl with
     | true => exact ⟨_, _, rfl, fun h => by cases h⟩
     | false =>
       obtain ⟨k, b, h1, h2⟩ := hkc hb2
       exact ⟨k, b, h1, fun _ => h2⟩
   rw [hkb] at hkf
   clear hkc
   repeat' (first
     | (with_reducible refine Nm.mk ?_; intro z hz)
     | (with_reducible refine IfB.mk ?_ ?_ <;> (intro h; cases h))
     | (with_reducible refine Two.l ?_; refine Asm.mk ?_ ?_; focus (decide +kernel))
     | (with_reducible refine Two.r ?_)
     | (with_reducible refine TwoT.r ?_)
     | (with_reducible refine Asm.mk ?_ ?_; focus kernel_rfl)
     | (with_reducible refine Ix.map hC i64c_len (by decide) hi0 (hk (by assumption)) ?_; intro x hx)
     | (with_reducible refine isCC hcc ?_; refine frameK (H1 := lostH bl C) hcc [2, 1] hlost rfl rfl rfl rfl rfl rfl rfl ?_)
     | (with_reducible refine isCC hcc ?_; refine frameK (H1 := kH bb C) hcc [4, 1, 5, 3] (hkcall rfl) rfl rfl rfl rfl rfl rfl rfl ?_)
     | (with_reducible refine Asm.mk2 ?_ ?_)
     | ((fail_if_success (with_reducible first | refine hQ _ ?_ | refine Side.mk ?_ | refine isCP hcp ?_ | refine isCC hcc ?_ | refine isLP hlp ?_ | refine Ix.mk ?_ | refine SIx.mk ?_ | refine SEx.mk ?_ | refine EIx.mk ?_ | refine RIx.mk ?_ | refine LkX.mk ?_ | show False | refine hR ?_ _ ?_ ?_ ?_ ?_ ?_ | refine hR2 ?_ _ ?_ ?_ ?_ ?_ ?_)); cbv))
   · rw [hbad hx (by assumption) (by assumption), if_pos rfl] at hkr
     simp only [Prod.mk.injEq] at hkr
     refine hQ _ ?_
     rw [← hkr.1, ← hkr.2]
   · obtain ⟨e1, e2, e3⟩ := hki (by assumption)
     rw [e1] at hz
     exact hR (i + 1) _ ⟨⟨by omega, e2⟩, hgood hx (.inr (by assumption))⟩ e3 ⟨hz ▸ rfl, trivial⟩ ⟨rfl, rfl, rfl, rfl, trivial⟩ rfl
   · obtain ⟨e1, e2, e3⟩ := hki (by assumption)
     rw [e1] at hz
     exact hR (i + 1) _ ⟨⟨by omega, e2⟩, hgood hx (.inl (by assumption))⟩ e3 ⟨hz ▸ rfl, trivial⟩ ⟨rfl, rfl, rfl, rfl, trivial⟩ rfl
   · rw [hout (by assumption), if_neg (by decide), if_pos rfl] at hkr
     simp only [Prod.mk.injEq] at hkr
     refine hQ _ ?_
     rw [← hkr.1, ← hkr.2]
   · obtain ⟨f1, f2⟩ := hkf rfl
     have g : (kindE K e).2 = false := by
       cases h : (kindE K e).2 with
       | false => rfl
       | true => have := congrArg Prod.snd (f1 h); cases this
     rw [hout (by assumption), if_neg (by decide), if_neg (by decide), if_pos g] at hkr
     simp only [Prod.mk.injEq] at hkr
     refine hQ _ ?_
     rw [← hkr.1, ← hkr.2]
   · obtain ⟨f1, f2⟩ := hkf rfl
     have g : (kindE K e).2 = true := by
       cases h : (kindE K e).2 with
       | true => rfl
       | false => cases f2 h
     have g1 := congrArg Prod.fst (f1 g)
     rw [hout (by assumption), if_neg (by decide), if_neg (by decide), if_neg (by rw [g]; decide)] at hkr
     simp only [Prod.mk.injEq] at hkr
     refine hQ _ ?_
     rw [← hkr.1, ← hkr.2, ← g1]
end Go.Proofs.YtlabphnonlicdaaGreat

namespace Go.Proofs.YtlabphnonlicdaaGreat
open Go Go.RowKit
set_option maxRecDepth 100000
set_option linter.unusedSimpArgs false
set_option linter.unusedVariables false
theorem equal_c (a b : List Int) (A B : List (List PV)) (hA : a.map i64c = A) (hB : b.map i64c = B) (hb : a.length * 8 ≤ 140737488351232) : PCall Tryz.prog 35 [.sl A, .sl B] fun r => r = [.bool (decide (a = b))] := by
 have b1 : A.length = a.length := by rw [← hA]; simp
 have b2 : B.length = b.length := by rw [← hB]; simp
 obtain ⟨q, hq⟩ : ∃ q, decide (a = b) = q := ⟨_, rfl⟩
 rw [hq]
 have hno : ∀ {z z' : Int}, (!decide (z = z')) = true → (A.length : Int) = z → (B.length : Int) = z' → q = false := by
   rintro z z' h rfl rfl
   simp only [Bool.not_eq_true', decide_eq_false_iff_not] at h
   rw [← hq, decide_eq_false_iff_not]; rintro rfl; omega
 have hln : ∀ {z z' : Int}, (!decide (z = z')) = false → (A.length : Int) = z → (B.length : Int) = z' → a.length = b.length := by
   rintro z z' h rfl rfl
   simp only [Bool.not_eq_false', decide_eq_true_eq] at h
   omega
 refine PCall.x (nt := 26) (res := [.tmp 4]) mixed tt_ok [] Tryz.func35 rfl rfl rfl c35 (Nat.le_of_ble_eq_true rfl) ?_
 intro cp cc lp Q' hcp hcc hlp hQ
 repeat' (first
   | (with_reducible refine Nm.mk ?_; intro z hz)
   | (with_reducible refine IfB.mk ?_ ?_ <;> (intro h; cases h))
   | (with_reducible refine Two.l ?_; refine Asm.mk ?_ ?_; focus (decide +kernel))
   | (with_reducible refine Two.r ?_)
   | (with_reducible refine TwoT.r ?_)
   | (with_reducible refine Asm.mk ?_ ?_; focus (first | kernel_rfl | decide))
   | (with_reducible refine Asm.mk2 ?_ ?_)
   | ((fail_if_success (with_reducible first | refine hQ _ ?_ | refine Side.mk ?_ | refine isCP hcp ?_ | refine isCC hcc ?_ | refine isLP hlp ?_ | refine Ix.mk ?_ | refine SIx.mk ?_ | refine SEx.mk ?_ | refine EIx.mk ?_ | refine RIx.mk ?_ | refine LkX.mk ?_ | show False | refine hR ?_ _ ?_ ?_ ?_ ?_ ?_ | refine hR2 ?_ _ ?_ ?_ ?_ ?_ ?_)); cbv))
 · refine hQ _ ?_
   rw [hno (by assumption) (by assumption) (by assumption)]
 have hl := hln (by assumption) (by assumption) (by assumption)
 simp only [nc] at hz
 simp only [nc'] at hz
 have hzl := lenZ b1 hz
 clear hz
 generalize z = zl at *
 refine loopK (ι := Int) mixed tt_ok hcp hcc hlp [0, 1, 11, 12] (fun i => [(13, .p (.int .i64 i))]) (fun i => Rng a.length zl i ∧ decide (a.drop i.toNat = b.drop i.toNat) = q) (fun i => (zl - i).toNat) 0 (fun _ => rfl) ⟨Rng.start hzl (by omega), hq⟩ ⟨rfl, trivial⟩ ?_
 rintro R i ⟨rg, hf⟩ hR
 have hout : decide (i < zl) = false → q = true := by
   intro h; rw [← hf, rg.end_ rfl h, rg.end_ hl.symm h]; rfl
 have hbl : decide (i < zl) = true → i < (b.length : Int) := fun h => by have := rg.lt h; omega
 have hst : ∀ {x y : Int}, a[i.toNat]? = some x → b[i.toNat]? = some y → ((!decide (x = y)) = true → q = false) ∧ ((!decide (x = y)) = false → decide (a.drop (i + 1).toNat = b.drop (i + 1).toNat) = q) := by
   intro x y hx hy
   have hyd : b.drop i.toNat = y :: b.drop (i + 1).toNat := by
     rw [List.drop_eq_getElem_cons (List.getElem?_eq_some_iff.1 hy).1, (List.getElem?_eq_some_iff.1 hy).2, rg.toNat]
   rw [rg.step hx, hyd] at hf
   simp only [List.cons.injEq] at hf
   constructor
   · intro h
     simp only [Bool.not_eq_true', decide_eq_false_iff_not] at h
     rw [← hf, decide_eq_false_iff_not]; exact fun h' => h h'.1
   · intro h
     simp only [Bool.not_eq_false', decide_eq_true_eq] at h
     rw [← hf]; simp [h]
 repeat' (first
   | (with_reducible refine Nm.mk ?_; intro z hz)
   | (with_reducible refine IfB.mk ?_ ?_ <;> (intro h; cases h))
   | (with_reducible refine Two.l ?_; refine Asm.mk ?_ ?_; focus (decide +kernel))
   | (with_reducible refine Two.r ?_)
   | (with_reducible refine TwoT.r ?_)
   | (with_reducible refine Asm.mk ?_ ?_; focus kernel_rfl)
   | (with_reducible refine Ix.map hA i64c_len (by decide) rg.lo (rg.lt (by assumption)) ?_; intro x hx)
   | (with_reducible refine Ix.map hB i64c_len (by decide) rg.lo (hbl (by assumption)) ?_; intro y hy)
   | (with_reducible refine Asm.mk2 ?_ ?_)
   | ((fail_if_success (with_reducible first | refine hQ _ ?_ | refine Side.mk ?_ | refine isCP hcp ?_ | refine isCC hcc ?_ | refine isLP hlp ?_ | refine Ix.mk ?_ | refine SIx.mk ?_ | refine SEx.mk ?_ | refine EIx.mk ?_ | refine RIx.mk ?_ | refine LkX.mk ?_ | show False | refine hR ?_ _ ?_ ?_ ?_ ?_ ?_ | refine hR2 ?_ _ ?_ ?_ ?_ ?_ ?_)); cbv))
 all_goals first
   | (refine hQ _ ?_; rw [hout (by assumption)]; done)
   | (refine hQ _ ?_; rw [(hst hx hy).1 (by assumption)]; done)
   | (have hlt : decide (i < zl) = true := by assumption
      rw [rg.wrap hlt] at hz
      exact hR (i + 1) _ ⟨rg.next hlt, (hst hx hy).2 (by assumption)⟩ (rg.less hlt) ⟨hz ▸ rfl, trivial⟩ ⟨rfl, rfl, rfl, rfl, trivial⟩ rfl)
theorem sameKinds_c (a b : List Int) (A B : List (List PV)) (hA : a.map i64c = A) (hB : b.map i64c = B) (hb : a.length * 8 ≤ 140737488351232) : PCall Tryz.prog 39 [.sl A, .sl B] fun r => r = [.bool (decide (a = b))] := by
 have b1 : A.length = a.length := by rw [← hA]; simp
 have b2 : B.length = b.length := by rw [← hB]; simp
 obtain ⟨q, hq⟩ : ∃ q, decide (a = b) = q := ⟨_, rfl⟩
 rw [hq]
 have hno : ∀ {z z' : Int}, (!decide (z = z')) = true → (A.length : Int) = z → (B.length : Int) = z' → q = false := by
   rintro z z' h rfl rfl
   simp only [Bool.not_eq_true', decide_eq_false_iff_not] at h
   rw [← hq, decide_eq_false_iff_not]; rintro rfl; omega
 have hln : ∀ {z z' : Int}, (!decide (z = z')) = false → (A.length : Int) = z → (B.length : Int) = z' → a.length = b.length := by
   rintro z z' h rfl rfl
   simp only [Bool.not_eq_false', decide_eq_true_eq] at h
   omega
 refine PCall.x (nt := 26) (res := [.tmp 4]) mixed tt_ok [] Tryz.func39 rfl rfl rfl c39 (Nat.le_of_ble_eq_true rfl) ?_
 intro cp cc lp Q' hcp hcc hlp hQ
 repeat' (first
   | (with_reducible refine Nm.mk ?_; intro z hz)
   | (with_reducible refine IfB.mk ?_ ?_ <;> (intro h; cases h))
   | (with_reducible refine Two.l ?_; refine Asm.mk ?_ ?_; focus (decide +kernel))
   | (with_reducible refine Two.r ?_)
   | (with_reducible refine TwoT.r ?_)
   | (with_reducible refine Asm.mk ?_ ?_; focus (first | kernel_rfl | decide))
   | (with_reducible refine Asm.mk2 ?_ ?_)
   | ((fail_if_success (with_reducible first | refine hQ _ ?_ | refine Side.mk ?_ | refine isCP hcp ?_ | refine isCC hcc ?_ | refine isLP hlp ?_ | refine Ix.mk ?_ | refine SIx.mk ?_ | refine SEx.mk ?_ | refine EIx.mk ?_ | refine RIx.mk ?_ | refine LkX.mk ?_ | show False | refine hR ?_ _ ?_ ?_ ?_ ?_ ?_ | refine hR2 ?_ _ ?_ ?_ ?_ ?_ ?_)); cbv))
 · refine hQ _ ?_
   rw [hno (by assumption) (by assumption) (by assumption)]
 have hl := hln (by assumption) (by assumption) (by assumption)
 simp only [nc] at hz
 simp only [nc'] at hz
 have hzl := lenZ b1 hz
 clear hz
 generalize z = zl at *
 refine loopK (ι := Int) mixed tt_ok hcp hcc hlp [0, 1, 11, 12] (fun i => [(13, .p (.int .i64 i))]) (fun i => Rng a.length zl i ∧ decide (a.drop i.toNat = b.drop i.toNat) = q) (fun i => (zl - i).toNat) 0 (fun _ => rfl) ⟨Rng.start hzl (by omega), hq⟩ ⟨rfl, trivial⟩ ?_
 rintro R i ⟨rg, hf⟩ hR
 have hout : decide (i < zl) = false → q = true := by
   intro h; rw [← hf, rg.end_ rfl h, rg.end_ hl.symm h]; rfl
 have hbl : decide (i < zl) = true → i < (b.length : Int) := fun h => by have := rg.lt h; omega
 have hst : ∀ {x y : Int}, a[i.toNat]? = some x → b[i.toNat]? = some y → ((!decide (x = y)) = true → q = false) ∧ ((!decide (x = y)) = false → decide (a.drop (i + 1).toNat = b.drop (i + 1).toNat) = q) := by
   intro x y hx hy
   have hyd : b.drop i.toNat = y :: b.drop (i + 1).toNat := by
     rw [List.drop_eq_getElem_cons (List.getElem?_eq_some_iff.1 hy).1, (List.getElem?_eq_some_iff.1 hy).2, rg.toNat]
   rw [rg.step hx, hyd] at hf
   simp only [List.cons.injEq] at hf
   constructor
   · intro h
     simp only [Bool.not_eq_true', decide_eq_false_iff_not] at h
     rw [← hf, decide_eq_false_iff_not]; exact fun h' => h h'.1
   · intro h
     simp only [Bool.not_eq_false', decide_eq_true_eq] at h
     rw [← hf]; simp [h]
 repeat' (first
   | (with_reducible refine Nm.mk ?_; intro z hz)
   | (with_reducible refine IfB.mk ?_ ?_ <;> (intro h; cases h))
   | (with_reducible refine Two.l ?_; refine Asm.mk ?_ ?_; focus (decide +kernel))
   | (with_reducible refine Two.r ?_)
   | (with_reducible refine TwoT.r ?_)
   | (with_reducible refine Asm.mk ?_ ?_; focus kernel_rfl)
   | (with_reducible refine Ix.map hA i64c_len (by decide) rg.lo (rg.lt (by assumption)) ?_; intro x hx)
   | (with_reducible refine Ix.map hB i64c_len (by decide) rg.lo (hbl (by assumption)) ?_; intro y hy)
   | (with_reducible refine Asm.mk2 ?_ ?_)
   | ((fail_if_success (with_reducible first | refine hQ _ ?_ | refine Side.mk ?_ | refine isCP hcp ?_ | refine isCC hcc ?_ | refine isLP hlp ?_ | refine Ix.mk ?_ | refine SIx.mk ?_ | refine SEx.mk ?_ | refine EIx.mk ?_ | refine RIx.mk ?_ | refine LkX.mk ?_ | show False | refine hR ?_ _ ?_ ?_ ?_ ?_ ?_ | refine hR2 ?_ _ ?_ ?_ ?_ ?_ ?_)); cbv))
 all_goals first
   | (refine hQ _ ?_; rw [hout (by assumption)]; done)
   | (refine hQ _ ?_; rw [(hst hx hy).1 (by assumption)]; done)
   | (have hlt : decide (i < zl) = true := by assumption
      rw [rg.wrap hlt] at hz
      exact hR (i + 1) _ ⟨rg.next hlt, (hst hx hy).2 (by assumption)⟩ (rg.less hlt) ⟨hz ▸ rfl, trivial⟩ ⟨rfl, rfl, rfl, rfl, trivial⟩ rfl)
theorem sameN_c (a b : List Int) (A B : List (List PV)) (hA : a.map i64c = A) (hB : b.map i64c = B) (hb : a.length * 8 ≤ 140737488351232) : PCall Tryz.prog 11 [.sl A, .sl B] fun r => r = [.bool (decide (a = b))] := by
 have b1 : A.length = a.length := by rw [← hA]; simp
 have b2 : B.length = b.length := by rw [← hB]; simp
 obtain ⟨q, hq⟩ : ∃ q, decide (a = b) = q := ⟨_, rfl⟩
 rw [hq]
 have hno : ∀ {z z' : Int}, (!decide (z = z')) = true → (A.length : Int) = z → (B.length : Int) = z' → q = false := by
   rintro z z' h rfl rfl
   simp only [Bool.not_eq_true', decide_eq_false_iff_not] at h
   rw [← hq, decide_eq_false_iff_not]; rintro rfl; omega
 have hln : ∀ {z z' : Int}, (!decide (z = z')) = false → (A.length : Int) = z → (B.length : Int) = z' → a.length = b.length := by
   rintro z z' h rfl rfl
   simp only [Bool.not_eq_false', decide_eq_true_eq] at h
   omega
 refine PCall.x (nt := 26) (res := [.tmp 4]) mixed tt_ok [] Tryz.func11 rfl rfl rfl c11 (Nat.le_of_ble_eq_true rfl) ?_
 intro cp cc lp Q' hcp hcc hlp hQ
 repeat' (first
   | (with_reducible refine Nm.mk ?_; intro z hz)
   | (with_reducible refine IfB.mk ?_ ?_ <;> (intro h; cases h))
   | (with_reducible refine Two.l ?_; refine Asm.mk ?_ ?_; focus (decide +kernel))
   | (with_reducible refine Two.r ?_)
   | (with_reducible refine TwoT.r ?_)
   | (with_reducible refine Asm.mk ?_ ?_; focus (first | kernel_rfl | decide))
   | (with_reducible refine Asm.mk2 ?_ ?_)
   | ((fail_if_success (with_reducible first | refine hQ _ ?_ | refine Side.mk ?_ | refine isCP hcp ?_ | refine isCC hcc ?_ | refine isLP hlp ?_ | refine Ix.mk ?_ | refine SIx.mk ?_ | refine SEx.mk ?_ | refine EIx.mk ?_ | refine RIx.mk ?_ | refine LkX.mk ?_ | show False | refine hR ?_ _ ?_ ?_ ?_ ?_ ?_ | refine hR2 ?_ _ ?_ ?_ ?_ ?_ ?_)); cbv))
 · refine hQ _ ?_
   rw [hno (by assumption) (by assumption) (by assumption)]
 have hl := hln (by assumption) (by assumption) (by assumption)
 simp only [nc] at hz
 simp only [nc'] at hz
 have hzl := lenZ b1 hz
 clear hz
 generalize z = zl at *
 refine loopK (ι := Int) mixed tt_ok hcp hcc hlp [0, 1, 11, 12] (fun i => [(13, .p (.int .i64 i))]) (fun i => Rng a.length zl i ∧ decide (a.drop i.toNat = b.drop i.toNat) = q) (fun i => (zl - i).toNat) 0 (fun _ => rfl) ⟨Rng.start hzl (by omega), hq⟩ ⟨rfl, trivial⟩ ?_
 rintro R i ⟨rg, hf⟩ hR
 have hout : decide (i < zl) = false → q = true := by
   intro h; rw [← hf, rg.end_ rfl h, rg.end_ hl.symm h]; rfl
 have hbl : decide (i < zl) = true → i < (b.length : Int) := fun h => by have := rg.lt h; omega
 have hst : ∀ {x y : Int}, a[i.toNat]? = some x → b[i.toNat]? = some y → ((!decide (x = y)) = true → q = false) ∧ ((!decide (x = y)) = false → decide (a.drop (i + 1).toNat = b.drop (i + 1).toNat) = q) := by
   intro x y hx hy
   have hyd : b.drop i.toNat = y :: b.drop (i + 1).toNat := by
     rw [List.drop_eq_getElem_cons (List.getElem?_eq_some_iff.1 hy).1, (List.getElem?_eq_some_iff.1 hy).2, rg.toNat]
   rw [rg.step hx, hyd] at hf
   simp only [List.cons.injEq] at hf
   constructor
   · intro h
     simp only [Bool.not_eq_true', decide_eq_false_iff_not] at h
     rw [← hf, decide_eq_false_iff_not]; exact fun h' => h h'.1
   · intro h
     simp only [Bool.not_eq_false', decide_eq_true_eq] at h
     rw [← hf]; simp [h]
 repeat' (first
   | (with_reducible refine Nm.mk ?_; intro z hz)
   | (with_reducible refine IfB.mk ?_ ?_ <;> (intro h; cases h))
   | (with_reducible refine Two.l ?_; refine Asm.mk ?_ ?_; focus (decide +kernel))
   | (with_reducible refine Two.r ?_)
   | (with_reducible refine TwoT.r ?_)
   | (with_reducible refine Asm.mk ?_ ?_; focus kernel_rfl)
   | (with_reducible refine Ix.map hA i64c_len (by decide) rg.lo (rg.lt (by assumption)) ?_; intro x hx)
   | (with_reducible refine Ix.map hB i64c_len (by decide) rg.lo (hbl (by assumption)) ?_; intro y hy)
   | (with_reducible refine Asm.mk2 ?_ ?_)
   | ((fail_if_success (with_reducible first | refine hQ _ ?_ | refine Side.mk ?_ | refine isCP hcp ?_ | refine isCC hcc ?_ | refine isLP hlp ?_ | refine Ix.mk ?_ | refine SIx.mk ?_ | refine SEx.mk ?_ | refine EIx.mk ?_ | refine RIx.mk ?_ | refine LkX.mk ?_ | show False | refine hR ?_ _ ?_ ?_ ?_ ?_ ?_ | refine hR2 ?_ _ ?_ ?_ ?_ ?_ ?_)); cbv))
 all_goals first
   | (refine hQ _ ?_; rw [hout (by assumption)]; done)
   | (refine hQ _ ?_; rw [(hst hx hy).1 (by assumption)]; done)
   | (have hlt : decide (i < zl) = true := by assumption
      rw [rg.wrap hlt] at hz
      exact hR (i + 1) _ ⟨rg.next hlt, (hst hx hy).2 (by assumption)⟩ (rg.less hlt) ⟨hz ▸ rfl, trivial⟩ ⟨rfl, rfl, rfl, rfl, trivial⟩ rfl)
theorem condition_c (K : List Int) (C : List (List PV)) (hC : K.map i64c = C) (op n vk vn : Int) (vs : ByteArray) (ar : List Ex) (es : List (List PV)) (hes : ar.map Ex.cells = es) (hw : (Ex.mk op n ⟨vk, vn, vs⟩ ar).wide) :
   PCall Tryz.prog 31 [.agg [.int .i64 op, .int .i64 n, .int .i64 vk, .int .i64 vn, .str vs, .sl es], .sl C] fun r => r = [.int .i64 (condK K (.mk op n ⟨vk, vn, vs⟩ ar))] := by
 have h := ekind_c K C hC op n vk vn vs ar es hes hw
 rw [condK]
 generalize kindM K (.mk op n ⟨vk, vn, vs⟩ ar) = p at *
 obtain ⟨a, b⟩ := p
 refine PCall.x (nt := 20) (res := [.tmp 4]) mixed tt_ok [] Tryz.func31 rfl rfl rfl c31 (Nat.le_of_ble_eq_true rfl) ?_
 intro cp cc lp Q' hcp hcc hlp hQ
 repeat' (first
   | (with_reducible refine Nm.mk ?_; intro z hz)
   | (with_reducible refine IfB.mk ?_ ?_ <;> (intro h; cases h))
   | (with_reducible refine Two.l ?_; refine Asm.mk ?_ ?_; focus (decide +kernel))
   | (with_reducible refine Two.r ?_)
   | (with_reducible refine TwoT.r ?_)
   | (with_reducible refine Asm.mk ?_ ?_; focus (first | kernel_rfl | decide))
   | (with_reducible refine isCP hcp ?_; first | (refine iiP hcp (h) ?_; intro z w hz hw))
   | (with_reducible refine isCC hcc ?_; first | (refine iiA hcc (h) rfl ?_; intro z w hz hw))
   | (with_reducible refine Asm.mk2 ?_ ?_)
   | ((fail_if_success (with_reducible first | refine hQ _ ?_ | refine Side.mk ?_ | refine isCP hcp ?_ | refine isCC hcc ?_ | refine isLP hlp ?_ | refine Ix.mk ?_ | refine SIx.mk ?_ | refine SEx.mk ?_ | refine EIx.mk ?_ | refine RIx.mk ?_ | refine LkX.mk ?_ | show False | refine hR ?_ _ ?_ ?_ ?_ ?_ ?_ | refine hR2 ?_ _ ?_ ?_ ?_ ?_ ?_)); cbv))
 all_goals (refine hQ _ ?_; clear hQ hcp hcc hlp h; subst_vars; simp_all)
theorem rcondition_c (K : List Int) (C : List (List PV)) (hC : K.map i64c = C) (op n vk vn : Int) (vs : ByteArray) (ar : List Ex) (es : List (List PV)) (hes : ar.map Ex.cells = es) (hw : (Ex.mk op n ⟨vk, vn, vs⟩ ar).wide) :
   PCall Tryz.prog 40 [.agg [.int .i64 op, .int .i64 n, .int .i64 vk, .int .i64 vn, .str vs, .sl es], .sl C] fun r => r = [.int .i64 (condK K (.mk op n ⟨vk, vn, vs⟩ ar))] := by
 have h := rkind_c K C hC op n vk vn vs ar es hes hw
 rw [condK]
 generalize kindM K (.mk op n ⟨vk, vn, vs⟩ ar) = p at *
 obtain ⟨a, b⟩ := p
 refine PCall.x (nt := 20) (res := [.tmp 4]) mixed tt_ok [] Tryz.func40 rfl rfl rfl c40 (Nat.le_of_ble_eq_true rfl) ?_
 intro cp cc lp Q' hcp hcc hlp hQ
 repeat' (first
   | (with_reducible refine Nm.mk ?_; intro z hz)
   | (with_reducible refine IfB.mk ?_ ?_ <;> (intro h; cases h))
   | (with_reducible refine Two.l ?_; refine Asm.mk ?_ ?_; focus (decide +kernel))
   | (with_reducible refine Two.r ?_)
   | (with_reducible refine TwoT.r ?_)
   | (with_reducible refine Asm.mk ?_ ?_; focus (first | kernel_rfl | decide))
   | (with_reducible refine isCP hcp ?_; first | (refine iiP hcp (h) ?_; intro z w hz hw))
   | (with_reducible refine isCC hcc ?_; first | (refine iiA hcc (h) rfl ?_; intro z w hz hw))
   | (with_reducible refine Asm.mk2 ?_ ?_)
   | ((fail_if_success (with_reducible first | refine hQ _ ?_ | refine Side.mk ?_ | refine isCP hcp ?_ | refine isCC hcc ?_ | refine isLP hlp ?_ | refine Ix.mk ?_ | refine SIx.mk ?_ | refine SEx.mk ?_ | refine EIx.mk ?_ | refine RIx.mk ?_ | refine LkX.mk ?_ | show False | refine hR ?_ _ ?_ ?_ ?_ ?_ ?_ | refine hR2 ?_ _ ?_ ?_ ?_ ?_ ?_)); cbv))
 all_goals (refine hQ _ ?_; clear hQ hcp hcc hlp h; subst_vars; simp_all)
theorem mx_one (a : Int) : mx a 1 = mx 1 a := by unfold mx; (repeat' split) <;> omega
def projR (K : List Int) : List Ex → Int → List Int → List Int × Int
 | [], w, acc => (acc, w)
 | e :: r, w, acc => if (kindM K e).2 = 1 then (acc, 1) else projR K r (if w = 0 then (kindM K e).2 else w) (acc ++ [mx 1 (kindM K e).1])
theorem projR_eq (K : List Int) : ∀ (l : List Ex) (w : Int) (acc : List Int), (projR K l w acc).2 = (projL K l w acc).2 ∧ ((projL K l w acc).2 = 0 → (projR K l w acc).1 = (projL K l w acc).1)
 | [], w, acc => ⟨rfl, fun _ => rfl⟩
 | e :: r, w, acc => by
   rw [projR, projL]
   split
   · exact ⟨rfl, fun h => by cases h⟩
   · exact projR_eq K r _ _
theorem project_c (op : Int) (tb : ByteArray) (Cc Kk A R : List (List PV)) (fn cl n off : Int) (K : List Int) (C : List (List PV)) (hC : K.map i64c = C) (es : List Ex) (E : List (List PV)) (hE : es.map Ex.cells = E) (hwL : wideL es) (hwE : wideM 72 es.length) (D : List (List PV)) (er : Int) (hD : (projL K es 0 []).1.map i64c = D) (her : (projL K es 0 []).2 = er) :
   PCall Tryz.prog 32 [.ip [.int .i64 op, .str tb, .sl E, .sl Cc, .sl Kk, .sl A, .int .i64 fn, .int .i64 cl, .int .i64 n, .int .i64 off, .sl R], .sl C] fun r => r = [.sl D, .int .i64 er] := by
 obtain ⟨⟨L, er'⟩, hq⟩ : ∃ p, projL K es 0 [] = p := ⟨_, rfl⟩
 rw [hq] at hD her
 subst her hD
 dsimp only
 refine PCall.x (nt := 41) (res := [.tmp 4, .tmp 5]) mixed tt_ok [] Tryz.func32 rfl rfl rfl c32 (Nat.le_of_ble_eq_true rfl) ?_
 intro cp cc lp Q' hcp hcc hlp hQ
 repeat' (first
   | (with_reducible refine Nm.mk ?_; intro z hz)
   | (with_reducible refine IfB.mk ?_ ?_ <;> (intro h; cases h))
   | (with_reducible refine Two.l ?_; refine Asm.mk ?_ ?_; focus (decide +kernel))
   | (with_reducible refine Two.r ?_)
   | (with_reducible refine TwoT.r ?_)
   | (with_reducible refine Asm.mk ?_ ?_; focus (first | kernel_rfl | decide))
   | (with_reducible refine Asm.mk2 ?_ ?_)
   | ((fail_if_success (with_reducible first | refine hQ _ ?_ | refine Side.mk ?_ | refine isCP hcp ?_ | refine isCC hcc ?_ | refine isLP hlp ?_ | refine Ix.mk ?_ | refine SIx.mk ?_ | refine SEx.mk ?_ | refine EIx.mk ?_ | refine RIx.mk ?_ | refine LkX.mk ?_ | show False | refine hR ?_ _ ?_ ?_ ?_ ?_ ?_ | refine hR2 ?_ _ ?_ ?_ ?_ ?_ ?_)); cbv))
 unfold wideM at hwE
 have l1 : E.length = es.length := by rw [← hE]; simp
 simp only [nc] at hz
 simp only [nc'] at hz
 have hzl := lenZ l1 hz
 clear hz
 generalize z = zl at *
 refine mintT hlp 1 6 rfl ?_
 refine loopT (ι := Int × Int × List Int × List (List PV) × Nat) mixed tt_ok hcp hcc hlp [1, 15, 16] (fun p => [(6, .tok 0 p.2.2.2.1), (7, .p (.int .i64 p.2.1)), (17, .p (.int .i64 p.1))]) (fun p => [.spare p.2.2.2.2 1])
   (fun p => Rng es.length zl p.1 ∧ projL K (es.drop p.1.toNat) p.2.1 p.2.2.1 = (L, er') ∧ p.2.2.1.map i64c = p.2.2.2.1 ∧ p.2.2.2.1.length = p.2.2.2.2 ∧ p.2.2.1.length = p.1.toNat) (fun p => (zl - p.1).toNat) (0, 0, [], [], 0) 1 (fun _ => rfl) ⟨Rng.start hzl (by omega), hq, rfl, rfl, rfl⟩ ⟨rfl, rfl, rfl, trivial⟩ rfl ?_
 rintro R' ⟨i, w, acc, C1, m1⟩ ⟨rg, hf, hC1, hm1, hacc⟩ hR
 replace rg : Rng es.length zl i := rg
 replace hf : projL K (es.drop i.toNat) w acc = (L, er') := hf
 replace hC1 : acc.map i64c = C1 := hC1
 replace hm1 : C1.length = m1 := hm1
 replace hacc : acc.length = i.toNat := hacc
 have hok : okEs 1 C1 = true := by rw [← hC1]; exact List.all_eq_true.2 fun e he => by obtain ⟨c, _, rfl⟩ := List.mem_map.1 he; rfl
 have hCl : C1.length = i.toNat ∧ (decide (i < zl) = true → i.toNat + 1 ≤ es.length) := by
   refine ⟨by rw [← hC1, List.length_map, hacc], fun h => by have := rg.ltN h; omega⟩
 have hout : decide (i < zl) = false → (acc, w) = (L, er') := by
   intro h; rw [← hf, rg.end_ rfl h]; rfl
 have hkx : ∀ {op' m' vk' vn' : Int} {vs' : ByteArray} {ar' : List Ex} {es' : List (List PV)}, es[i.toNat]? = some (.mk op' m' ⟨vk', vn', vs'⟩ ar') → ar'.map Ex.cells = es' → ∃ a f, kindM K (.mk op' m' ⟨vk', vn', vs'⟩ ar') = (a, f) ∧ PCall Tryz.prog 61 [.agg [.int .i64 op', .int .i64 m', .int .i64 vk', .int .i64 vn', .str vs', .sl es'], .sl C] fun r => r = [.int .i64 a, .int .i64 f] := by
   intro op' m' vk' vn' vs' ar' es' hx he
   exact ⟨_, _, rfl, ekind_c K C hC op' m' vk' vn' vs' ar' es' he (wide_mem hwL (List.mem_of_getElem? hx))⟩
 have hstep : ∀ {x : Ex} {a f : Int}, es[i.toNat]? = some x → kindM K x = (a, f) → (f = 1 → (([] : List Int), 1) = (L, er')) ∧ (¬ f = 1 → projL K (es.drop (i + 1).toNat) (if w = 0 then f else w) (acc ++ [mx 1 a]) = (L, er')) := by
   intro x a f hx h
   rw [rg.step hx, projL, h] at hf
   exact ⟨fun h1 => by rw [if_pos h1] at hf; exact hf, fun h1 => by rw [if_neg h1] at hf; exact hf⟩
 repeat' (first
   | (with_reducible refine Nm.mk ?_; intro z hz)
   | (with_reducible refine IfB.mk ?_ ?_ <;> (intro h; cases h))
   | (with_reducible refine Two.l ?_; refine Asm.mk ?_ ?_; focus (decide +kernel))
   | (with_reducible refine Two.r ?_)
   | (with_reducible refine TwoT.r ?_)
   | (with_reducible refine Asm.mk ?_ ?_; focus (first | (have := hCl.2 (by assumption); have := hCl.1; refine ⟨hm1.symm, rfl, hok, rfl, ?_, ?_⟩ <;> (clear hR hQ; simp only [List.length_cons, List.length_nil, maxLen]; omega)) | (show (_ : Bool) = true; kernel_rfl)))
   | (with_reducible refine isCP hcp ?_; first | (refine xP hcp (hka) ?_; skip))
   | (with_reducible refine isCC hcc ?_; first | (refine xA hcc (hka) rfl ?_; skip))
   | (with_reducible refine Ix.ex hE rg.lo (rg.lt (by assumption)) ?_; intro op' m' vk' vn' vs' ar' es' hx hes'; obtain ⟨a, f, hkm, hka⟩ := hkx hx hes')
   | (with_reducible refine Asm.mk2 ?_ ?_)
   | ((fail_if_success (with_reducible first | refine hQ _ ?_ | refine Side.mk ?_ | refine isCP hcp ?_ | refine isCC hcc ?_ | refine isLP hlp ?_ | refine Ix.mk ?_ | refine SIx.mk ?_ | refine SEx.mk ?_ | refine EIx.mk ?_ | refine RIx.mk ?_ | refine LkX.mk ?_ | show False | refine hR ?_ _ ?_ ?_ ?_ ?_ ?_ | refine hR2 ?_ _ ?_ ?_ ?_ ?_ ?_)); cbv))
 all_goals first
   | (have e := hout (by assumption)
      simp only [Prod.mk.injEq] at e
      refine hQ _ ?_
      rw [← e.1, ← e.2, hC1]
      done)
   | (have hf1 : f = 1 := of_decide_eq_true (by assumption)
      have e := (hstep hx hkm).1 hf1
      simp only [Prod.mk.injEq] at e
      refine hQ _ ?_
      rw [← e.1, ← e.2, hf1]
      first
        | rfl
        | rw [hC1])
   | (have hf1 : ¬ f = 1 := of_decide_eq_false (by assumption)
      have hf2 : f = 1 := of_decide_eq_true (by assumption)
      exact absurd hf2 hf1)
   | (have hlt : decide (i < zl) = true := by assumption
      rw [rg.wrap hlt] at hz
      have hf1 : ¬ f = 1 := of_decide_eq_false (by assumption)
      have e := (hstep hx hkm).2 hf1
      rename_i zm hzm C2 hC2 m2 hm2
      have hc2 : (acc ++ [mx 1 a]).map i64c = C2 := by
        rw [← hC2, ← hC1, ← hzm, List.map_append]
        have hm : (if a < 1 then 1 else a) = mx 1 a := mx_one a
        rw [hm]; rfl
      have hm3 : C2.length = m2 := by rw [← hC2, ← hm2, List.length_append]
      have ha2 : (acc ++ [mx 1 a]).length = (i + 1).toNat := by rw [List.length_append, hacc, rg.toNat]; rfl
      first
        | (have hw0 : w = 0 := of_decide_eq_true (by assumption)
           rw [if_pos hw0] at e
           exact hR (i + 1, f, acc ++ [mx 1 a], C2, m2) _ ⟨rg.next hlt, e, hc2, hm3, ha2⟩ (rg.less hlt) ⟨rfl, rfl, hz ▸ rfl, trivial⟩ ⟨rfl, rfl, rfl, trivial⟩ rfl)
        | (have hw0 : ¬ w = 0 := of_decide_eq_false (by assumption)
           rw [if_neg hw0] at e
           exact hR (i + 1, w, acc ++ [mx 1 a], C2, m2) _ ⟨rg.next hlt, e, hc2, hm3, ha2⟩ (rg.less hlt) ⟨rfl, rfl, hz ▸ rfl, trivial⟩ ⟨rfl, rfl, rfl, trivial⟩ rfl))
theorem projected_c  (K : List Int) (C : List (List PV)) (hC : K.map i64c = C) (es : List Ex) (E : List (List PV)) (hE : es.map Ex.cells = E) (hwL : wideL es) (hwE : wideM 72 es.length) (D : List (List PV)) (er : Int) (hD : (projR K es 0 []).1.map i64c = D) (her : (projR K es 0 []).2 = er) :
   PCall Tryz.prog 41 [.sl E, .sl C] fun r => r = [.sl D, .int .i64 er] := by
 obtain ⟨⟨L, er'⟩, hq⟩ : ∃ p, projR K es 0 [] = p := ⟨_, rfl⟩
 rw [hq] at hD her
 subst her hD
 dsimp only
 refine PCall.x (nt := 41) (res := [.tmp 4, .tmp 5]) mixed tt_ok [] Tryz.func41 rfl rfl rfl c41 (Nat.le_of_ble_eq_true rfl) ?_
 intro cp cc lp Q' hcp hcc hlp hQ
 repeat' (first
   | (with_reducible refine Nm.mk ?_; intro z hz)
   | (with_reducible refine IfB.mk ?_ ?_ <;> (intro h; cases h))
   | (with_reducible refine Two.l ?_; refine Asm.mk ?_ ?_; focus (decide +kernel))
   | (with_reducible refine Two.r ?_)
   | (with_reducible refine TwoT.r ?_)
   | (with_reducible refine Asm.mk ?_ ?_; focus (first | kernel_rfl | decide))
   | (with_reducible refine Asm.mk2 ?_ ?_)
   | ((fail_if_success (with_reducible first | refine hQ _ ?_ | refine Side.mk ?_ | refine isCP hcp ?_ | refine isCC hcc ?_ | refine isLP hlp ?_ | refine Ix.mk ?_ | refine SIx.mk ?_ | refine SEx.mk ?_ | refine EIx.mk ?_ | refine RIx.mk ?_ | refine LkX.mk ?_ | show False | refine hR ?_ _ ?_ ?_ ?_ ?_ ?_ | refine hR2 ?_ _ ?_ ?_ ?_ ?_ ?_)); cbv))
 unfold wideM at hwE
 have l1 : E.length = es.length := by rw [← hE]; simp
 simp only [nc] at hz
 simp only [nc'] at hz
 have hzl := lenZ l1 hz
 clear hz
 generalize z = zl at *
 refine mintT hlp 1 6 rfl ?_
 refine loopT (ι := Int × Int × List Int × List (List PV) × Nat) mixed tt_ok hcp hcc hlp [1, 12, 13] (fun p => [(6, .tok 0 p.2.2.2.1), (7, .p (.int .i64 p.2.1)), (14, .p (.int .i64 p.1))]) (fun p => [.spare p.2.2.2.2 1])
   (fun p => Rng es.length zl p.1 ∧ projR K (es.drop p.1.toNat) p.2.1 p.2.2.1 = (L, er') ∧ p.2.2.1.map i64c = p.2.2.2.1 ∧ p.2.2.2.1.length = p.2.2.2.2 ∧ p.2.2.1.length = p.1.toNat) (fun p => (zl - p.1).toNat) (0, 0, [], [], 0) 1 (fun _ => rfl) ⟨Rng.start hzl (by omega), hq, rfl, rfl, rfl⟩ ⟨rfl, rfl, rfl, trivial⟩ rfl ?_
 rintro R' ⟨i, w, acc, C1, m1⟩ ⟨rg, hf, hC1, hm1, hacc⟩ hR
 replace rg : Rng es.length zl i := rg
 replace hf : projR K (es.drop i.toNat) w acc = (L, er') := hf
 replace hC1 : acc.map i64c = C1 := hC1
 replace hm1 : C1.length = m1 := hm1
 replace hacc : acc.length = i.toNat := hacc
 have hok : okEs 1 C1 = true := by rw [← hC1]; exact List.all_eq_true.2 fun e he => by obtain ⟨c, _, rfl⟩ := List.mem_map.1 he; rfl
 have hCl : C1.length = i.toNat ∧ (decide (i < zl) = true → i.toNat + 1 ≤ es.length) := by
   refine ⟨by rw [← hC1, List.length_map, hacc], fun h => by have := rg.ltN h; omega⟩
 have hout : decide (i < zl) = false → (acc, w) = (L, er') := by
   intro h; rw [← hf, rg.end_ rfl h]; rfl
 have hkx : ∀ {op' m' vk' vn' : Int} {vs' : ByteArray} {ar' : List Ex} {es' : List (List PV)}, es[i.toNat]? = some (.mk op' m' ⟨vk', vn', vs'⟩ ar') → ar'.map Ex.cells = es' → ∃ a f, kindM K (.mk op' m' ⟨vk', vn', vs'⟩ ar') = (a, f) ∧ PCall Tryz.prog 64 [.agg [.int .i64 op', .int .i64 m', .int .i64 vk', .int .i64 vn', .str vs', .sl es'], .sl C] fun r => r = [.int .i64 a, .int .i64 f] := by
   intro op' m' vk' vn' vs' ar' es' hx he
   exact ⟨_, _, rfl, rkind_c K C hC op' m' vk' vn' vs' ar' es' he (wide_mem hwL (List.mem_of_getElem? hx))⟩
 have hstep : ∀ {x : Ex} {a f : Int}, es[i.toNat]? = some x → kindM K x = (a, f) → (f = 1 → (acc, 1) = (L, er')) ∧ (¬ f = 1 → projR K (es.drop (i + 1).toNat) (if w = 0 then f else w) (acc ++ [mx 1 a]) = (L, er')) := by
   intro x a f hx h
   rw [rg.step hx, projR, h] at hf
   exact ⟨fun h1 => by rw [if_pos h1] at hf; exact hf, fun h1 => by rw [if_neg h1] at hf; exact hf⟩
 repeat' (first
   | (with_reducible refine Nm.mk ?_; intro z hz)
   | (with_reducible refine IfB.mk ?_ ?_ <;> (intro h; cases h))
   | (with_reducible refine Two.l ?_; refine Asm.mk ?_ ?_; focus (decide +kernel))
   | (with_reducible refine Two.r ?_)
   | (with_reducible refine TwoT.r ?_)
   | (with_reducible refine Asm.mk ?_ ?_; focus (first | (have := hCl.2 (by assumption); have := hCl.1; refine ⟨hm1.symm, rfl, hok, rfl, ?_, ?_⟩ <;> (clear hR hQ; simp only [List.length_cons, List.length_nil, maxLen]; omega)) | (show (_ : Bool) = true; kernel_rfl)))
   | (with_reducible refine isCP hcp ?_; first | (refine xP hcp (hka) ?_; skip))
   | (with_reducible refine isCC hcc ?_; first | (refine xA hcc (hka) rfl ?_; skip))
   | (with_reducible refine Ix.ex hE rg.lo (rg.lt (by assumption)) ?_; intro op' m' vk' vn' vs' ar' es' hx hes'; obtain ⟨a, f, hkm, hka⟩ := hkx hx hes')
   | (with_reducible refine Asm.mk2 ?_ ?_)
   | ((fail_if_success (with_reducible first | refine hQ _ ?_ | refine Side.mk ?_ | refine isCP hcp ?_ | refine isCC hcc ?_ | refine isLP hlp ?_ | refine Ix.mk ?_ | refine SIx.mk ?_ | refine SEx.mk ?_ | refine EIx.mk ?_ | refine RIx.mk ?_ | refine LkX.mk ?_ | show False | refine hR ?_ _ ?_ ?_ ?_ ?_ ?_ | refine hR2 ?_ _ ?_ ?_ ?_ ?_ ?_)); cbv))
 all_goals first
   | (have e := hout (by assumption)
      simp only [Prod.mk.injEq] at e
      refine hQ _ ?_
      rw [← e.1, ← e.2, hC1]
      done)
   | (have hf1 : f = 1 := of_decide_eq_true (by assumption)
      have e := (hstep hx hkm).1 hf1
      simp only [Prod.mk.injEq] at e
      refine hQ _ ?_
      rw [← e.1, ← e.2, hf1]
      first
        | rfl
        | rw [hC1])
   | (have hf1 : ¬ f = 1 := of_decide_eq_false (by assumption)
      have hf2 : f = 1 := of_decide_eq_true (by assumption)
      exact absurd hf2 hf1)
   | (have hlt : decide (i < zl) = true := by assumption
      rw [rg.wrap hlt] at hz
      have hf1 : ¬ f = 1 := of_decide_eq_false (by assumption)
      have e := (hstep hx hkm).2 hf1
      rename_i zm hzm C2 hC2 m2 hm2
      have hc2 : (acc ++ [mx 1 a]).map i64c = C2 := by
        rw [← hC2, ← hC1, ← hzm, List.map_append]
        have hm : (if a < 1 then 1 else a) = mx 1 a := mx_one a
        rw [hm]; rfl
      have hm3 : C2.length = m2 := by rw [← hC2, ← hm2, List.length_append]
      have ha2 : (acc ++ [mx 1 a]).length = (i + 1).toNat := by rw [List.length_append, hacc, rg.toNat]; rfl
      first
        | (have hw0 : w = 0 := of_decide_eq_true (by assumption)
           rw [if_pos hw0] at e
           exact hR (i + 1, f, acc ++ [mx 1 a], C2, m2) _ ⟨rg.next hlt, e, hc2, hm3, ha2⟩ (rg.less hlt) ⟨rfl, rfl, hz ▸ rfl, trivial⟩ ⟨rfl, rfl, rfl, trivial⟩ rfl)
        | (have hw0 : ¬ w = 0 := of_decide_eq_false (by assumption)
           rw [if_neg hw0] at e
           exact hR (i + 1, w, acc ++ [mx 1 a], C2, m2) _ ⟨rg.next hlt, e, hc2, hm3, ha2⟩ (rg.less hlt) ⟨rfl, rfl, hz ▸ rfl, trivial⟩ ⟨rfl, rfl, rfl, trivial⟩ rfl))
end Go.Proofs.YtlabphnonlicdaaGreat

namespace Go.Proofs.YtlabphnonlicdaaGreat
open Go Go.RowKit
set_option maxRecDepth 100000
set_option linter.unusedSimpArgs false
set_option linter.unusedVariables false
theorem atK_get {K : List Int} {c y : Int} (h : K[c.toNat]? = some y) : atK K c = y := by rw [atK, h]; rfl
theorem past_lt {l : List Int} {n : Int} (h : pastM l n = false) : ∀ c, c ∈ l → c < n := by
 intro c hc
 rw [pastM, ← Bool.not_eq_true, List.any_eq_true] at h
 by_cases hlt : c < n
 · exact hlt
 · exact absurd ⟨c, hc, decide_eq_true (by omega)⟩ h
theorem lost_lt {l : List (Int × Int)} {n : Int} (h : lostA n l = false) : ∀ a, a ∈ l → ¬ a.1 = 1 → a.2 < n := by
 intro a ha h1
 rw [lostA, ← Bool.not_eq_true, List.any_eq_true] at h
 by_cases hlt : a.2 < n
 · exact hlt
 · exact absurd ⟨a, ha, by simp [h1]; omega⟩ h
theorem ok_map (l : List Int) : okEs 1 (l.map i64c) = true := List.all_eq_true.2 fun e he => by obtain ⟨c, _, rfl⟩ := List.mem_map.1 he; rfl
set_option maxHeartbeats 8000000 in
theorem group_c (op : Int) (tb : ByteArray) (E Cc Kk A R : List (List PV)) (fn cl n off : Int) (K : List Int) (C : List (List PV)) (hC : K.map i64c = C) (hKb : K.length * 8 ≤ 140737488351232) (cs : List Int) (ag : List (Int × Int)) (hcs : cs.map i64c = Cc) (hA : ag.map aggc = A) (hcb : cs.length * 8 ≤ 140737488351232) (hab : ag.length * 16 ≤ 140737488351232) (hc0 : ∀ c, c ∈ cs → 0 ≤ c) (ha0 : ∀ a, a ∈ ag → 0 ≤ a.2) (L : List Int) (er : Int) (hg : groupK K cs ag = (L, er)) :
   PCall Tryz.prog 34 [.ip [.int .i64 op, .str tb, .sl E, .sl Cc, .sl Kk, .sl A, .int .i64 fn, .int .i64 cl, .int .i64 n, .int .i64 off, .sl R], .sl C] fun r => r = [.sl (L.map i64c), .int .i64 er] := by
 have b1 : C.length = K.length := by rw [← hC]; simp
 have b2 : Cc.length = cs.length := by rw [← hcs]; simp
 have b3 : A.length = ag.length := by rw [← hA]; simp
 have hpast := fun k => past_c cs k Cc hcs hcb
 obtain ⟨lost, hlost⟩ : ∃ b, lostA (K.length : Int) ag = b := ⟨_, rfl⟩
 obtain ⟨ps, hps⟩ : ∃ b, pastM cs (K.length : Int) = b := ⟨_, rfl⟩
 rw [groupK, hlost, hps] at hg
 have hpz : ∀ {z : Int}, (C.length : Int) = z → pastM cs z = ps := by rintro z rfl; rw [← hps, b1]
 have hsum : ∀ {z1 z2 z : Int}, IntKind.i64.wrap (z1 + z2) = z → (Cc.length : Int) = z1 → (A.length : Int) = z2 → decide (32 < z) = decide (32 < cs.length + ag.length) := by
   rintro z1 z2 z h rfl rfl
   rw [wrap_in (by omega)] at h
   subst h
   rw [Bool.eq_iff_iff, decide_eq_true_eq, decide_eq_true_eq]; omega
 have hlos : ∀ {b0 : Bool}, (ps || decide (32 < cs.length + ag.length)) = b0 → (b0 || lost) = true → L = [] ∧ er = 1 := by
   rintro b0 rfl h
   rw [if_pos h] at hg
   simp only [Prod.mk.injEq] at hg
   exact ⟨hg.1.symm, hg.2.symm⟩
 have hgo : ∀ {b0 : Bool}, (ps || decide (32 < cs.length + ag.length)) = b0 → (b0 || lost) = false → aggL K ag (cs.map (atK K)) = (L, er) ∧ ps = false ∧ lost = false ∧ cs.length + ag.length ≤ 32 := by
   rintro b0 rfl h
   rw [if_neg (by rw [h]; decide)] at hg
   simp only [Bool.or_eq_false_iff, decide_eq_false_iff_not] at h
   exact ⟨hg, h.1.1, h.2, by omega⟩
 clear hg
 refine PCall.x (nt := 119) (res := [.tmp 4, .tmp 5]) mixed tt_ok [] Tryz.func34 rfl rfl rfl c34 (Nat.le_of_ble_eq_true rfl) ?_
 intro cp cc lp Q' hcp hcc hlp hQ
 repeat' (first
   | (with_reducible refine Nm.mk ?_; intro z hz)
   | (with_reducible refine IfB.mk ?_ ?_ <;> (intro h; cases h))
   | (with_reducible refine Two.l ?_; refine Asm.mk ?_ ?_; focus (decide +kernel))
   | (with_reducible refine Two.r ?_)
   | (with_reducible refine TwoT.r ?_)
   | (with_reducible refine Asm.mk ?_ ?_; focus (first | kernel_rfl | decide))
   | (with_reducible refine isCP hcp ?_; first | (refine bP hcp (hpast _) ?_; intro z hz))
   | (with_reducible refine isCC hcc ?_; first | (refine bA hcc (hpast _) rfl ?_; intro z hz))
   | (with_reducible refine Asm.mk2 ?_ ?_)
   | ((fail_if_success (with_reducible first | refine hQ _ ?_ | refine Side.mk ?_ | refine isCP hcp ?_ | refine isCC hcc ?_ | refine isLP hlp ?_ | refine Ix.mk ?_ | refine SIx.mk ?_ | refine SEx.mk ?_ | refine EIx.mk ?_ | refine RIx.mk ?_ | refine LkX.mk ?_ | show False | refine hR ?_ _ ?_ ?_ ?_ ?_ ?_ | refine hR2 ?_ _ ?_ ?_ ?_ ?_ ?_)); cbv))
 all_goals
   (obtain ⟨b0, hb0⟩ : ∃ b, (ps || decide (32 < cs.length + ag.length)) = b := ⟨_, rfl⟩
    replace hlos := hlos hb0
    replace hgo := hgo hb0
    simp only [nc] at hz
    simp only [nc'] at hz
    have hzl := lenZ b3 hz
    clear hz
    generalize z = zl at *
    have hbs : ∃ bb, bb = b0 := ⟨_, rfl⟩
    refine loopK (ι := Int × Bool) mixed tt_ok hcp hcc hlp [0, 1, 38, 39] (fun p => [(6, .p (.bool p.2)), (40, .p (.int .i64 p.1))]) (fun p => Rng ag.length zl p.1 ∧ (p.2 || lostA (K.length : Int) (ag.drop p.1.toNat)) = (b0 || lost)) (fun p => (zl - p.1).toNat) (0, _) (fun _ => rfl) ⟨Rng.start hzl (by omega), ?_⟩ ⟨rfl, rfl, trivial⟩ ?_
    · show (_ || lostA (K.length : Int) ag) = (b0 || lost)
      rw [hlost]
      congr 1
      rw [← hb0]
      have hp1 := hpz (by assumption)
      clear hlos hgo hQ hcp hcc hlp hpast
      first
        | (rw [← hp1]; simp_all; done)
        | (have hs1 := hsum (by assumption) (by assumption) (by assumption); rw [← hp1]; simp_all; done)
    · rintro R1 ⟨i, b⟩ ⟨rg, hf⟩ hR
      replace rg : Rng ag.length zl i := rg
      replace hf : (b || lostA (K.length : Int) (ag.drop i.toNat)) = (b0 || lost) := hf
      have hst : ∀ {x : Int × Int}, ag[i.toNat]? = some x → (b || (!decide (x.1 = 1) && decide ((K.length : Int) ≤ x.2)) || lostA (K.length : Int) (ag.drop (i + 1).toNat)) = (b0 || lost) := by
        intro x hx; rw [← hf, rg.step hx, lostA, lostA, List.any_cons, Bool.or_assoc]
      have hout : decide (i < zl) = false → b = (b0 || lost) := by
        intro h; rw [← hf, rg.end_ rfl h, lostA, List.any_nil, Bool.or_false]
      have hge : ∀ {z y : Int}, (C.length : Int) = z → decide (z ≤ y) = decide ((K.length : Int) ≤ y) := by rintro z y rfl; rw [b1]
      repeat' (first
        | (with_reducible refine Nm.mk ?_; intro z hz)
        | (with_reducible refine IfB.mk ?_ ?_ <;> (intro h; cases h))
        | (with_reducible refine Two.l ?_; refine Asm.mk ?_ ?_; focus (decide +kernel))
        | (with_reducible refine Two.r ?_)
        | (with_reducible refine TwoT.r ?_)
        | (with_reducible refine Asm.mk ?_ ?_; focus kernel_rfl)
        | (with_reducible refine Ix.map hA aggc_len (by decide) rg.lo (rg.lt (by assumption)) ?_; intro x hx)
        | (with_reducible refine Asm.mk2 ?_ ?_)
        | ((fail_if_success (with_reducible first | refine hQ _ ?_ | refine Side.mk ?_ | refine isCP hcp ?_ | refine isCC hcc ?_ | refine isLP hlp ?_ | refine Ix.mk ?_ | refine SIx.mk ?_ | refine SEx.mk ?_ | refine EIx.mk ?_ | refine RIx.mk ?_ | refine LkX.mk ?_ | show False | refine hR ?_ _ ?_ ?_ ?_ ?_ ?_ | refine hR2 ?_ _ ?_ ?_ ?_ ?_ ?_)); cbv))
      all_goals first
        | (have hlt : decide (i < zl) = true := by assumption
           rw [rg.wrap hlt] at hz
           refine hR (i + 1, _) _ ⟨rg.next hlt, ?_⟩ (rg.less hlt) ⟨rfl, hz ▸ rfl, trivial⟩ ⟨rfl, rfl, rfl, rfl, trivial⟩ rfl
           rw [← hst hx]
           first
             | (show (true || _) = (true || _ || _); simp; done)
             | (have hg1 := hge (y := x.2) (by assumption)
                have hn1 : (!decide (x.1 = 1)) = true := by assumption
                rename_i zb hzb
                show (zb || _) = _
                rw [hn1, ← hg1, hzb]; rfl)
             | (have hn1 : (!decide (x.1 = 1)) = false := by assumption
                show (false || _) = _
                rw [hn1]; rfl))
        | (have e := hlos (hout (by assumption)).symm
           refine hQ _ ?_
           rw [e.1, e.2]; rfl)
        | skip
      obtain ⟨hag, hp0, hl0, h32⟩ := hgo (hout (by assumption)).symm
      subst hp0 hl0
      have hclt := past_lt hps
      have halt := lost_lt hlost
      clear hout hst hR hf hgo hlos hge rg
      simp only [nc] at hz
      simp only [nc'] at hz
      have hyl := lenZ b2 hz
      clear hz
      generalize z = yl at *
      refine mintT hlp 1 9 rfl ?_
      refine loopT (ι := Int × List (List PV) × Nat) mixed tt_ok hcp hcc hlp [0, 1, 62, 63] (fun p => [(9, .tok 0 p.2.1), (64, .p (.int .i64 p.1))]) (fun p => [.spare p.2.2 1])
        (fun p => Rng cs.length yl p.1 ∧ ((cs.take p.1.toNat).map (atK K)).map i64c = p.2.1 ∧ p.2.1.length = p.2.2) (fun p => (yl - p.1).toNat) (0, [], 0) 1 (fun _ => rfl) ⟨Rng.start hyl (by omega), rfl, rfl⟩ ⟨rfl, rfl, trivial⟩ rfl ?_
      rintro R2 ⟨i, C1, m1⟩ ⟨rg, hC1, hm1⟩ hR
      replace rg : Rng cs.length yl i := rg
      replace hC1 : ((cs.take i.toNat).map (atK K)).map i64c = C1 := hC1
      replace hm1 : C1.length = m1 := hm1
      have hok : okEs 1 C1 = true := by rw [← hC1]; exact ok_map _
      have hcl : C1.length ≤ 32 := by rw [← hC1, List.length_map, List.length_map, List.length_take]; omega
      have hin : ∀ {x : Int}, cs[i.toNat]? = some x → 0 ≤ x ∧ x < (K.length : Int) := fun hx => ⟨hc0 _ (List.mem_of_getElem? hx), hclt _ (List.mem_of_getElem? hx)⟩
      repeat' (first
        | (with_reducible refine Nm.mk ?_; intro z hz)
        | (with_reducible refine IfB.mk ?_ ?_ <;> (intro h; cases h))
        | (with_reducible refine Two.l ?_; refine Asm.mk ?_ ?_; focus (decide +kernel))
        | (with_reducible refine Two.r ?_)
        | (with_reducible refine TwoT.r ?_)
        | (with_reducible refine Asm.mk ?_ ?_; focus (first | (refine ⟨hm1.symm, rfl, hok, rfl, ?_, ?_⟩ <;> (clear hR hQ; simp only [List.length_cons, List.length_nil, maxLen]; omega)) | (show (_ : Bool) = true; kernel_rfl)))
        | (with_reducible refine Ix.map hcs i64c_len (by decide) rg.lo (rg.lt (by assumption)) ?_; intro x hx)
        | (with_reducible refine Ix.map hC i64c_len (by decide) (hin hx).1 (hin hx).2 ?_; intro y hy)
        | (with_reducible refine Asm.mk2 ?_ ?_)
        | ((fail_if_success (with_reducible first | refine hQ _ ?_ | refine Side.mk ?_ | refine isCP hcp ?_ | refine isCC hcc ?_ | refine isLP hlp ?_ | refine Ix.mk ?_ | refine SIx.mk ?_ | refine SEx.mk ?_ | refine EIx.mk ?_ | refine RIx.mk ?_ | refine LkX.mk ?_ | show False | refine hR ?_ _ ?_ ?_ ?_ ?_ ?_ | refine hR2 ?_ _ ?_ ?_ ?_ ?_ ?_)); cbv))
      · have hlt : decide (i < yl) = true := by assumption
        rename_i L3 hL3 m3 hm3
        rw [rg.wrap hlt] at hz
        refine hR (i + 1, L3, m3) _ ⟨rg.next hlt, ?_, by show L3.length = m3; rw [← hL3, ← hm3, List.length_append]⟩ (rg.less hlt) ⟨rfl, hz ▸ rfl, trivial⟩ ⟨rfl, rfl, rfl, rfl, trivial⟩ rfl
        show ((cs.take (i + 1).toNat).map (atK K)).map i64c = L3
        rw [rg.take hx, List.map_append, List.map_append, hC1, ← hL3, ← atK_get hy]
        rfl
      · have hC2 : (cs.map (atK K)).map i64c = C1 := by rw [← hC1, rg.take_ rfl (by assumption)]
        have hl2 : C1.length = cs.length := by rw [← hC2, List.length_map, List.length_map]
        clear hR hin hC1 hok hcl rg
        simp only [nc] at hz
        simp only [nc'] at hz
        have hxl := lenZ b3 hz
        clear hz
        generalize z = xl at *
        refine loopT (ι := Int × List Int × List (List PV) × Nat) mixed tt_ok hcp hcc hlp [0, 1, 79, 80] (fun p => [(9, .tok 0 p.2.2.1), (81, .p (.int .i64 p.1))]) (fun p => [.spare p.2.2.2 1])
          (fun p => Rng ag.length xl p.1 ∧ aggL K (ag.drop p.1.toNat) p.2.1 = (L, er) ∧ p.2.1.map i64c = p.2.2.1 ∧ p.2.2.1.length = p.2.2.2 ∧ p.2.1.length = cs.length + p.1.toNat) (fun p => (xl - p.1).toNat) (0, cs.map (atK K), C1, m1) 1 (fun _ => rfl) ⟨Rng.start hxl (by omega), hag, hC2, hm1, by simp⟩ ⟨rfl, rfl, trivial⟩ rfl ?_
        rintro R3 ⟨j, acc, C4, m4⟩ ⟨rj, hf, hC4, hm4, hacc⟩ hR
        replace rj : Rng ag.length xl j := rj
        replace hf : aggL K (ag.drop j.toNat) acc = (L, er) := hf
        replace hC4 : acc.map i64c = C4 := hC4
        replace hm4 : C4.length = m4 := hm4
        replace hacc : acc.length = cs.length + j.toNat := hacc
        have hok4 : okEs 1 C4 = true := by rw [← hC4]; exact ok_map _
        have hcl4 : C4.length ≤ 32 := by rw [← hC4, List.length_map, hacc]; have := rj.hi; have := rj.len; omega
        have hax : ∀ {x : Int × Int}, ag[j.toNat]? = some x → 0 ≤ x.2 := fun hx => ha0 _ (List.mem_of_getElem? hx)
        have hlx : ∀ {x : Int × Int}, ag[j.toNat]? = some x → (decide (x.1 = 3) = true ∨ decide (x.1 = 4) = true ∨ decide (x.1 = 5) = true) → x.2 < (K.length : Int) := by
          intro x hx h
          refine halt _ (List.mem_of_getElem? hx) ?_
          simp only [decide_eq_true_eq] at h
          omega
        have hst : ∀ {x : Int × Int}, ag[j.toNat]? = some x → (if x.1 = 3 ∧ atK K x.2 = 2 then (([] : List Int), (4 : Int)) else aggL K (ag.drop (j + 1).toNat) (acc ++ [if x.1 = 4 ∨ x.1 = 5 then atK K x.2 else 1])) = (L, er) := by
          intro x hx; rw [← hf, rj.step hx, aggL]
        have hout : decide (j < xl) = false → (acc, (0 : Int)) = (L, er) := by
          intro h; rw [← hf, rj.end_ rfl h]; rfl
        repeat' (first
          | (with_reducible refine Nm.mk ?_; intro z hz)
          | (with_reducible refine IfB.mk ?_ ?_ <;> (intro h; cases h))
          | (with_reducible refine Two.l ?_; refine Asm.mk ?_ ?_; focus (decide +kernel))
          | (with_reducible refine Two.r ?_)
          | (with_reducible refine TwoT.r ?_)
          | (with_reducible refine Asm.mk ?_ ?_; focus (first | (refine ⟨hm4.symm, rfl, hok4, rfl, ?_, ?_⟩ <;> (clear hR hQ; simp only [List.length_cons, List.length_nil, maxLen]; omega)) | (show (_ : Bool) = true; kernel_rfl)))
          | (with_reducible refine Ix.map hA aggc_len (by decide) rj.lo (rj.lt (by assumption)) ?_; intro x hx)
          | (with_reducible refine Ix.map hC i64c_len (by decide) (hax hx) (hlx hx (by first | exact .inl (by assumption) | exact .inr (.inl (by assumption)) | exact .inr (.inr (by assumption)))) ?_; intro y hy)
          | (with_reducible refine Asm.mk2 ?_ ?_)
          | ((fail_if_success (with_reducible first | refine hQ _ ?_ | refine Side.mk ?_ | refine isCP hcp ?_ | refine isCC hcc ?_ | refine isLP hlp ?_ | refine Ix.mk ?_ | refine SIx.mk ?_ | refine SEx.mk ?_ | refine EIx.mk ?_ | refine RIx.mk ?_ | refine LkX.mk ?_ | show False | refine hR ?_ _ ?_ ?_ ?_ ?_ ?_ | refine hR2 ?_ _ ?_ ?_ ?_ ?_ ?_)); cbv))
        all_goals first
          | (have e := hout (by assumption)
             simp only [Prod.mk.injEq] at e
             refine hQ _ ?_
             rw [← e.1, ← e.2, hC4]
             done)
          | (have h3 : x.1 = 3 := of_decide_eq_true (by assumption)
             have h45 : x.1 = 4 ∨ x.1 = 5 := by first | exact .inl (of_decide_eq_true (by assumption)) | exact .inr (of_decide_eq_true (by assumption))
             exfalso; omega)
          | (have h3 : x.1 = 3 := of_decide_eq_true (by assumption)
             have h2 : y = 2 := of_decide_eq_true (by assumption)
             have e := hst hx
             rw [if_pos ⟨h3, (atK_get hy).trans h2⟩] at e
             simp only [Prod.mk.injEq] at e
             refine hQ _ ?_
             rw [← e.1, ← e.2]; rfl)
          | (have hlt : decide (j < xl) = true := by assumption
             rw [rj.wrap hlt] at hz
             rename_i C5 hC5 m5 hm5
             have hm6 : C5.length = m5 := by rw [← hC5, ← hm5, List.length_append]
             have e := hst hx
             first
               | (have h45 : x.1 = 4 ∨ x.1 = 5 := by first | exact .inl (of_decide_eq_true (by assumption)) | exact .inr (of_decide_eq_true (by assumption))
                  rw [if_neg (by rintro ⟨h, _⟩; omega), if_pos h45, atK_get hy] at e
                  exact hR (j + 1, acc ++ [y], C5, m5) _ ⟨rj.next hlt, e, by show (acc ++ [y]).map i64c = C5; rw [← hC5, ← hC4, List.map_append]; rfl, hm6, by show (acc ++ [y]).length = cs.length + (j + 1).toNat; rw [List.length_append, hacc, rj.toNat]; rfl⟩ (rj.less hlt) ⟨rfl, hz ▸ rfl, trivial⟩ ⟨rfl, rfl, rfl, rfl, trivial⟩ rfl)
               | (have h4 : ¬ x.1 = 4 := of_decide_eq_false (by assumption)
                  have h5 : ¬ x.1 = 5 := of_decide_eq_false (by assumption)
                  rw [if_neg (by
                    rintro ⟨h, h'⟩
                    first
                      | exact absurd h (of_decide_eq_false (by assumption))
                      | (rw [atK_get hy] at h'; exact absurd h' (of_decide_eq_false (by assumption)))), if_neg (by omega)] at e
                  exact hR (j + 1, acc ++ [1], C5, m5) _ ⟨rj.next hlt, e, by show (acc ++ [1]).map i64c = C5; rw [← hC5, ← hC4, List.map_append]; rfl, hm6, by show (acc ++ [1]).length = cs.length + (j + 1).toNat; rw [List.length_append, hacc, rj.toNat]; rfl⟩ (rj.less hlt) ⟨rfl, hz ▸ rfl, trivial⟩ ⟨rfl, rfl, rfl, rfl, trivial⟩ rfl)))
end Go.Proofs.YtlabphnonlicdaaGreat

namespace Go.Proofs.YtlabphnonlicdaaGreat
open Go Go.RowKit
set_option maxRecDepth 100000
set_option linter.unusedSimpArgs false
set_option linter.unusedVariables false
set_option maxHeartbeats 8000000 in
theorem grouped_c (op : Int) (tb : ByteArray) (E Cc Kk A R : List (List PV)) (fn cl n off : Int) (K : List Int) (C : List (List PV)) (hC : K.map i64c = C) (hKb : K.length * 8 ≤ 140737488351232) (hk12 : ∀ x, x ∈ K → x = 1 ∨ x = 2) (cs : List Int) (ag : List (Int × Int)) (hcs : cs.map i64c = Cc) (hA : ag.map aggc = A) (hcb : cs.length * 8 ≤ 140737488351232) (hab : ag.length * 16 ≤ 140737488351232) (hc0 : ∀ c, c ∈ cs → 0 ≤ c) (ha0 : ∀ a, a ∈ ag → 0 ≤ a.2) (L : List Int) (er : Int) (hg : groupK K cs ag = (L, er)) :
   PCall Tryz.prog 42 [.agg [.int .i64 op, .str tb, .sl E, .sl Cc, .sl Kk, .sl A, .int .i64 fn, .int .i64 cl, .int .i64 n, .int .i64 off, .sl R], .sl C] fun r => r = [.sl (L.map i64c), .int .i64 er] := by
 have b1 : C.length = K.length := by rw [← hC]; simp
 have b2 : Cc.length = cs.length := by rw [← hcs]; simp
 have b3 : A.length = ag.length := by rw [← hA]; simp
 have hpast := fun k => beyond_c cs Cc hcs hcb k
 obtain ⟨lost, hlost⟩ : ∃ b, lostA (K.length : Int) ag = b := ⟨_, rfl⟩
 obtain ⟨ps, hps⟩ : ∃ b, pastM cs (K.length : Int) = b := ⟨_, rfl⟩
 rw [groupK, hlost, hps] at hg
 have hpz : ∀ {z : Int} {b : Bool}, pastM cs z = b → (C.length : Int) = z → ps = b := by rintro z b h rfl; rw [← hps, ← h, b1]
 have hsum : ∀ {z1 z2 z : Int}, IntKind.i64.wrap (z1 + z2) = z → (Cc.length : Int) = z1 → (A.length : Int) = z2 → decide (32 < z) = decide (32 < cs.length + ag.length) := by
   rintro z1 z2 z h rfl rfl
   rw [wrap_in (by omega)] at h
   subst h
   rw [Bool.eq_iff_iff, decide_eq_true_eq, decide_eq_true_eq]; omega
 have hlos : (ps = true ∨ decide (32 < cs.length + ag.length) = true ∨ lost = true) → L = [] ∧ er = 1 := by
   intro h
   rw [if_pos (by rcases h with h | h | h <;> rw [h] <;> simp)] at hg
   simp only [Prod.mk.injEq] at hg
   exact ⟨hg.1.symm, hg.2.symm⟩
 have hgo : ps = false → decide (32 < cs.length + ag.length) = false → lost = false → aggL K ag (cs.map (atK K)) = (L, er) := by
   intro h1 h2 h3
   rw [if_neg (by rw [h1, h2, h3]; decide)] at hg
   exact hg
 clear hg
 refine PCall.x (nt := 99) (res := [.tmp 4, .tmp 5]) mixed tt_ok [] Tryz.func42 rfl rfl rfl c42 (Nat.le_of_ble_eq_true rfl) ?_
 intro cp cc lp Q' hcp hcc hlp hQ
 repeat' (first
   | (with_reducible refine Nm.mk ?_; intro z hz)
   | (with_reducible refine IfB.mk ?_ ?_ <;> (intro h; cases h))
   | (with_reducible refine Two.l ?_; refine Asm.mk ?_ ?_; focus (decide +kernel))
   | (with_reducible refine Two.r ?_)
   | (with_reducible refine TwoT.r ?_)
   | (with_reducible refine Asm.mk ?_ ?_; focus (first | kernel_rfl | decide))
   | (with_reducible refine isCP hcp ?_; first | (refine bP hcp (hpast _) ?_; intro z hz))
   | (with_reducible refine isCC hcc ?_; first | (refine bA hcc (hpast _) rfl ?_; intro z hz))
   | (with_reducible refine Asm.mk2 ?_ ?_)
   | ((fail_if_success (with_reducible first | refine hQ _ ?_ | refine Side.mk ?_ | refine isCP hcp ?_ | refine isCC hcc ?_ | refine isLP hlp ?_ | refine Ix.mk ?_ | refine SIx.mk ?_ | refine SEx.mk ?_ | refine EIx.mk ?_ | refine RIx.mk ?_ | refine LkX.mk ?_ | show False | refine hR ?_ _ ?_ ?_ ?_ ?_ ?_ | refine hR2 ?_ _ ?_ ?_ ?_ ?_ ?_)); cbv))
 · have e := hlos (.inl (hpz (by assumption) (by assumption)))
   refine hQ _ ?_
   rw [e.1, e.2]; rfl
 · have e := hlos (.inr (.inl ((hsum (by assumption) (by assumption) (by assumption)).symm.trans (by assumption))))
   refine hQ _ ?_
   rw [e.1, e.2]; rfl
 have hp0 : ps = false := hpz (by assumption) (by assumption)
 have h32b : decide (32 < cs.length + ag.length) = false := (hsum (by assumption) (by assumption) (by assumption)).symm.trans (by assumption)
 have h32 : cs.length + ag.length ≤ 32 := by have := of_decide_eq_false h32b; omega
 replace hgo := hgo hp0 h32b
 subst hp0
 have hclt := past_lt hps
 have halt := fun h : lost = false => lost_lt (hlost.trans h)
 clear hpz hsum hpast h32b
 simp only [nc] at hz
 simp only [nc'] at hz
 have hyl := lenZ b2 hz
 clear hz
 generalize z = yl at *
 refine mintT hlp 1 6 rfl ?_
 refine loopT (ι := Int × List (List PV) × Nat) mixed tt_ok hcp hcc hlp [1, 2, 30, 31] (fun p => [(6, .tok 1 p.2.1), (32, .p (.int .i64 p.1))]) (fun p => [.cells [.p (.int .i64 op), .p (.str tb), .p (.sl E), .p (.sl Cc), .p (.sl Kk), .p (.sl A), .p (.int .i64 fn), .p (.int .i64 cl), .p (.int .i64 n), .p (.int .i64 off), .p (.sl R)], .spare p.2.2 1])
   (fun p => Rng cs.length yl p.1 ∧ ((cs.take p.1.toNat).map (atK K)).map i64c = p.2.1 ∧ p.2.1.length = p.2.2) (fun p => (yl - p.1).toNat) (0, [], 0) 2 (fun _ => rfl) ⟨Rng.start hyl (by omega), rfl, rfl⟩ ⟨rfl, rfl, trivial⟩ rfl ?_
 rintro R2 ⟨i, C1, m1⟩ ⟨rg, hC1, hm1⟩ hR
 replace rg : Rng cs.length yl i := rg
 replace hC1 : ((cs.take i.toNat).map (atK K)).map i64c = C1 := hC1
 replace hm1 : C1.length = m1 := hm1
 have hok : okEs 1 C1 = true := by rw [← hC1]; exact ok_map _
 have hcl : C1.length ≤ 32 := by rw [← hC1, List.length_map, List.length_map, List.length_take]; omega
 have hin : ∀ {x : Int}, cs[i.toNat]? = some x → 0 ≤ x ∧ x < (K.length : Int) := fun hx => ⟨hc0 _ (List.mem_of_getElem? hx), hclt _ (List.mem_of_getElem? hx)⟩
 repeat' (first
   | (with_reducible refine Nm.mk ?_; intro z hz)
   | (with_reducible refine IfB.mk ?_ ?_ <;> (intro h; cases h))
   | (with_reducible refine Two.l ?_; refine Asm.mk ?_ ?_; focus (decide +kernel))
   | (with_reducible refine Two.r ?_)
   | (with_reducible refine TwoT.r ?_)
   | (with_reducible refine Asm.mk ?_ ?_; focus (first | (refine ⟨hm1.symm, rfl, hok, rfl, ?_, ?_⟩ <;> (clear hR hQ; simp only [List.length_cons, List.length_nil, maxLen]; omega)) | (show (_ : Bool) = true; kernel_rfl)))
   | (with_reducible refine Ix.map hcs i64c_len (by decide) rg.lo (rg.lt (by assumption)) ?_; intro x hx)
   | (with_reducible refine Ix.map hC i64c_len (by decide) (hin hx).1 (hin hx).2 ?_; intro y hy)
   | (with_reducible refine Asm.mk2 ?_ ?_)
   | ((fail_if_success (with_reducible first | refine hQ _ ?_ | refine Side.mk ?_ | refine isCP hcp ?_ | refine isCC hcc ?_ | refine isLP hlp ?_ | refine Ix.mk ?_ | refine SIx.mk ?_ | refine SEx.mk ?_ | refine EIx.mk ?_ | refine RIx.mk ?_ | refine LkX.mk ?_ | show False | refine hR ?_ _ ?_ ?_ ?_ ?_ ?_ | refine hR2 ?_ _ ?_ ?_ ?_ ?_ ?_)); cbv))
 · have hlt : decide (i < yl) = true := by assumption
   rename_i L3 hL3 m3 hm3
   rw [rg.wrap hlt] at hz
   refine hR (i + 1, L3, m3) _ ⟨rg.next hlt, ?_, by show L3.length = m3; rw [← hL3, ← hm3, List.length_append]⟩ (rg.less hlt) ⟨rfl, hz ▸ rfl, trivial⟩ ⟨rfl, rfl, rfl, rfl, trivial⟩ rfl
   show ((cs.take (i + 1).toNat).map (atK K)).map i64c = L3
   rw [rg.take hx, List.map_append, List.map_append, hC1, ← hL3, ← atK_get hy]
   rfl
 have hC2 : (cs.map (atK K)).map i64c = C1 := by rw [← hC1, rg.take_ rfl (by assumption)]
 have hl2 : C1.length = cs.length := by rw [← hC2, List.length_map, List.length_map]
 clear hR hin hC1 hok hcl rg
 simp only [nc] at hz
 simp only [nc'] at hz
 have hxl := lenZ b3 hz
 clear hz
 generalize z = xl at *
 refine loopT (ι := Int) mixed tt_ok hcp hcc hlp [1, 2, 6, 45, 46] (fun i => [(47, .p (.int .i64 i))]) (fun _ => [.cells [.p (.int .i64 op), .p (.str tb), .p (.sl E), .p (.sl Cc), .p (.sl Kk), .p (.sl A), .p (.int .i64 fn), .p (.int .i64 cl), .p (.int .i64 n), .p (.int .i64 off), .p (.sl R)], .spare m1 1])
   (fun i => Rng ag.length xl i ∧ lostA (K.length : Int) (ag.drop i.toNat) = lost) (fun i => (xl - i).toNat) 0 2 (fun _ => rfl) ⟨Rng.start hxl (by omega), hlost⟩ ⟨rfl, trivial⟩ rfl ?_
 rintro R1 i ⟨rg, hf⟩ hR
 have hst : ∀ {x : Int × Int}, ag[i.toNat]? = some x → ((!decide (x.1 = 1) && decide ((K.length : Int) ≤ x.2)) || lostA (K.length : Int) (ag.drop (i + 1).toNat)) = lost := by
   intro x hx; rw [← hf, rg.step hx, lostA, lostA, List.any_cons]
 have hout : decide (i < xl) = false → lost = false := by
   intro h; rw [← hf, rg.end_ rfl h]; rfl
 have hge : ∀ {z y : Int}, (C.length : Int) = z → decide (z ≤ y) = decide ((K.length : Int) ≤ y) := by rintro z y rfl; rw [b1]
 repeat' (first
   | (with_reducible refine Nm.mk ?_; intro z hz)
   | (with_reducible refine IfB.mk ?_ ?_ <;> (intro h; cases h))
   | (with_reducible refine Two.l ?_; refine Asm.mk ?_ ?_; focus (decide +kernel))
   | (with_reducible refine Two.r ?_)
   | (with_reducible refine TwoT.r ?_)
   | (with_reducible refine Asm.mk ?_ ?_; focus kernel_rfl)
   | (with_reducible refine Ix.map hA aggc_len (by decide) rg.lo (rg.lt (by assumption)) ?_; intro x hx)
   | (with_reducible refine Asm.mk2 ?_ ?_)
   | ((fail_if_success (with_reducible first | refine hQ _ ?_ | refine Side.mk ?_ | refine isCP hcp ?_ | refine isCC hcc ?_ | refine isLP hlp ?_ | refine Ix.mk ?_ | refine SIx.mk ?_ | refine SEx.mk ?_ | refine EIx.mk ?_ | refine RIx.mk ?_ | refine LkX.mk ?_ | show False | refine hR ?_ _ ?_ ?_ ?_ ?_ ?_ | refine hR2 ?_ _ ?_ ?_ ?_ ?_ ?_)); cbv))
 all_goals first
   | (have hlt : decide (i < xl) = true := by assumption
      rw [rg.wrap hlt] at hz
      refine hR (i + 1) _ ⟨rg.next hlt, ?_⟩ (rg.less hlt) ⟨hz ▸ rfl, trivial⟩ ⟨rfl, rfl, rfl, rfl, rfl, trivial⟩ rfl
      rw [← hst hx]
      first
        | (have hg1 := hge (y := x.2) (by assumption)
           have hn1 : (!decide (x.1 = 1)) = true := by assumption
           have hb : decide ((K.length : Int) ≤ x.2) = false := hg1.symm.trans (by assumption)
           rw [hb, Bool.and_false]; rfl)
        | (have hn1 : (!decide (x.1 = 1)) = false := by assumption
           rw [hn1]; rfl))
   | (have hg1 := hge (y := x.2) (by assumption)
      have hn1 : (!decide (x.1 = 1)) = true := by assumption
      have hb : decide ((K.length : Int) ≤ x.2) = true := hg1.symm.trans (by assumption)
      have e := hlos (.inr (.inr (by rw [← hst hx, hn1, hb]; rfl)))
      refine hQ _ ?_
      rw [e.1, e.2]; rfl)
   | skip
 have hl0 := hout (by assumption)
 have hag := hgo hl0
 replace halt := halt hl0
 clear hR hst hout hge hf rg hlos hgo
 simp only [nc] at hz
 simp only [nc'] at hz
 have hwl := lenZ b3 hz
 clear hz
 generalize z = wl at *
 refine loopT (ι := Int × List Int × List (List PV) × Nat) mixed tt_ok hcp hcc hlp [1, 2, 63, 64] (fun p => [(6, .tok 1 p.2.2.1), (65, .p (.int .i64 p.1))]) (fun p => [.cells [.p (.int .i64 op), .p (.str tb), .p (.sl E), .p (.sl Cc), .p (.sl Kk), .p (.sl A), .p (.int .i64 fn), .p (.int .i64 cl), .p (.int .i64 n), .p (.int .i64 off), .p (.sl R)], .spare p.2.2.2 1])
   (fun p => Rng ag.length wl p.1 ∧ aggL K (ag.drop p.1.toNat) p.2.1 = (L, er) ∧ p.2.1.map i64c = p.2.2.1 ∧ p.2.2.1.length = p.2.2.2 ∧ p.2.1.length = cs.length + p.1.toNat) (fun p => (wl - p.1).toNat) (0, cs.map (atK K), C1, m1) 2 (fun _ => rfl) ⟨Rng.start hwl (by omega), hag, hC2, hm1, by simp⟩ ⟨rfl, rfl, trivial⟩ rfl ?_
 rintro R3 ⟨j, acc, C4, m4⟩ ⟨rj, hf, hC4, hm4, hacc⟩ hR
 replace rj : Rng ag.length wl j := rj
 replace hf : aggL K (ag.drop j.toNat) acc = (L, er) := hf
 replace hC4 : acc.map i64c = C4 := hC4
 replace hm4 : C4.length = m4 := hm4
 replace hacc : acc.length = cs.length + j.toNat := hacc
 have hok4 : okEs 1 C4 = true := by rw [← hC4]; exact ok_map _
 have hcl4 : C4.length ≤ 32 := by rw [← hC4, List.length_map, hacc]; have := rj.hi; have := rj.len; omega
 have hax : ∀ {x : Int × Int}, ag[j.toNat]? = some x → 0 ≤ x.2 := fun hx => ha0 _ (List.mem_of_getElem? hx)
 have hlx : ∀ {x : Int × Int}, ag[j.toNat]? = some x → (decide (x.1 = 3) = true ∨ decide (x.1 = 4) = true ∨ decide (x.1 = 5) = true) → x.2 < (K.length : Int) := by
   intro x hx h
   refine halt _ (List.mem_of_getElem? hx) ?_
   simp only [decide_eq_true_eq] at h
   omega
 have hst : ∀ {x : Int × Int}, ag[j.toNat]? = some x → (if x.1 = 3 ∧ atK K x.2 = 2 then (([] : List Int), (4 : Int)) else aggL K (ag.drop (j + 1).toNat) (acc ++ [if x.1 = 4 ∨ x.1 = 5 then atK K x.2 else 1])) = (L, er) := by
   intro x hx; rw [← hf, rj.step hx, aggL]
 have hout : decide (j < wl) = false → (acc, (0 : Int)) = (L, er) := by
   intro h; rw [← hf, rj.end_ rfl h]; rfl
 have h12 : ∀ {c y : Int}, K[c.toNat]? = some y → (¬ y = 1 ↔ y = 2) := by
   intro c y h
   have := hk12 y (List.mem_of_getElem? h)
   omega
 repeat' (first
   | (with_reducible refine Nm.mk ?_; intro z hz)
   | (with_reducible refine IfB.mk ?_ ?_ <;> (intro h; cases h))
   | (with_reducible refine Two.l ?_; refine Asm.mk ?_ ?_; focus (decide +kernel))
   | (with_reducible refine Two.r ?_)
   | (with_reducible refine TwoT.r ?_)
   | (with_reducible refine Asm.mk ?_ ?_; focus (first | (refine ⟨hm4.symm, rfl, hok4, rfl, ?_, ?_⟩ <;> (clear hR hQ; simp only [List.length_cons, List.length_nil, maxLen]; omega)) | (show (_ : Bool) = true; kernel_rfl)))
   | (with_reducible refine Ix.map hA aggc_len (by decide) rj.lo (rj.lt (by assumption)) ?_; intro x hx)
   | (with_reducible refine Ix.map hC i64c_len (by decide) (hax hx) (hlx hx (by first | exact .inl (by assumption) | exact .inr (.inl (by assumption)) | exact .inr (.inr (by assumption)))) ?_; intro y hy)
   | (with_reducible refine Asm.mk2 ?_ ?_)
   | ((fail_if_success (with_reducible first | refine hQ _ ?_ | refine Side.mk ?_ | refine isCP hcp ?_ | refine isCC hcc ?_ | refine isLP hlp ?_ | refine Ix.mk ?_ | refine SIx.mk ?_ | refine SEx.mk ?_ | refine EIx.mk ?_ | refine RIx.mk ?_ | refine LkX.mk ?_ | show False | refine hR ?_ _ ?_ ?_ ?_ ?_ ?_ | refine hR2 ?_ _ ?_ ?_ ?_ ?_ ?_)); cbv))
 all_goals first
   | (have e := hout (by assumption)
      simp only [Prod.mk.injEq] at e
      refine hQ _ ?_
      rw [← e.1, ← e.2, hC4]
      done)
   | (have h3 : x.1 = 3 := of_decide_eq_true (by assumption)
      have h45 : x.1 = 4 ∨ x.1 = 5 := by first | exact .inl (of_decide_eq_true (by assumption)) | exact .inr (of_decide_eq_true (by assumption))
      exfalso; omega)
   | (have h3 : x.1 = 3 := of_decide_eq_true (by assumption)
      have h2 : y = 2 := (h12 hy).1 (by have h : (!decide (y = 1)) = true := by assumption
                                        simpa using h)
      have e := hst hx
      rw [if_pos ⟨h3, (atK_get hy).trans h2⟩] at e
      simp only [Prod.mk.injEq] at e
      refine hQ _ ?_
      rw [← e.1, ← e.2]; rfl)
   | (have hlt : decide (j < wl) = true := by assumption
      rw [rj.wrap hlt] at hz
      rename_i C5 hC5 m5 hm5
      have hm6 : C5.length = m5 := by rw [← hC5, ← hm5, List.length_append]
      have e := hst hx
      first
        | (have h45 : x.1 = 4 ∨ x.1 = 5 := by first | exact .inl (of_decide_eq_true (by assumption)) | exact .inr (of_decide_eq_true (by assumption))
           rw [if_neg (by rintro ⟨h, _⟩; omega), if_pos h45, atK_get hy] at e
           exact hR (j + 1, acc ++ [y], C5, m5) _ ⟨rj.next hlt, e, by show (acc ++ [y]).map i64c = C5; rw [← hC5, ← hC4, List.map_append]; rfl, hm6, by show (acc ++ [y]).length = cs.length + (j + 1).toNat; rw [List.length_append, hacc, rj.toNat]; rfl⟩ (rj.less hlt) ⟨rfl, hz ▸ rfl, trivial⟩ ⟨rfl, rfl, rfl, rfl, trivial⟩ rfl)
        | (have h4 : ¬ x.1 = 4 := of_decide_eq_false (by assumption)
           have h5 : ¬ x.1 = 5 := of_decide_eq_false (by assumption)
           rw [if_neg (by
             rintro ⟨h, h'⟩
             first
               | exact absurd h (of_decide_eq_false (by assumption))
               | (rw [atK_get hy] at h'
                  have h1 : (!decide (y = 1)) = false := by assumption
                  have h1 : y = 1 := by simpa using h1
                  omega)), if_neg (by omega)] at e
           exact hR (j + 1, acc ++ [1], C5, m5) _ ⟨rj.next hlt, e, by show (acc ++ [1]).map i64c = C5; rw [← hC5, ← hC4, List.map_append]; rfl, hm6, by show (acc ++ [1]).length = cs.length + (j + 1).toNat; rw [List.length_append, hacc, rj.toNat]; rfl⟩ (rj.less hlt) ⟨rfl, hz ▸ rfl, trivial⟩ ⟨rfl, rfl, rfl, rfl, trivial⟩ rfl))
end Go.Proofs.YtlabphnonlicdaaGreat
