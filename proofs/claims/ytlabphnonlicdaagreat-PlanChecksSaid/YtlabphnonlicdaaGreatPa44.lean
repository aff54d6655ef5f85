/- Plans: numbers that are unlike, none below 0; aggregates; Plans: what an operator asks of its own fields; Plans: tables that are good but for their rows, by both; Plans: kinds, plain: what is known of them; Plans: tables that are good but for their rows: the document's walk; Plans: tables that are good, by the document; Plans: a window's kinds, by both; Plans: tables that are good but for their rows: the program's walk; Plans: tables that are good, by the document: the walk; Plans: tables that are good, by the program. Own work; no condition. -/
import Derived.Test.YtlabphnonlicdaaGreatPa38
import Derived.Test.YtlabphnonlicdaaGreatPa43
import Derived.Test.YtlabphnonlicdaaGreatPa41
import Derived.Test.YtlabphnonlicdaaGreatPa39
import Derived.Test.YtlabphnonlicdaaGreatPa37
namespace Go.Proofs.YtlabphnonlicdaaGreat
open Go Go.RowKit
set_option maxRecDepth 100000
set_option linter.unusedSimpArgs false
set_option linter.unusedVariables false
theorem nodup_le : ∀ (c l : List Int), c.Nodup → (∀ x, x ∈ c → x ∈ l) → c.length ≤ l.length
 | [], l, _, _ => Nat.zero_le _
 | a :: r, l, hn, hs => by
   rw [List.nodup_cons] at hn
   have ha := hs a (by simp)
   have h := nodup_le r (l.erase a) hn.2 fun x hx => (List.mem_erase_of_ne (fun e => by subst e; exact hn.1 hx)).2 (hs x (by simp [hx]))
   rw [List.length_erase_of_mem ha] at h
   have := List.length_pos_of_mem ha
   rw [List.length_cons]; omega
theorem dup_lt : ∀ l : List Int, ¬ l.Nodup → ∃ l' : List Int, l'.length < l.length ∧ ∀ x, x ∈ l → x ∈ l'
 | [], h => absurd List.nodup_nil h
 | a :: r, h => by
   by_cases ha : a ∈ r
   · exact ⟨r, by simp, fun x hx => by rcases List.mem_cons.1 hx with e | e; exact e ▸ ha; exact e⟩
   · obtain ⟨l', h1, h2⟩ := dup_lt r fun hr => h (List.nodup_cons.2 ⟨ha, hr⟩)
     exact ⟨a :: l', by simp only [List.length_cons]; omega, fun x hx => by rcases List.mem_cons.1 hx with e | e; exact e ▸ List.mem_cons_self; exact List.mem_cons_of_mem _ (h2 x e)⟩
theorem dist_len (l : List Int) : (compZ (sortZ l)).length = l.length ↔ l.Nodup := by
 have hn : (compZ (sortZ l)).Nodup := (cols_rise l).imp (fun h => by omega)
 have hle : (compZ (sortZ l)).length ≤ l.length := by have := compZ_len (sortZ l); rw [sortZ_len] at this; exact this
 constructor
 · intro he
   by_cases h : l.Nodup
   · exact h
   · obtain ⟨l', h1, h2⟩ := dup_lt l h
     have := nodup_le _ l' hn fun x hx => h2 x ((cols_mem x l).1 hx)
     omega
 · intro h
   have := nodup_le l _ h fun x hx => (cols_mem x l).2 hx
   omega
theorem dist_low {l : List Int} {x : Int} (h0 : l.length ≠ 0) (h : (padZ (sortZ l))[0]? = some x) : decide (0 ≤ x) = !(lowM l) := by
 have hne : compZ (sortZ l) ≠ [] := by
   intro e
   obtain ⟨a, ha⟩ := List.exists_mem_of_length_pos (Nat.pos_of_ne_zero h0)
   have := (cols_mem a l).2 ha
   rw [e] at this; cases this
 obtain ⟨y, r, hr⟩ := List.exists_cons_of_ne_nil hne
 rw [padZ, hr] at h
 have hyx : y = x := by simpa using h
 subst hyx
 have hmin : ∀ a, a ∈ l → y ≤ a := by
   intro a ha
   have h1 := (cols_mem a l).2 ha
   have h2 := cols_rise l
   rw [hr] at h1 h2
   rcases List.mem_cons.1 h1 with e | e
   · omega
   · have := (List.pairwise_cons.1 h2).1 a e; omega
 have hy : y ∈ l := (cols_mem y l).1 (by rw [hr]; simp)
 rw [Bool.eq_iff_iff, decide_eq_true_eq, Bool.not_eq_true', lowM, ← Bool.not_eq_true, List.any_eq_true]
 constructor
 · rintro h ⟨a, ha, h2⟩
   have := hmin a ha
   simp only [decide_eq_true_eq] at h2; omega
 · intro h
   by_cases hy0 : 0 ≤ y
   · exact hy0
   · exact absurd ⟨y, hy, by simp only [decide_eq_true_eq]; omega⟩ h
theorem distinct_c (l : List Int) (C : List (List PV)) (hC : l.map i64c = C) (hb : l.length * 8 ≤ 140737488351232) : PCall Tryz.prog 69 [.sl C] fun r => r = [.bool (distinctM l)] := by
 have b1 : C.length = l.length := by rw [← hC]; simp
 obtain ⟨n, hn⟩ : ∃ n, C.length = n := ⟨_, rfl⟩
 have hsl : ∀ {C2 : List (List PV)}, (sortZ l).map i64c = C2 → C2.length = n := by
   intro C2 h; rw [← h, List.length_map, sortZ_len, ← hn, b1]
 obtain ⟨x, hx⟩ : ∃ x, l.length ≠ 0 → (padZ (sortZ l))[0]? = some x := by
   by_cases h : l.length = 0
   · exact ⟨0, fun h' => absurd h h'⟩
   · have : 0 < (padZ (sortZ l)).length := by rw [padZ_len, sortZ_len]; omega
     exact ⟨_, fun _ => List.getElem?_eq_getElem this⟩
 have hnz : ∀ {z : Int}, (n : Int) = z → decide (z = 0) = false → l.length ≠ 0 := by
   rintro z rfl h; simp only [decide_eq_false_iff_not] at h; omega
 have hpos : l.length ≠ 0 → (0 : Int) < n := by omega
 have hC3x : l.length ≠ 0 → ∀ {C3 : List (List PV)}, (padZ (sortZ l)).map i64c = C3 → C3[0]? = some (i64c x) := by
   rintro h C3 rfl; rw [List.getElem?_map, hx h]; rfl
 have hdl := dist_len l
 have hoz : ∀ {z : Nat}, (0 + Int.toNat 0) * 1 = z → 0 * 1 = z := fun h => h
 have hzz : ∀ {n3 : Nat} {z z' : Int}, (compZ (sortZ l)).length = n3 → (n3 : Int) = z → (C.length : Int) = z' → (decide (z = z') = true → unlikeM l = true) ∧ (decide (z = z') = false → unlikeM l = false) := by
   rintro n3 z z' rfl rfl rfl
   rw [unlikeM]
   simp only [decide_eq_true_eq, decide_eq_false_iff_not]
   rw [← hdl]
   omega
 refine PCall.x (nt := 25) (res := [.tmp 2]) mixed tt_ok [] Tryz.func69 rfl rfl rfl c69 (Nat.le_of_ble_eq_true rfl) ?_
 intro cp cc lp Q' hcp hcc hlp hQ
 repeat' (first
   | (with_reducible refine Nm.mk ?_; intro z hz)
   | (with_reducible refine IfB.mk ?_ ?_ <;> (intro h; cases h))
   | (with_reducible refine Two.l ?_; refine Asm.mk ?_ ?_; focus (decide +kernel))
   | (with_reducible refine Two.r ?_)
   | (with_reducible refine TwoT.r ?_)
   | (with_reducible refine Asm.mk ?_ ?_; focus (first | exact ⟨Int.le_refl 0, hpos (hnz (by assumption) (by assumption))⟩ | kernel_rfl))
   | (with_reducible refine isCC hcc ?_; refine cloneCC hcc rfl hC (by omega) hn ?_)
   | (with_reducible refine isCC hcc ?_; refine sortCC hcc 0 0 n l rfl rfl hC hn (by omega) ?_; intro C2 hC2)
   | (with_reducible refine isCC hcc ?_; refine compactCC hcc 0 0 n (sortZ l) rfl rfl hC2 (hsl hC2) (by omega) ?_; intro C3 n3 hC3 hn3)
   | (with_reducible refine EIx.at_ 0 (i64c x) (hoz (by assumption)) (hC3x (hnz (by assumption) (by assumption)) hC3) ?_)
   | (with_reducible refine Asm.mk2 ?_ ?_)
   | ((fail_if_success (with_reducible first | refine hQ _ ?_ | refine Side.mk ?_ | refine isCP hcp ?_ | refine isCC hcc ?_ | refine isLP hlp ?_ | refine Ix.mk ?_ | refine SIx.mk ?_ | refine SEx.mk ?_ | refine EIx.mk ?_ | refine RIx.mk ?_ | refine LkX.mk ?_ | show False | refine hR ?_ _ ?_ ?_ ?_ ?_ ?_ | refine hR2 ?_ _ ?_ ?_ ?_ ?_ ?_)); cbv))
 all_goals (refine hQ _ ?_)
 · have hu := (hzz hn3 (by assumption) (by assumption)).1 (by assumption)
   have h0 : l.length = 0 := by
     rename_i h1 _ ; clear hQ hcp hcc hlp; simp only [decide_eq_true_eq] at *; try simp only [nc] at *
     try simp only [nc'] at *
     omega
   rw [distinctM, hu, List.length_eq_zero_iff.1 h0]; rfl
 · have hu := (hzz hn3 (by assumption) (by assumption)).1 (by assumption)
   have hl := hnz (by assumption) (by assumption)
   rw [distinctM, hu, ← dist_low hl (hx hl), ← hz]; rfl
 · have hu := (hzz hn3 (by assumption) (by assumption)).2 (by assumption)
   rw [distinctM, hu]; rfl
theorem aggs_c (l : List (Int × Int)) (C : List (List PV)) (hC : l.map aggc = C) (hb : l.length * 16 ≤ 140737488351232) : PCall Tryz.prog 56 [.sl C] fun r => r = [.bool (aggsM l)] := by
 have b1 : C.length = l.length := by rw [← hC]; simp
 obtain ⟨q, hq⟩ : ∃ q, (l.all fun a => !(decide (a.1 < 1) || decide (6 < a.1) || decide (a.2 < 0) || (decide (a.1 = 1) && !decide (a.2 = 0)))) = q := ⟨_, rfl⟩
 rw [aggsM, hq]
 refine PCall.x (nt := 35) (res := [.tmp 2]) mixed tt_ok [] Tryz.func56 rfl rfl rfl c56 (Nat.le_of_ble_eq_true rfl) ?_
 intro cp cc lp Q' hcp hcc hlp hQ
 repeat' (first
   | (with_reducible refine Nm.mk ?_; intro z hz)
   | (with_reducible refine IfB.mk ?_ ?_ <;> (intro h; cases h))
   | (with_reducible refine Two.l ?_; refine Asm.mk ?_ ?_; focus (decide +kernel))
   | (with_reducible refine Two.r ?_)
   | (with_reducible refine TwoT.r ?_)
   | (with_reducible refine Asm.mk ?_ ?_; focus (first | kernel_rfl | decide))
   | (with_reducible refine Asm.mk2 ?_ ?_)
   | ((fail_if_success (with_reducible first | refine hQ _ ?_ | refine Side.mk ?_ | refine isCP hcp ?_ | refine isCC hcc ?_ | refine isLP hlp ?_ | refine Ix.mk ?_ | refine SIx.mk ?_ | refine SEx.mk ?_ | refine EIx.mk ?_ | refine RIx.mk ?_ | refine LkX.mk ?_ | show False | refine hR ?_ _ ?_ ?_ ?_ ?_ ?_ | refine hR2 ?_ _ ?_ ?_ ?_ ?_ ?_)); cbv))
 simp only [nc] at hz
 simp only [nc'] at hz
 have hzl := lenZ b1 hz
 clear hz
 generalize z = zl at *
 refine loopK (ι := Int) mixed tt_ok hcp hcc hlp [5, 6] (fun i => [(7, .p (.int .i64 i))]) (fun i => Rng l.length zl i ∧ ((l.drop i.toNat).all fun a => !(decide (a.1 < 1) || decide (6 < a.1) || decide (a.2 < 0) || (decide (a.1 = 1) && !decide (a.2 = 0)))) = q) (fun i => (zl - i).toNat) 0 (fun _ => rfl) ⟨Rng.start hzl (by omega), hq⟩ ⟨rfl, trivial⟩ ?_
 rintro R i ⟨rg, hf⟩ hR
 have hbad : ∀ x, l[i.toNat]? = some x → (x.1 < 1 ∨ 6 < x.1 ∨ x.2 < 0 ∨ (x.1 = 1 ∧ ¬ x.2 = 0)) → q = false := by
   intro x hx h; rw [← hf, rg.step hx, List.all_cons, Bool.and_eq_false_iff]; left; simp; omega
 have hgood : ∀ x, l[i.toNat]? = some x → ¬ (x.1 < 1 ∨ 6 < x.1 ∨ x.2 < 0 ∨ (x.1 = 1 ∧ ¬ x.2 = 0)) → ((l.drop (i + 1).toNat).all fun a => !(decide (a.1 < 1) || decide (6 < a.1) || decide (a.2 < 0) || (decide (a.1 = 1) && !decide (a.2 = 0)))) = q := by
   intro x hx h
   rw [← hf, rg.step hx, List.all_cons]
   have : (!(decide (x.1 < 1) || decide (6 < x.1) || decide (x.2 < 0) || (decide (x.1 = 1) && !decide (x.2 = 0)))) = true := by simp; omega
   rw [this, Bool.true_and]
 have hout : decide (i < zl) = false → q = true := by
   intro h; rw [← hf, rg.end_ rfl h]; rfl
 repeat' (first
   | (with_reducible refine Nm.mk ?_; intro z hz)
   | (with_reducible refine IfB.mk ?_ ?_ <;> (intro h; cases h))
   | (with_reducible refine Two.l ?_; refine Asm.mk ?_ ?_; focus (decide +kernel))
   | (with_reducible refine Two.r ?_)
   | (with_reducible refine TwoT.r ?_)
   | (with_reducible refine Asm.mk ?_ ?_; focus kernel_rfl)
   | (with_reducible refine Ix.map hC aggc_len (by decide) rg.lo (rg.lt (by assumption)) ?_; intro x hx)
   | (with_reducible refine Asm.mk2 ?_ ?_)
   | ((fail_if_success (with_reducible first | refine hQ _ ?_ | refine Side.mk ?_ | refine isCP hcp ?_ | refine isCC hcc ?_ | refine isLP hlp ?_ | refine Ix.mk ?_ | refine SIx.mk ?_ | refine SEx.mk ?_ | refine EIx.mk ?_ | refine RIx.mk ?_ | refine LkX.mk ?_ | show False | refine hR ?_ _ ?_ ?_ ?_ ?_ ?_ | refine hR2 ?_ _ ?_ ?_ ?_ ?_ ?_)); cbv))
 all_goals first
   | (refine hQ _ ?_; rw [hout (by assumption)]; done)
   | (refine hQ _ ?_; rw [hbad _ hx (by clear hR hQ hcp hcc hlp hbad hgood hout; simp only [Bool.not_eq_true', Bool.not_eq_false', decide_eq_true_eq, decide_eq_false_iff_not] at *; omega)]; done)
   | (have hlt : decide (i < zl) = true := by assumption
      rw [rg.wrap hlt] at hz
      exact hR (i + 1) _ ⟨rg.next hlt, hgood _ hx (by clear hR hQ hcp hcc hlp hbad hgood hout; simp only [Bool.not_eq_true', Bool.not_eq_false', decide_eq_true_eq, decide_eq_false_iff_not] at *; omega)⟩ (rg.less hlt) ⟨hz ▸ rfl, trivial⟩ ⟨rfl, rfl, trivial⟩ rfl)
theorem rkindsOK_c (l : List Int) (C : List (List PV)) (hC : l.map i64c = C) (hb : l.length * 8 ≤ 140737488351232) : PCall Tryz.prog 24 [.sl C] fun r => r = [.bool (kindsOKM l)] := by
 have b1 : C.length = l.length := by rw [← hC]; simp
 obtain ⟨q, hq⟩ : ∃ q, l.all kOK = q := ⟨_, rfl⟩
 rw [kindsOKM, hq]
 have hl1 : ∀ {z : Int}, (C.length : Int) = z → (decide (z < 1) = true → decide (1 ≤ l.length) = false) ∧ (decide (32 < z) = true → decide (l.length ≤ 32) = false) ∧ (decide (z < 1) = false → decide (32 < z) = false → (decide (1 ≤ l.length) && decide (l.length ≤ 32)) = true) := by
   rintro z rfl
   simp only [decide_eq_true_eq, decide_eq_false_iff_not, Bool.and_eq_true]
   omega
 refine PCall.x (nt := 26) (res := [.tmp 2]) mixed tt_ok [] Tryz.func24 rfl rfl rfl c24 (Nat.le_of_ble_eq_true rfl) ?_
 intro cp cc lp Q' hcp hcc hlp hQ
 repeat' (first
   | (with_reducible refine Nm.mk ?_; intro z hz)
   | (with_reducible refine IfB.mk ?_ ?_ <;> (intro h; cases h))
   | (with_reducible refine Two.l ?_; refine Asm.mk ?_ ?_; focus (decide +kernel))
   | (with_reducible refine Two.r ?_)
   | (with_reducible refine TwoT.r ?_)
   | (with_reducible refine Asm.mk ?_ ?_; focus (first | kernel_rfl | decide))
   | (with_reducible refine Asm.mk2 ?_ ?_)
   | ((fail_if_success (with_reducible first | refine hQ _ ?_ | refine Side.mk ?_ | refine isCP hcp ?_ | refine isCC hcc ?_ | refine isLP hlp ?_ | refine Ix.mk ?_ | refine SIx.mk ?_ | refine SEx.mk ?_ | refine EIx.mk ?_ | refine RIx.mk ?_ | refine LkX.mk ?_ | show False | refine hR ?_ _ ?_ ?_ ?_ ?_ ?_ | refine hR2 ?_ _ ?_ ?_ ?_ ?_ ?_)); cbv))
 · refine hQ _ ?_
   rw [(hl1 (by assumption)).1 hz]; rfl
 · refine hQ _ ?_
   rw [(hl1 (by assumption)).2.1 hz, Bool.and_false]; rfl
 · simp only [nc] at hz
   simp only [nc'] at hz
   have hzl := lenZ b1 hz
   have hin : (decide (1 ≤ l.length) && decide (l.length ≤ 32)) = true := by
     rename_i h1 h2 h3 h4
     clear hQ hcp hcc hlp hz hzl
     simp only [decide_eq_true_eq, decide_eq_false_iff_not, Bool.and_eq_true] at *
     try simp only [nc] at *
     try simp only [nc'] at *
     omega
   rw [hin, Bool.true_and] at hQ
   clear hz
   generalize z = zl at *
   refine loopK (ι := Int) mixed tt_ok hcp hcc hlp [13, 14] (fun i => [(15, .p (.int .i64 i))]) (fun i => Rng l.length zl i ∧ (l.drop i.toNat).all kOK = q) (fun i => (zl - i).toNat) 0 (fun _ => rfl) ⟨Rng.start hzl (by omega), hq⟩ ⟨rfl, trivial⟩ ?_
   rintro R i ⟨rg, hf⟩ hR
   have hbad : ∀ x, l[i.toNat]? = some x → (¬ x = 1 ∧ ¬ x = 2) → q = false := by
     intro x hx h; rw [← hf, rg.step hx, List.all_cons, Bool.and_eq_false_iff]; left; simp [kOK]; omega
   have hgood : ∀ x, l[i.toNat]? = some x → ¬ (¬ x = 1 ∧ ¬ x = 2) → (l.drop (i + 1).toNat).all kOK = q := by
     intro x hx h
     rw [← hf, rg.step hx, List.all_cons]
     have : kOK x = true := by simp [kOK]; omega
     rw [this, Bool.true_and]
   have hout : decide (i < zl) = false → q = true := by
     intro h; rw [← hf, rg.end_ rfl h]; rfl
   repeat' (first
     | (with_reducible refine Nm.mk ?_; intro z hz)
     | (with_reducible refine IfB.mk ?_ ?_ <;> (intro h; cases h))
     | (with_reducible refine Two.l ?_; refine Asm.mk ?_ ?_; focus (decide +kernel))
     | (with_reducible refine Two.r ?_)
     | (with_reducible refine TwoT.r ?_)
     | (with_reducible refine Asm.mk ?_ ?_; focus kernel_rfl)
     | (with_reducible refine Ix.map hC i64c_len (by decide) rg.lo (rg.lt (by assumption)) ?_; intro x hx)
     | (with_reducible refine Asm.mk2 ?_ ?_)
     | ((fail_if_success (with_reducible first | refine hQ _ ?_ | refine Side.mk ?_ | refine isCP hcp ?_ | refine isCC hcc ?_ | refine isLP hlp ?_ | refine Ix.mk ?_ | refine SIx.mk ?_ | refine SEx.mk ?_ | refine EIx.mk ?_ | refine RIx.mk ?_ | refine LkX.mk ?_ | show False | refine hR ?_ _ ?_ ?_ ?_ ?_ ?_ | refine hR2 ?_ _ ?_ ?_ ?_ ?_ ?_)); cbv))
   all_goals first
     | (refine hQ _ ?_; rw [hout (by assumption)]; done)
     | (refine hQ _ ?_; rw [hbad _ hx (by clear hR hQ hcp hcc hlp hbad hgood hout; simp only [Bool.not_eq_true', Bool.not_eq_false', decide_eq_true_eq, decide_eq_false_iff_not] at *; omega)]; done)
     | (have hlt : decide (i < zl) = true := by assumption
        rw [rg.wrap hlt] at hz
        exact hR (i + 1) _ ⟨rg.next hlt, hgood _ hx (by clear hR hQ hcp hcc hlp hbad hgood hout; simp only [Bool.not_eq_true', Bool.not_eq_false', decide_eq_true_eq, decide_eq_false_iff_not] at *; omega)⟩ (rg.less hlt) ⟨hz ▸ rfl, trivial⟩ ⟨rfl, rfl, trivial⟩ rfl)
end Go.Proofs.YtlabphnonlicdaaGreat

namespace Go.Proofs.YtlabphnonlicdaaGreat
open Go Go.RowKit
set_option maxRecDepth 100000
set_option linter.unusedSimpArgs false
set_option linter.unusedVariables false
set_option maxHeartbeats 4000000 in
theorem own_c (op : Int) (tb : ByteArray) (E C K A R : List (List PV)) (fn cl n off : Int) (cs : List Int) (ks : List (Int × Bool)) (ag : List (Int × Int)) (hC : cs.map i64c = C) (hK : ks.map keyc = K) (hA : ag.map aggc = A)
   (wt : wideM 1 tb.size) (wc : wideM 8 cs.length) (wk : wideM 16 ks.length) (wa : wideM 16 ag.length) :
   PCall Tryz.prog 51 [.ip [.int .i64 op, .str tb, .sl E, .sl C, .sl K, .sl A, .int .i64 fn, .int .i64 cl, .int .i64 n, .int .i64 off, .sl R]] fun r => r = [.bool (ownM op tb cs ks ag fn cl n off)] := by
 unfold wideM at wt wc wk wa
 have bc : C.length = cs.length := by rw [← hC]; simp
 have ba : A.length = ag.length := by rw [← hA]; simp
 have h1 := keyColumns_c ks K hK (by omega)
 obtain ⟨KL, hKL⟩ : ∃ l, (ks.map (·.1)).map i64c = l := ⟨_, rfl⟩
 rw [hKL] at h1
 have h2 := distinct_c (ks.map (·.1)) KL hKL (by rw [List.length_map]; omega)
 have h3 := distinct_c cs C hC (by omega)
 have h4 := name_c tb (by omega)
 have h5 := containsI_c 71 [] (fun k => !kOK k) cs C hC (by omega) (fun x _ => own1_c x)
 have e5 : (cs.any fun k => !kOK k) = !(cs.all kOK) := by rw [List.all_eq_not_any_not, Bool.not_not]
 rw [e5] at h5
 have hwo : ∀ {z1 z2 z : Int}, (C.length : Int) = z1 → (A.length : Int) = z2 → IntKind.i64.wrap (z1 + z2) = z → decide (0 < z) = decide (0 < cs.length + ag.length) := by
   rintro z1 z2 z rfl rfl h
   rw [wrap_in (by omega)] at h
   subst h
   rw [Bool.eq_iff_iff, decide_eq_true_eq, decide_eq_true_eq]; omega
 have hkm : ∀ {z1 : Int}, (C.length : Int) = z1 → (decide (1 ≤ z1) = decide (1 ≤ cs.length)) ∧ decide (z1 ≤ 32) = decide (cs.length ≤ 32) := by
   rintro z1 rfl
   constructor <;> (rw [Bool.eq_iff_iff, decide_eq_true_eq, decide_eq_true_eq]; omega)
 rw [ownM, kindsOKM]
 generalize distinctM (ks.map (·.1)) = dk at *
 generalize distinctM cs = dc at *
 generalize idM tb = nm at *
 generalize cs.all kOK = kk at *
 obtain ⟨am, ham⟩ : ∃ b, aggsM ag = b := ⟨_, rfl⟩
 rw [ham]
 refine PCall.x (nt := 167) (res := [.tmp 2]) mixed tt_ok [] Tryz.func51 rfl rfl rfl c51 (Nat.le_of_ble_eq_true rfl) ?_
 intro cp cc lp Q' hcp hcc hlp hQ
 repeat' (first
   | (with_reducible refine Nm.mk ?_; intro z hz)
   | (with_reducible refine IfB.mk ?_ ?_ <;> (intro h; cases h))
   | (with_reducible refine Two.l ?_; refine Asm.mk ?_ ?_; focus (decide +kernel))
   | (with_reducible refine Two.r ?_)
   | (with_reducible refine TwoT.r ?_)
   | (with_reducible refine Asm.mk ?_ ?_; focus (first | kernel_rfl | decide))
   | (with_reducible refine isCP hcp ?_; first | (refine xP hcp (h1) ?_; skip) | (refine bP hcp (h2) ?_; intro z hz) | (refine bP hcp (h3) ?_; intro z hz) | (refine bP hcp (h4) ?_; intro z hz) | (refine bP hcp (h5) ?_; intro z hz))
   | (with_reducible refine isCC hcc ?_; first | (refine xA hcc (h1) rfl ?_; skip) | (refine bA hcc (h2) rfl ?_; intro z hz) | (refine bA hcc (h3) rfl ?_; intro z hz) | (refine bA hcc (h4) rfl ?_; intro z hz) | (refine bA hcc (h5) rfl ?_; intro z hz))
   | (with_reducible refine Asm.mk2 ?_ ?_)
   | ((fail_if_success (with_reducible first | refine hQ _ ?_ | refine Side.mk ?_ | refine isCP hcp ?_ | refine isCC hcc ?_ | refine isLP hlp ?_ | refine Ix.mk ?_ | refine SIx.mk ?_ | refine SEx.mk ?_ | refine EIx.mk ?_ | refine RIx.mk ?_ | refine LkX.mk ?_ | show False | refine hR ?_ _ ?_ ?_ ?_ ?_ ?_ | refine hR2 ?_ _ ?_ ?_ ?_ ?_ ?_)); cbv))
 all_goals try
   (refine hQ _ ?_
    clear hQ hcp hcc hlp h1 h2 h3 h4 h5 ham
    clear hwo hkm
    first
      | (simp_all [winM]; done)
      | (congr 2; unfold winM; grind))
 all_goals try
   (refine hQ _ ?_
    have hkm2 := hkm (by assumption)
    clear hQ hcp hcc hlp h1 h2 h3 h4 h5 ham hwo hkm
    rw [← hkm2.1, ← hkm2.2]
    congr 2
    grind)
 all_goals try
   (exfalso
    have h6 : op = 6 := by
      have h : decide (op = 6) = true := by assumption
      exact of_decide_eq_true h
    have h12 : op = 12 := by
      have h : (!decide (op = 12)) = false := by assumption
      simpa using h
    omega)
 simp only [nc] at hz
 simp only [nc'] at hz
 have hyl := lenZ ba hz
 clear hz
 generalize z = yl at *
 have hop : op = 6 := by
   have h : decide (op = 6) = true := by assumption
   simpa using h
 subst hop
 refine loopK (ι := Int) mixed tt_ok hcp hcc hlp [0, 43, 44] (fun i => [(45, .p (.int .i64 i))]) (fun i => Rng ag.length yl i ∧ aggsM (ag.drop i.toNat) = am) (fun i => (yl - i).toNat) 0 (fun _ => rfl) ⟨Rng.start hyl (by omega), ham⟩ ⟨rfl, trivial⟩ ?_
 rintro R1 i ⟨rg, hf⟩ hR
 have hbad : ∀ x, ag[i.toNat]? = some x → (x.1 < 1 ∨ 6 < x.1 ∨ x.2 < 0 ∨ (x.1 = 1 ∧ ¬ x.2 = 0)) → am = false := by
   intro x hx h; rw [← hf, rg.step hx, aggsM, List.all_cons, Bool.and_eq_false_iff]; left; simp; omega
 have hgood : ∀ x, ag[i.toNat]? = some x → ¬ (x.1 < 1 ∨ 6 < x.1 ∨ x.2 < 0 ∨ (x.1 = 1 ∧ ¬ x.2 = 0)) → aggsM (ag.drop (i + 1).toNat) = am := by
   intro x hx h
   rw [← hf, rg.step hx, aggsM, aggsM, List.all_cons]
   have : (!(decide (x.1 < 1) || decide (6 < x.1) || decide (x.2 < 0) || (decide (x.1 = 1) && !decide (x.2 = 0)))) = true := by simp; omega
   rw [this, Bool.true_and]
 have hout : decide (i < yl) = false → am = true := by
   intro h; rw [← hf, rg.end_ rfl h]; rfl
 repeat' (first
   | (with_reducible refine Nm.mk ?_; intro z hz)
   | (with_reducible refine IfB.mk ?_ ?_ <;> (intro h; cases h))
   | (with_reducible refine Two.l ?_; refine Asm.mk ?_ ?_; focus (decide +kernel))
   | (with_reducible refine Two.r ?_)
   | (with_reducible refine TwoT.r ?_)
   | (with_reducible refine Asm.mk ?_ ?_; focus kernel_rfl)
   | (with_reducible refine Ix.map hA aggc_len (by decide) rg.lo (rg.lt (by assumption)) ?_; intro x hx)
   | (with_reducible refine Asm.mk2 ?_ ?_)
   | ((fail_if_success (with_reducible first | refine hQ _ ?_ | refine Side.mk ?_ | refine isCP hcp ?_ | refine isCC hcc ?_ | refine isLP hlp ?_ | refine Ix.mk ?_ | refine SIx.mk ?_ | refine SEx.mk ?_ | refine EIx.mk ?_ | refine RIx.mk ?_ | refine LkX.mk ?_ | show False | refine hR ?_ _ ?_ ?_ ?_ ?_ ?_ | refine hR2 ?_ _ ?_ ?_ ?_ ?_ ?_)); cbv))
 all_goals first
   | (have hlt : decide (i < yl) = true := by assumption
      rw [rg.wrap hlt] at hz
      exact hR (i + 1) _ ⟨rg.next hlt, hgood _ hx (by clear hR hQ hcp hcc hlp hbad hgood hout hwo hkm; simp only [Bool.not_eq_true', Bool.not_eq_false', decide_eq_true_eq, decide_eq_false_iff_not] at *; omega)⟩ (rg.less hlt) ⟨hz ▸ rfl, trivial⟩ ⟨rfl, rfl, rfl, trivial⟩ rfl)
   | (refine hQ _ ?_
      rw [hbad _ hx (by clear hR hQ hcp hcc hlp hbad hgood hout hwo hkm; simp only [Bool.not_eq_true', Bool.not_eq_false', decide_eq_true_eq, decide_eq_false_iff_not] at *; omega)]
      simp
      done)
   | (refine hQ _ ?_
      rw [hout (by assumption), ← hwo (by assumption) (by assumption) (by assumption)]
      clear hR hQ hcp hcc hlp hbad hgood hout hwo hkm h1 h2 h3 h4 h5
      simp_all)
end Go.Proofs.YtlabphnonlicdaaGreat

namespace Go.Proofs.YtlabphnonlicdaaGreat
open Go Go.RowKit
set_option maxRecDepth 100000
set_option linter.unusedSimpArgs false
set_option linter.unusedVariables false
def cmE (S : List ByteArray) : List (PV × PV) := S.map fun s => (.str s, .int .i64 1)
theorem cm_find (s : ByteArray) : ∀ (S : List ByteArray) (i : Nat), (s ∈ S → ∃ j, findM (cmE S) (.str s) i = some (j, .int .i64 1)) ∧ (s ∉ S → findM (cmE S) (.str s) i = none)
 | [], i => ⟨fun h => by simp at h, fun _ => rfl⟩
 | a :: r, i => by
   have ih := cm_find s r (i + 1)
   show (_ → ∃ j, findM ((PV.str a, PV.int .i64 1) :: cmE r) (.str s) i = some (j, .int .i64 1)) ∧ (_ → findM ((PV.str a, PV.int .i64 1) :: cmE r) (.str s) i = none)
   simp only [findM, keyEq]
   cases h : sbeq a s with
   | true =>
     rw [sbeqZ] at h
     subst h
     exact ⟨fun _ => ⟨i, rfl⟩, fun h => absurd List.mem_cons_self h⟩
   | false =>
     have hne : a ≠ s := fun e => by rw [(sbeqZ a s).2 e] at h; cases h
     simp only [List.mem_cons]
     exact ⟨fun h => ih.1 (h.resolve_left fun e => hne e.symm), fun h => ih.2 fun h' => h (.inr h')⟩
theorem cm_put (s : ByteArray) (y : PV) : ∀ (es : List (PV × PV)) (i : Nat), ∃ j, findM (putM es (.str s) y) (.str s) i = some (j, y)
 | [], i => by
   refine ⟨i, ?_⟩
   simp only [putM, findM, keyEq]
   rw [(sbeqZ s s).2 rfl]
 | e :: r, i => by
   simp only [putM]
   cases h : keyEq e.1 (.str s) with
   | true =>
     refine ⟨i, ?_⟩
     simp only [findM, keyEq]
     rw [(sbeqZ s s).2 rfl]
   | false =>
     obtain ⟨j, hj⟩ := cm_put s y r (i + 1)
     refine ⟨j, ?_⟩
     simp only [findM, h]
     exact hj
theorem cm_new (s : ByteArray) : ∀ S : List ByteArray, s ∉ S → putM (cmE S) (.str s) (.int .i64 1) = cmE (S ++ [s])
 | [], _ => rfl
 | a :: r, h => by
   have hne : sbeq a s = false := by
     cases hb : sbeq a s with
     | false => rfl
     | true => rw [sbeqZ] at hb; exact absurd (by rw [hb]; simp) h
   show putM ((PV.str a, PV.int .i64 1) :: cmE r) _ _ = (PV.str a, PV.int .i64 1) :: cmE (r ++ [s])
   simp only [putM, keyEq, hne]
   rw [cm_new s r fun h' => h (by simp [h'])]
theorem cm_keys (S : List ByteArray) : keysB .str (cmE S) = true := by
 rw [keysB, cmE, List.all_map]; exact List.all_eq_true.2 fun _ _ => rfl
theorem cm_keysP (s : ByteArray) (y : PV) : ∀ es : List (PV × PV), keysB .str es = true → keysB .str (putM es (.str s) y) = true
 | [], _ => rfl
 | e :: r, h => by
   simp only [keysB, List.all_cons, Bool.and_eq_true] at h
   simp only [putM]
   cases hk : keyEq e.1 (.str s) with
   | true => simp only [keysB, List.all_cons, Bool.and_eq_true]; exact ⟨rfl, h.2⟩
   | false => simp only [keysB, List.all_cons, Bool.and_eq_true]; exact ⟨h.1, cm_keysP s y r h.2⟩
theorem cm_all {S : List ByteArray} {es : List (PV × PV)} (s : ByteArray) (hS : cmE S = es) : ∃ c b, getM (.int .i64 0) es (.str s) = .int .i64 c ∧ (findM es (.str s) 0).isSome = b ∧
   ∀ z es', IntKind.i64.wrap (c + 1) = z → putM es (.str s) (.int .i64 z) = es' → getM (.int .i64 0) es' (.str s) = .int .i64 z ∧ (findM es' (.str s) 0).isSome = true ∧ keysB .str es' = true ∧ (decide (1 < z) = true → s ∈ S) ∧ (decide (1 < z) = false → s ∉ S ∧ cmE (S ++ [s]) = es') := by
 subst hS
 have h2 : ∀ z es', putM (cmE S) (.str s) (.int .i64 z) = es' → getM (.int .i64 0) es' (.str s) = .int .i64 z ∧ (findM es' (.str s) 0).isSome = true ∧ keysB .str es' = true := by
   rintro z es' rfl
   obtain ⟨j, hj⟩ := cm_put s (.int .i64 z) (cmE S) 0
   exact ⟨by rw [getM, hj], by rw [hj]; rfl, cm_keysP _ _ _ (cm_keys S)⟩
 by_cases h : s ∈ S
 · obtain ⟨j, hj⟩ := (cm_find s S 0).1 h
   refine ⟨1, true, by rw [getM, hj], by rw [hj]; rfl, fun z es' hz he => ?_⟩
   obtain ⟨g1, g2, g3⟩ := h2 z es' he
   refine ⟨g1, g2, g3, fun _ => h, fun h' => ?_⟩
   rw [← hz] at h'
   exact absurd h' (by decide)
 · have hj := (cm_find s S 0).2 h
   refine ⟨0, false, by rw [getM, hj], by rw [hj]; rfl, fun z es' hz he => ?_⟩
   obtain ⟨g1, g2, g3⟩ := h2 z es' he
   have hz1 : z = 1 := by rw [← hz]; decide
   subst hz1
   exact ⟨g1, g2, g3, fun h' => absurd h' (by decide), fun _ => ⟨h, by rw [← cm_new s S h, he]⟩⟩
def hasS (S : List ByteArray) (s : ByteArray) : Bool := S.any fun a => decide (a = s)
theorem hasS_t {S : List ByteArray} {s : ByteArray} (h : s ∈ S) : hasS S s = true := by rw [hasS, List.any_eq_true]; exact ⟨s, h, decide_eq_true rfl⟩
theorem hasS_f {S : List ByteArray} {s : ByteArray} (h : s ∉ S) : hasS S s = false := by
 rw [← Bool.not_eq_true, hasS, List.any_eq_true]; rintro ⟨a, ha, he⟩; exact h ((of_decide_eq_true he) ▸ ha)
def ckM : List ByteArray → List (ByteArray × Int) → Bool
 | _, [] => true
 | S, c :: r => idM c.1 && !hasS S c.1 && ckM (S ++ [c.1]) r
def ckP : List ByteArray → List (ByteArray × Int) → Bool
 | _, [] => true
 | S, c :: r => idM c.1 && !hasS S c.1 && kOK c.2 && ckP (S ++ [c.1]) r
theorem ckP_eq : ∀ (l : List (ByteArray × Int)) (S : List ByteArray), ckP S l = ((l.map (·.2)).all kOK && ckM S l)
 | [], S => rfl
 | c :: r, S => by
   rw [ckP, ckM, ckP_eq r, List.map_cons, List.all_cons]
   cases idM c.1 <;> cases hasS S c.1 <;> cases kOK c.2 <;> cases (r.map (·.2)).all kOK <;> rfl
def tabM (t : Tb) : Bool := idM t.name && kindsOKM (t.cols.map (·.2)) && ckM [] t.cols
theorem tabM_eq (t : Tb) : tabM t = (idM t.name && decide (1 ≤ t.cols.length) && decide (t.cols.length ≤ 32) && ckP [] t.cols) := by
 rw [tabM, ckP_eq, kindsOKM, List.length_map]
 cases idM t.name <;> cases decide (1 ≤ t.cols.length) <;> cases decide (t.cols.length ≤ 32) <;> cases (t.cols.map (·.2)).all kOK <;> rfl
def schM : List ByteArray → List Tb → Bool
 | _, [] => true
 | S, t :: r => !hasS S t.name && tabM t && schM (S ++ [t.name]) r
def Tb.wide (t : Tb) : Prop := wideM 1 t.name.size ∧ wideM 24 t.cols.length ∧ wideM 24 t.rows.length ∧ (∀ c, c ∈ t.cols → wideM 1 c.1.size) ∧ ∀ r, r ∈ t.rows → wideM 32 r.length
theorem Ix.cl {C : List (List PV)} {l : List (ByteArray × Int)} {i : Int} {K : List PV → Prop} (hl : l.map colc = C) (h0 : 0 ≤ i) (hn : i < l.length)
   (g : ∀ nm k, l[i.toNat]? = some (nm, k) → K [.str nm, .int .i64 k]) : Ix 2 C i K := by
 refine Ix.map hl colc_len (by decide) h0 hn fun x hx => ?_
 obtain ⟨nm, k⟩ := x
 exact g nm k hx
end Go.Proofs.YtlabphnonlicdaaGreat

namespace Go.Proofs.YtlabphnonlicdaaGreat
open Go Go.RowKit
set_option maxRecDepth 100000
set_option linter.unusedSimpArgs false
set_option linter.unusedVariables false
def r3 (k : Int) : Prop := k = 0 ∨ k = 1 ∨ k = 2
def k12 (K : List Int) : Prop := ∀ x, x ∈ K → x = 1 ∨ x = 2
theorem getD_r3 {l : List Int} (h : ∀ x, x ∈ l → r3 x) (i : Nat) : r3 ((l[i]?).getD 0) := by
 cases hi : l[i]? with
 | none => exact .inl rfl
 | some x => exact h x (List.mem_of_getElem? hi)
theorem mx_r3 {a b : Int} (ha : r3 a) (hb : r3 b) : r3 (mx a b) := by unfold mx; split <;> assumption
theorem clean_r3 (v : Val) : r3 (clean v).k := by
 unfold clean
 split
 · exact .inr (.inl rfl)
 · split
   · exact .inr (.inr rfl)
   · exact .inl rfl
mutual
theorem kindE_r3 {K : List Int} (hK : k12 K) : ∀ e : Ex, r3 (kindE K e).1
 | .mk op m v ar => by
   rw [kindE]
   cases h : kindL K ar with
   | none => exact .inl rfl
   | some l =>
     have hl := kindL_r3 hK ar l h
     have h0 : ∀ i : Nat, r3 ((l[i]?).getD 0) := getD_r3 hl
     dsimp only
     split
     · exact getD_r3 (fun x hx => .inr (hK x hx)) _
     · split
       · exact clean_r3 v
       · split
         · exact .inr (.inl rfl)
         · split
           · exact .inr (.inl rfl)
           · split
             · exact .inr (.inr rfl)
             · split
               · exact .inr (.inl rfl)
               · split
                 · exact mx_r3 (h0 1) (h0 2)
                 · exact .inr (.inl rfl)
theorem kindL_r3 {K : List Int} (hK : k12 K) : ∀ (l : List Ex) (r : List Int), kindL K l = some r → ∀ x, x ∈ r → r3 x
 | [], r, h, x, hx => by rw [kindL] at h; cases h; cases hx
 | e :: t, r, h, x, hx => by
   rw [kindL] at h
   have he := kindE_r3 hK e
   rcases hke : kindE K e with ⟨k, b⟩
   rw [hke] at h he
   cases b with
   | false => cases h
   | true =>
     rw [Option.map_eq_some_iff] at h
     obtain ⟨r', h1, rfl⟩ := h
     rcases List.mem_cons.1 hx with e | e
     · subst e; exact he
     · exact kindL_r3 hK t r' h1 x e
end
theorem kindM_r3 {K : List Int} (hK : k12 K) (e : Ex) : r3 (kindM K e).1 := by
 unfold kindM
 split
 · exact .inl rfl
 · split
   · exact .inl rfl
   · split
     · exact .inl rfl
     · split
       · exact .inl rfl
       · exact kindE_r3 hK e
theorem projL_ok {K : List Int} (hK : k12 K) : ∀ (l : List Ex) (w : Int) (acc L : List Int), k12 acc → projL K l w acc = (L, 0) → k12 L ∧ L.length = acc.length + l.length
 | [], w, acc, L, ha, h => by
   rw [projL, Prod.mk.injEq] at h
   obtain ⟨rfl, _⟩ := h
   exact ⟨ha, rfl⟩
 | e :: r, w, acc, L, ha, h => by
   rw [projL] at h
   split at h
   · cases h
   · have h1 := projL_ok hK r _ _ L (fun x hx => by
       rcases List.mem_append.1 hx with g | g
       · exact ha x g
       · simp only [List.mem_singleton] at g
         have := kindM_r3 hK e
         subst g
         unfold mx r3 at *
         split <;> omega) h
     exact ⟨h1.1, by rw [h1.2, List.length_append, List.length_cons]; simp; omega⟩
theorem atK_12 {K : List Int} (hK : k12 K) {c : Int} (h0 : 0 ≤ c) (h1 : c < (K.length : Int)) : atK K c = 1 ∨ atK K c = 2 := by
 have hlt : c.toNat < K.length := by omega
 rw [atK, List.getElem?_eq_getElem hlt]
 exact hK _ (List.getElem_mem hlt)
theorem past_lt0 {l : List Int} {n : Int} (h : pastM l n = false) : ∀ c, c ∈ l → c < n := by
 intro c hc
 rw [pastM, ← Bool.not_eq_true, List.any_eq_true] at h
 by_cases hlt : c < n
 · exact hlt
 · exact absurd ⟨c, hc, decide_eq_true (by omega)⟩ h
theorem lost_lt0 {l : List (Int × Int)} {n : Int} (h : lostA n l = false) : ∀ a, a ∈ l → ¬ a.1 = 1 → a.2 < n := by
 intro a ha h1
 rw [lostA, ← Bool.not_eq_true, List.any_eq_true] at h
 by_cases hlt : a.2 < n
 · exact hlt
 · exact absurd ⟨a, ha, by simp [h1]; omega⟩ h
theorem aggL_ok {K : List Int} (hK : k12 K) : ∀ (l : List (Int × Int)) (acc L : List Int), k12 acc → (∀ a, a ∈ l → 0 ≤ a.2) → (∀ a, a ∈ l → ¬ a.1 = 1 → a.2 < (K.length : Int)) → aggL K l acc = (L, 0) → k12 L ∧ L.length = acc.length + l.length
 | [], acc, L, ha, _, _, h => by
   rw [aggL, Prod.mk.injEq] at h
   obtain ⟨rfl, _⟩ := h
   exact ⟨ha, rfl⟩
 | a :: r, acc, L, ha, h0, h1, h => by
   rw [aggL] at h
   split at h
   · cases h
   · have h2 := aggL_ok hK r _ L (fun x hx => by
       rcases List.mem_append.1 hx with g | g
       · exact ha x g
       · simp only [List.mem_singleton] at g
         subst g
         split
         · exact atK_12 hK (h0 a (by simp)) (h1 a (by simp) (by omega))
         · exact .inl rfl) (fun b hb => h0 b (by simp [hb])) (fun b hb => h1 b (by simp [hb])) h
     exact ⟨h2.1, by rw [h2.2, List.length_append, List.length_cons]; simp; omega⟩
structure PlOk (op : Int) (es : List Ex) (cs : List Int) (ks : List (Int × Bool)) (ag : List (Int × Int)) (fn cl : Int) (ar : List Pl) : Prop where
 one : op = 2 ∨ op = 3 ∨ op = 6 ∨ op = 7 ∨ op = 9 ∨ op = 10 → ar.length = 1
 two : op = 4 ∨ op = 5 ∨ op = 11 → ar.length = 2
 any : op = 8 → 1 ≤ ar.length
 ex1 : op = 2 ∨ op = 4 ∨ op = 5 → es.length = 1
 ex32 : es.length ≤ 32
 grp : op = 6 → (∀ c, c ∈ cs → 0 ≤ c) ∧ ∀ a, a ∈ ag → 0 ≤ a.2
 win : op = 10 → (1 ≤ fn ∧ fn ≤ 6) ∧ (fn = 4 ∨ fn = 5 ∨ fn = 6 → 0 ≤ cl)
 emp : op = 12 → k12 cs ∧ cs.length ≤ 32
 rng : 1 ≤ op ∧ op ≤ 12
 sub : ∀ p, p ∈ ar → builtP p = true
theorem builtL_mem : ∀ {l : List Pl}, builtL l = true → ∀ p, p ∈ l → builtP p = true
 | [], _, p, h => by cases h
 | q :: r, hb, p, h => by
   rw [builtL, Bool.and_eq_true] at hb
   rcases List.mem_cons.1 h with e | e
   · subst e; exact hb.1
   · exact builtL_mem hb.2 p e
theorem low_ge {l : List Int} (h : distinctM l = true) : ∀ c, c ∈ l → 0 ≤ c := by
 intro c hc
 rw [distinctM, Bool.and_eq_true, Bool.not_eq_true', lowM, ← Bool.not_eq_true, List.any_eq_true] at h
 by_cases h0 : 0 ≤ c
 · exact h0
 · exact absurd ⟨c, hc, decide_eq_true (by omega)⟩ h.2
theorem plOk {op : Int} {tb : ByteArray} {es : List Ex} {cs : List Int} {ks : List (Int × Bool)} {ag : List (Int × Int)} {fn cl n off : Int} {ar : List Pl} (h : builtP (.mk op tb es cs ks ag fn cl n off ar) = true) : PlOk op es cs ks ag fn cl ar := by
 rw [builtP] at h
 simp only [Bool.and_eq_true] at h
 obtain ⟨⟨⟨hf, he⟩, hs⟩, ho⟩ := h
 rw [fieldsM] at hf
 simp only [Bool.and_eq_true, Bool.or_eq_true, decide_eq_true_eq, manyM] at hf
 rw [ownM] at ho
 simp only [Bool.and_eq_true, Bool.or_eq_true, decide_eq_true_eq] at ho
 obtain ⟨⟨⟨⟨⟨⟨⟨⟨⟨⟨⟨h1, h2⟩, hna⟩, hne⟩, h32⟩, _⟩, _⟩, _⟩, _⟩, _⟩, _⟩, _⟩ := hf
 obtain ⟨⟨hk, hc⟩, hown⟩ := ho
 refine ⟨fun h => ?_, fun h => ?_, fun h => ?_, fun h => ?_, by omega, fun h => ?_, fun h => ?_, fun h => ?_, ⟨h1, h2⟩, builtL_mem hs⟩
 · have : fArgs op = 1 := by unfold fArgs; rw [if_pos (by omega)]
   rw [this] at hna; omega
 · have : fArgs op = 2 := by unfold fArgs; rw [if_neg (by omega), if_pos (by omega)]
   rw [this] at hna; omega
 · have : fArgs op = -1 := by subst h; rfl
   rw [this] at hna; omega
 · have : fEx op = 1 := by unfold fEx; rw [if_pos (by omega)]
   rw [this] at hne; omega
 · subst h
   rw [if_neg (by decide), if_pos rfl] at hown
   simp only [Bool.and_eq_true, decide_eq_true_eq] at hown
   refine ⟨low_ge (hc.resolve_left (by decide)), fun a ha => ?_⟩
   have := List.all_eq_true.1 hown.1 a ha
   simp at this
   omega
 · subst h
   rw [if_neg (by decide), if_neg (by decide), if_neg (by decide), if_pos rfl, winM] at hown
   split at hown
   · exact ⟨by omega, fun h => by omega⟩
   · split at hown
     · exact ⟨by omega, fun _ => of_decide_eq_true hown⟩
     · split at hown
       · simp only [Bool.and_eq_true, decide_eq_true_eq] at hown
         exact ⟨by omega, fun _ => hown.1⟩
       · cases hown
 · subst h
   rw [if_neg (by decide), if_neg (by decide), if_neg (by decide), if_neg (by decide), if_pos rfl, kindsOKM] at hown
   simp only [Bool.and_eq_true, decide_eq_true_eq] at hown
   refine ⟨fun x hx => ?_, hown.1.2⟩
   have := List.all_eq_true.1 hown.2 x hx
   simpa [kOK] using this
theorem sch_mem : ∀ {T : List Tb} {S : List ByteArray}, schM S T = true → ∀ t, t ∈ T → tabM t = true
 | [], _, _, t, h => by cases h
 | u :: r, S, hs, t, h => by
   rw [schM, Bool.and_eq_true, Bool.and_eq_true] at hs
   rcases List.mem_cons.1 h with e | e
   · subst e; exact hs.1.2
   · exact sch_mem hs.2 t e
theorem tab_kinds {t : Tb} (h : tabM t = true) : k12 (t.cols.map (·.2)) ∧ (t.cols.map (·.2)).length ≤ 32 := by
 rw [tabM, Bool.and_eq_true, Bool.and_eq_true, kindsOKM, Bool.and_eq_true, Bool.and_eq_true] at h
 refine ⟨fun x hx => ?_, of_decide_eq_true h.1.2.1.2⟩
 have := List.all_eq_true.1 h.1.2.2 x hx
 simpa [kOK] using this
def kGood (K : List Int) : Prop := k12 K ∧ K.length ≤ 32
theorem kindsOp_good {T : List Tb} (hT : schM [] T = true) {op : Int} {tb : ByteArray} {es : List Ex} {cs : List Int} {ks : List (Int × Bool)} {ag : List (Int × Int)} {fn cl : Int} {ar : List Pl} (hp : PlOk op es cs ks ag fn cl ar) {ins : List (List Int)} (hi : ∀ k, k ∈ ins → kGood k) (hl : ins.length = ar.length) {K : List Int} (h : kindsOp T op tb es cs ks ag fn cl ins = (K, 0)) : kGood K := by
 have hg0 : ¬ op = 1 → ¬ op = 12 → kGood ((ins[0]?).getD []) := by
   intro h1 h2
   cases hx : ins[0]? with
   | none => exact ⟨fun x hx => (by cases hx), Nat.zero_le _⟩
   | some k => exact hi k (List.mem_of_getElem? hx)
 rw [kindsOp] at h
 split at h
 · split at h
   · cases h
   · rename_i t ht
     simp only [Prod.mk.injEq] at h
     rw [← h.1]
     exact tab_kinds (sch_mem hT t (List.mem_of_find?_eq_some ht))
 · rename_i h1
   split at h
   · rename_i h12
     simp only [Prod.mk.injEq] at h
     rw [← h.1]
     exact hp.emp h12
   · rename_i h12
     have hg := hg0 h1 h12
     generalize (ins[0]?).getD [] = K0 at *
     split at h
     · simp only [Prod.mk.injEq] at h
       rw [← h.1]; exact hg
     · split at h
       · have := projL_ok hg.1 es 0 [] K (fun x hx => by cases hx) h
         exact ⟨this.1, by rw [this.2]; have := hp.ex32; simp; omega⟩
       · split at h
         · simp only [Prod.mk.injEq] at h
           obtain ⟨rfl, h2⟩ := h
           split at h2
           · cases h2
           · refine ⟨fun x hx => ?_, by omega⟩
             obtain ⟨k, hk, hxk⟩ := List.mem_flatten.1 hx
             exact (hi k hk).1 x hxk
         · split at h
           · rename_i h6
             rw [groupK] at h
             split at h
             · cases h
             · rename_i hn
               simp only [Bool.or_eq_true, decide_eq_true_eq, not_or, Bool.not_eq_true] at hn
               obtain ⟨hc0, ha0⟩ := hp.grp h6
               have hcl := past_lt0 hn.1.1
               have := aggL_ok hg.1 ag (cs.map (atK K0)) K (fun x hx => by
                 obtain ⟨c, hc, rfl⟩ := List.mem_map.1 hx
                 exact atK_12 hg.1 (hc0 c hc) (hcl c hc)) ha0 (lost_lt0 hn.2) h
               exact ⟨this.1, by rw [this.2, List.length_map]; omega⟩
           · split at h
             · split at h
               · simp only [Prod.mk.injEq] at h; rw [← h.1]; exact hg
               · cases h
             · split at h
               · split at h
                 · cases h
                 · simp only [Prod.mk.injEq] at h; rw [← h.1]; exact hg
               · split at h
                 · rename_i h10
                   obtain ⟨_, hcl0⟩ := hp.win h10
                   rw [winK] at h
                   split at h
                   · cases h
                   · rename_i hn
                     simp only [Bool.or_eq_true, Bool.and_eq_true, decide_eq_true_eq, not_or] at hn
                     split at h
                     · rename_i h6
                       simp only [Prod.mk.injEq] at h
                       rw [← h.1]
                       refine ⟨fun x hx => ?_, by rw [List.length_append]; simp; omega⟩
                       rcases List.mem_append.1 hx with g | g
                       · exact hg.1 x g
                       · simp only [List.mem_singleton] at g
                         subst g
                         have hlt : cl < (K0.length : Int) := by
                           have h2 := hn.1.2
                           by_cases hh : cl < (K0.length : Int)
                           · exact hh
                           · exact absurd ⟨.inr h6, by omega⟩ h2
                         exact atK_12 hg.1 (hcl0 (.inr (.inr h6))) hlt
                     · split at h
                       · cases h
                       · simp only [Prod.mk.injEq] at h
                         rw [← h.1]
                         refine ⟨fun x hx => ?_, by rw [List.length_append]; simp; omega⟩
                         rcases List.mem_append.1 hx with g | g
                         · exact hg.1 x g
                         · simp only [List.mem_singleton] at g
                           subst g; exact .inl rfl
                 · simp only [Prod.mk.injEq] at h; rw [← h.1]; exact hg
theorem kindsL_len (T : List Tb) : ∀ l : List Pl, (kindsL T l).2 = 0 → (kindsL T l).1.length = l.length
 | [], _ => rfl
 | p :: r, h => by
   rw [kindsL] at h ⊢
   split at h
   · rename_i h1
     rw [if_pos h1, List.length_cons, List.length_cons, kindsL_len T r h]
   · exact absurd h (by assumption)
mutual
theorem kindsP_good {T : List Tb} (hT : schM [] T = true) : ∀ p : Pl, builtP p = true → (kindsP T p).2 = 0 → kGood (kindsP T p).1
 | .mk op tb es cs ks ag fn cl n off ar, hb, h => by
   have hp := plOk hb
   rw [kindsP] at h ⊢
   split at h
   · rename_i h1
     rw [if_pos h1]
     exact kindsOp_good hT hp (kindsL_good hT ar hp.sub h1) (kindsL_len T ar h1) (K := (kindsOp T op tb es cs ks ag fn cl (kindsL T ar).1).1) (by rw [← h])
   · exact absurd h (by assumption)
theorem kindsL_good {T : List Tb} (hT : schM [] T = true) : ∀ l : List Pl, (∀ p, p ∈ l → builtP p = true) → (kindsL T l).2 = 0 → ∀ k, k ∈ (kindsL T l).1 → kGood k
 | [], _, _, k, hk => by cases hk
 | p :: r, hb, h, k, hk => by
   rw [kindsL] at h hk
   split at h
   · rename_i h1
     rw [if_pos h1] at hk
     rcases List.mem_cons.1 hk with e | e
     · subst e; exact kindsP_good hT p (hb p (by simp)) h1
     · exact kindsL_good hT r (fun q hq => hb q (by simp [hq])) h k e
   · exact absurd h (by assumption)
end
end Go.Proofs.YtlabphnonlicdaaGreat

namespace Go.Proofs.YtlabphnonlicdaaGreat
open Go Go.RowKit
set_option maxRecDepth 100000
set_option linter.unusedSimpArgs false
set_option linter.unusedVariables false
def tt2 (t : TypeId) : Option TI := if t = 60 then some { size := 1, bytes := 8, kind := .map 9 3, zero := [.p .nilm], eqs := none } else tt t
theorem ti60n : tinfo Tryz.prog 60 = some { size := 1, bytes := 8, kind := .map 9 3, zero := [.p .nilm], eqs := none } := by kernel_rfl
theorem tt2_ok : ∀ t ti, tt2 t = some ti → tinfo Tryz.prog t = some ti := by
 intro t ti h
 unfold tt2 at h
 split at h
 · rename_i e; subst e; exact ti60n.trans h
 · exact tt_ok t ti h
set_option maxHeartbeats 4000000 in
theorem rschema_c (T : List Tb) (C : List (List PV)) (hC : T.map Tb.cells = C) (hb : wideM 24 T.length) (hw : ∀ t, t ∈ T → t.wide) : PCall Tryz.prog 12 [.sl C] fun r => r = [.bool (schM [] T)] := by
 unfold wideM at hb
 have b1 : C.length = T.length := by rw [← hC]; simp
 obtain ⟨q, hq⟩ : ∃ q, schM [] T = q := ⟨_, rfl⟩
 rw [hq]
 refine PCall.x (nt := 64) (res := [.tmp 2]) mixed tt2_ok [] Tryz.func12 rfl rfl rfl c12 (Nat.le_of_ble_eq_true rfl) ?_
 intro cp cc lp Q' hcp hcc hlp hQ
 repeat' (first
   | (with_reducible refine Nm.mk ?_; intro z hz)
   | (with_reducible refine IfB.mk ?_ ?_ <;> (intro h; cases h))
   | (with_reducible refine Two.l ?_; refine Asm.mk ?_ ?_; focus (decide +kernel))
   | (with_reducible refine Two.r ?_)
   | (with_reducible refine TwoT.r ?_)
   | (with_reducible refine Asm.mk ?_ ?_; focus (first | kernel_rfl | decide))
   | (with_reducible refine Asm.mk2 ?_ ?_)
   | ((fail_if_success (with_reducible first | refine hQ _ ?_ | refine Side.mk ?_ | refine isCP hcp ?_ | refine isCC hcc ?_ | refine isLP hlp ?_ | refine Ix.mk ?_ | refine SIx.mk ?_ | refine SEx.mk ?_ | refine EIx.mk ?_ | refine RIx.mk ?_ | refine LkX.mk ?_ | show False | refine hR ?_ _ ?_ ?_ ?_ ?_ ?_ | refine hR2 ?_ _ ?_ ?_ ?_ ?_ ?_)); cbv))
 simp only [nc] at hz
 simp only [nc'] at hz
 have hzl := lenZ b1 hz
 clear hz
 generalize z = zl at *
 refine loopT (ι := Int × List ByteArray × List (PV × PV)) mixed tt2_ok hcp hcc hlp [3, 10, 11] (fun p => [(12, .p (.int .i64 p.1))]) (fun p => [.map p.2.2])
   (fun p => Rng T.length zl p.1 ∧ cmE p.2.1 = p.2.2 ∧ schM p.2.1 (T.drop p.1.toNat) = q) (fun p => (zl - p.1).toNat) (0, [], []) 1 (fun _ => rfl) ⟨Rng.start hzl (by omega), rfl, hq⟩ ⟨rfl, trivial⟩ rfl ?_
 rintro R1 ⟨i, S, es⟩ ⟨rg, hS, hf⟩ hR
 replace rg : Rng T.length zl i := rg
 replace hS : cmE S = es := hS
 replace hf : schM S (T.drop i.toNat) = q := hf
 have hke : keysB .str es = true := by rw [← hS]; exact cm_keys S
 have hstep : ∀ {x : Tb}, T[i.toNat]? = some x → q = (!hasS S x.name && tabM x && schM (S ++ [x.name]) (T.drop (i + 1).toNat)) := by
   intro x hx; rw [← hf, rg.step hx, schM]
 have hout : decide (i < zl) = false → q = true := by
   intro h; rw [← hf, rg.end_ rfl h]; rfl
 have hwx : ∀ {nm : ByteArray} {cols : List (ByteArray × Int)} {rows : List (List Val)} {CC RW : List (List PV)}, T[i.toNat]? = some ⟨nm, cols, rows⟩ → cols.map colc = CC → (PCall Tryz.prog 23 [.str nm] fun r => r = [.bool (idM nm)]) ∧ (PCall Tryz.prog 14 [.agg [.str nm, .sl CC, .sl RW]] fun r => r = [.sl ((cols.map (·.2)).map i64c)]) ∧ (PCall Tryz.prog 24 [.sl ((cols.map (·.2)).map i64c)] fun r => r = [.bool (kindsOKM (cols.map (·.2)))]) ∧ CC.length = cols.length ∧ cols.length * 24 ≤ 140737488351232 ∧ ∀ c, c ∈ cols → c.1.size ≤ 140737488355328 := by
   intro nm cols rows CC RW hx hCC
   obtain ⟨w1, w2, w3, w4, w5⟩ := hw _ (List.mem_of_getElem? hx)
   unfold wideM at w1 w2 w3 w4
   dsimp only at w1 w2 w4
   exact ⟨rname_c nm (by omega), kindsOf_c cols CC nm RW hCC (by omega), rkindsOK_c _ _ rfl (by rw [List.length_map]; omega), by rw [← hCC]; simp, by omega, fun c hc => by have := w4 c hc; omega⟩
 repeat' (first
   | (with_reducible refine Nm.mk ?_; intro z hz)
   | (with_reducible refine IfB.mk ?_ ?_ <;> (intro h; cases h))
   | (with_reducible refine Two.l ?_; refine Asm.mk ?_ ?_; focus (decide +kernel))
   | (with_reducible refine Two.r ?_)
   | (with_reducible refine TwoT.r ?_)
   | (with_reducible refine Asm.mk ?_ ?_; focus (first | exact hke | exact (hput _ _ (by assumption) (by assumption)).2.2.1 | kernel_rfl))
   | (with_reducible refine isCP hcp ?_; first | (refine bP hcp (hn1) ?_; intro z hz) | (refine xP hcp (hn2) ?_; skip) | (refine bP hcp (hn3) ?_; intro z hz))
   | (with_reducible refine isCC hcc ?_; first | (refine bA hcc (hn1) rfl ?_; intro z hz) | (refine xA hcc (hn2) rfl ?_; skip) | (refine bA hcc (hn3) rfl ?_; intro z hz))
   | (with_reducible refine Ix.tb hC rg.lo (rg.lt (by assumption)) ?_; intro nm cols rows CC RW hx hCC hRW; obtain ⟨c, b, hget, hfs, hput⟩ := cm_all nm hS; obtain ⟨hn1, hn2, hn3, hlc, hbc, hcs⟩ := hwx (RW := RW) hx hCC; obtain ⟨KL, hKL⟩ : ∃ l, (cols.map (·.2)).map i64c = l := ⟨_, rfl⟩; rw [hKL] at hn2 hn3)
   | (with_reducible refine LkX.at_ hget hfs ?_)
   | (with_reducible refine LkX.at_ (hput _ _ (by assumption) (by assumption)).1 (hput _ _ (by assumption) (by assumption)).2.1 ?_)
   | (with_reducible refine Asm.mk2 ?_ ?_)
   | ((fail_if_success (with_reducible first | refine hQ _ ?_ | refine Side.mk ?_ | refine isCP hcp ?_ | refine isCC hcc ?_ | refine isLP hlp ?_ | refine Ix.mk ?_ | refine SIx.mk ?_ | refine SEx.mk ?_ | refine EIx.mk ?_ | refine RIx.mk ?_ | refine LkX.mk ?_ | show False | refine hR ?_ _ ?_ ?_ ?_ ?_ ?_ | refine hR2 ?_ _ ?_ ?_ ?_ ?_ ?_)); cbv))
 all_goals first
   | (refine hQ _ ?_
      rw [hout (by assumption)]
      done)
   | (have hf1 : q = false := by
        rw [hstep hx]
        clear hstep hwx hR hQ hcp hcc hlp hn1 hn2 hn3 hout
        have hp := (hput _ _ (by assumption) (by assumption)).2.2.2.1
        first
          | (have hd := hasS_t (hp (by assumption)); simp only [hd]; rfl)
          | (rw [tabM]; dsimp only; clear hp hput hget hfs; simp_all)
      refine hQ _ ?_
      rw [hf1])
   | skip
 obtain ⟨_, _, hke2, _, hnew⟩ := hput _ _ (by assumption) (by assumption)
 obtain ⟨hnS, hS2⟩ := hnew (by assumption)
 have hq2 : q = (ckM [] cols && schM (S ++ [nm]) (T.drop (i + 1).toNat)) := by
   rw [hstep hx, hasS_f hnS, tabM]
   dsimp only
   have h1 : idM nm = true := by clear hstep hwx hR hQ hcp hcc hlp hn1 hn2 hn3 hout hput hz hget hfs hS hnew; simp_all
   have h2 : kindsOKM (cols.map (·.2)) = true := by clear hstep hwx hR hQ hcp hcc hlp hn1 hn2 hn3 hout hput hz hget hfs hS hnew; simp_all
   rw [h1, h2]; rfl
 have hlt : decide (i < zl) = true := by assumption
 clear hput hnew hstep hout hget hfs hke hS hn1 hn2 hn3 hwx
 rename List (PV × PV) => es2
 simp only [nc] at hz
 simp only [nc'] at hz
 have hyl := lenZ hlc hz
 clear hz
 generalize z = yl at *
 obtain ⟨w, hw⟩ : ∃ w, ckM [] cols = w := ⟨_, rfl⟩
 rw [hw] at hq2
 refine loopT (ι := Int × List ByteArray × List (PV × PV)) mixed tt2_ok hcp hcc hlp [3, 6, 10, 11, 12, 40, 41] (fun p => [(42, .p (.int .i64 p.1))]) (fun p => [.map es2, .cells [.p (.str nm), .p (.sl CC), .p (.sl RW)], .map p.2.2])
   (fun p => Rng cols.length yl p.1 ∧ cmE p.2.1 = p.2.2 ∧ ckM p.2.1 (cols.drop p.1.toNat) = w) (fun p => (yl - p.1).toNat) (0, [], []) 3 (fun _ => rfl) ⟨Rng.start hyl (by omega), rfl, hw⟩ ⟨rfl, trivial⟩ rfl ?_
 rintro R2 ⟨j, S2, es3⟩ ⟨rj, hS3, hf3⟩ hR2
 replace rj : Rng cols.length yl j := rj
 replace hS3 : cmE S2 = es3 := hS3
 replace hf3 : ckM S2 (cols.drop j.toNat) = w := hf3
 have hke3 : keysB .str es3 = true := by rw [← hS3]; exact cm_keys S2
 have hstep3 : ∀ {s : ByteArray} {k : Int}, cols[j.toNat]? = some (s, k) → w = (idM s && !hasS S2 s && ckM (S2 ++ [s]) (cols.drop (j + 1).toNat)) := by
   intro s k hx; rw [← hf3, rj.step hx, ckM]
 have hout3 : decide (j < yl) = false → w = true := by
   intro h; rw [← hf3, rj.end_ rfl h]; rfl
 have hwn : ∀ {s : ByteArray} {k : Int}, cols[j.toNat]? = some (s, k) → PCall Tryz.prog 23 [.str s] fun r => r = [.bool (idM s)] := fun hx => rname_c _ (hcs _ (List.mem_of_getElem? hx))
 repeat' (first
   | (with_reducible refine Nm.mk ?_; intro z hz)
   | (with_reducible refine IfB.mk ?_ ?_ <;> (intro h; cases h))
   | (with_reducible refine Two.l ?_; refine Asm.mk ?_ ?_; focus (decide +kernel))
   | (with_reducible refine Two.r ?_)
   | (with_reducible refine TwoT.r ?_)
   | (with_reducible refine Asm.mk ?_ ?_; focus (first | exact hke3 | exact (hput3 _ _ (by assumption) (by assumption)).2.2.1 | kernel_rfl))
   | (with_reducible refine isCP hcp ?_; first | (refine bP hcp (hwn hy) ?_; intro z hz))
   | (with_reducible refine isCC hcc ?_; first | (refine bA hcc (hwn hy) rfl ?_; intro z hz))
   | (with_reducible refine Ix.cl hCC rj.lo (rj.lt (by assumption)) ?_; intro s3 k3 hy; obtain ⟨c3, b3, hget3, hfs3, hput3⟩ := cm_all s3 hS3)
   | (with_reducible refine LkX.at_ hget3 hfs3 ?_)
   | (with_reducible refine LkX.at_ (hput3 _ _ (by assumption) (by assumption)).1 (hput3 _ _ (by assumption) (by assumption)).2.1 ?_)
   | (with_reducible refine Asm.mk2 ?_ ?_)
   | ((fail_if_success (with_reducible first | refine hQ _ ?_ | refine Side.mk ?_ | refine isCP hcp ?_ | refine isCC hcc ?_ | refine isLP hlp ?_ | refine Ix.mk ?_ | refine SIx.mk ?_ | refine SEx.mk ?_ | refine EIx.mk ?_ | refine RIx.mk ?_ | refine LkX.mk ?_ | show False | refine hR ?_ _ ?_ ?_ ?_ ?_ ?_ | refine hR2 ?_ _ ?_ ?_ ?_ ?_ ?_)); cbv))
 all_goals first
   | (have hw1 : w = true := hout3 (by assumption)
      rw [rg.wrap hlt] at hz
      refine hR (i + 1, S ++ [nm], es2) _ ⟨rg.next hlt, hS2, ?_⟩ (rg.less hlt) ⟨hz ▸ rfl, trivial⟩ ⟨rfl, rfl, rfl, trivial⟩ rfl
      show schM (S ++ [nm]) (T.drop (i + 1).toNat) = q
      rw [hq2, hw1]; rfl)
   | (have hf1 : w = false := by
        rw [hstep3 hy]
        clear hstep3 hwn hR hR2 hQ hcp hcc hlp hout3 hq2
        have hp := (hput3 _ _ (by assumption) (by assumption)).2.2.2.1
        first
          | (have hd := hasS_t (hp (by assumption)); simp only [hd]; simp; done)
          | (clear hp hput3 hget3 hfs3; simp_all; done)
      refine hQ _ ?_
      rw [hq2, hf1]; rfl)
   | (obtain ⟨_, _, _, _, hnew⟩ := hput3 _ _ (by assumption) (by assumption)
      obtain ⟨hnS3, hS4⟩ := hnew (by assumption)
      have h1 : idM s3 = true := by clear hstep3 hwn hR hR2 hQ hcp hcc hlp hout3 hput3 hz hget3 hfs3 hS3 hnew hq2; simp_all
      have hlt3 : decide (j < yl) = true := by assumption
      rw [rj.wrap hlt3] at hz
      refine hR2 (j + 1, S2 ++ [s3], _) _ ⟨rj.next hlt3, hS4, ?_⟩ (rj.less hlt3) ⟨hz ▸ rfl, trivial⟩ ⟨rfl, rfl, rfl, rfl, rfl, rfl, rfl, trivial⟩ rfl
      show ckM (S2 ++ [s3]) (cols.drop (j + 1).toNat) = w
      rw [hstep3 hy, h1, hasS_f hnS3]; rfl)
end Go.Proofs.YtlabphnonlicdaaGreat

namespace Go.Proofs.YtlabphnonlicdaaGreat
open Go Go.RowKit
set_option maxRecDepth 100000
set_option linter.unusedSimpArgs false
set_option linter.unusedVariables false
def badV (k : Int) (v : Val) : Bool := (!decide ((clean v).k = 0) && !decide ((clean v).k = k)) || decide ((1000 : Int) < (clean v).s.size)
def fitL : List Int → List Val → Bool
 | _, [] => true
 | [], _ :: _ => true
 | k :: K, v :: V => !badV k v && fitL K V
def rowM (K : List Int) (r : List Val) : Bool := decide (r.length = K.length) && fitL K r
def goodTM (T : List Tb) : Bool := schM [] T && T.all fun t => t.rows.all fun r => rowM (t.cols.map (·.2)) r
theorem Ix.vl {C : List (List PV)} {l : List Val} {i : Int} {K : List PV → Prop} (hl : l.map Val.cells = C) (h0 : 0 ≤ i) (hn : i < l.length)
   (g : ∀ k n s, l[i.toNat]? = some ⟨k, n, s⟩ → K [.int .i64 k, .int .i64 n, .str s]) : Ix 3 C i K := by
 refine Ix.map hl cells_len (by decide) h0 hn fun x hx => ?_
 obtain ⟨k, n, s⟩ := x
 exact g k n s hx
theorem Ix.giv {es : Nat} {l : List (List PV)} {n : Int} {K : List PV → Prop} {e : List PV} (h0 : 0 ≤ n) (h : l[n.toNat]? = some e) (he : e.length = es) (hes : es ≠ 0) (k : K e) : Ix es l n K := ⟨⟨e, h0, h, he, hes, k⟩⟩
theorem fitL_step {K : List Int} {V : List Val} {i : Nat} {k : Int} {v : Val} (hk : K[i]? = some k) (hv : V[i]? = some v) : fitL (K.drop i) (V.drop i) = (!badV k v && fitL (K.drop (i + 1)) (V.drop (i + 1))) := by
 rw [List.drop_eq_getElem_cons (List.getElem?_eq_some_iff.1 hk).1, (List.getElem?_eq_some_iff.1 hk).2, List.drop_eq_getElem_cons (List.getElem?_eq_some_iff.1 hv).1, (List.getElem?_eq_some_iff.1 hv).2, fitL]
theorem fitL_nil (K : List Int) : fitL K [] = true := by cases K <;> rfl
set_option maxHeartbeats 4000000 in
theorem rowFits_c (K : List Int) (C V : List (List PV)) (r : List Val) (hC : K.map i64c = C) (hV : r.map Val.cells = V) (hbk : K.length * 8 ≤ 140737488351232) (hbr : r.length * 32 ≤ 140737488351232) :
   PCall Tryz.prog 13 [.sl C, .sl V] fun r' => r' = [.bool (rowM K r)] := by
 have b1 : C.length = K.length := by rw [← hC]; simp
 have b2 : V.length = r.length := by rw [← hV]; simp
 obtain ⟨q, hq⟩ : ∃ q, fitL K r = q := ⟨_, rfl⟩
 rw [rowM, hq]
 have hcl := fun k n s => rclean_c k n s
 have hle : ∀ {z z' : Int}, (V.length : Int) = z → (C.length : Int) = z' → (!decide (z = z')) = true → decide (r.length = K.length) = false := by
   rintro z z' rfl rfl h; simp only [Bool.not_eq_true', decide_eq_false_iff_not] at *; omega
 have hle2 : ∀ {z z' : Int}, (!decide (z = z')) = false → (V.length : Int) = z → (C.length : Int) = z' → r.length = K.length := by
   rintro z z' h rfl rfl; simp only [Bool.not_eq_false', decide_eq_true_eq] at *; omega
 refine PCall.x (nt := 40) (res := [.tmp 4]) mixed tt_ok [] Tryz.func13 rfl rfl rfl c13 (Nat.le_of_ble_eq_true rfl) ?_
 intro cp cc lp Q' hcp hcc hlp hQ
 repeat' (first
   | (with_reducible refine Nm.mk ?_; intro z hz)
   | (with_reducible refine IfB.mk ?_ ?_ <;> (intro h; cases h))
   | (with_reducible refine Two.l ?_; refine Asm.mk ?_ ?_; focus (decide +kernel))
   | (with_reducible refine Two.r ?_)
   | (with_reducible refine TwoT.r ?_)
   | (with_reducible refine Asm.mk ?_ ?_; focus (first | kernel_rfl | decide))
   | (with_reducible refine Asm.mk2 ?_ ?_)
   | ((fail_if_success (with_reducible first | refine hQ _ ?_ | refine Side.mk ?_ | refine isCP hcp ?_ | refine isCC hcc ?_ | refine isLP hlp ?_ | refine Ix.mk ?_ | refine SIx.mk ?_ | refine SEx.mk ?_ | refine EIx.mk ?_ | refine RIx.mk ?_ | refine LkX.mk ?_ | show False | refine hR ?_ _ ?_ ?_ ?_ ?_ ?_ | refine hR2 ?_ _ ?_ ?_ ?_ ?_ ?_)); cbv))
 · refine hQ _ ?_
   rw [hle (by assumption) (by assumption) (by assumption)]; rfl
 have hln := hle2 (by assumption) (by assumption) (by assumption)
 rw [decide_eq_true hln, Bool.true_and] at hQ
 simp only [nc] at hz
 simp only [nc'] at hz
 have hzl := lenZ b2 hz
 clear hz
 generalize z = zl at *
 refine loopK (ι := Int) mixed tt_ok hcp hcc hlp [0, 12, 13] (fun i => [(14, .p (.int .i64 i))]) (fun i => Rng r.length zl i ∧ fitL (K.drop i.toNat) (r.drop i.toNat) = q) (fun i => (zl - i).toNat) 0 (fun _ => rfl) ⟨Rng.start hzl (by omega), hq⟩ ⟨rfl, trivial⟩ ?_
 rintro R i ⟨rg, hf⟩ hR
 have hik : decide (i < zl) = true → i < (K.length : Int) := fun h => by have := rg.lt h; omega
 have hout : decide (i < zl) = false → q = true := by
   intro h; rw [← hf, rg.end_ rfl h, fitL_nil]
 obtain ⟨kk, hkk⟩ : ∃ kk, decide (i < zl) = true → K[i.toNat]? = some kk := by
   cases h : decide (i < zl) with
   | true =>
     have hlt : i.toNat < K.length := by have := hik h; have := rg.lo; omega
     exact ⟨K[i.toNat], fun _ => List.getElem?_eq_getElem hlt⟩
   | false => exact ⟨0, fun h' => by cases h'⟩
 have hCi : decide (i < zl) = true → C[i.toNat]? = some [.int .i64 kk] := fun h => by rw [← hC, List.getElem?_map, hkk h]; rfl
 have hcv : ∀ (k n : Int) (s : ByteArray), ∃ k' n' s', clean ⟨k, n, s⟩ = ⟨k', n', s'⟩ ∧ PCall Tryz.prog 25 [.agg [.int .i64 k, .int .i64 n, .str s]] fun r => r = [.agg [.int .i64 k', .int .i64 n', .str s']] := by
   intro k n s; exact ⟨_, _, _, rfl, rclean_c k n s⟩
 have hbv : ∀ {kk : Int} {v : Val} {k' n' : Int} {s' : ByteArray}, clean v = ⟨k', n', s'⟩ → badV kk v = ((!decide (k' = 0) && !decide (k' = kk)) || decide ((1000 : Int) < s'.size)) := by
   intro kk v k' n' s' h; rw [badV, h]
 have hst : ∀ {kk : Int} {v : Val}, K[i.toNat]? = some kk → r[i.toNat]? = some v → q = (!badV kk v && fitL (K.drop (i + 1).toNat) (r.drop (i + 1).toNat)) := by
   intro kk v h1 h2; rw [← hf, fitL_step h1 h2, rg.toNat]
 repeat' (first
   | (with_reducible refine Nm.mk ?_; intro z hz)
   | (with_reducible refine IfB.mk ?_ ?_ <;> (intro h; cases h))
   | (with_reducible refine Two.l ?_; refine Asm.mk ?_ ?_; focus (decide +kernel))
   | (with_reducible refine Two.r ?_)
   | (with_reducible refine TwoT.r ?_)
   | (with_reducible refine Asm.mk ?_ ?_; focus kernel_rfl)
   | (with_reducible refine isCP hcp ?_; first | (refine xP hcp (hc2) ?_; skip))
   | (with_reducible refine isCC hcc ?_; first | (refine xA hcc (hc2) rfl ?_; skip))
   | (with_reducible refine Ix.vl hV rg.lo (rg.lt (by assumption)) ?_; intro k n s hx; obtain ⟨k', n', s', hc1, hc2⟩ := hcv k n s)
   | (with_reducible refine Ix.giv rg.lo (hCi (by assumption)) rfl (by decide) ?_)
   | (with_reducible refine Asm.mk2 ?_ ?_)
   | ((fail_if_success (with_reducible first | refine hQ _ ?_ | refine Side.mk ?_ | refine isCP hcp ?_ | refine isCC hcc ?_ | refine isLP hlp ?_ | refine Ix.mk ?_ | refine SIx.mk ?_ | refine SEx.mk ?_ | refine EIx.mk ?_ | refine RIx.mk ?_ | refine LkX.mk ?_ | show False | refine hR ?_ _ ?_ ?_ ?_ ?_ ?_ | refine hR2 ?_ _ ?_ ?_ ?_ ?_ ?_)); cbv))
 all_goals first
   | (refine hQ _ ?_
      rw [hout (by assumption)]
      done)
   | (have hb : badV kk ⟨k, n, s⟩ = true := by
        rw [hbv hc1]
        clear hR hQ hcp hcc hlp hst hbv hcv hcl hc2 hCi hkk hle hle2 hout hf hq
        try simp only [nc] at *
        try simp only [nc'] at *
        subst_vars
        simp_all
        done
      refine hQ _ ?_
      rw [hst (hkk (by assumption)) hx, hb]; rfl)
   | (have hb : badV kk ⟨k, n, s⟩ = false := by
        rw [hbv hc1]
        clear hR hQ hcp hcc hlp hst hbv hcv hcl hc2 hCi hkk hle hle2 hout hf hq hz
        try simp only [nc] at *
        try simp only [nc'] at *
        subst_vars
        simp_all
        done
      have hlt : decide (i < zl) = true := by assumption
      rw [rg.wrap hlt] at hz
      refine hR (i + 1) _ ⟨rg.next hlt, ?_⟩ (rg.less hlt) ⟨hz ▸ rfl, trivial⟩ ⟨rfl, rfl, rfl, trivial⟩ rfl
      rw [hst (hkk hlt) hx, hb]; rfl)
end Go.Proofs.YtlabphnonlicdaaGreat

namespace Go.Proofs.YtlabphnonlicdaaGreat
open Go Go.RowKit
set_option maxRecDepth 100000
set_option linter.unusedSimpArgs false
set_option linter.unusedVariables false
set_option maxHeartbeats 8000000 in
theorem window_c (op : Int) (tb : ByteArray) (E Cc Kk A R : List (List PV)) (fn cl n off : Int) (K : List Int) (C : List (List PV)) (hC : K.map i64c = C) (hKb : K.length * 8 ≤ 1000000)  (cs : List Int) (ks : List (Int × Bool)) (hcs : cs.map i64c = Cc) (hks : ks.map keyc = Kk) (hcb : cs.length * 8 ≤ 140737488351232) (hkb : ks.length * 16 ≤ 140737488351232) (hcl : fn = 4 ∨ fn = 5 ∨ fn = 6 → 0 ≤ cl) (L : List Int) (er : Int) (hg : winK K cs ks fn cl = (L, er)) :
   PCall Tryz.prog 38 [.ip [.int .i64 op, .str tb, .sl E, .sl Cc, .sl Kk, .sl A, .int .i64 fn, .int .i64 cl, .int .i64 n, .int .i64 off, .sl R], .sl C] fun r => r = [.sl (L.map i64c), .int .i64 er] := by
 have b1 : C.length = K.length := by rw [← hC]; simp
 have hpast := fun k => past_c cs k Cc hcs hcb
 have h1 := keyColumns_c ks Kk hks (by omega)
 obtain ⟨KL, hKL⟩ : ∃ l, (ks.map (·.1)).map i64c = l := ⟨_, rfl⟩
 rw [hKL] at h1
 have hpast2 := fun k => past_c (ks.map (·.1)) k KL hKL (by rw [List.length_map]; omega)
 have hclone := clone_t hC (by omega)
 have hok : okEs 1 C = true := by rw [← hC]; exact ok_map _
 obtain ⟨y, hy⟩ : ∃ y, 0 ≤ cl → cl < (K.length : Int) → K[cl.toNat]? = some y := by
   by_cases h : cl.toNat < K.length
   · exact ⟨_, fun _ _ => List.getElem?_eq_getElem h⟩
   · exact ⟨0, fun h1 h2 => by omega⟩
 have hcy : (fn = 4 ∨ fn = 5 ∨ fn = 6) → ∀ {z : Int}, decide (z ≤ cl) = false → (C.length : Int) = z → K[cl.toNat]? = some y ∧ ¬ (K.length : Int) ≤ cl := by
   rintro h z h2 rfl
   have := of_decide_eq_false h2
   exact ⟨hy (hcl h) (by omega), by omega⟩
 have hCy : (fn = 4 ∨ fn = 5 ∨ fn = 6) → ∀ {z : Int}, decide (z ≤ cl) = false → (C.length : Int) = z → C[cl.toNat]? = some [.int .i64 y] := by
   rintro h z h2 h3
   rw [← hC, List.getElem?_map, (hcy h h2 h3).1]; rfl
 have hlos : (pastM cs K.length = true ∨ pastM (ks.map (·.1)) K.length = true ∨ ((fn = 4 ∨ fn = 5 ∨ fn = 6) ∧ (K.length : Int) ≤ cl) ∨ 32 < K.length + 1) → L = [] ∧ er = 1 := by
   intro h
   rw [winK, if_pos (by simp only [Bool.or_eq_true, Bool.and_eq_true, decide_eq_true_eq, or_assoc] at h ⊢; exact h)] at hg
   simp only [Prod.mk.injEq] at hg
   exact ⟨hg.1.symm, hg.2.symm⟩
 have hgo : pastM cs K.length = false → pastM (ks.map (·.1)) K.length = false → ((fn = 4 ∨ fn = 5 ∨ fn = 6) → ¬ (K.length : Int) ≤ cl) → ¬ 32 < K.length + 1 → (if fn = 6 then (K ++ [atK K cl], (0 : Int)) else if fn = 4 ∧ atK K cl = 2 then ([], 4) else (K ++ [1], 0)) = (L, er) := by
   intro g1 g2 g3 g4
   rw [winK, if_neg (by
     simp only [Bool.or_eq_true, Bool.and_eq_true, decide_eq_true_eq, or_assoc]
     rintro (h | h | h | h)
     · rw [g1] at h; cases h
     · rw [g2] at h; cases h
     · exact g3 h.1 h.2
     · exact g4 h)] at hg
   exact hg
 clear hg
 have hsd0 : okEs 1 ([] : List (List PV)) = true ∧ okEs 1 C = true ∧ ([] : List (List PV)).length + C.length ≤ maxLen ∧ (([] : List (List PV)).length + C.length) * 8 ≤ 140737488355328 := by
   refine ⟨rfl, hok, ?_, ?_⟩ <;> simp only [List.length_nil, maxLen] <;> omega
 have hsd2 : ∀ {Z : List (List PV)} {m : Nat} {v : Int}, C = Z → Z.length = m → (m = Z.length ∧ 1 = 1 ∧ okEs 1 Z = true ∧ okEs 1 [[PV.int .i64 v]] = true ∧ Z.length + [[PV.int .i64 v]].length ≤ maxLen ∧ (Z.length + [[PV.int .i64 v]].length) * 8 ≤ 140737488355328) := by
   rintro Z m v rfl rfl
   refine ⟨rfl, rfl, hok, rfl, ?_, ?_⟩ <;> simp only [List.length_cons, List.length_nil, maxLen] <;> omega
 have hsd1 : ∀ {Z : List (List PV)} {m : Nat} {v : Int}, [] ++ C = Z → ([] : List (List PV)).length + C.length = m → (m = Z.length ∧ 1 = 1 ∧ okEs 1 Z = true ∧ okEs 1 [[PV.int .i64 v]] = true ∧ Z.length + [[PV.int .i64 v]].length ≤ maxLen ∧ (Z.length + [[PV.int .i64 v]].length) * 8 ≤ 140737488355328) := by
   intro Z m v h1 h2
   exact hsd2 (by rw [← h1]; rfl) (by rw [← h1, ← h2]; simp)
 have hz1 : ∀ {z : Int} {b : Bool}, pastM cs z = b → (C.length : Int) = z → pastM cs K.length = b := by rintro z b h rfl; rw [← h, b1]
 have hz2 : ∀ {z : Int} {b : Bool}, pastM (ks.map (·.1)) z = b → (C.length : Int) = z → pastM (ks.map (·.1)) K.length = b := by rintro z b h rfl; rw [← h, b1]
 have hz3 : ∀ {z : Int}, decide (z ≤ cl) = true → (C.length : Int) = z → (K.length : Int) ≤ cl := by rintro z h rfl; have := of_decide_eq_true h; omega
 have hz4 : ∀ {z z' : Int}, IntKind.i64.wrap (z + 1) = z' → (C.length : Int) = z → (decide (32 < z') = true → 32 < K.length + 1) ∧ (decide (32 < z') = false → ¬ 32 < K.length + 1) := by
   rintro z z' h rfl
   rw [wrap_in (by omega)] at h
   subst h
   simp only [decide_eq_true_eq, decide_eq_false_iff_not]; omega
 have hz5 : (∀ {z : Int}, decide (32 ≤ z) = true → (C.length : Int) = z → 32 < K.length + 1) ∧ (∀ {z : Int}, decide (32 ≤ z) = false → (C.length : Int) = z → ¬ 32 < K.length + 1) := by
   constructor <;> (rintro z h rfl; simp only [decide_eq_true_eq, decide_eq_false_iff_not] at h; omega)
 refine PCall.x (nt := 96) (res := [.tmp 4, .tmp 5]) mixed tt_ok [] Tryz.func38 rfl rfl rfl c38 (Nat.le_of_ble_eq_true rfl) ?_
 intro cp cc lp Q' hcp hcc hlp hQ
 repeat' (first
   | (with_reducible refine Nm.mk ?_; intro z hz)
   | (with_reducible refine IfB.mk ?_ ?_ <;> (intro h; cases h))
   | (with_reducible refine Two.l ?_; refine Asm.mk ?_ ?_; focus (decide +kernel))
   | (with_reducible refine Two.r ?_)
   | (with_reducible refine TwoT.r ?_)
   | (with_reducible refine Asm.mk ?_ ?_; focus (first | exact hsd0 | exact hsd1 (by assumption) (by assumption) | exact hsd2 (by assumption) (by assumption) | (show (_ : Bool) = true; kernel_rfl)))
   | (with_reducible refine isCP hcp ?_; first | (refine xP hcp (h1) ?_; skip) | (refine bP hcp (hpast _) ?_; intro z hz) | (refine bP hcp (hpast2 _) ?_; intro z hz) | (refine tP hcp (hclone) ?_; intro z hz))
   | (with_reducible refine isCC hcc ?_; first | (refine xA hcc (h1) rfl ?_; skip) | (refine bA hcc (hpast _) rfl ?_; intro z hz) | (refine bA hcc (hpast2 _) rfl ?_; intro z hz) | (refine tA hcc (hclone) rfl ?_; intro z mz hz hmz))
   | (with_reducible refine Ix.giv (hcl (by first | exact .inl (of_decide_eq_true (by assumption)) | exact .inr (.inr (of_decide_eq_true (by assumption))))) (hCy (by first | exact .inl (of_decide_eq_true (by assumption)) | exact .inr (.inr (of_decide_eq_true (by assumption)))) (by assumption) (by assumption)) rfl (by decide) ?_)
   | (with_reducible refine Asm.mk2 ?_ ?_)
   | ((fail_if_success (with_reducible first | refine hQ _ ?_ | refine Side.mk ?_ | refine isCP hcp ?_ | refine isCC hcc ?_ | refine isLP hlp ?_ | refine Ix.mk ?_ | refine SIx.mk ?_ | refine SEx.mk ?_ | refine EIx.mk ?_ | refine RIx.mk ?_ | refine LkX.mk ?_ | show False | refine hR ?_ _ ?_ ?_ ?_ ?_ ?_ | refine hR2 ?_ _ ?_ ?_ ?_ ?_ ?_)); cbv))
 all_goals try
   (exfalso
    have h6 : fn = 6 := of_decide_eq_true (by assumption)
    have h4 : fn = 4 ∨ fn = 5 := by first | exact .inl (of_decide_eq_true (by assumption)) | exact .inr (of_decide_eq_true (by assumption))
    omega)
 all_goals try
   (exfalso
    have h6 : fn = 6 ∨ fn = 4 := by first | exact .inl (of_decide_eq_true (by assumption)) | exact .inr (of_decide_eq_true (by assumption))
    have h7 : ¬ 4 ≤ fn := of_decide_eq_false (by assumption)
    omega)
 all_goals try
   (exfalso
    have h6 : fn = 6 := of_decide_eq_true (by assumption)
    have h7 : ¬ fn = 6 := of_decide_eq_false (by assumption)
    exact h7 h6)
 all_goals try
   (exfalso
    have h6 : fn = 4 := of_decide_eq_true (by assumption)
    have h7 : ¬ fn = 4 := of_decide_eq_false (by assumption)
    exact h7 h6)
 all_goals first
   | (have e : L = [] ∧ er = 1 := by
        first
          | exact hlos (.inl (hz1 (by assumption) (by assumption)))
          | exact hlos (.inr (.inl (hz2 (by assumption) (by assumption))))
          | exact hlos (.inr (.inr (.inl ⟨by first | exact .inl (of_decide_eq_true (by assumption)) | exact .inr (.inl (of_decide_eq_true (by assumption))) | exact .inr (.inr (of_decide_eq_true (by assumption))) | (have h := of_decide_eq_true (show decide (4 ≤ fn) = true by assumption); omega), hz3 (by assumption) (by assumption)⟩)))
          | exact hlos (.inr (.inr (.inr ((hz4 (by assumption) (by assumption)).1 (by assumption)))))
          | exact hlos (.inr (.inr (.inr (hz5.1 (by assumption) (by assumption)))))
      refine hQ _ ?_
      rw [e.1, e.2]; rfl)
   | (have e := hgo (hz1 (by assumption) (by assumption)) (hz2 (by assumption) (by assumption)) (by
          first
            | (intro hu; exact (hcy hu (by assumption) (by assumption)).2)
            | (rintro (h | h | h)
               · exact absurd h (of_decide_eq_false (by assumption))
               · exact absurd h (of_decide_eq_false (by assumption))
               · exact absurd h (of_decide_eq_false (by assumption)))
            | (intro hu; have h := of_decide_eq_false (show decide (4 ≤ fn) = false by assumption); omega)) (by
          first
            | exact (hz4 (by assumption) (by assumption)).2 (by assumption)
            | exact hz5.2 (by assumption) (by assumption))
      first
        | (have h6 : fn = 6 := of_decide_eq_true (by assumption)
           have hyK := (hcy (.inr (.inr h6)) (by assumption) (by assumption)).1
           rw [if_pos h6, atK_get hyK] at e
           simp only [Prod.mk.injEq] at e
           refine hQ _ ?_
           rw [← e.1, ← e.2, List.map_append, hC]
           clear hQ hcp hcc hlp hlos hgo hz1 hz2 hz3 hz4 hz5 hcy hCy hpast hpast2 hclone h1 e hy hsd0 hsd1 hsd2
           subst_vars
           first | rfl | simp [i64c])
        | (have h4 : fn = 4 := of_decide_eq_true (by assumption)
           have hyK := (hcy (.inl h4) (by assumption) (by assumption)).1
           have h2 : y = 2 := by
             first
               | exact of_decide_eq_true (by assumption)
               | (have h : (!decide (y = 1)) = true := by assumption
                  have := hk12 y (List.mem_of_getElem? hyK)
                  simp only [Bool.not_eq_true', decide_eq_false_iff_not] at h
                  omega)
           rw [if_neg (by omega), if_pos ⟨h4, (atK_get hyK).trans h2⟩] at e
           simp only [Prod.mk.injEq] at e
           refine hQ _ ?_
           rw [← e.1, ← e.2]; rfl)
        | (have h6 : ¬ fn = 6 := by first | exact of_decide_eq_false (by assumption) | (have h4 : fn = 4 := of_decide_eq_true (by assumption); omega)
           rw [if_neg h6, if_neg (by
             rintro ⟨h4, h2⟩
             first
               | exact absurd h4 (of_decide_eq_false (by assumption))
               | (have hyK := (hcy (.inl h4) (by assumption) (by assumption)).1
                  rw [atK_get hyK] at h2
                  first
                    | exact absurd h2 (of_decide_eq_false (by assumption))
                    | (have h : (!decide (y = 1)) = false := by assumption
                       simp only [Bool.not_eq_false', decide_eq_true_eq] at h
                       omega)))] at e
           simp only [Prod.mk.injEq] at e
           refine hQ _ ?_
           rw [← e.1, ← e.2, List.map_append, hC]
           clear hQ hcp hcc hlp hlos hgo hz1 hz2 hz3 hz4 hz5 hcy hCy hpast hpast2 hclone h1 e hy hsd0 hsd1 hsd2
           subst_vars
           first | rfl | simp [i64c]))
set_option maxHeartbeats 8000000 in
theorem windowed_c (op : Int) (tb : ByteArray) (E Cc Kk A R : List (List PV)) (fn cl n off : Int) (K : List Int) (C : List (List PV)) (hC : K.map i64c = C) (hKb : K.length * 8 ≤ 1000000) (hfn : 1 ≤ fn ∧ fn ≤ 6) (hk12 : ∀ x, x ∈ K → x = 1 ∨ x = 2) (cs : List Int) (ks : List (Int × Bool)) (hcs : cs.map i64c = Cc) (hks : ks.map keyc = Kk) (hcb : cs.length * 8 ≤ 140737488351232) (hkb : ks.length * 16 ≤ 140737488351232) (hcl : fn = 4 ∨ fn = 5 ∨ fn = 6 → 0 ≤ cl) (L : List Int) (er : Int) (hg : winK K cs ks fn cl = (L, er)) :
   PCall Tryz.prog 43 [.agg [.int .i64 op, .str tb, .sl E, .sl Cc, .sl Kk, .sl A, .int .i64 fn, .int .i64 cl, .int .i64 n, .int .i64 off, .sl R], .sl C] fun r => r = [.sl (L.map i64c), .int .i64 er] := by
 have b1 : C.length = K.length := by rw [← hC]; simp
 have hpast := fun k => beyond_c cs Cc hcs hcb k
 have h1 := keyCols_c ks Kk hks (by omega)
 obtain ⟨KL, hKL⟩ : ∃ l, (ks.map (·.1)).map i64c = l := ⟨_, rfl⟩
 rw [hKL] at h1
 have hpast2 := fun k => beyond_c (ks.map (·.1)) KL hKL (by rw [List.length_map]; omega) k
 have hclone := clone_t hC (by omega)
 have hok : okEs 1 C = true := by rw [← hC]; exact ok_map _
 obtain ⟨y, hy⟩ : ∃ y, 0 ≤ cl → cl < (K.length : Int) → K[cl.toNat]? = some y := by
   by_cases h : cl.toNat < K.length
   · exact ⟨_, fun _ _ => List.getElem?_eq_getElem h⟩
   · exact ⟨0, fun h1 h2 => by omega⟩
 have hcy : (fn = 4 ∨ fn = 5 ∨ fn = 6) → ∀ {z : Int}, decide (z ≤ cl) = false → (C.length : Int) = z → K[cl.toNat]? = some y ∧ ¬ (K.length : Int) ≤ cl := by
   rintro h z h2 rfl
   have := of_decide_eq_false h2
   exact ⟨hy (hcl h) (by omega), by omega⟩
 have hCy : (fn = 4 ∨ fn = 5 ∨ fn = 6) → ∀ {z : Int}, decide (z ≤ cl) = false → (C.length : Int) = z → C[cl.toNat]? = some [.int .i64 y] := by
   rintro h z h2 h3
   rw [← hC, List.getElem?_map, (hcy h h2 h3).1]; rfl
 have hlos : (pastM cs K.length = true ∨ pastM (ks.map (·.1)) K.length = true ∨ ((fn = 4 ∨ fn = 5 ∨ fn = 6) ∧ (K.length : Int) ≤ cl) ∨ 32 < K.length + 1) → L = [] ∧ er = 1 := by
   intro h
   rw [winK, if_pos (by simp only [Bool.or_eq_true, Bool.and_eq_true, decide_eq_true_eq, or_assoc] at h ⊢; exact h)] at hg
   simp only [Prod.mk.injEq] at hg
   exact ⟨hg.1.symm, hg.2.symm⟩
 have hgo : pastM cs K.length = false → pastM (ks.map (·.1)) K.length = false → ((fn = 4 ∨ fn = 5 ∨ fn = 6) → ¬ (K.length : Int) ≤ cl) → ¬ 32 < K.length + 1 → (if fn = 6 then (K ++ [atK K cl], (0 : Int)) else if fn = 4 ∧ atK K cl = 2 then ([], 4) else (K ++ [1], 0)) = (L, er) := by
   intro g1 g2 g3 g4
   rw [winK, if_neg (by
     simp only [Bool.or_eq_true, Bool.and_eq_true, decide_eq_true_eq, or_assoc]
     rintro (h | h | h | h)
     · rw [g1] at h; cases h
     · rw [g2] at h; cases h
     · exact g3 h.1 h.2
     · exact g4 h)] at hg
   exact hg
 clear hg
 have hsd0 : okEs 1 ([] : List (List PV)) = true ∧ okEs 1 C = true ∧ ([] : List (List PV)).length + C.length ≤ maxLen ∧ (([] : List (List PV)).length + C.length) * 8 ≤ 140737488355328 := by
   refine ⟨rfl, hok, ?_, ?_⟩ <;> simp only [List.length_nil, maxLen] <;> omega
 have hsd2 : ∀ {Z : List (List PV)} {m : Nat} {v : Int}, C = Z → Z.length = m → (m = Z.length ∧ 1 = 1 ∧ okEs 1 Z = true ∧ okEs 1 [[PV.int .i64 v]] = true ∧ Z.length + [[PV.int .i64 v]].length ≤ maxLen ∧ (Z.length + [[PV.int .i64 v]].length) * 8 ≤ 140737488355328) := by
   rintro Z m v rfl rfl
   refine ⟨rfl, rfl, hok, rfl, ?_, ?_⟩ <;> simp only [List.length_cons, List.length_nil, maxLen] <;> omega
 have hsd1 : ∀ {Z : List (List PV)} {m : Nat} {v : Int}, [] ++ C = Z → ([] : List (List PV)).length + C.length = m → (m = Z.length ∧ 1 = 1 ∧ okEs 1 Z = true ∧ okEs 1 [[PV.int .i64 v]] = true ∧ Z.length + [[PV.int .i64 v]].length ≤ maxLen ∧ (Z.length + [[PV.int .i64 v]].length) * 8 ≤ 140737488355328) := by
   intro Z m v h1 h2
   exact hsd2 (by rw [← h1]; rfl) (by rw [← h1, ← h2]; simp)
 have hz1 : ∀ {z : Int} {b : Bool}, pastM cs z = b → (C.length : Int) = z → pastM cs K.length = b := by rintro z b h rfl; rw [← h, b1]
 have hz2 : ∀ {z : Int} {b : Bool}, pastM (ks.map (·.1)) z = b → (C.length : Int) = z → pastM (ks.map (·.1)) K.length = b := by rintro z b h rfl; rw [← h, b1]
 have hz3 : ∀ {z : Int}, decide (z ≤ cl) = true → (C.length : Int) = z → (K.length : Int) ≤ cl := by rintro z h rfl; have := of_decide_eq_true h; omega
 have hz4 : ∀ {z z' : Int}, IntKind.i64.wrap (z + 1) = z' → (C.length : Int) = z → (decide (32 < z') = true → 32 < K.length + 1) ∧ (decide (32 < z') = false → ¬ 32 < K.length + 1) := by
   rintro z z' h rfl
   rw [wrap_in (by omega)] at h
   subst h
   simp only [decide_eq_true_eq, decide_eq_false_iff_not]; omega
 have hz5 : (∀ {z : Int}, decide (32 ≤ z) = true → (C.length : Int) = z → 32 < K.length + 1) ∧ (∀ {z : Int}, decide (32 ≤ z) = false → (C.length : Int) = z → ¬ 32 < K.length + 1) := by
   constructor <;> (rintro z h rfl; simp only [decide_eq_true_eq, decide_eq_false_iff_not] at h; omega)
 refine PCall.x (nt := 64) (res := [.tmp 4, .tmp 5]) mixed tt_ok [] Tryz.func43 rfl rfl rfl c43 (Nat.le_of_ble_eq_true rfl) ?_
 intro cp cc lp Q' hcp hcc hlp hQ
 repeat' (first
   | (with_reducible refine Nm.mk ?_; intro z hz)
   | (with_reducible refine IfB.mk ?_ ?_ <;> (intro h; cases h))
   | (with_reducible refine Two.l ?_; refine Asm.mk ?_ ?_; focus (decide +kernel))
   | (with_reducible refine Two.r ?_)
   | (with_reducible refine TwoT.r ?_)
   | (with_reducible refine Asm.mk ?_ ?_; focus (first | exact hsd0 | exact hsd1 (by assumption) (by assumption) | exact hsd2 (by assumption) (by assumption) | (show (_ : Bool) = true; kernel_rfl)))
   | (with_reducible refine isCP hcp ?_; first | (refine xP hcp (h1) ?_; skip) | (refine bP hcp (hpast _) ?_; intro z hz) | (refine bP hcp (hpast2 _) ?_; intro z hz) | (refine tP hcp (hclone) ?_; intro z hz))
   | (with_reducible refine isCC hcc ?_; first | (refine xA hcc (h1) rfl ?_; skip) | (refine bA hcc (hpast _) rfl ?_; intro z hz) | (refine bA hcc (hpast2 _) rfl ?_; intro z hz) | (refine tA hcc (hclone) rfl ?_; intro z mz hz hmz))
   | (with_reducible refine Ix.giv (hcl (by first | exact .inl (of_decide_eq_true (by assumption)) | exact .inr (.inr (of_decide_eq_true (by assumption))))) (hCy (by first | exact .inl (of_decide_eq_true (by assumption)) | exact .inr (.inr (of_decide_eq_true (by assumption)))) (by assumption) (by assumption)) rfl (by decide) ?_)
   | (with_reducible refine Asm.mk2 ?_ ?_)
   | ((fail_if_success (with_reducible first | refine hQ _ ?_ | refine Side.mk ?_ | refine isCP hcp ?_ | refine isCC hcc ?_ | refine isLP hlp ?_ | refine Ix.mk ?_ | refine SIx.mk ?_ | refine SEx.mk ?_ | refine EIx.mk ?_ | refine RIx.mk ?_ | refine LkX.mk ?_ | show False | refine hR ?_ _ ?_ ?_ ?_ ?_ ?_ | refine hR2 ?_ _ ?_ ?_ ?_ ?_ ?_)); cbv))
 all_goals try
   (exfalso
    have h6 : fn = 6 := of_decide_eq_true (by assumption)
    have h4 : fn = 4 ∨ fn = 5 := by first | exact .inl (of_decide_eq_true (by assumption)) | exact .inr (of_decide_eq_true (by assumption))
    omega)
 all_goals try
   (exfalso
    have h6 : fn = 6 ∨ fn = 4 := by first | exact .inl (of_decide_eq_true (by assumption)) | exact .inr (of_decide_eq_true (by assumption))
    have h7 : ¬ 4 ≤ fn := of_decide_eq_false (by assumption)
    omega)
 all_goals try
   (exfalso
    have h6 : fn = 6 := of_decide_eq_true (by assumption)
    have h7 : ¬ fn = 6 := of_decide_eq_false (by assumption)
    exact h7 h6)
 all_goals try
   (exfalso
    have h6 : fn = 4 := of_decide_eq_true (by assumption)
    have h7 : ¬ fn = 4 := of_decide_eq_false (by assumption)
    exact h7 h6)
 all_goals first
   | (have e : L = [] ∧ er = 1 := by
        first
          | exact hlos (.inl (hz1 (by assumption) (by assumption)))
          | exact hlos (.inr (.inl (hz2 (by assumption) (by assumption))))
          | exact hlos (.inr (.inr (.inl ⟨by first | exact .inl (of_decide_eq_true (by assumption)) | exact .inr (.inl (of_decide_eq_true (by assumption))) | exact .inr (.inr (of_decide_eq_true (by assumption))) | (have h := of_decide_eq_true (show decide (4 ≤ fn) = true by assumption); omega), hz3 (by assumption) (by assumption)⟩)))
          | exact hlos (.inr (.inr (.inr ((hz4 (by assumption) (by assumption)).1 (by assumption)))))
          | exact hlos (.inr (.inr (.inr (hz5.1 (by assumption) (by assumption)))))
      refine hQ _ ?_
      rw [e.1, e.2]; rfl)
   | (have e := hgo (hz1 (by assumption) (by assumption)) (hz2 (by assumption) (by assumption)) (by
          first
            | (intro hu; exact (hcy hu (by assumption) (by assumption)).2)
            | (rintro (h | h | h)
               · exact absurd h (of_decide_eq_false (by assumption))
               · exact absurd h (of_decide_eq_false (by assumption))
               · exact absurd h (of_decide_eq_false (by assumption)))
            | (intro hu; have h := of_decide_eq_false (show decide (4 ≤ fn) = false by assumption); omega)) (by
          first
            | exact (hz4 (by assumption) (by assumption)).2 (by assumption)
            | exact hz5.2 (by assumption) (by assumption))
      first
        | (have h6 : fn = 6 := of_decide_eq_true (by assumption)
           have hyK := (hcy (.inr (.inr h6)) (by assumption) (by assumption)).1
           rw [if_pos h6, atK_get hyK] at e
           simp only [Prod.mk.injEq] at e
           refine hQ _ ?_
           rw [← e.1, ← e.2, List.map_append, hC]
           clear hQ hcp hcc hlp hlos hgo hz1 hz2 hz3 hz4 hz5 hcy hCy hpast hpast2 hclone h1 e hy hsd0 hsd1 hsd2
           subst_vars
           first | rfl | simp [i64c])
        | (have h4 : fn = 4 := of_decide_eq_true (by assumption)
           have hyK := (hcy (.inl h4) (by assumption) (by assumption)).1
           have h2 : y = 2 := by
             first
               | exact of_decide_eq_true (by assumption)
               | (have h : (!decide (y = 1)) = true := by assumption
                  have := hk12 y (List.mem_of_getElem? hyK)
                  simp only [Bool.not_eq_true', decide_eq_false_iff_not] at h
                  omega)
           rw [if_neg (by omega), if_pos ⟨h4, (atK_get hyK).trans h2⟩] at e
           simp only [Prod.mk.injEq] at e
           refine hQ _ ?_
           rw [← e.1, ← e.2]; rfl)
        | (have h6 : ¬ fn = 6 := by first | exact of_decide_eq_false (by assumption) | (have h4 : fn = 4 := of_decide_eq_true (by assumption); omega)
           rw [if_neg h6, if_neg (by
             rintro ⟨h4, h2⟩
             first
               | exact absurd h4 (of_decide_eq_false (by assumption))
               | (have hyK := (hcy (.inl h4) (by assumption) (by assumption)).1
                  rw [atK_get hyK] at h2
                  first
                    | exact absurd h2 (of_decide_eq_false (by assumption))
                    | (have h : (!decide (y = 1)) = false := by assumption
                       simp only [Bool.not_eq_false', decide_eq_true_eq] at h
                       omega)))] at e
           simp only [Prod.mk.injEq] at e
           refine hQ _ ?_
           rw [← e.1, ← e.2, List.map_append, hC]
           clear hQ hcp hcc hlp hlos hgo hz1 hz2 hz3 hz4 hz5 hcy hCy hpast hpast2 hclone h1 e hy hsd0 hsd1 hsd2
           subst_vars
           first | rfl | simp [i64c]))
end Go.Proofs.YtlabphnonlicdaaGreat

namespace Go.Proofs.YtlabphnonlicdaaGreat
open Go Go.RowKit
set_option maxRecDepth 100000
set_option linter.unusedSimpArgs false
set_option linter.unusedVariables false
theorem len_32 {CC : List (List PV)} {cols : List (ByteArray × Int)} (h : CC.length = cols.length) :
   (∀ {z : Int}, decide (z < 1) = true → (CC.length : Int) = z → decide (1 ≤ cols.length) = false) ∧ (∀ {z : Int}, decide (32 < z) = true → (CC.length : Int) = z → decide (cols.length ≤ 32) = false) ∧
   (∀ {z : Int}, decide (z < 1) = false → (CC.length : Int) = z → decide (1 ≤ cols.length) = true) ∧ (∀ {z : Int}, decide (32 < z) = false → (CC.length : Int) = z → decide (cols.length ≤ 32) = true) := by
 refine ⟨?_, ?_, ?_, ?_⟩ <;> (rintro z h1 rfl; simp only [decide_eq_true_eq, decide_eq_false_iff_not] at *; omega)
set_option maxHeartbeats 4000000 in
theorem schema_c (T : List Tb) (C : List (List PV)) (hC : T.map Tb.cells = C) (hb : wideM 24 T.length) (hw : ∀ t, t ∈ T → t.wide) : PCall Tryz.prog 15 [.sl C] fun r => r = [.bool (schM [] T)] := by
 unfold wideM at hb
 have b1 : C.length = T.length := by rw [← hC]; simp
 obtain ⟨q, hq⟩ : ∃ q, schM [] T = q := ⟨_, rfl⟩
 rw [hq]
 refine PCall.x (nt := 76) (res := [.tmp 2]) mixed tt2_ok [] Tryz.func15 rfl rfl rfl c15 (Nat.le_of_ble_eq_true rfl) ?_
 intro cp cc lp Q' hcp hcc hlp hQ
 repeat' (first
   | (with_reducible refine Nm.mk ?_; intro z hz)
   | (with_reducible refine IfB.mk ?_ ?_ <;> (intro h; cases h))
   | (with_reducible refine Two.l ?_; refine Asm.mk ?_ ?_; focus (decide +kernel))
   | (with_reducible refine Two.r ?_)
   | (with_reducible refine TwoT.r ?_)
   | (with_reducible refine Asm.mk ?_ ?_; focus (first | kernel_rfl | decide))
   | (with_reducible refine Asm.mk2 ?_ ?_)
   | ((fail_if_success (with_reducible first | refine hQ _ ?_ | refine Side.mk ?_ | refine isCP hcp ?_ | refine isCC hcc ?_ | refine isLP hlp ?_ | refine Ix.mk ?_ | refine SIx.mk ?_ | refine SEx.mk ?_ | refine EIx.mk ?_ | refine RIx.mk ?_ | refine LkX.mk ?_ | show False | refine hR ?_ _ ?_ ?_ ?_ ?_ ?_ | refine hR2 ?_ _ ?_ ?_ ?_ ?_ ?_)); cbv))
 simp only [nc] at hz
 simp only [nc'] at hz
 have hzl := lenZ b1 hz
 clear hz
 generalize z = zl at *
 refine loopT (ι := Int × List ByteArray × List (PV × PV)) mixed tt2_ok hcp hcc hlp [3, 10, 11] (fun p => [(12, .p (.int .i64 p.1))]) (fun p => [.map p.2.2])
   (fun p => Rng T.length zl p.1 ∧ cmE p.2.1 = p.2.2 ∧ schM p.2.1 (T.drop p.1.toNat) = q) (fun p => (zl - p.1).toNat) (0, [], []) 1 (fun _ => rfl) ⟨Rng.start hzl (by omega), rfl, hq⟩ ⟨rfl, trivial⟩ rfl ?_
 rintro R1 ⟨i, S, es⟩ ⟨rg, hS, hf⟩ hR
 replace rg : Rng T.length zl i := rg
 replace hS : cmE S = es := hS
 replace hf : schM S (T.drop i.toNat) = q := hf
 have hke : keysB .str es = true := by rw [← hS]; exact cm_keys S
 have hstep : ∀ {x : Tb}, T[i.toNat]? = some x → q = (!hasS S x.name && tabM x && schM (S ++ [x.name]) (T.drop (i + 1).toNat)) := by
   intro x hx; rw [← hf, rg.step hx, schM]
 have hout : decide (i < zl) = false → q = true := by
   intro h; rw [← hf, rg.end_ rfl h]; rfl
 have hwx : ∀ {nm : ByteArray} {cols : List (ByteArray × Int)} {rows : List (List Val)} {CC : List (List PV)}, T[i.toNat]? = some ⟨nm, cols, rows⟩ → cols.map colc = CC → (PCall Tryz.prog 26 [.str nm] fun r => r = [.bool (idM nm)]) ∧ CC.length = cols.length ∧ cols.length * 24 ≤ 140737488351232 ∧ ∀ c, c ∈ cols → c.1.size ≤ 140737488355328 := by
   intro nm cols rows CC hx hCC
   obtain ⟨w1, w2, w3, w4, w5⟩ := hw _ (List.mem_of_getElem? hx)
   unfold wideM at w1 w2 w3 w4
   dsimp only at w1 w2 w4
   exact ⟨name_c nm (by omega), by rw [← hCC]; simp, by omega, fun c hc => by have := w4 c hc; omega⟩
 repeat' (first
   | (with_reducible refine Nm.mk ?_; intro z hz)
   | (with_reducible refine IfB.mk ?_ ?_ <;> (intro h; cases h))
   | (with_reducible refine Two.l ?_; refine Asm.mk ?_ ?_; focus (decide +kernel))
   | (with_reducible refine Two.r ?_)
   | (with_reducible refine TwoT.r ?_)
   | (with_reducible refine Asm.mk ?_ ?_; focus (first | exact hke | exact (hput _ _ (by assumption) (by assumption)).2.2.1 | kernel_rfl))
   | (with_reducible refine isCP hcp ?_; first | (refine bP hcp (hn1) ?_; intro z hz))
   | (with_reducible refine isCC hcc ?_; first | (refine bA hcc (hn1) rfl ?_; intro z hz))
   | (with_reducible refine Ix.tb hC rg.lo (rg.lt (by assumption)) ?_; intro nm cols rows CC RW hx hCC hRW; obtain ⟨c, b, hget, hfs, hput⟩ := cm_all nm hS; obtain ⟨hn1, hlc, hbc, hcs⟩ := hwx hx hCC; have hl1 := @len_32 CC cols hlc)
   | (with_reducible refine LkX.at_ hget hfs ?_)
   | (with_reducible refine LkX.at_ (hput _ _ (by assumption) (by assumption)).1 (hput _ _ (by assumption) (by assumption)).2.1 ?_)
   | (with_reducible refine Asm.mk2 ?_ ?_)
   | ((fail_if_success (with_reducible first | refine hQ _ ?_ | refine Side.mk ?_ | refine isCP hcp ?_ | refine isCC hcc ?_ | refine isLP hlp ?_ | refine Ix.mk ?_ | refine SIx.mk ?_ | refine SEx.mk ?_ | refine EIx.mk ?_ | refine RIx.mk ?_ | refine LkX.mk ?_ | show False | refine hR ?_ _ ?_ ?_ ?_ ?_ ?_ | refine hR2 ?_ _ ?_ ?_ ?_ ?_ ?_)); cbv))
 all_goals first
   | (refine hQ _ ?_
      rw [hout (by assumption)]
      done)
   | (have hf1 : q = false := by
        rw [hstep hx]
        clear hstep hwx hR hQ hcp hcc hlp hn1 hout
        have hp := (hput _ _ (by assumption) (by assumption)).2.2.2.1
        first
          | (have hd := hasS_t (hp (by assumption)); simp only [hd]; rfl)
          | (have hlf := hl1.1 (by assumption) (by assumption); rw [tabM_eq]; dsimp only; rw [hlf]; clear hp hput hget hfs; simp; done)
          | (have hlf := hl1.2.1 (by assumption) (by assumption); rw [tabM_eq]; dsimp only; rw [hlf]; clear hp hput hget hfs; simp; done)
          | (rw [tabM]; dsimp only; clear hp hput hget hfs hl1; simp_all; done)
      refine hQ _ ?_
      rw [hf1])
   | skip
 obtain ⟨_, _, hke2, _, hnew⟩ := hput _ _ (by assumption) (by assumption)
 obtain ⟨hnS, hS2⟩ := hnew (by assumption)
 have hq2 : q = (ckP [] cols && schM (S ++ [nm]) (T.drop (i + 1).toNat)) := by
   have h1 : idM nm = true := by clear hstep hwx hR hQ hcp hcc hlp hn1 hout hput hz hget hfs hS hnew hl1; simp_all
   have h2 := hl1.2.2.1 (by assumption) (by assumption)
   have h3 := hl1.2.2.2 (by assumption) (by assumption)
   rw [hstep hx, hasS_f hnS, tabM_eq]
   dsimp only
   rw [h1, h2, h3]; rfl
 have hlt : decide (i < zl) = true := by assumption
 clear hput hnew hstep hout hget hfs hke hS hn1 hwx hl1
 rename List (PV × PV) => es2
 simp only [nc] at hz
 simp only [nc'] at hz
 have hyl := lenZ hlc hz
 clear hz
 generalize z = yl at *
 obtain ⟨w, hw⟩ : ∃ w, ckP [] cols = w := ⟨_, rfl⟩
 rw [hw] at hq2
 refine loopT (ι := Int × List ByteArray × List (PV × PV)) mixed tt2_ok hcp hcc hlp [3, 6, 10, 11, 12, 46, 47] (fun p => [(48, .p (.int .i64 p.1))]) (fun p => [.map es2, .cells [.p (.str nm), .p (.sl CC), .p (.sl RW)], .map p.2.2])
   (fun p => Rng cols.length yl p.1 ∧ cmE p.2.1 = p.2.2 ∧ ckP p.2.1 (cols.drop p.1.toNat) = w) (fun p => (yl - p.1).toNat) (0, [], []) 3 (fun _ => rfl) ⟨Rng.start hyl (by omega), rfl, hw⟩ ⟨rfl, trivial⟩ rfl ?_
 rintro R2 ⟨j, S2, es3⟩ ⟨rj, hS3, hf3⟩ hR2
 replace rj : Rng cols.length yl j := rj
 replace hS3 : cmE S2 = es3 := hS3
 replace hf3 : ckP S2 (cols.drop j.toNat) = w := hf3
 have hke3 : keysB .str es3 = true := by rw [← hS3]; exact cm_keys S2
 have hstep3 : ∀ {s : ByteArray} {k : Int}, cols[j.toNat]? = some (s, k) → w = (idM s && !hasS S2 s && kOK k && ckP (S2 ++ [s]) (cols.drop (j + 1).toNat)) := by
   intro s k hx; rw [← hf3, rj.step hx, ckP]
 have hout3 : decide (j < yl) = false → w = true := by
   intro h; rw [← hf3, rj.end_ rfl h]; rfl
 have hwn : ∀ {s : ByteArray} {k : Int}, cols[j.toNat]? = some (s, k) → PCall Tryz.prog 26 [.str s] fun r => r = [.bool (idM s)] := fun hx => name_c _ (hcs _ (List.mem_of_getElem? hx))
 have hko : ∀ k : Int, PCall Tryz.prog 27 [.int .i64 k] fun r => r = [.bool (kOK k)] := kindOK_c
 repeat' (first
   | (with_reducible refine Nm.mk ?_; intro z hz)
   | (with_reducible refine IfB.mk ?_ ?_ <;> (intro h; cases h))
   | (with_reducible refine Two.l ?_; refine Asm.mk ?_ ?_; focus (decide +kernel))
   | (with_reducible refine Two.r ?_)
   | (with_reducible refine TwoT.r ?_)
   | (with_reducible refine Asm.mk ?_ ?_; focus (first | exact hke3 | exact (hput3 _ _ (by assumption) (by assumption)).2.2.1 | kernel_rfl))
   | (with_reducible refine isCP hcp ?_; first | (refine bP hcp (hwn hy) ?_; intro z hz) | (refine bP hcp (hko _) ?_; intro z hz))
   | (with_reducible refine isCC hcc ?_; first | (refine bA hcc (hwn hy) rfl ?_; intro z hz) | (refine bA hcc (hko _) rfl ?_; intro z hz))
   | (with_reducible refine Ix.cl hCC rj.lo (rj.lt (by assumption)) ?_; intro s3 k3 hy; obtain ⟨c3, b3, hget3, hfs3, hput3⟩ := cm_all s3 hS3)
   | (with_reducible refine LkX.at_ hget3 hfs3 ?_)
   | (with_reducible refine LkX.at_ (hput3 _ _ (by assumption) (by assumption)).1 (hput3 _ _ (by assumption) (by assumption)).2.1 ?_)
   | (with_reducible refine Asm.mk2 ?_ ?_)
   | ((fail_if_success (with_reducible first | refine hQ _ ?_ | refine Side.mk ?_ | refine isCP hcp ?_ | refine isCC hcc ?_ | refine isLP hlp ?_ | refine Ix.mk ?_ | refine SIx.mk ?_ | refine SEx.mk ?_ | refine EIx.mk ?_ | refine RIx.mk ?_ | refine LkX.mk ?_ | show False | refine hR ?_ _ ?_ ?_ ?_ ?_ ?_ | refine hR2 ?_ _ ?_ ?_ ?_ ?_ ?_)); cbv))
 all_goals first
   | (have hw1 : w = true := hout3 (by assumption)
      rw [rg.wrap hlt] at hz
      refine hR (i + 1, S ++ [nm], es2) _ ⟨rg.next hlt, hS2, ?_⟩ (rg.less hlt) ⟨hz ▸ rfl, trivial⟩ ⟨rfl, rfl, rfl, trivial⟩ rfl
      show schM (S ++ [nm]) (T.drop (i + 1).toNat) = q
      rw [hq2, hw1]; rfl)
   | (have hf1 : w = false := by
        rw [hstep3 hy]
        clear hstep3 hwn hko hR hR2 hQ hcp hcc hlp hout3 hq2
        have hp := (hput3 _ _ (by assumption) (by assumption)).2.2.2.1
        first
          | (have hd := hasS_t (hp (by assumption)); simp only [hd]; simp; done)
          | (clear hp hput3 hget3 hfs3; simp_all; done)
      refine hQ _ ?_
      rw [hq2, hf1]; rfl)
   | (obtain ⟨_, _, _, _, hnew⟩ := hput3 _ _ (by assumption) (by assumption)
      obtain ⟨hnS3, hS4⟩ := hnew (by assumption)
      have h9 : kOK k3 = true := by clear hstep3 hwn hko hR hR2 hQ hcp hcc hlp hout3 hput3 hz hget3 hfs3 hS3 hnew hq2; simp_all
      have h1 : idM s3 = true := by clear hstep3 hwn hko hR hR2 hQ hcp hcc hlp hout3 hput3 hz hget3 hfs3 hS3 hnew hq2; simp_all
      have hlt3 : decide (j < yl) = true := by assumption
      rw [rj.wrap hlt3] at hz
      refine hR2 (j + 1, S2 ++ [s3], _) _ ⟨rj.next hlt3, hS4, ?_⟩ (rj.less hlt3) ⟨hz ▸ rfl, trivial⟩ ⟨rfl, rfl, rfl, rfl, rfl, rfl, rfl, trivial⟩ rfl
      show ckP (S2 ++ [s3]) (cols.drop (j + 1).toNat) = w
      rw [hstep3 hy, h1, h9, hasS_f hnS3]; rfl)
end Go.Proofs.YtlabphnonlicdaaGreat

namespace Go.Proofs.YtlabphnonlicdaaGreat
open Go Go.RowKit
set_option maxRecDepth 100000
set_option linter.unusedSimpArgs false
set_option linter.unusedVariables false
theorem rowPc_len (r : List Val) : (rowPc r).length = 1 := rfl
theorem Ix.rw_ {C : List (List PV)} {l : List (List Val)} {i : Int} {K : List PV → Prop} (hl : l.map rowPc = C) (h0 : 0 ≤ i) (hn : i < l.length)
   (g : ∀ x M, l[i.toNat]? = some x → x.map Val.cells = M → K [.sl M]) : Ix 1 C i K :=
 Ix.map hl rowPc_len (by decide) h0 hn fun x hx => g x _ hx rfl
def rowsM (t : Tb) : Bool := t.rows.all (rowM (t.cols.map (·.2)))
theorem goodTM_eq (T : List Tb) : goodTM T = (schM [] T && T.all rowsM) := rfl
set_option maxHeartbeats 4000000 in
theorem tables_c (T : List Tb) (C : List (List PV)) (hC : T.map Tb.cells = C) (hb : wideM 24 T.length) (hw : ∀ t, t ∈ T → t.wide) : PCall Tryz.prog 4 [.sl C] fun r => r = [.bool (goodTM T)] := by
 have hs := rschema_c T C hC hb hw
 unfold wideM at hb
 have b1 : C.length = T.length := by rw [← hC]; simp
 obtain ⟨q, hq⟩ : ∃ q, T.all rowsM = q := ⟨_, rfl⟩
 rw [goodTM_eq, hq]
 generalize schM [] T = sc at *
 refine PCall.x (nt := 30) (res := [.tmp 2]) mixed tt_ok [] Tryz.func4 rfl rfl rfl c4 (Nat.le_of_ble_eq_true rfl) ?_
 intro cp cc lp Q' hcp hcc hlp hQ
 repeat' (first
   | (with_reducible refine Nm.mk ?_; intro z hz)
   | (with_reducible refine IfB.mk ?_ ?_ <;> (intro h; cases h))
   | (with_reducible refine Two.l ?_; refine Asm.mk ?_ ?_; focus (decide +kernel))
   | (with_reducible refine Two.r ?_)
   | (with_reducible refine TwoT.r ?_)
   | (with_reducible refine Asm.mk ?_ ?_; focus (first | kernel_rfl | decide))
   | (with_reducible refine isCP hcp ?_; first | (refine bP hcp (hs) ?_; intro z hz))
   | (with_reducible refine isCC hcc ?_; first | (refine bA hcc (hs) rfl ?_; intro z hz))
   | (with_reducible refine Asm.mk2 ?_ ?_)
   | ((fail_if_success (with_reducible first | refine hQ _ ?_ | refine Side.mk ?_ | refine isCP hcp ?_ | refine isCC hcc ?_ | refine isLP hlp ?_ | refine Ix.mk ?_ | refine SIx.mk ?_ | refine SEx.mk ?_ | refine EIx.mk ?_ | refine RIx.mk ?_ | refine LkX.mk ?_ | show False | refine hR ?_ _ ?_ ?_ ?_ ?_ ?_ | refine hR2 ?_ _ ?_ ?_ ?_ ?_ ?_)); cbv))
 · refine hQ _ ?_
   have : sc = false := by clear hQ hcp hcc hlp hs; simp_all
   rw [this]; rfl
 have hsc : sc = true := by clear hQ hcp hcc hlp hs hz; simp_all
 rw [hsc, Bool.true_and] at hQ
 simp only [nc] at hz
 simp only [nc'] at hz
 have hzl := lenZ b1 hz
 clear hz
 generalize z = zl at *
 refine loopK (ι := Int) mixed tt_ok hcp hcc hlp [10, 11] (fun i => [(12, .p (.int .i64 i))]) (fun i => Rng T.length zl i ∧ (T.drop i.toNat).all rowsM = q) (fun i => (zl - i).toNat) 0 (fun _ => rfl) ⟨Rng.start hzl (by omega), hq⟩ ⟨rfl, trivial⟩ ?_
 rintro R1 i ⟨rg, hf⟩ hR
 have hstep : ∀ {x : Tb}, T[i.toNat]? = some x → q = (rowsM x && (T.drop (i + 1).toNat).all rowsM) := by
   intro x hx; rw [← hf, rg.step hx, List.all_cons]
 have hout : decide (i < zl) = false → q = true := by
   intro h; rw [← hf, rg.end_ rfl h]; rfl
 have hwx : ∀ {nm : ByteArray} {cols : List (ByteArray × Int)} {rows : List (List Val)} {CC RW : List (List PV)}, T[i.toNat]? = some ⟨nm, cols, rows⟩ → cols.map colc = CC → rows.map rowPc = RW → (PCall Tryz.prog 14 [.agg [.str nm, .sl CC, .sl RW]] fun r => r = [.sl ((cols.map (·.2)).map i64c)]) ∧ RW.length = rows.length ∧ cols.length * 24 ≤ 140737488351232 ∧ rows.length * 24 ≤ 140737488351232 ∧ ∀ r, r ∈ rows → r.length * 32 ≤ 140737488351232 := by
   intro nm cols rows CC RW hx hCC hRW
   obtain ⟨w1, w2, w3, w4, w5⟩ := hw _ (List.mem_of_getElem? hx)
   unfold wideM at w1 w2 w3 w5
   dsimp only at w1 w2 w3 w5
   exact ⟨kindsOf_c cols CC nm RW hCC (by omega), by rw [← hRW]; simp, by omega, by omega, fun r hr => w5 r hr⟩
 repeat' (first
   | (with_reducible refine Nm.mk ?_; intro z hz)
   | (with_reducible refine IfB.mk ?_ ?_ <;> (intro h; cases h))
   | (with_reducible refine Two.l ?_; refine Asm.mk ?_ ?_; focus (decide +kernel))
   | (with_reducible refine Two.r ?_)
   | (with_reducible refine TwoT.r ?_)
   | (with_reducible refine Asm.mk ?_ ?_; focus kernel_rfl)
   | (with_reducible refine Ix.tb hC rg.lo (rg.lt (by assumption)) ?_; intro nm cols rows CC RW hx hCC hRW; obtain ⟨hn2, hlr, hbc, hbr, hrs⟩ := hwx hx hCC hRW; obtain ⟨KL, hKL⟩ : ∃ l, (cols.map (·.2)).map i64c = l := ⟨_, rfl⟩; rw [hKL] at hn2)
   | (with_reducible refine Asm.mk2 ?_ ?_)
   | ((fail_if_success (with_reducible first | refine hQ _ ?_ | refine Side.mk ?_ | refine isCP hcp ?_ | refine isCC hcc ?_ | refine isLP hlp ?_ | refine Ix.mk ?_ | refine SIx.mk ?_ | refine SEx.mk ?_ | refine EIx.mk ?_ | refine RIx.mk ?_ | refine LkX.mk ?_ | show False | refine hR ?_ _ ?_ ?_ ?_ ?_ ?_ | refine hR2 ?_ _ ?_ ?_ ?_ ?_ ?_)); cbv))
 · simp only [nc] at hz
   simp only [nc'] at hz
   have hyl := lenZ hlr hz
   clear hz
   generalize z = yl at *
   have hlt : decide (i < zl) = true := by assumption
   obtain ⟨w, hw2⟩ : ∃ w, rows.all (rowM (cols.map (·.2))) = w := ⟨_, rfl⟩
   have hq2 : q = (w && (T.drop (i + 1).toNat).all rowsM) := by rw [hstep hx, ← hw2]; rfl
   have hbk : (cols.map (·.2)).length * 8 ≤ 140737488351232 := by rw [List.length_map]; omega
   generalize cols.map (·.2) = KS at *
   refine loopK (ι := Int) mixed tt_ok hcp hcc hlp [4, 10, 11, 12, 17, 18] (fun j => [(19, .p (.int .i64 j))]) (fun j => Rng rows.length yl j ∧ (rows.drop j.toNat).all (rowM KS) = w) (fun j => (yl - j).toNat) 0 (fun _ => rfl) ⟨Rng.start hyl (by omega), hw2⟩ ⟨rfl, trivial⟩ ?_
   rintro R2 j ⟨rj, hg⟩ hR2
   have hbad : ∀ x, rows[j.toNat]? = some x → rowM KS x = false → w = false := by
     intro x hx h; rw [← hg, rj.step hx, List.all_cons, h]; rfl
   have hgood : ∀ x, rows[j.toNat]? = some x → rowM KS x = true → (rows.drop (j + 1).toNat).all (rowM KS) = w := by
     intro x hx h; rw [← hg, rj.step hx, List.all_cons, h]; rfl
   have hout2 : decide (j < yl) = false → w = true := by
     intro h; rw [← hg, rj.end_ rfl h]; rfl
   have hrf : ∀ {x : List Val} {M : List (List PV)}, rows[j.toNat]? = some x → x.map Val.cells = M → PCall Tryz.prog 13 [.sl KL, .sl M] fun r => r = [.bool (rowM KS x)] := fun hx hM => rowFits_c KS KL _ _ hKL hM hbk (hrs _ (List.mem_of_getElem? hx))
   repeat' (first
     | (with_reducible refine Nm.mk ?_; intro z hz)
     | (with_reducible refine IfB.mk ?_ ?_ <;> (intro h; cases h))
     | (with_reducible refine Two.l ?_; refine Asm.mk ?_ ?_; focus (decide +kernel))
     | (with_reducible refine Two.r ?_)
     | (with_reducible refine TwoT.r ?_)
     | (with_reducible refine Asm.mk ?_ ?_; focus kernel_rfl)
     | (with_reducible refine isCP hcp ?_; first | (refine xP hcp (hn2) ?_; skip) | (refine bP hcp (hrf hy hM) ?_; intro z hz))
     | (with_reducible refine isCC hcc ?_; first | (refine xA hcc (hn2) rfl ?_; skip) | (refine bA hcc (hrf hy hM) rfl ?_; intro z hz))
     | (with_reducible refine Ix.rw_ hRW rj.lo (rj.lt (by assumption)) ?_; intro y M hy hM)
     | (with_reducible refine Asm.mk2 ?_ ?_)
     | ((fail_if_success (with_reducible first | refine hQ _ ?_ | refine Side.mk ?_ | refine isCP hcp ?_ | refine isCC hcc ?_ | refine isLP hlp ?_ | refine Ix.mk ?_ | refine SIx.mk ?_ | refine SEx.mk ?_ | refine EIx.mk ?_ | refine RIx.mk ?_ | refine LkX.mk ?_ | show False | refine hR ?_ _ ?_ ?_ ?_ ?_ ?_ | refine hR2 ?_ _ ?_ ?_ ?_ ?_ ?_)); cbv))
   all_goals first
     | (have hlt2 : decide (j < yl) = true := by assumption
        rw [rj.wrap hlt2] at hz
        exact hR2 (j + 1) _ ⟨rj.next hlt2, hgood _ hy (by clear hR hR2 hQ hcp hcc hlp hbad hgood hout hout2 hrf hn2 hstep hwx; simp_all)⟩ (rj.less hlt2) ⟨hz ▸ rfl, trivial⟩ ⟨rfl, rfl, rfl, rfl, rfl, rfl, trivial⟩ rfl)
     | (have hw1 := hout2 (by assumption)
        rw [rg.wrap hlt] at hz
        refine hR (i + 1) _ ⟨rg.next hlt, ?_⟩ (rg.less hlt) ⟨hz ▸ rfl, trivial⟩ ⟨rfl, rfl, trivial⟩ rfl
        rw [hq2, hw1]; rfl)
     | (refine hQ _ ?_
        rw [hq2, hbad _ hy (by clear hR hR2 hQ hcp hcc hlp hbad hgood hout hout2 hrf hn2 hstep hwx; simp_all)]; rfl)
 · refine hQ _ ?_
   rw [hout (by assumption)]
end Go.Proofs.YtlabphnonlicdaaGreat

namespace Go.Proofs.YtlabphnonlicdaaGreat
open Go Go.RowKit
set_option maxRecDepth 100000
set_option linter.unusedSimpArgs false
set_option linter.unusedVariables false
set_option maxHeartbeats 4000000 in
theorem good_c (T : List Tb) (C : List (List PV)) (hC : T.map Tb.cells = C) (hb : wideM 24 T.length) (hw : ∀ t, t ∈ T → t.wide) : PCall Tryz.prog 8 [.sl C] fun r => r = [.int .i64 (if goodTM T = true then 0 else 1)] := by
 have hs := schema_c T C hC hb hw
 unfold wideM at hb
 have b1 : C.length = T.length := by rw [← hC]; simp
 obtain ⟨q, hq⟩ : ∃ q, T.all rowsM = q := ⟨_, rfl⟩
 rw [goodTM_eq, hq]
 generalize schM [] T = sc at *
 refine PCall.x (nt := 63) (res := [.tmp 2]) mixed tt_ok [] Tryz.func8 rfl rfl rfl c8 (Nat.le_of_ble_eq_true rfl) ?_
 intro cp cc lp Q' hcp hcc hlp hQ
 repeat' (first
   | (with_reducible refine Nm.mk ?_; intro z hz)
   | (with_reducible refine IfB.mk ?_ ?_ <;> (intro h; cases h))
   | (with_reducible refine Two.l ?_; refine Asm.mk ?_ ?_; focus (decide +kernel))
   | (with_reducible refine Two.r ?_)
   | (with_reducible refine TwoT.r ?_)
   | (with_reducible refine Asm.mk ?_ ?_; focus (first | kernel_rfl | decide))
   | (with_reducible refine isCP hcp ?_; first | (refine bP hcp (hs) ?_; intro z hz))
   | (with_reducible refine isCC hcc ?_; first | (refine bA hcc (hs) rfl ?_; intro z hz))
   | (with_reducible refine Asm.mk2 ?_ ?_)
   | ((fail_if_success (with_reducible first | refine hQ _ ?_ | refine Side.mk ?_ | refine isCP hcp ?_ | refine isCC hcc ?_ | refine isLP hlp ?_ | refine Ix.mk ?_ | refine SIx.mk ?_ | refine SEx.mk ?_ | refine EIx.mk ?_ | refine RIx.mk ?_ | refine LkX.mk ?_ | show False | refine hR ?_ _ ?_ ?_ ?_ ?_ ?_ | refine hR2 ?_ _ ?_ ?_ ?_ ?_ ?_)); cbv))
 · refine hQ _ ?_
   have : sc = false := by clear hQ hcp hcc hlp hs; simp_all
   rw [this]; rfl
 have hsc : sc = true := by clear hQ hcp hcc hlp hs hz; simp_all
 rw [hsc, Bool.true_and] at hQ
 simp only [nc] at hz
 simp only [nc'] at hz
 have hzl := lenZ b1 hz
 clear hz
 generalize z = zl at *
 refine loopK (ι := Int) mixed tt_ok hcp hcc hlp [12, 13] (fun i => [(14, .p (.int .i64 i))]) (fun i => Rng T.length zl i ∧ (T.drop i.toNat).all rowsM = q) (fun i => (zl - i).toNat) 0 (fun _ => rfl) ⟨Rng.start hzl (by omega), hq⟩ ⟨rfl, trivial⟩ ?_
 rintro R1 i ⟨rg, hf⟩ hR
 have hstep : ∀ {x : Tb}, T[i.toNat]? = some x → q = (rowsM x && (T.drop (i + 1).toNat).all rowsM) := by
   intro x hx; rw [← hf, rg.step hx, List.all_cons]
 have hout : decide (i < zl) = false → q = true := by
   intro h; rw [← hf, rg.end_ rfl h]; rfl
 have hwx : ∀ {nm : ByteArray} {cols : List (ByteArray × Int)} {rows : List (List Val)} {CC RW : List (List PV)}, T[i.toNat]? = some ⟨nm, cols, rows⟩ → cols.map colc = CC → rows.map rowPc = RW → RW.length = rows.length ∧ CC.length = cols.length ∧ cols.length * 24 ≤ 140737488351232 ∧ rows.length * 24 ≤ 140737488351232 ∧ ∀ r, r ∈ rows → r.length * 32 ≤ 140737488351232 := by
   intro nm cols rows CC RW hx hCC hRW
   obtain ⟨w1, w2, w3, w4, w5⟩ := hw _ (List.mem_of_getElem? hx)
   unfold wideM at w1 w2 w3 w5
   dsimp only at w1 w2 w3 w5
   exact ⟨by rw [← hRW]; simp, by rw [← hCC]; simp, by omega, by omega, fun r hr => w5 r hr⟩
 repeat' (first
   | (with_reducible refine Nm.mk ?_; intro z hz)
   | (with_reducible refine IfB.mk ?_ ?_ <;> (intro h; cases h))
   | (with_reducible refine Two.l ?_; refine Asm.mk ?_ ?_; focus (decide +kernel))
   | (with_reducible refine Two.r ?_)
   | (with_reducible refine TwoT.r ?_)
   | (with_reducible refine Asm.mk ?_ ?_; focus kernel_rfl)
   | (with_reducible refine Ix.tb hC rg.lo (rg.lt (by assumption)) ?_; intro nm cols rows CC RW hx hCC hRW; obtain ⟨hlr, hlc, hbc, hbr, hrs⟩ := hwx hx hCC hRW)
   | (with_reducible refine Asm.mk2 ?_ ?_)
   | ((fail_if_success (with_reducible first | refine hQ _ ?_ | refine Side.mk ?_ | refine isCP hcp ?_ | refine isCC hcc ?_ | refine isLP hlp ?_ | refine Ix.mk ?_ | refine SIx.mk ?_ | refine SEx.mk ?_ | refine EIx.mk ?_ | refine RIx.mk ?_ | refine LkX.mk ?_ | show False | refine hR ?_ _ ?_ ?_ ?_ ?_ ?_ | refine hR2 ?_ _ ?_ ?_ ?_ ?_ ?_)); cbv))
 rotate_left
 · refine hQ _ ?_
   rw [hout (by assumption)]; rfl
 simp only [nc] at hz
 simp only [nc'] at hz
 have hyl := lenZ hlr hz
 clear hz
 generalize z = yl at *
 have hlt : decide (i < zl) = true := by assumption
 obtain ⟨w, hw2⟩ : ∃ w, rows.all (rowM (cols.map (·.2))) = w := ⟨_, rfl⟩
 have hq2 : q = (w && (T.drop (i + 1).toNat).all rowsM) := by rw [hstep hx, ← hw2]; rfl
 obtain ⟨KS, hKS⟩ : ∃ k, cols.map (·.2) = k := ⟨_, rfl⟩
 have hkl : KS.length = cols.length := by rw [← hKS, List.length_map]
 rw [hKS] at hw2
 refine loopK (ι := Int) mixed tt_ok hcp hcc hlp [4, 12, 13, 14, 19, 20] (fun j => [(21, .p (.int .i64 j))]) (fun j => Rng rows.length yl j ∧ (rows.drop j.toNat).all (rowM KS) = w) (fun j => (yl - j).toNat) 0 (fun _ => rfl) ⟨Rng.start hyl (by omega), hw2⟩ ⟨rfl, trivial⟩ ?_
 rintro R2 j ⟨rj, hg⟩ hR2
 have hbad : ∀ x, rows[j.toNat]? = some x → rowM KS x = false → w = false := by
   intro x hx h; rw [← hg, rj.step hx, List.all_cons, h]; rfl
 have hgood : ∀ x, rows[j.toNat]? = some x → rowM KS x = true → (rows.drop (j + 1).toNat).all (rowM KS) = w := by
   intro x hx h; rw [← hg, rj.step hx, List.all_cons, h]; rfl
 have hout2 : decide (j < yl) = false → w = true := by
   intro h; rw [← hg, rj.end_ rfl h]; rfl
 repeat' (first
   | (with_reducible refine Nm.mk ?_; intro z hz)
   | (with_reducible refine IfB.mk ?_ ?_ <;> (intro h; cases h))
   | (with_reducible refine Two.l ?_; refine Asm.mk ?_ ?_; focus (decide +kernel))
   | (with_reducible refine Two.r ?_)
   | (with_reducible refine TwoT.r ?_)
   | (with_reducible refine Asm.mk ?_ ?_; focus kernel_rfl)
   | (with_reducible refine Ix.rw_ hRW rj.lo (rj.lt (by assumption)) ?_; intro y M hy hM)
   | (with_reducible refine Asm.mk2 ?_ ?_)
   | ((fail_if_success (with_reducible first | refine hQ _ ?_ | refine Side.mk ?_ | refine isCP hcp ?_ | refine isCC hcc ?_ | refine isLP hlp ?_ | refine Ix.mk ?_ | refine SIx.mk ?_ | refine SEx.mk ?_ | refine EIx.mk ?_ | refine RIx.mk ?_ | refine LkX.mk ?_ | show False | refine hR ?_ _ ?_ ?_ ?_ ?_ ?_ | refine hR2 ?_ _ ?_ ?_ ?_ ?_ ?_)); cbv))
 · have hl : ¬ M.length = CC.length := by
     rename_i z1 h1 z2 h2
     clear hR hR2 hQ hcp hcc hlp hbad hgood hout hout2 hstep hwx
     try simp only [nc] at *
     try simp only [nc'] at *
     simp only [Bool.not_eq_true', decide_eq_false_iff_not] at *
     omega
   have hrb : rowM KS y = false := by
     rw [rowM, Bool.and_eq_false_iff, decide_eq_false_iff_not]
     left
     have : M.length = y.length := by rw [← hM]; simp
     omega
   refine hQ _ ?_
   rw [hq2, hbad _ hy hrb]; rfl
 · have hl : M.length = CC.length := by
     rename_i z1 h1 z2 h2 h3 _
     clear hR hR2 hQ hcp hcc hlp hbad hgood hout hout2 hstep hwx hz
     try simp only [nc] at *
     try simp only [nc'] at *
     simp only [Bool.not_eq_false', decide_eq_true_eq] at *
     omega
   have hMy : M.length = y.length := by rw [← hM]; simp
   have hlen : y.length = KS.length := by omega
   simp only [nc] at hz
   simp only [nc'] at hz
   have hxl := lenZ hMy hz
   clear hz
   generalize z = xl at *
   obtain ⟨v, hv⟩ : ∃ v, fitL KS y = v := ⟨_, rfl⟩
   have hrm : rowM KS y = v := by rw [rowM, decide_eq_true hlen, hv]; rfl
   have hlt2 : decide (j < yl) = true := by assumption
   have hbry := hrs _ (List.mem_of_getElem? hy)
   refine loopK (ι := Int) mixed tt_ok hcp hcc hlp [4, 6, 12, 13, 14, 19, 20, 21, 31, 32] (fun k => [(33, .p (.int .i64 k))]) (fun k => Rng y.length xl k ∧ fitL (KS.drop k.toNat) (y.drop k.toNat) = v) (fun k => (xl - k).toNat) 0 (fun _ => rfl) ⟨Rng.start hxl (by omega), hv⟩ ⟨rfl, trivial⟩ ?_
   clear hR
   rintro R3 k ⟨rk, hf3⟩ hR
   have hout3 : decide (k < xl) = false → v = true := by
     intro h; rw [← hf3, rk.end_ rfl h, fitL_nil]
   have hik : decide (k < xl) = true → k.toNat < cols.length := fun h => by have := rk.lt h; have := rk.lo; omega
   obtain ⟨⟨cn, kk⟩, hkk⟩ : ∃ c, decide (k < xl) = true → cols[k.toNat]? = some c := by
     cases h : decide (k < xl) with
     | true => exact ⟨cols[k.toNat]'(hik h), fun _ => List.getElem?_eq_getElem (hik h)⟩
     | false => exact ⟨(⟨#[]⟩, 0), fun h' => by cases h'⟩
   have hkK : decide (k < xl) = true → KS[k.toNat]? = some kk := fun h => by rw [← hKS, List.getElem?_map, hkk h]; rfl
   have hCi : decide (k < xl) = true → CC[k.toNat]? = some [.str cn, .int .i64 kk] := fun h => by rw [← hCC, List.getElem?_map, hkk h]; rfl
   have hcv : ∀ (k n : Int) (s : ByteArray), ∃ k' n' s', clean ⟨k, n, s⟩ = ⟨k', n', s'⟩ ∧ PCall Tryz.prog 18 [.agg [.int .i64 k, .int .i64 n, .str s]] fun r => r = [.agg [.int .i64 k', .int .i64 n', .str s']] := by
     intro k n s; exact ⟨_, _, _, rfl, clean_c k n s⟩
   have hbv : ∀ {kk : Int} {v : Val} {k' n' : Int} {s' : ByteArray}, clean v = ⟨k', n', s'⟩ → badV kk v = ((!decide (k' = 0) && !decide (k' = kk)) || decide ((1000 : Int) < s'.size)) := by
     intro kk v k' n' s' h; rw [badV, h]
   have hst : ∀ {kk : Int} {x : Val}, KS[k.toNat]? = some kk → y[k.toNat]? = some x → v = (!badV kk x && fitL (KS.drop (k + 1).toNat) (y.drop (k + 1).toNat)) := by
     intro kk x h1 h2; rw [← hf3, fitL_step h1 h2, rk.toNat]
   repeat' (first
     | (with_reducible refine Nm.mk ?_; intro z hz)
     | (with_reducible refine IfB.mk ?_ ?_ <;> (intro h; cases h))
     | (with_reducible refine Two.l ?_; refine Asm.mk ?_ ?_; focus (decide +kernel))
     | (with_reducible refine Two.r ?_)
     | (with_reducible refine TwoT.r ?_)
     | (with_reducible refine Asm.mk ?_ ?_; focus kernel_rfl)
     | (with_reducible refine isCP hcp ?_; first | (refine xP hcp (hc2) ?_; skip))
     | (with_reducible refine isCC hcc ?_; first | (refine xA hcc (hc2) rfl ?_; skip))
     | (with_reducible refine Ix.vl hM rk.lo (rk.lt (by assumption)) ?_; intro vk vn vs hx3; obtain ⟨k', n', s', hc1, hc2⟩ := hcv vk vn vs)
     | (with_reducible refine Ix.giv rk.lo (hCi (by assumption)) rfl (by decide) ?_)
     | (with_reducible refine Asm.mk2 ?_ ?_)
     | ((fail_if_success (with_reducible first | refine hQ _ ?_ | refine Side.mk ?_ | refine isCP hcp ?_ | refine isCC hcc ?_ | refine isLP hlp ?_ | refine Ix.mk ?_ | refine SIx.mk ?_ | refine SEx.mk ?_ | refine EIx.mk ?_ | refine RIx.mk ?_ | refine LkX.mk ?_ | show False | refine hR ?_ _ ?_ ?_ ?_ ?_ ?_ | refine hR2 ?_ _ ?_ ?_ ?_ ?_ ?_)); cbv))
   all_goals first
     | (have hv1 := hout3 (by assumption)
        rw [rj.wrap hlt2] at hz
        exact hR2 (j + 1) _ ⟨rj.next hlt2, hgood _ hy (by rw [hrm, hv1])⟩ (rj.less hlt2) ⟨hz ▸ rfl, trivial⟩ ⟨rfl, rfl, rfl, rfl, rfl, rfl, trivial⟩ rfl)
     | (have hb : badV kk ⟨vk, vn, vs⟩ = true := by
          rw [hbv hc1]
          clear hR hR2 hQ hcp hcc hlp hst hbv hcv hc2 hCi hkk hkK hout hout2 hout3 hbad hgood hf3 hstep hwx hq hv hw2 hrm hKS hg hf hq2
          try simp only [nc] at *
          try simp only [nc'] at *
          subst_vars
          simp_all
          done
        have hvf : v = false := by rw [hst (hkK (by assumption)) hx3, hb]; rfl
        refine hQ _ ?_
        rw [hq2, hbad _ hy (by rw [hrm, hvf])]; rfl)
     | (have hb : badV kk ⟨vk, vn, vs⟩ = false := by
          rw [hbv hc1]
          clear hR hR2 hQ hcp hcc hlp hst hbv hcv hc2 hCi hkk hkK hout hout2 hout3 hbad hgood hf3 hstep hwx hq hv hw2 hrm hKS hg hf hq2 hz
          try simp only [nc] at *
          try simp only [nc'] at *
          subst_vars
          simp_all
          done
        have hlt3 : decide (k < xl) = true := by assumption
        rw [rk.wrap hlt3] at hz
        refine hR (k + 1) _ ⟨rk.next hlt3, ?_⟩ (rk.less hlt3) ⟨hz ▸ rfl, trivial⟩ ⟨rfl, rfl, rfl, rfl, rfl, rfl, rfl, rfl, rfl, rfl, trivial⟩ rfl
        rw [hst (hkK hlt3) hx3, hb]; rfl)
 · have hw1 := hout2 (by assumption)
   rw [rg.wrap hlt] at hz
   refine hR (i + 1) _ ⟨rg.next hlt, ?_⟩ (rg.less hlt) ⟨hz ▸ rfl, trivial⟩ ⟨rfl, rfl, trivial⟩ rfl
   rw [hq2, hw1]; rfl
end Go.Proofs.YtlabphnonlicdaaGreat
