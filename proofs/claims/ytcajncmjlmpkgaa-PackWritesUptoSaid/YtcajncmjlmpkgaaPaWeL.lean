/- PackWrites: the law. Own work; no condition. -/
import Derived.Test.YtcajncmjlmpkgaaPa51
import Derived.Test.YtcajncmjlmpkgaaPaVec17
import Derived.Test.YtcajncmjlmpkgaaPa42
namespace Go.Proofs.Ytcajncmjlmpkgaa
open Go Go.RowKit
set_option maxRecDepth 100000
set_option linter.unusedSimpArgs false
set_option linter.unusedVariables false
set_option maxHeartbeats 400000 in
theorem packWrites_c (a : Int) (B : List Bool) (N : List Int) (S : List ByteArray) (n1 n2 n3 : List (List PV)) (h1 : B.map boolc = n1) (h2 : N.map i64c = n2) (h3 : S.map strc = n3) (hsz : B.length ≤ 1048577) (q : Int) :
   PCall Try.prog 5 [.agg [.int .i64 a, .sl n1, .sl n2, .sl n3], .int .i64 q] fun r => r = [.bool true] := by
 have hp := pack_c a B N S n1 n2 n3 h1 h2 h3
 have hrp := rpack_c a B N S n1 n2 n3 h1 h2 h3 hsz
 obtain ⟨V, hV⟩ : ∃ V : Vec, ⟨a, B, N, S⟩ = V := ⟨_, rfl⟩
 have hw : ∀ k : Int, PCall Try.prog 7 [.agg [.int .i64 a, .sl n1, .sl n2, .sl n3], .int .i64 k] fun r => r = [.str (outW k V), .int .i64 (outE k V)] := by
   intro k; rw [← hV]; exact write_c k a B N S n1 n2 n3 h1 h2 h3
 have hr : ∀ k : Int, PCall Try.prog 28 [.agg [.int .i64 a, .sl n1, .sl n2, .sl n3], .int .i64 k] fun r => r = [.str (outW k V), .int .i64 (outE k V)] := by
   intro k; rw [← hV]; exact rwrite_c k a B N S n1 n2 n3 h1 h2 h3 hsz
 rw [hV] at hp hrp
 obtain ⟨pO, hpO⟩ : ∃ x, packOut V = x := ⟨_, rfl⟩
 obtain ⟨pE, hpE⟩ : ∃ x, outE 1 V = x := ⟨_, rfl⟩
 rw [hpO, hpE] at hp hrp
 have hwq := hw q
 have hrq := hr q
 obtain ⟨qO, hqO⟩ : ∃ x, outW q V = x := ⟨_, rfl⟩
 obtain ⟨qE, hqE⟩ : ∃ x, outE q V = x := ⟨_, rfl⟩
 rw [hqO, hqE] at hwq hrq
 refine PCall.x (nt := 79) (res := [.tmp 4]) mixed tt_ok [] Try.func5 rfl rfl rfl c5 (Nat.le_of_ble_eq_true rfl) ?_
 intro cp cc lp Q' hcp hcc hlp hQ
 repeat' (first
   | (with_reducible refine Nm.mk ?_; intro z hz)
   | (with_reducible refine IfB.mk ?_ ?_ <;> (intro h; cases h))
   | (with_reducible refine Two.l ?_; refine Asm.mk ?_ ?_; focus (decide +kernel))
   | (with_reducible refine Two.r ?_)
   | (with_reducible refine TwoT.r ?_)
   | (with_reducible refine TwoU.r ?_)
   | (with_reducible refine Asm.mk ?_ ?_; focus (first | (show (_ : Bool) = true; kernel_rfl)))
   | (with_reducible refine Asm.mk2 ?_ ?_)
   | ((fail_if_success (with_reducible first | refine hQ _ ?_ | refine Side.mk ?_ | refine isCP hcp ?_ | refine isCC hcc ?_ | refine isLP hlp ?_ | refine Ix.mk ?_ | refine SIx.mk ?_ | refine SEx.mk ?_ | refine EIx.mk ?_ | refine RIx.mk ?_ | refine LkX.mk ?_ | show False | refine hR ?_ _ ?_ ?_ ?_ ?_ ?_ | refine hR2 ?_ _ ?_ ?_ ?_ ?_ ?_)); cbv))
 refine loopT (ι := Int) mixed tt_ok hcp hcc hlp [1, 2] (fun k => [(5, .p (.int .i64 k))]) (fun _ => [.cells [.p (.int .i64 a), .p (.sl n1), .p (.sl n2), .p (.sl n3)]]) (fun k => 1 ≤ k ∧ k ≤ 5) (fun k => (5 - k).toNat) 1 1 (fun _ => rfl) ⟨Int.le_refl _, by decide⟩ ⟨rfl, trivial⟩ rfl ?_
 rintro R k ⟨hk1, hk5⟩ hR
 replace hk1 : 1 ≤ k := hk1
 replace hk5 : k ≤ 5 := hk5
 have hgo : decide (k ≤ 4) = true → (1 ≤ k + 1 ∧ k + 1 ≤ 5) ∧ (5 - (k + 1)).toNat < (5 - k).toNat ∧ IntKind.i64.wrap (k + 1) = k + 1 := by
   intro h
   have := of_decide_eq_true h
   exact ⟨by omega, by omega, wrap_in (by omega)⟩
 have hwk := hw k
 have hrk := hr k
 obtain ⟨kO, hkO⟩ : ∃ x, outW k V = x := ⟨_, rfl⟩
 obtain ⟨kE, hkE⟩ : ∃ x, outE k V = x := ⟨_, rfl⟩
 rw [hkO, hkE] at hwk hrk
 clear hw hr
 have hsb : ∀ s : ByteArray, sbeq s s = true := fun s => by simp [sbeq]
 have hx1 : ∀ {p : Prop} {e : Int}, (!decide (e = e)) = true → p := by intro p e h; simp at h
 have hx2 : ∀ {p : Prop} {e : ByteArray}, (!sbeq e e) = true → p := by intro p e h; rw [hsb] at h; cases h
 have hx3 : ∀ {p : Prop} {e : Int}, decide (e = e) = false → p := by intro p e h; simp at h
 repeat' (first
   | (with_reducible refine Nm.mk ?_; intro z hz)
   | (with_reducible refine IfB.mk ?_ ?_ <;> (intro h; cases h))
   | (with_reducible refine Two.l ?_; refine Asm.mk ?_ ?_; focus (decide +kernel))
   | (with_reducible refine Two.r ?_)
   | (with_reducible refine TwoT.r ?_)
   | (with_reducible refine TwoU.r ?_)
   | (with_reducible refine Asm.mk ?_ ?_; focus (first | (show (_ : Bool) = true; kernel_rfl)))
   | (with_reducible refine isCP hcp ?_; first | (refine wrP hcp (hwk) ?_; rintro _ _ rfl rfl) | (refine wrP hcp (hrk) ?_; rintro _ _ rfl rfl) | (refine wrP hcp (hwq) ?_; rintro _ _ rfl rfl) | (refine wrP hcp (hrq) ?_; rintro _ _ rfl rfl) | (refine wrP hcp (hp) ?_; rintro _ _ rfl rfl) | (refine wrP hcp (hrp) ?_; rintro _ _ rfl rfl) | (refine iP hcp (num_c _) ?_; rintro _ rfl))
   | (with_reducible refine isCC hcc ?_; first | (refine wrA hcc (hwk) rfl ?_; rintro _ _ rfl rfl) | (refine wrA hcc (hrk) rfl ?_; rintro _ _ rfl rfl) | (refine wrA hcc (hwq) rfl ?_; rintro _ _ rfl rfl) | (refine wrA hcc (hrq) rfl ?_; rintro _ _ rfl rfl) | (refine wrA hcc (hp) rfl ?_; rintro _ _ rfl rfl) | (refine wrA hcc (hrp) rfl ?_; rintro _ _ rfl rfl) | (refine iA hcc (num_c _) rfl ?_; rintro _ rfl))
   | (with_reducible refine Asm.mk2 ?_ ?_)
   | ((fail_if_success (with_reducible first | refine hQ _ ?_ | refine Side.mk ?_ | refine isCP hcp ?_ | refine isCC hcc ?_ | refine isLP hlp ?_ | refine Ix.mk ?_ | refine SIx.mk ?_ | refine SEx.mk ?_ | refine EIx.mk ?_ | refine RIx.mk ?_ | refine LkX.mk ?_ | show False | refine hR ?_ _ ?_ ?_ ?_ ?_ ?_ | refine hR2 ?_ _ ?_ ?_ ?_ ?_ ?_)); cbv))
 · exact hx1 hz
 · exact hx2 hz
 · rename_i hkz hk1z hk2z
   obtain ⟨g1, g2, g3⟩ := hgo hkz
   rw [g3] at hz
   subst hz
   exact hR (k + 1) _ g1 g2 ⟨rfl, trivial⟩ ⟨rfl, rfl, trivial⟩ rfl
 · exact hx1 hz
 · exact hx2 hz
 · refine hQ _ ?_
   rw [← hz, hsb]
 · exact hx3 hz
theorem packWrites_law {k0 k1 : Nat} {x0 x1 : PV} (f0 : FitsA Try.prog k0 29 x0) (f1 : FitsA Try.prog k1 3 x1) (b0 : bk x0 ≤ 1048577) (_ : bk x1 ≤ 1048577) : PCall Try.prog 5 [x0, x1] fun r => r = [.bool true] := by
 obtain ⟨a, B, N, S, rfl⟩ := fits34 f0
 obtain ⟨q, rfl, _⟩ := fits3 f1
 obtain ⟨l1, l2, l3⟩ := vec_bk b0
 exact packWrites_c a B N S _ _ _ rfl rfl rfl l1 q
end Go.Proofs.Ytcajncmjlmpkgaa
