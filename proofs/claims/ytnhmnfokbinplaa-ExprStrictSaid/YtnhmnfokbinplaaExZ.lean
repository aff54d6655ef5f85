/- Expressions: Size, built. Own work; no condition. -/
import Derived.Test.YtnhmnfokbinplaaExW
namespace Go.Proofs.Ytnhmnfokbinplaa
open Go Go.RowKit
set_option maxRecDepth 100000
set_option linter.unusedSimpArgs false
set_option linter.unusedVariables false

theorem walk_all : ∀ (k : Nat) (e : Ex), e.sz ≤ k → WalkC e
  | 0, .mk op m v ar, h => by simp [Ex.sz] at h
  | k + 1, .mk op m v ar, h => by
    intro cells d n h' he hd0 hd1 hn0 hn1
    refine ⟨_, _, _, rfl, ?_⟩
    rw [cells_mk] at he
    subst he
    refine walk_c op m v ar _ rfl (fun x hx => walk_all k x ?_) d n h' hd0 hd1 hn0 hn1
    have := sz_mem hx
    simp only [Ex.sz] at h; omega
def sizeM (e : Ex) : Int × Int := if (walkE e 1 0 0).1 = true then ((walkE e 1 0 0).2.1, (walkE e 1 0 0).2.2) else (401, 41)
def builtM (e : Ex) : Bool := decide ((sizeM e).1 ≤ 400)

theorem esize_c (op n vk vn : Int) (vs : ByteArray) (ar : List Ex) (es : List (List PV)) (hes : ar.map Ex.cells = es) :
    PCall Try.prog 67 [.agg [.int .i64 op, .int .i64 n, .int .i64 vk, .int .i64 vn, .str vs, .sl es]] fun r => r = [.int .i64 (sizeM (.mk op n ⟨vk, vn, vs⟩ ar)).1, .int .i64 (sizeM (.mk op n ⟨vk, vn, vs⟩ ar)).2] := by
  obtain ⟨b, n', h', hw, hcall⟩ := walk_all _ (.mk op n ⟨vk, vn, vs⟩ ar) (Nat.le_refl _) _ 1 0 0 (by rw [cells_mk]) (by decide) (by decide) (by decide) (by decide)
  have hs : sizeM (.mk op n ⟨vk, vn, vs⟩ ar) = if b = true then (n', h') else (401, 41) := by unfold sizeM; rw [hw]
  rw [hes] at hcall
  refine PCall.x (nt := 13) (res := [.tmp 2, .tmp 3]) mixed tt_ok [(131, [0])] Try.func67 rfl rfl rfl c67 (Nat.le_of_ble_eq_true rfl) ?_
  intro cp cc lp Q' hcp hcc hlp hQ
  repeat' (first
    | (with_reducible refine Nm.mk ?_; intro z hz)
    | (with_reducible refine IfB.mk ?_ ?_ <;> (intro h; cases h))
    | (with_reducible refine Asm.mk ?_ ?_; focus kernel_rfl)
    | (with_reducible refine isCC hcc ?_; refine frameA (H1 := wH n' h') hcc [1, 2, 3] hcall rfl rfl rfl rfl rfl ?_)
    | (with_reducible refine Asm.mk2 ?_ ?_)
    | ((fail_if_success (with_reducible refine hQ _ ?_)); (fail_if_success (with_reducible refine Side.mk ?_)); (fail_if_success (with_reducible refine isCP hcp ?_)); (fail_if_success (with_reducible refine isCC hcc ?_)); (fail_if_success (with_reducible refine isLP hlp ?_)); (fail_if_success (with_reducible refine Ix.mk ?_)); (fail_if_success (with_reducible refine SIx.mk ?_)); (fail_if_success (with_reducible refine SEx.mk ?_)); (fail_if_success (with_reducible refine EIx.mk ?_)); (fail_if_success (with_reducible show False)); (fail_if_success (with_reducible refine hR ?_ _ ?_ ?_ ?_ ?_ ?_)); (fail_if_success (with_reducible refine hR2 ?_ _ ?_ ?_ ?_ ?_ ?_)); cbv))
  all_goals (refine hQ _ ?_; clear hQ hcp hcc hlp; rw [hs]; cases b <;> first | rfl | (simp at hz; done))
theorem ebuilt_c (op n vk vn : Int) (vs : ByteArray) (ar : List Ex) (es : List (List PV)) (hes : ar.map Ex.cells = es) :
    PCall Try.prog 115 [.agg [.int .i64 op, .int .i64 n, .int .i64 vk, .int .i64 vn, .str vs, .sl es]] fun r => r = [.bool (builtM (.mk op n ⟨vk, vn, vs⟩ ar))] := by
  have hs := esize_c op n vk vn vs ar es hes
  unfold builtM
  obtain ⟨q, hq⟩ : ∃ q, sizeM (.mk op n ⟨vk, vn, vs⟩ ar) = q := ⟨_, rfl⟩
  rw [hq] at hs ⊢
  refine PCall.x (nt := 12) (res := [.tmp 2]) mixed tt_ok [] Try.func115 rfl rfl rfl c115 (Nat.le_of_ble_eq_true rfl) ?_
  intro cp cc lp Q' hcp hcc hlp hQ
  repeat' (first
    | (with_reducible refine Nm.mk ?_; intro z hz)
    | (with_reducible refine IfB.mk ?_ ?_ <;> (intro h; cases h))
    | (with_reducible refine Asm.mk ?_ ?_; focus (first | kernel_rfl | decide))
    | (with_reducible refine isCP hcp ?_; first | (refine iiP hcp (hs) ?_; intro z w hz hw))
    | (with_reducible refine isCC hcc ?_; first | (refine iiA hcc (hs) rfl ?_; intro z w hz hw))
    | (with_reducible refine Asm.mk2 ?_ ?_)
    | ((fail_if_success (with_reducible refine hQ _ ?_)); (fail_if_success (with_reducible refine Side.mk ?_)); (fail_if_success (with_reducible refine isCP hcp ?_)); (fail_if_success (with_reducible refine isCC hcc ?_)); (fail_if_success (with_reducible refine isLP hlp ?_)); (fail_if_success (with_reducible refine Ix.mk ?_)); (fail_if_success (with_reducible refine SIx.mk ?_)); (fail_if_success (with_reducible refine SEx.mk ?_)); (fail_if_success (with_reducible refine EIx.mk ?_)); (fail_if_success (with_reducible show False)); (fail_if_success (with_reducible refine hR ?_ _ ?_ ?_ ?_ ?_ ?_)); (fail_if_success (with_reducible refine hR2 ?_ _ ?_ ?_ ?_ ?_ ?_)); cbv))
  all_goals (refine hQ _ ?_; clear hQ hcp hcc hlp hs; subst_vars; rfl)
end Go.Proofs.Ytnhmnfokbinplaa
