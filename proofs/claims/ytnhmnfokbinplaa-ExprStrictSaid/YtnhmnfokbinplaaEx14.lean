/- Expressions: the law ExprStrict. Own work; no condition. -/
import Derived.Test.YtnhmnfokbinplaaEx12
import Derived.Test.YtnhmnfokbinplaaExR
namespace Go.Proofs.Ytnhmnfokbinplaa
open Go Go.RowKit
set_option maxRecDepth 100000
set_option linter.unusedSimpArgs false
set_option linter.unusedVariables false

set_option maxHeartbeats 4000000 in
theorem strict_c (cs : List Int) (C : List (List PV)) (hC : cs.map i64c = C) (hcl : cs.length ≤ 140737488355328) (op n vk vn : Int) (vs : ByteArray) (ar : List Ex) (es : List (List PV)) (hes : ar.map Ex.cells = es) :
    PCall Try.prog 65 [.agg [.int .i64 op, .int .i64 n, .int .i64 vk, .int .i64 vn, .str vs, .sl es], .sl C] fun r => r = [.bool (strictM cs (.mk op n ⟨vk, vn, vs⟩ ar))] := by
  have hbt := ebuilt_c op n vk vn vs ar es hes
  obtain ⟨z, hz0⟩ : ∃ z, builtM (.mk op n ⟨vk, vn, vs⟩ ar) = z := ⟨_, rfl⟩
  obtain ⟨u, hu⟩ : ∃ u, untrueM cs (.mk op n ⟨vk, vn, vs⟩ ar) = u := ⟨_, rfl⟩
  have hun : z = true → ACall Try.prog 123 [.p (.agg [.int .i64 op, .int .i64 n, .int .i64 vk, .int .i64 vn, .str vs, .sl es]), .ref 1 0, .ref 2 0] (untrueH C) fun r H' => r = .p (.bool u) ∧ takeX H' 3 = untrueH C := by
    intro h
    have := untrue_all cs C hC hcl _ (good_of_built (hz0.trans h))
    unfold UntrueC at this
    rw [cells_mk, hes, hu] at this
    exact this
  unfold strictM
  rw [hz0] at hbt ⊢
  rw [hu]
  clear hz0 hu
  obtain ⟨q, hq⟩ : ∃ q, (z && u) = q := ⟨_, rfl⟩
  rw [hq]
  have q0 : z = false → q = false := by rintro rfl; rw [← hq]; rfl
  have q1 : z = true → q = u := by rintro rfl; rw [← hq]; rfl
  refine PCall.x (nt := 16) (res := [.tmp 4]) mixed tt_ok [] Try.func65 rfl rfl rfl c65 (Nat.le_of_ble_eq_true rfl) ?_
  intro cp cc lp Q' hcp hcc hlp hQ
  repeat' (first
    | (with_reducible refine Nm.mk ?_; intro z hz)
    | (with_reducible refine IfB.mk ?_ ?_ <;> (intro h; cases h))
    | (with_reducible refine Asm.mk ?_ ?_; focus kernel_rfl)
    | (with_reducible refine isCP hcp ?_; first | (refine bP hcp (hbt) ?_; intro z hz))
    | (with_reducible refine isCC hcc ?_; first | (refine bA hcc (hbt) rfl ?_; intro z hz))
    | (with_reducible refine isCC hcc ?_; refine frameP (H1 := untrueH C) hcc [1, 2, 3] (hun (by assumption)) rfl rfl rfl rfl rfl rfl rfl ?_)
    | (with_reducible refine Asm.mk2 ?_ ?_)
    | ((fail_if_success (with_reducible refine hQ _ ?_)); (fail_if_success (with_reducible refine Side.mk ?_)); (fail_if_success (with_reducible refine isCP hcp ?_)); (fail_if_success (with_reducible refine isCC hcc ?_)); (fail_if_success (with_reducible refine isLP hlp ?_)); (fail_if_success (with_reducible refine Ix.mk ?_)); (fail_if_success (with_reducible refine SIx.mk ?_)); (fail_if_success (with_reducible refine SEx.mk ?_)); (fail_if_success (with_reducible refine EIx.mk ?_)); (fail_if_success (with_reducible show False)); (fail_if_success (with_reducible refine hR ?_ _ ?_ ?_ ?_ ?_ ?_)); (fail_if_success (with_reducible refine hR2 ?_ _ ?_ ?_ ?_ ?_ ?_)); cbv))
  all_goals refine hQ _ ?_
  · rw [q1 (by assumption)]
  · rw [q0 (by assumption)]

/-- The row with these columns null. -/
def zr : List Int → List Val → List Val
  | [], r => r
  | c :: cs, r => zr cs (if 0 ≤ c ∧ c < (r.length : Int) then r.set c.toNat Val.zero else r)
theorem zr_len : ∀ (cs : List Int) (r : List Val), (zr cs r).length = r.length
  | [], _ => rfl
  | c :: cs, r => by rw [zr, zr_len cs]; split <;> simp
theorem zr_zero : ∀ (cs : List Int) (r : List Val) (j : Nat), r[j]? = some Val.zero → (zr cs r)[j]? = some Val.zero
  | [], _, _, h => h
  | c :: cs, r, j, h => by
    rw [zr]
    refine zr_zero cs _ j ?_
    split
    · rw [List.getElem?_set]
      have hlt := (List.getElem?_eq_some_iff.1 h).1
      split
      · rename_i e; subst e; simp [hlt]
      · exact h
    · exact h
theorem zr_mem : ∀ (cs : List Int) (r : List Val) (c : Int), c ∈ cs → 0 ≤ c → c < (r.length : Int) → (zr cs r)[c.toNat]? = some Val.zero
  | [], _, _, h, _, _ => absurd h (by simp)
  | d :: cs, r, c, h, h0, h1 => by
    rw [zr]
    rcases List.mem_cons.1 h with e | h
    · subst e
      refine zr_zero cs _ _ ?_
      rw [if_pos ⟨h0, h1⟩, List.getElem?_set]
      have : c.toNat < r.length := by omega
      simp [this]
    · exact zr_mem cs _ c h h0 (by split <;> simpa using h1)
theorem zr_ok : ∀ (cs : List Int) (r : List Val), rowOk r → rowOk (zr cs r)
  | [], _, h => h
  | c :: cs, r, h => by
    rw [zr]
    refine zr_ok cs _ ?_
    split
    · intro v hv
      rcases List.mem_or_eq_of_mem_set hv with g | g
      · exact h v g
      · rw [g]; exact okV_zero
    · exact h
theorem zr_nil : ∀ cs : List Int, zr cs [] = []
  | [] => rfl
  | c :: cs => by rw [zr, if_neg (by simp)]; exact zr_nil cs
theorem strict_law (cs : List Int) (row : List Val) (E : Ex) (hs : strictM cs E = true) : trueV (evalM (colOf (zr cs row)) E) = false := by
  unfold strictM at hs
  rw [Bool.and_eq_true] at hs
  unfold evalM
  rw [if_pos hs.1]
  refine untrue_ev _ cs (fun c hc h0 => ?_) E hs.1 hs.2
  unfold colOf
  split
  · rfl
  · rename_i h
    rw [zr_mem cs row c hc h0 (by rw [zr_len] at h; omega)]
    rfl

def oneE : Ex := .mk 16 0 Val.zero [.mk 1 0 Val.zero [], .mk 2 0 ⟨1, 0, ⟨⟨[]⟩⟩⟩ []]
theorem one_strict : strictM [0] oneE = true := by kernel_rfl
theorem one_not : strictM [1] oneE = false := by kernel_rfl
def oneL : List (List PV) := [[.int .i64 1, .int .i64 0, .int .i64 0, .int .i64 0, .str ⟨⟨[]⟩⟩, .sl []], [.int .i64 2, .int .i64 0, .int .i64 1, .int .i64 0, .str ⟨⟨[]⟩⟩, .sl []]]
theorem one_c0 : PCall Try.prog 65 [.agg [.int .i64 16, .int .i64 0, .int .i64 0, .int .i64 0, .str ⟨⟨[]⟩⟩, .sl [[.int .i64 1, .int .i64 0, .int .i64 0, .int .i64 0, .str ⟨⟨[]⟩⟩, .sl []], [.int .i64 2, .int .i64 0, .int .i64 1, .int .i64 0, .str ⟨⟨[]⟩⟩, .sl []]]], .sl [[.int .i64 0]]] fun r => r = [.bool true] := by
  have h := strict_c [0] [[.int .i64 0]] rfl (by decide) 16 0 0 0 ⟨⟨[]⟩⟩ [.mk 1 0 Val.zero [], .mk 2 0 ⟨1, 0, ⟨⟨[]⟩⟩⟩ []] _ rfl
  rw [show Ex.mk 16 0 ⟨0, 0, ⟨⟨[]⟩⟩⟩ [.mk 1 0 Val.zero [], .mk 2 0 ⟨1, 0, ⟨⟨[]⟩⟩⟩ []] = oneE from rfl, one_strict] at h
  exact h
theorem one_c1 : PCall Try.prog 65 [.agg [.int .i64 16, .int .i64 0, .int .i64 0, .int .i64 0, .str ⟨⟨[]⟩⟩, .sl [[.int .i64 1, .int .i64 0, .int .i64 0, .int .i64 0, .str ⟨⟨[]⟩⟩, .sl []], [.int .i64 2, .int .i64 0, .int .i64 1, .int .i64 0, .str ⟨⟨[]⟩⟩, .sl []]]], .sl [[.int .i64 1]]] fun r => r = [.bool false] := by
  have h := strict_c [1] [[.int .i64 1]] rfl (by decide) 16 0 0 0 ⟨⟨[]⟩⟩ [.mk 1 0 Val.zero [], .mk 2 0 ⟨1, 0, ⟨⟨[]⟩⟩⟩ []] _ rfl
  rw [show Ex.mk 16 0 ⟨0, 0, ⟨⟨[]⟩⟩⟩ [.mk 1 0 Val.zero [], .mk 2 0 ⟨1, 0, ⟨⟨[]⟩⟩⟩ []] = oneE from rfl, one_not] at h
  exact h

set_option maxHeartbeats 8000000 in
theorem exprStrict_c (op n vk vn : Int) (vs : ByteArray) (ar : List Ex) (es : List (List PV)) (hes : ar.map Ex.cells = es) (hw : (Ex.mk op n ⟨vk, vn, vs⟩ ar).wide) (ho : (Ex.mk op n ⟨vk, vn, vs⟩ ar).okc) (cs : List Int) (C : List (List PV)) (hC : cs.map i64c = C) (hcl : cs.length ≤ 140737488355328) (row : List Val) (L : List (List PV)) (hrw : row.map Val.cells = L) (hr : rowOk row) (hrl : row.length * 32 ≤ 140737488351232) :
    PCall Try.prog 13 [.agg [.int .i64 op, .int .i64 n, .int .i64 vk, .int .i64 vn, .str vs, .sl es], .sl C, .sl L] fun r => r = [.bool true] := by
  have hst := strict_c cs C hC hcl op n vk vn vs ar es hes
  have hev := fun (r : List Val) R (h : r.map Val.cells = R) (g : rowOk r) => eval_c op n vk vn vs ar es hes hw ho r R h g
  have law := fun row => strict_law cs row (.mk op n ⟨vk, vn, vs⟩ ar)
  have ht : ∀ (x : Val), PCall Try.prog 57 [.agg [.int .i64 x.k, .int .i64 x.n, .str x.s]] fun r => r = [.bool (trueV x)] := fun x => true_c _ _ _
  have hCl : C.length = cs.length := by rw [← hC]; simp
  have hLl : L.length = row.length := by rw [← hrw]; simp
  have hok : okEs 3 L = true := by rw [← hrw]; simp [okEs, Val.cells, PV.one]
  obtain ⟨E, hE⟩ : ∃ E, Ex.mk op n ⟨vk, vn, vs⟩ ar = E := ⟨_, rfl⟩
  rw [hE] at hst law
  simp only [hE] at hev
  obtain ⟨s, hs⟩ : ∃ s, strictM cs E = s := ⟨_, rfl⟩
  rw [hs] at hst law
  refine PCall.x (nt := 56) (res := [.tmp 6]) mixed tt_ok [(999999, [13])] Try.func13 rfl rfl rfl c13 (Nat.le_of_ble_eq_true rfl) ?_
  intro cp cc lp Q' hcp hcc hlp hQ
  have hsd : okEs 3 L = true ∧ L.length ≤ maxLen ∧ L.length * 32 ≤ 140737488355328 := ⟨hok, by simp only [maxLen]; omega, by omega⟩
  repeat' (first
    | (with_reducible refine Nm.mk ?_; intro z hz)
    | (with_reducible refine IfB.mk ?_ ?_ <;> (intro h; cases h))
    | (with_reducible refine Asm.mk ?_ ?_; focus (first | exact hsd | kernel_rfl))
    | (with_reducible refine Asm.mk2 ?_ ?_)
    | ((fail_if_success (with_reducible refine hQ _ ?_)); (fail_if_success (with_reducible refine Side.mk ?_)); (fail_if_success (with_reducible refine isCP hcp ?_)); (fail_if_success (with_reducible refine isCC hcc ?_)); (fail_if_success (with_reducible refine isLP hlp ?_)); (fail_if_success (with_reducible refine Ix.mk ?_)); (fail_if_success (with_reducible refine SIx.mk ?_)); (fail_if_success (with_reducible refine SEx.mk ?_)); (fail_if_success (with_reducible refine EIx.mk ?_)); (fail_if_success (with_reducible show False)); (fail_if_success (with_reducible refine hR ?_ _ ?_ ?_ ?_ ?_ ?_)); (fail_if_success (with_reducible refine hR2 ?_ _ ?_ ?_ ?_ ?_ ?_)); cbv))
  · simp only [nc] at hz
    simp only [nc'] at hz
    rename_i n0 hn0 hd0
    have hzl := hz
    clear hz
    rename Int => zl
    have hrow : row = [] := List.eq_nil_of_length_eq_zero (by have := of_decide_eq_true hd0; omega)
    have lawZ : s = true → trueV (evalM (colOf []) E) = false := by have := law row; rw [hrow, zr_nil] at this; exact this
    have hevZ := hev [] [] rfl (by intro v hv; cases hv)
    obtain ⟨V, hV⟩ : ∃ V, evalM (colOf []) E = V := ⟨_, rfl⟩
    rw [hV] at hevZ lawZ
    obtain ⟨b, hb⟩ : ∃ b, trueV V = b := ⟨_, rfl⟩
    have htV : ∀ v : Val, V = v → PCall Try.prog 57 [.agg [.int .i64 v.k, .int .i64 v.n, .str v.s]] fun r => r = [.bool b] := by rintro v rfl; rw [← hb]; exact true_c _ _ _
    rw [hb] at lawZ
    clear law hev ht hb hV
    refine loopKz [(999999, [13])] (ι := Int) mixed tt_ok hcp hcc hlp [1, 3, 7, 14, 15] (fun i => [(16, .p (.int .i64 i))]) (fun i => 0 ≤ i ∧ i ≤ zl) (fun i => (zl - i).toNat) 0 (fun _ => rfl) ⟨by omega, by omega⟩ ⟨rfl, trivial⟩ ?_
    rintro R i ⟨hi0, hi1⟩ hR
    have hk : decide (i < zl) = true → i < cs.length := by simp only [decide_eq_true_eq]; omega
    have hnx : decide (i < zl) = true → IntKind.i64.wrap (i + 1) = i + 1 ∧ (0 ≤ i + 1 ∧ i + 1 ≤ zl) ∧ (zl - (i + 1)).toNat < (zl - i).toNat := by
      intro h
      have hlt := hk h
      simp only [decide_eq_true_eq] at h
      exact ⟨wrap_in (by omega), by omega, by omega⟩
    repeat' (first
      | (with_reducible refine Nm.mk ?_; intro z hz)
      | (with_reducible refine IfB.mk ?_ ?_ <;> (intro h; cases h))
      | (with_reducible refine Asm.mk ?_ ?_; focus kernel_rfl)
      | (with_reducible refine isCP hcp ?_; first | (refine bP hcp (hst) ?_; intro z hz) | (refine vP hcp (hevZ) ?_; intro v hv) | (refine bP hcp (htV _ (by assumption)) ?_; intro z hz) | (refine bP hcp (one_c0) ?_; intro z hz) | (refine bP hcp (one_c1) ?_; intro z hz))
      | (with_reducible refine isCC hcc ?_; first | (refine bA hcc (hst) rfl ?_; intro z hz) | (refine vA hcc (hevZ) rfl ?_; intro v hv) | (refine bA hcc (htV _ (by assumption)) rfl ?_; intro z hz) | (refine bA hcc (one_c0) rfl ?_; intro z hz) | (refine bA hcc (one_c1) rfl ?_; intro z hz))
      | (with_reducible refine Ix.map hC i64c_len (by decide) hi0 (hk (by assumption)) ?_; intro y hy)
      | (with_reducible refine Asm.mk2 ?_ ?_)
      | ((fail_if_success (with_reducible refine hQ _ ?_)); (fail_if_success (with_reducible refine Side.mk ?_)); (fail_if_success (with_reducible refine isCP hcp ?_)); (fail_if_success (with_reducible refine isCC hcc ?_)); (fail_if_success (with_reducible refine isLP hlp ?_)); (fail_if_success (with_reducible refine Ix.mk ?_)); (fail_if_success (with_reducible refine SIx.mk ?_)); (fail_if_success (with_reducible refine SEx.mk ?_)); (fail_if_success (with_reducible refine EIx.mk ?_)); (fail_if_success (with_reducible show False)); (fail_if_success (with_reducible refine hR ?_ _ ?_ ?_ ?_ ?_ ?_)); (fail_if_success (with_reducible refine hR2 ?_ _ ?_ ?_ ?_ ?_ ?_)); cbv))
    all_goals first
      | (obtain ⟨e1, u, mu⟩ := hnx (by assumption)
         rw [e1] at hz
         exact hR (i + 1) _ ⟨u.1, u.2⟩ mu ⟨hz ▸ rfl, trivial⟩ ⟨rfl, rfl, rfl, rfl, rfl, trivial⟩ rfl)
      | (refine hQ _ ?_
         clear hQ hcp hcc hlp hst hevZ htV hR hk hnx hw ho hr hsd hok
         simp_all)
      | (exfalso
         have h1 : decide (0 ≤ y) = true := by assumption
         have h2 : decide (y < z) = true := by assumption
         have h3 : ((([] : List (List PV)).length : Nat) : Int) = z := by assumption
         simp only [List.length_nil, decide_eq_true_eq] at h1 h2 h3
         clear hR hQ
         omega)
  · simp only [nc] at hz
    simp only [nc'] at hz
    rename_i n0 hn0 hd0
    have hzl := hz
    clear hz
    rename Int => zl
    have hm : n0 = row.length := by omega
    refine loopTz [(999999, [13])] (ι := Int × List Val × List (List PV)) mixed tt_ok hcp hcc hlp [1, 3, 7, 14, 15] (fun p => [(16, .p (.int .i64 p.1))])
      (fun p => [.cells [.p (.int .i64 op), .p (.int .i64 n), .p (.int .i64 vk), .p (.int .i64 vn), .p (.str vs), .p (.sl es)], .elts p.2.2 3])
      (fun p => (0 ≤ p.1 ∧ p.1 ≤ zl) ∧ (p.2.1.map Val.cells = p.2.2 ∧ p.2.1.length = row.length ∧ rowOk p.2.1) ∧ zr (cs.drop p.1.toNat) p.2.1 = zr cs row) (fun p => (zl - p.1).toNat) (0, row, L) 2 (fun _ => rfl) ⟨⟨by show (0:Int) ≤ 0; omega, by show (0:Int) ≤ zl; omega⟩, ⟨hrw, rfl, hr⟩, rfl⟩ ⟨rfl, trivial⟩ rfl ?_
    rintro R ⟨i, r, RR⟩ ⟨⟨hi0, hi1⟩, ⟨hrr, hrn, hro⟩, hzr⟩ hR
    have hi0 : 0 ≤ i := hi0
    have hi1 : i ≤ zl := hi1
    have hrr : r.map Val.cells = RR := hrr
    have hrn : r.length = row.length := hrn
    have hro : rowOk r := hro
    have hzr : zr (cs.drop i.toNat) r = zr cs row := hzr
    have hRn : n0 = RR.length := by rw [← hrr, List.length_map]; omega
    have hk : decide (i < zl) = true → i < cs.length := by simp only [decide_eq_true_eq]; omega
    have hnx : decide (i < zl) = true → IntKind.i64.wrap (i + 1) = i + 1 ∧ (0 ≤ i + 1 ∧ i + 1 ≤ zl) ∧ (zl - (i + 1)).toNat < (zl - i).toNat := by
      intro h
      have hlt := hk h
      simp only [decide_eq_true_eq] at h
      exact ⟨wrap_in (by omega), by omega, by omega⟩
    have hstep : ∀ y, cs[i.toNat]? = some y → zr (cs.drop (i + 1).toNat) (if 0 ≤ y ∧ y < (r.length : Int) then r.set y.toNat Val.zero else r) = zr cs row := by
      intro y hy
      have hlt := (List.getElem?_eq_some_iff.1 hy).1
      rw [← hzr, List.drop_eq_getElem_cons hlt, show (i + 1).toNat = i.toNat + 1 by omega, zr, (List.getElem?_eq_some_iff.1 hy).2]
    have hend : decide (i < zl) = false → s = true → trueV (evalM (colOf r) E) = false := by
      intro hf
      simp only [decide_eq_false_iff_not] at hf
      have h := hzr
      rw [List.drop_eq_nil_of_le (by omega)] at h
      have h : r = zr cs row := h
      rw [h]; exact law row
    have hevZ := hev r RR hrr hro
    obtain ⟨V, hV⟩ : ∃ V, evalM (colOf r) E = V := ⟨_, rfl⟩
    rw [hV] at hevZ hend
    obtain ⟨b, hb⟩ : ∃ b, trueV V = b := ⟨_, rfl⟩
    have htV : ∀ v : Val, V = v → PCall Try.prog 57 [.agg [.int .i64 v.k, .int .i64 v.n, .str v.s]] fun r => r = [.bool b] := by rintro v rfl; rw [← hb]; exact true_c _ _ _
    rw [hb] at hend
    have hin : ∀ y z : Int, (n0 : Int) = z → decide (0 ≤ y) = true → decide (y < z) = true → 0 ≤ y ∧ y < (n0 : Int) ∧ (3 : Nat) ≠ 0 := by
      rintro y z rfl h1 h2; exact ⟨of_decide_eq_true h1, of_decide_eq_true h2, by decide⟩
    have hix : ∀ y z : Int, (n0 : Int) = z → decide (0 ≤ y) = true → decide (y < z) = true → y.toNat < RR.length := by
      rintro y z rfl h1 h2; have := of_decide_eq_true h1; have := of_decide_eq_true h2; omega
    have hyes : ∀ y z : Int, (n0 : Int) = z → decide (0 ≤ y) = true → decide (y < z) = true → 0 ≤ y ∧ y < (r.length : Int) := by
      rintro y z rfl h1 h2; have := of_decide_eq_true h1; have := of_decide_eq_true h2; omega
    have hno : ∀ y z : Int, (n0 : Int) = z → decide (y < z) = false → ¬ (0 ≤ y ∧ y < (r.length : Int)) := by
      rintro y z rfl h2; have := of_decide_eq_false h2; omega
    have hno0 : ∀ y : Int, decide (0 ≤ y) = false → ¬ (0 ≤ y ∧ y < (r.length : Int)) := by
      intro y h2; have := of_decide_eq_false h2; omega
    have hset : ∀ (y : Int) (L2 : List (List PV)), RR.set y.toNat Val.zero.cells = L2 → (r.set y.toNat Val.zero).map Val.cells = L2 ∧ (r.set y.toNat Val.zero).length = row.length ∧ rowOk (r.set y.toNat Val.zero) := by
      rintro y L2 rfl
      refine ⟨by rw [List.map_set, hrr], by rw [List.length_set, hrn], fun v hv => ?_⟩
      rcases List.mem_or_eq_of_mem_set hv with g | g
      · exact hro v g
      · rw [g]; exact okV_zero
    clear law hev ht hb hV
    repeat' (first
      | (with_reducible refine Nm.mk ?_; intro z hz)
      | (with_reducible refine IfB.mk ?_ ?_ <;> (intro h; cases h))
      | (with_reducible refine Asm.mk ?_ ?_; focus (first | exact hRn | exact hin _ _ (by assumption) (by assumption) (by assumption) | kernel_rfl))
      | (with_reducible refine isCP hcp ?_; first | (refine bP hcp (hst) ?_; intro z hz) | (refine vP hcp (hevZ) ?_; intro v hv) | (refine bP hcp (htV _ (by assumption)) ?_; intro z hz) | (refine bP hcp (one_c0) ?_; intro z hz) | (refine bP hcp (one_c1) ?_; intro z hz))
      | (with_reducible refine isCC hcc ?_; first | (refine bA hcc (hst) rfl ?_; intro z hz) | (refine vA hcc (hevZ) rfl ?_; intro v hv) | (refine bA hcc (htV _ (by assumption)) rfl ?_; intro z hz) | (refine bA hcc (one_c0) rfl ?_; intro z hz) | (refine bA hcc (one_c1) rfl ?_; intro z hz))
      | (with_reducible refine Ix.map hC i64c_len (by decide) hi0 (hk (by assumption)) ?_; intro y hy)
      | (with_reducible refine SEx.at_ y.toNat (by assumption) (hix _ _ (by assumption) (by assumption) (by assumption)) rfl ?_; intro L2 hL2)
      | (with_reducible refine Asm.mk2 ?_ ?_)
      | ((fail_if_success (with_reducible refine hQ _ ?_)); (fail_if_success (with_reducible refine Side.mk ?_)); (fail_if_success (with_reducible refine isCP hcp ?_)); (fail_if_success (with_reducible refine isCC hcc ?_)); (fail_if_success (with_reducible refine isLP hlp ?_)); (fail_if_success (with_reducible refine Ix.mk ?_)); (fail_if_success (with_reducible refine SIx.mk ?_)); (fail_if_success (with_reducible refine SEx.mk ?_)); (fail_if_success (with_reducible refine EIx.mk ?_)); (fail_if_success (with_reducible show False)); (fail_if_success (with_reducible refine hR ?_ _ ?_ ?_ ?_ ?_ ?_)); (fail_if_success (with_reducible refine hR2 ?_ _ ?_ ?_ ?_ ?_ ?_)); cbv))
    all_goals first
      | (obtain ⟨e1, u, mu⟩ := hnx (by assumption)
         rw [e1] at hz
         have e := hstep _ hy
         first
           | (rw [if_neg (hno0 y (by assumption))] at e
              exact hR (i + 1, r, RR) _ ⟨u, ⟨hrr, hrn, hro⟩, e⟩ mu ⟨hz ▸ rfl, trivial⟩ ⟨rfl, rfl, rfl, rfl, rfl, trivial⟩ rfl)
           | (rw [if_neg (hno y _ (by assumption) (by assumption))] at e
              exact hR (i + 1, r, RR) _ ⟨u, ⟨hrr, hrn, hro⟩, e⟩ mu ⟨hz ▸ rfl, trivial⟩ ⟨rfl, rfl, rfl, rfl, rfl, trivial⟩ rfl)
           | (rw [if_pos (hyes y _ (by assumption) (by assumption) (by assumption))] at e
              exact hR (i + 1, r.set y.toNat Val.zero, L2) _ ⟨u, hset y L2 hL2, e⟩ mu ⟨hz ▸ rfl, trivial⟩ ⟨rfl, rfl, rfl, rfl, rfl, trivial⟩ rfl))
      | (refine hQ _ ?_
         have hl := hend (by assumption)
         clear hQ hcp hcc hlp hst hevZ htV hR hk hnx hw ho hr hsd hok hin hix hyes hno hno0 hset hstep hend hro
         simp_all)
      | (refine Side.mk ?_
         exact hin _ _ (by assumption) (by assumption) (by assumption))
theorem bytes3' : Try.prog.bytesOf 3 = 8 := by kernel_rfl
theorem fitsCols {n : Nat} {x : PV} (h : FitsA Try.prog n 22 x) : ∃ l : List Int, x = .sl (l.map i64c) ∧ l.length * 8 ≤ 140737488351232 := by
  obtain ⟨m, es, rfl, h1, ⟨h2, h3⟩, h4⟩ := (h.one Try.underlying22 rfl).slice Try.underlying22
  simp only [List.cons.injEq, and_true] at h1
  subst h1
  obtain ⟨l, rfl, _⟩ := elems_of (enc := i64c) (ok := fun _ => True) (fun x hx => by
    obtain ⟨v, e, _⟩ := (h4 x hx).2.int Try.underlying3
    exact ⟨v, e.symm, trivial⟩)
  rw [bytes3', List.length_map] at h3
  exact ⟨l, rfl, h3⟩
theorem exprStrict_law {k0 k1 k2 : Nat} {x0 x1 x2 : PV} (f0 : FitsA Try.prog k0 80 x0) (f1 : FitsA Try.prog k1 22 x1) (f2 : FitsA Try.prog k2 29 x2) : PCall Try.prog 13 [x0, x1, x2] fun r => r = [.bool true] := by
  obtain ⟨op, m, vk, vn, vs, ar, rfl, hw, ho⟩ := fits80 f0
  obtain ⟨cs, rfl, hc⟩ := fitsCols f1
  obtain ⟨l, rfl, h1, hl⟩ := fits29 f2
  exact exprStrict_c op m vk vn vs ar _ rfl hw ho cs _ rfl (by omega) l _ rfl (row_ok hl) h1
end Go.Proofs.Ytnhmnfokbinplaa
