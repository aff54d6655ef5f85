/- vec: Table, of any columns. Own work; no condition. -/
import Derived.Test.YtnhmnfokbinplaaVec7
import Derived.Test.YtnhmnfokbinplaaAbsP
namespace Go.Proofs.Ytnhmnfokbinplaa
open Go Go.RowKit
set_option maxRecDepth 100000
set_option linter.unusedSimpArgs false
set_option linter.unusedVariables false

def Vec.cells (v : Vec) : List PV := [.int .i64 v.kind, .sl (v.null.map boolc), .sl (v.ns.map i64c), .sl (v.ss.map strc)]
def cellAt (v : Vec) (i : Nat) : List PV := (atV v.kind v.null v.ns v.ss i).cells
def len0 : List Vec → Nat
  | [] => 0
  | c :: _ => c.null.length
def okCol (n : Nat) (c : Vec) : Bool := goodV c && decide (c.null.length = n)
def tokM (cols : List Vec) : Bool := cols.all (okCol (len0 cols))
/-- The rows, where those ahead of i have k + 1 values and the others k. -/
def rowsAt (cols : List Vec) (n k i : Nat) : List (List (List PV)) := (List.range n).map fun j => (cols.take (if j < i then k + 1 else k)).map fun c => cellAt c j
def rowsP (l : List (List (List PV))) : List (List PV) := l.map fun r => [PV.sl r]
def tableM (cols : List Vec) : List (List (List PV)) × Int := if tokM cols then (rowsAt cols (len0 cols) cols.length 0, 0) else ([], 1)

theorem rowsAt_len (cols : List Vec) (n k i : Nat) : (rowsAt cols n k i).length = n := by simp [rowsAt]
theorem rowsAt_get (cols : List Vec) {n : Nat} (k i : Nat) {j : Nat} (hj : j < n) : (rowsAt cols n k i)[j]? = some ((cols.take (if j < i then k + 1 else k)).map fun c => cellAt c j) := by
  simp [rowsAt, hj]
theorem rowsAt_end (cols : List Vec) (n k : Nat) : rowsAt cols n k n = rowsAt cols n (k + 1) 0 := by
  apply List.ext_getElem?
  intro j
  by_cases hj : j < n
  · rw [rowsAt_get cols k n hj, rowsAt_get cols (k + 1) 0 hj, if_pos hj, if_neg (Nat.not_lt_zero j)]
  · rw [List.getElem?_eq_none (by rw [rowsAt_len]; omega), List.getElem?_eq_none (by rw [rowsAt_len]; omega)]
theorem rowsAt_step {cols : List Vec} {n k i : Nat} {c : Vec} (hi : i < n) (hc : cols[k]? = some c) {l : List (List PV)} (hl : (rowsAt cols n k i)[i]? = some l) : (rowsAt cols n k i).set i (l ++ [cellAt c i]) = rowsAt cols n k (i + 1) := by
  apply List.ext_getElem?
  intro j
  rw [rowsAt_get cols k i hi, if_neg (Nat.lt_irrefl i)] at hl
  simp only [Option.some.injEq] at hl
  by_cases hj : j < n
  · rw [rowsAt_get cols k (i + 1) hj]
    by_cases e : i = j
    · subst e
      rw [List.getElem?_set_self (by rw [rowsAt_len]; exact hj), if_pos (Nat.lt_succ_self i), List.take_add_one, hc, ← hl]
      simp
    · rw [List.getElem?_set_ne e, rowsAt_get cols k i hj]
      by_cases h : j < i
      · rw [if_pos h, if_pos (by omega)]
      · rw [if_neg h, if_neg (by omega)]
  · rw [List.getElem?_eq_none (by rw [List.length_set, rowsAt_len]; omega), List.getElem?_eq_none (by rw [rowsAt_len]; omega)]
theorem rowsAt_0 (cols : List Vec) (n : Nat) : List.replicate n [] = rowsAt cols n 0 0 := by
  apply List.ext_getElem?
  intro j
  by_cases hj : j < n
  · rw [rowsAt_get cols 0 0 hj, List.getElem?_replicate, if_pos hj]; simp
  · rw [List.getElem?_eq_none (by simp; omega), List.getElem?_eq_none (by rw [rowsAt_len]; omega)]

theorem IxV {L : List (List PV)} {V : List Vec} {n : Int} {K : List PV → Prop} (hl : V.map Vec.cells = L) (h0 : 0 ≤ n) (hn : n < V.length) (g : ∀ a B N S n1 n2 n3, V[n.toNat]? = some ⟨a, B, N, S⟩ → B.map boolc = n1 → N.map i64c = n2 → S.map strc = n3 → K [.int .i64 a, .sl n1, .sl n2, .sl n3]) : Ix 4 L n K := by
  have hlt : n.toNat < V.length := by omega
  refine ⟨(V[n.toNat]).cells, h0, ?_, rfl, by decide, g _ _ _ _ _ _ _ (List.getElem?_eq_getElem hlt) rfl rfl rfl⟩
  rw [← hl, List.getElem?_map, List.getElem?_eq_getElem hlt]; rfl

theorem tok_at {cols : List Vec} {k : Nat} {c : Vec} (h : cols[k]? = some c) (hb : okCol (len0 cols) c = false) : tokM cols = false := by
  cases hk : tokM cols with
  | false => rfl
  | true =>
    have := List.all_eq_true.1 hk c (List.mem_of_getElem? h)
    rw [hb] at this; cases this
theorem len0_at {cols : List Vec} {c : Vec} (h : cols[0]? = some c) : len0 cols = c.null.length := by
  cases cols with
  | nil => simp at h
  | cons x r => simp at h; subst h; rfl
theorem tok_up {cols : List Vec} (h : ∀ (k : Nat) c, cols[k]? = some c → okCol (len0 cols) c = true) : tokM cols = true := by
  refine List.all_eq_true.2 fun c hc => ?_
  obtain ⟨k, hk⟩ := List.getElem?_of_mem hc
  exact h k c hk

theorem not_dec {u v : Int} (h : (!decide (u = v)) = false) : u = v := by simpa using h
/-- The row's slot behind k columns. -/
def slotR (st : Option (Nat × Nat)) (n : Nat) : AV := match st with | none => .full [] | some (g, _) => .rvec 0 g n
def heapR (st : Option (Nat × Nat)) (ls : List (List (List PV))) : List AObj := match st with | none => [] | some (g, k) => [.rvec g k ls 3]

theorem table_c (cols : List Vec) (L : List (List PV)) (hL : cols.map Vec.cells = L) (hn : ∀ c, c ∈ cols → c.null.length ≤ 1048577) (hlen : cols.length ≤ 1048577) :
    PCall Try.prog 25 [.sl L] fun r => r = [.sl (rowsP (tableM cols).1), .int .i64 (tableM cols).2] := by
  have hLl : L.length = cols.length := by rw [← hL]; simp
  refine PCall.x (nt := 65) (res := [.tmp 2, .tmp 3]) mixed tt_ok [(999997, [41])] Try.func25 rfl rfl rfl c25 (Nat.le_of_ble_eq_true rfl) ?_
  intro cp cc lp Q' hcp hcc hlp hQ
  repeat' (first
    | (with_reducible refine Nm.mk ?_; intro z hz)
    | (with_reducible refine IfB.mk ?_ ?_ <;> (intro h; cases h))
    | (with_reducible refine Asm.mk ?_ ?_; focus (first | kernel_rfl | decide))
    | (with_reducible refine Asm.mk2 ?_ ?_)
    | ((fail_if_success (with_reducible refine hQ _ ?_)); (fail_if_success (with_reducible refine Side.mk ?_)); (fail_if_success (with_reducible refine isCP hcp ?_)); (fail_if_success (with_reducible refine isCC hcc ?_)); (fail_if_success (with_reducible refine isLP hlp ?_)); (fail_if_success (with_reducible refine Ix.mk ?_)); (fail_if_success (with_reducible refine SIx.mk ?_)); (fail_if_success (with_reducible refine SEx.mk ?_)); (fail_if_success (with_reducible refine EIx.mk ?_)); (fail_if_success (with_reducible refine RIx.mk ?_)); (fail_if_success (with_reducible show False)); (fail_if_success (with_reducible refine hR ?_ _ ?_ ?_ ?_ ?_ ?_)); (fail_if_success (with_reducible refine hR2 ?_ _ ?_ ?_ ?_ ?_ ?_)); cbv))
  simp only [nc] at hz
  simp only [nc'] at hz
  have hzc : z.toNat = cols.length ∧ 0 ≤ z := by omega
  obtain ⟨hzc, hz0⟩ := hzc
  clear hz
  generalize z = z0 at *
  obtain ⟨m0, hm0⟩ : ∃ m, len0 cols = m := ⟨_, rfl⟩
  refine loopXz [(999997, [41])] (ι := Int × Option (Nat × Nat)) mixed tt_ok hcp hcc hlp [0, 2, 3, 9] (fun p => [(4, slotR p.2 m0), (10, .p (.int .i64 p.1))]) (fun p => heapR p.2 (rowsAt cols m0 p.1.toNat 0))
    (fun p => (0 ≤ p.1 ∧ p.1 ≤ z0) ∧ (p.2 = none ↔ p.1 = 0) ∧ ∀ (k : Nat) c, k < p.1.toNat → cols[k]? = some c → okCol m0 c = true) (fun p => (z0 - p.1).toNat) (0, none) ⟨⟨by omega, by omega⟩, by simp, fun k c hk => by simp at hk⟩ ⟨rfl, rfl, trivial⟩ rfl ?_
  rintro R ⟨k, st⟩ ⟨⟨hk0, hk1⟩, hst, hok⟩ hR
  have hk0 : 0 ≤ k := hk0
  have hk1 : k ≤ z0 := hk1
  replace hst : st = none ↔ k = 0 := hst
  have hok : ∀ (j : Nat) c, j < k.toNat → cols[j]? = some c → okCol m0 c = true := hok
  have hkl : decide (k < z0) = true → k < cols.length := by simp only [decide_eq_true_eq]; omega
  have h0l : decide (k < z0) = true → (0 : Int) < cols.length := by simp only [decide_eq_true_eq]; omega
  have hstep : decide (k < z0) = true → IntKind.i64.wrap (k + 1) = k + 1 := by simp only [decide_eq_true_eq]; intro h; exact wrap_in (by omega)
  have hgd : ∀ a B N S n1 n2 n3, B.map boolc = n1 → N.map i64c = n2 → S.map strc = n3 → PCall Try.prog 37 [.agg [.int .i64 a, .sl n1, .sl n2, .sl n3]] fun r => r = [.bool (goodV ⟨a, B, N, S⟩)] := fun a B N S n1 n2 n3 h1 h2 h3 => good_c a B N S n1 n2 n3 h1 h2 h3
  have hcol : ∀ {a B N S} {n1 : List (List PV)}, cols[k.toNat]? = some ⟨a, B, N, S⟩ → B.map boolc = n1 → n1.length = B.length ∧ B.length ≤ 1048577 := by
    intro a B N S n1 hx h1
    exact ⟨by rw [← h1]; simp, hn _ (List.mem_of_getElem? hx)⟩
  have bad1 : ∀ {a B N S}, cols[k.toNat]? = some ⟨a, B, N, S⟩ → goodV ⟨a, B, N, S⟩ = false → tableM cols = ([], 1) := by
    intro a B N S hx hg
    have := tok_at hx (by simp [okCol, hg])
    simp [tableM, this]
  have bad2 : ∀ {a B N S}, cols[k.toNat]? = some ⟨a, B, N, S⟩ → ¬ B.length = m0 → tableM cols = ([], 1) := by
    intro a B N S hx hg
    have := tok_at hx (by simp [okCol, hm0, hg])
    simp [tableM, this]
  have hm00 : ∀ {a B N S}, cols[Int.toNat 0]? = some ⟨a, B, N, S⟩ → m0 = B.length := by
    intro a B N S hx; rw [← hm0]; exact len0_at hx
  cases st with
  | none =>
    have hkz : k = 0 := hst.1 rfl
    have hkF : decide (k = 0) = false → False := by simp [hkz]
    clear hst
    show xc tt [(999997, [41])] cp cc lp 65 _ _ ⟨catX [(4, .full []), (10, .p (.int .i64 k))] _, []⟩
    repeat' (first
      | (with_reducible refine Nm.mk ?_; intro z hz)
      | (with_reducible refine IfB.mk ?_ ?_ <;> (intro h; cases h))
      | (with_reducible refine Asm.mk ?_ ?_; focus kernel_rfl)
      | (with_reducible refine isCP hcp ?_; first | (refine bP hcp (hgd _ _ _ _ _ _ _ (by assumption) (by assumption) (by assumption)) ?_; intro z hz))
      | (with_reducible refine isCC hcc ?_; first | (refine bA hcc (hgd _ _ _ _ _ _ _ (by assumption) (by assumption) (by assumption)) rfl ?_; intro z hz))
      | (exact (hkF (by assumption)).elim)
      | (with_reducible refine IxV hL hk0 (hkl (by assumption)) ?_; intro a B N S n1 n2 n3 hx h1 h2 h3)
      | (with_reducible refine IxV hL (by decide) (h0l (by assumption)) ?_; intro a0 B0 N0 S0 m1 m2 m3 hx0 g1 g2 g3)
      | (with_reducible refine Asm.mk2 ?_ ?_)
      | ((fail_if_success (with_reducible refine hQ _ ?_)); (fail_if_success (with_reducible refine Side.mk ?_)); (fail_if_success (with_reducible refine isCP hcp ?_)); (fail_if_success (with_reducible refine isCC hcc ?_)); (fail_if_success (with_reducible refine isLP hlp ?_)); (fail_if_success (with_reducible refine Ix.mk ?_)); (fail_if_success (with_reducible refine SIx.mk ?_)); (fail_if_success (with_reducible refine SEx.mk ?_)); (fail_if_success (with_reducible refine EIx.mk ?_)); (fail_if_success (with_reducible refine RIx.mk ?_)); (fail_if_success (with_reducible show False)); (fail_if_success (with_reducible refine hR ?_ _ ?_ ?_ ?_ ?_ ?_)); (fail_if_success (with_reducible refine hR2 ?_ _ ?_ ?_ ?_ ?_ ?_)); cbv))
    all_goals (try simp only [nc] at *)
    all_goals (try simp only [nc'] at *)
    · refine hQ _ ?_
      have hg : goodV ⟨a, B, N, S⟩ = false := by
        have h2 : goodV ⟨a, B, N, S⟩ = z := by assumption
        rw [h2]; simpa using hz
      rw [bad1 hx hg]; rfl
    · refine hQ _ ?_
      rw [bad2 hx (fun h => ?_)]
      · rfl
      · have := hm00 hx0
        obtain ⟨q1, _⟩ := hcol hx h1
        have q2 : m1.length = B0.length := by rw [← g1]; simp
        simp at hz
        omega
    · refine ⟨?_⟩
      obtain ⟨q1, q2⟩ := hcol hx h1
      simp only [nc] at hz
      simp only [nc'] at hz
      refine ⟨by omega, trivial, by omega, by simp only [maxLen]; omega⟩
    · rename_i y1 e1 mm hmm ls hLS
      have hmm0 : mm = m0 := by
        have := (hcol hx h1).1
        have := hm00 hx0
        have hee := not_dec (by assumption)
        have q2 : m1.length = B0.length := by rw [← g1]; simp
        omega
      subst hmm0
      have hls : rowsAt cols mm k.toNat 0 = ls := by rw [← hLS, rowsAt_0, hkz]; rfl
      generalize mm = m0 at *
      clear hgd bad1 bad2
      have hgood : goodV ⟨a, B, N, S⟩ = true := by
        have q : ∀ {w : Bool}, goodV ⟨a, B, N, S⟩ = w → (!w) = false → goodV ⟨a, B, N, S⟩ = true := by intro w h h'; rw [h]; simpa using h'
        exact q (by assumption) (by assumption)
      have hBm : B.length = m0 := by
        have hee := not_dec (by assumption)
        have := hm00 hx0
        obtain ⟨q1, _⟩ := hcol hx h1
        have q2 : m1.length = B0.length := by rw [← g1]; simp
        omega
      have hz1 : z = (m0 : Int) := by
        have := (hcol hx h1).1
        omega
      have hmb : m0 ≤ 1048577 := by have := (hcol hx h1).2; omega
      have hkc : k < (cols.length : Int) := hkl (by assumption)
      have hkz2 : decide (k < z0) = true := by assumption
      generalize z = zi at *
      refine loopXz [(999997, [41])] (ι := Int × Nat × List (List (List PV))) mixed tt_ok hcp hcc hlp [0, 2, 3, 4, 5, 6, 9, 10, 46] (fun p => [(47, .p (.int .i64 p.1))]) (fun p => [.rvec _ p.2.1 p.2.2 3])
        (fun p => (0 ≤ p.1 ∧ p.1 ≤ zi) ∧ rowsAt cols m0 k.toNat p.1.toNat = p.2.2) (fun p => (zi - p.1).toNat) (0, _, ls) ⟨⟨by omega, by omega⟩, hls⟩ ⟨rfl, trivial⟩ rfl ?_
      rintro R2 ⟨i, j2, l2⟩ ⟨⟨hi0, hi1⟩, hl2⟩ hR2
      have hi0 : 0 ≤ i := hi0
      have hi1 : i ≤ zi := hi1
      have hl2 : rowsAt cols m0 k.toNat i.toNat = l2 := hl2
      have hll : l2.length = m0 := by rw [← hl2]; exact rowsAt_len _ _ _ _
      have him : decide (i < zi) = true → i < (m0 : Int) := by simp only [decide_eq_true_eq]; omega
      have hcall : decide (i < zi) = true → PCall Try.prog 89 [.ip [.int .i64 a, .sl n1, .sl n2, .sl n3], .int .i64 i] fun r => r = [(atV a B N S i.toNat).enc] := by
        intro h
        simp only [decide_eq_true_eq] at h
        exact atP_c a B N S n1 n2 n3 h1 h2 h3 i hi0 (by omega) hgood
      obtain ⟨l0, hl0⟩ : ∃ l, (l2[i.toNat]?).getD [] = l := ⟨_, rfl⟩
      have hrow : ∀ q, i.toNat = q → decide (i < zi) = true → l2[q]? = some l0 := by
        rintro q rfl h
        simp only [decide_eq_true_eq] at h
        have hlt : i.toNat < l2.length := by omega
        rw [← hl0, List.getElem?_eq_getElem hlt]; rfl
      have hok3 : okEs 3 l0 = true ∧ l0.length ≤ 1048577 := by
        by_cases hlt : i.toNat < m0
        · have := rowsAt_get cols k.toNat i.toNat hlt
          rw [hl2] at this
          rw [← hl0, this, Option.getD_some]
          refine ⟨List.all_eq_true.2 fun e he => by obtain ⟨c, _, rfl⟩ := List.mem_map.1 he; rfl, ?_⟩
          rw [List.length_map, List.length_take]; omega
        · rw [← hl0, List.getElem?_eq_none (by omega)]
          exact ⟨rfl, Nat.zero_le _⟩
      obtain ⟨hok3, hl0n⟩ := hok3
      have hst2 : ∀ {z1 z2 : Nat} {L1 : List (List PV)} {LS : List (List (List PV))}, i.toNat = z1 → i.toNat = z2 → l2.set z1 L1 = LS → decide (i < zi) = true → z1 = z2 ∧ z1 = z2 ∧ z2 < LS.length := by
        rintro z1 z2 L1 LS rfl rfl rfl h
        simp only [decide_eq_true_eq] at h
        rw [List.length_set]
        exact ⟨rfl, rfl, by omega⟩
      repeat' (first
        | (with_reducible refine Nm.mk ?_; intro z hz)
        | (with_reducible refine IfB.mk ?_ ?_ <;> (intro h; cases h))
        | (with_reducible refine Asm.mk ?_ ?_; focus (first | rfl | exact ⟨hi0, him (by assumption)⟩ | exact ⟨rfl, rfl, hst2 (by assumption) (by assumption) (by assumption) (by assumption)⟩ | (refine ⟨rfl, rfl, hrow _ (by assumption) (by assumption), hok3, rfl, ?_, ?_⟩ <;> (clear hR hR2 hQ; simp only [List.length_cons, List.length_nil, maxLen]; omega)) | (show (_ : Bool) = true; kernel_rfl)))
        | (with_reducible refine isCP hcp ?_; first | (refine vP hcp (hcall (by assumption)) ?_; intro v hv))
        | (with_reducible refine isCC hcc ?_; first | (refine vA hcc (hcall (by assumption)) rfl ?_; intro v hv))
        | (with_reducible refine RIx.at_ l0 (hrow _ (by assumption) (by assumption)) ?_)
        | (with_reducible refine Asm.mk2 ?_ ?_)
        | ((fail_if_success (with_reducible refine hQ _ ?_)); (fail_if_success (with_reducible refine Side.mk ?_)); (fail_if_success (with_reducible refine isCP hcp ?_)); (fail_if_success (with_reducible refine isCC hcc ?_)); (fail_if_success (with_reducible refine isLP hlp ?_)); (fail_if_success (with_reducible refine Ix.mk ?_)); (fail_if_success (with_reducible refine SIx.mk ?_)); (fail_if_success (with_reducible refine SEx.mk ?_)); (fail_if_success (with_reducible refine EIx.mk ?_)); (fail_if_success (with_reducible refine RIx.mk ?_)); (fail_if_success (with_reducible show False)); (fail_if_success (with_reducible refine hR ?_ _ ?_ ?_ ?_ ?_ ?_)); (fail_if_success (with_reducible refine hR2 ?_ _ ?_ ?_ ?_ ?_ ?_)); cbv))
      all_goals (try simp only [nc] at *)
      all_goals (try simp only [nc'] at *)
      · have hlt : decide (i < zi) = true := by assumption
        have hw : IntKind.i64.wrap (i + 1) = i + 1 := by simp only [decide_eq_true_eq] at hlt; exact wrap_in (by omega)
        rw [hw] at hz
        subst hz
        simp only [decide_eq_true_eq] at hlt
        refine hR2 (i + 1, _, _) _ ⟨⟨by show 0 ≤ i + 1; omega, by show i + 1 ≤ zi; omega⟩, ?_⟩ (by show (zi - (i + 1)).toNat < (zi - i).toNat; omega) ⟨rfl, trivial⟩ ⟨rfl, rfl, rfl, rfl, rfl, rfl, rfl, rfl, rfl, trivial⟩ rfl
        rename_i zr hzr zj hzj zl hzl zs hzs
        have hce : cellAt ⟨a, B, N, S⟩ i.toNat = [PV.int IntKind.i64 v.k, PV.int IntKind.i64 v.n, PV.str v.s] := by rw [← hv]; rfl
        show rowsAt cols m0 k.toNat (i + 1).toNat = zs
        rw [← hzs, ← hzl, ← hzr, show (i + 1).toNat = i.toNat + 1 by omega, ← hce, ← rowsAt_step (by omega) hx (hl2 ▸ hrow _ rfl (by simpa using hlt)), hl2]
      · have hge : decide (i < zi) = false := by assumption
        have hw := hstep hkz2
        rw [hw] at hz
        subst hz
        simp only [decide_eq_false_iff_not] at hge
        simp only [decide_eq_true_eq] at hkz2
        have hie : i.toNat = m0 := by omega
        have hls2 : rowsAt cols m0 (k + 1).toNat 0 = l2 := by
          rw [show (k + 1).toNat = k.toNat + 1 by omega, ← rowsAt_end, ← hl2, hie]
        have hoks : ∀ (j : Nat) c, j < (k + 1).toNat → cols[j]? = some c → okCol m0 c = true := by
          intro j c hj hc
          by_cases h : j < k.toNat
          · exact hok j c h hc
          · have : j = k.toNat := by omega
            subst this
            rw [hx] at hc
            cases hc
            simp [okCol, hgood, hBm]
        refine hR (k + 1, some (_, j2)) _ ⟨⟨by show 0 ≤ k + 1; omega, by show k + 1 ≤ z0; omega⟩, ⟨fun h => (by cases h), fun h => (by have h : k + 1 = 0 := h; omega)⟩, hoks⟩ (by show (z0 - (k + 1)).toNat < (z0 - k).toNat; omega) ⟨rfl, rfl, trivial⟩ ⟨rfl, rfl, rfl, rfl, trivial⟩ ?_
        show [AObj.rvec _ j2 l2 3] = [.rvec _ j2 (rowsAt cols m0 (k + 1).toNat 0) 3]
        rw [hls2]
    · refine hQ _ ?_
      have hge : decide (k < z0) = false := by assumption
      simp only [decide_eq_false_iff_not] at hge
      have hnil : cols = [] := List.length_eq_zero_iff.1 (by omega)
      rw [hnil]; rfl
  | some gk =>
    obtain ⟨g, j⟩ := gk
    show xc tt [(999997, [41])] cp cc lp 65 _ _ ⟨catX [(4, .rvec 0 g m0), (10, .p (.int .i64 k))] _, [.rvec g j (rowsAt cols m0 k.toNat 0) 3]⟩
    have hkn : ¬ k = 0 := fun h => by have := hst.2 h; cases this
    have hkF : decide (k = 0) = true → False := by simp [hkn]
    clear hst
    have hlsl := rowsAt_len cols m0 k.toNat 0
    obtain ⟨ls, hls⟩ : ∃ l, rowsAt cols m0 k.toNat 0 = l := ⟨_, rfl⟩
    rw [hls]
    rw [hls] at hlsl
    repeat' (first
      | (with_reducible refine Nm.mk ?_; intro z hz)
      | (with_reducible refine IfB.mk ?_ ?_ <;> (intro h; cases h))
      | (with_reducible refine Asm.mk ?_ ?_; focus (first | exact ⟨rfl, hlsl.symm⟩ | kernel_rfl))
      | (with_reducible refine isCP hcp ?_; first | (refine bP hcp (hgd _ _ _ _ _ _ _ (by assumption) (by assumption) (by assumption)) ?_; intro z hz))
      | (with_reducible refine isCC hcc ?_; first | (refine bA hcc (hgd _ _ _ _ _ _ _ (by assumption) (by assumption) (by assumption)) rfl ?_; intro z hz))
      | (exact (hkF (by assumption)).elim)
      | (with_reducible refine IxV hL hk0 (hkl (by assumption)) ?_; intro a B N S n1 n2 n3 hx h1 h2 h3)
      | (with_reducible refine IxV hL (by decide) (h0l (by assumption)) ?_; intro a0 B0 N0 S0 m1 m2 m3 hx0 g1 g2 g3)
      | (with_reducible refine Asm.mk2 ?_ ?_)
      | ((fail_if_success (with_reducible refine hQ _ ?_)); (fail_if_success (with_reducible refine Side.mk ?_)); (fail_if_success (with_reducible refine isCP hcp ?_)); (fail_if_success (with_reducible refine isCC hcc ?_)); (fail_if_success (with_reducible refine isLP hlp ?_)); (fail_if_success (with_reducible refine Ix.mk ?_)); (fail_if_success (with_reducible refine SIx.mk ?_)); (fail_if_success (with_reducible refine SEx.mk ?_)); (fail_if_success (with_reducible refine EIx.mk ?_)); (fail_if_success (with_reducible refine RIx.mk ?_)); (fail_if_success (with_reducible show False)); (fail_if_success (with_reducible refine hR ?_ _ ?_ ?_ ?_ ?_ ?_)); (fail_if_success (with_reducible refine hR2 ?_ _ ?_ ?_ ?_ ?_ ?_)); cbv))
    all_goals (try simp only [nc] at *)
    all_goals (try simp only [nc'] at *)
    · refine hQ _ ?_
      have hg : goodV ⟨a, B, N, S⟩ = false := by
        have h2 : goodV ⟨a, B, N, S⟩ = z := by assumption
        rw [h2]; simpa using hz
      rw [bad1 hx hg]; rfl
    · refine hQ _ ?_
      rw [bad2 hx (fun h => ?_)]
      · rfl
      · have := hm00 hx0
        obtain ⟨q1, _⟩ := hcol hx h1
        have q2 : m1.length = B0.length := by rw [← g1]; simp
        simp at hz
        omega
    · skip
      clear hgd bad1 bad2
      have hgood : goodV ⟨a, B, N, S⟩ = true := by
        have q : ∀ {w : Bool}, goodV ⟨a, B, N, S⟩ = w → (!w) = false → goodV ⟨a, B, N, S⟩ = true := by intro w h h'; rw [h]; simpa using h'
        exact q (by assumption) (by assumption)
      have hBm : B.length = m0 := by
        have hee := not_dec (by assumption)
        have := hm00 hx0
        obtain ⟨q1, _⟩ := hcol hx h1
        have q2 : m1.length = B0.length := by rw [← g1]; simp
        omega
      have hz1 : z = (m0 : Int) := by
        have := (hcol hx h1).1
        omega
      have hmb : m0 ≤ 1048577 := by have := (hcol hx h1).2; omega
      have hkc : k < (cols.length : Int) := hkl (by assumption)
      have hkz2 : decide (k < z0) = true := by assumption
      generalize z = zi at *
      refine loopXz [(999997, [41])] (ι := Int × Nat × List (List (List PV))) mixed tt_ok hcp hcc hlp [0, 2, 3, 4, 5, 6, 9, 10, 46] (fun p => [(47, .p (.int .i64 p.1))]) (fun p => [.rvec _ p.2.1 p.2.2 3])
        (fun p => (0 ≤ p.1 ∧ p.1 ≤ zi) ∧ rowsAt cols m0 k.toNat p.1.toNat = p.2.2) (fun p => (zi - p.1).toNat) (0, _, ls) ⟨⟨by omega, by omega⟩, hls⟩ ⟨rfl, trivial⟩ rfl ?_
      rintro R2 ⟨i, j2, l2⟩ ⟨⟨hi0, hi1⟩, hl2⟩ hR2
      have hi0 : 0 ≤ i := hi0
      have hi1 : i ≤ zi := hi1
      have hl2 : rowsAt cols m0 k.toNat i.toNat = l2 := hl2
      have hll : l2.length = m0 := by rw [← hl2]; exact rowsAt_len _ _ _ _
      have him : decide (i < zi) = true → i < (m0 : Int) := by simp only [decide_eq_true_eq]; omega
      have hcall : decide (i < zi) = true → PCall Try.prog 89 [.ip [.int .i64 a, .sl n1, .sl n2, .sl n3], .int .i64 i] fun r => r = [(atV a B N S i.toNat).enc] := by
        intro h
        simp only [decide_eq_true_eq] at h
        exact atP_c a B N S n1 n2 n3 h1 h2 h3 i hi0 (by omega) hgood
      obtain ⟨l0, hl0⟩ : ∃ l, (l2[i.toNat]?).getD [] = l := ⟨_, rfl⟩
      have hrow : ∀ q, i.toNat = q → decide (i < zi) = true → l2[q]? = some l0 := by
        rintro q rfl h
        simp only [decide_eq_true_eq] at h
        have hlt : i.toNat < l2.length := by omega
        rw [← hl0, List.getElem?_eq_getElem hlt]; rfl
      have hok3 : okEs 3 l0 = true ∧ l0.length ≤ 1048577 := by
        by_cases hlt : i.toNat < m0
        · have := rowsAt_get cols k.toNat i.toNat hlt
          rw [hl2] at this
          rw [← hl0, this, Option.getD_some]
          refine ⟨List.all_eq_true.2 fun e he => by obtain ⟨c, _, rfl⟩ := List.mem_map.1 he; rfl, ?_⟩
          rw [List.length_map, List.length_take]; omega
        · rw [← hl0, List.getElem?_eq_none (by omega)]
          exact ⟨rfl, Nat.zero_le _⟩
      obtain ⟨hok3, hl0n⟩ := hok3
      have hst2 : ∀ {z1 z2 : Nat} {L1 : List (List PV)} {LS : List (List (List PV))}, i.toNat = z1 → i.toNat = z2 → l2.set z1 L1 = LS → decide (i < zi) = true → z1 = z2 ∧ z1 = z2 ∧ z2 < LS.length := by
        rintro z1 z2 L1 LS rfl rfl rfl h
        simp only [decide_eq_true_eq] at h
        rw [List.length_set]
        exact ⟨rfl, rfl, by omega⟩
      repeat' (first
        | (with_reducible refine Nm.mk ?_; intro z hz)
        | (with_reducible refine IfB.mk ?_ ?_ <;> (intro h; cases h))
        | (with_reducible refine Asm.mk ?_ ?_; focus (first | rfl | exact ⟨hi0, him (by assumption)⟩ | exact ⟨rfl, rfl, hst2 (by assumption) (by assumption) (by assumption) (by assumption)⟩ | (refine ⟨rfl, rfl, hrow _ (by assumption) (by assumption), hok3, rfl, ?_, ?_⟩ <;> (clear hR hR2 hQ; simp only [List.length_cons, List.length_nil, maxLen]; omega)) | (show (_ : Bool) = true; kernel_rfl)))
        | (with_reducible refine isCP hcp ?_; first | (refine vP hcp (hcall (by assumption)) ?_; intro v hv))
        | (with_reducible refine isCC hcc ?_; first | (refine vA hcc (hcall (by assumption)) rfl ?_; intro v hv))
        | (with_reducible refine RIx.at_ l0 (hrow _ (by assumption) (by assumption)) ?_)
        | (with_reducible refine Asm.mk2 ?_ ?_)
        | ((fail_if_success (with_reducible refine hQ _ ?_)); (fail_if_success (with_reducible refine Side.mk ?_)); (fail_if_success (with_reducible refine isCP hcp ?_)); (fail_if_success (with_reducible refine isCC hcc ?_)); (fail_if_success (with_reducible refine isLP hlp ?_)); (fail_if_success (with_reducible refine Ix.mk ?_)); (fail_if_success (with_reducible refine SIx.mk ?_)); (fail_if_success (with_reducible refine SEx.mk ?_)); (fail_if_success (with_reducible refine EIx.mk ?_)); (fail_if_success (with_reducible refine RIx.mk ?_)); (fail_if_success (with_reducible show False)); (fail_if_success (with_reducible refine hR ?_ _ ?_ ?_ ?_ ?_ ?_)); (fail_if_success (with_reducible refine hR2 ?_ _ ?_ ?_ ?_ ?_ ?_)); cbv))
      all_goals (try simp only [nc] at *)
      all_goals (try simp only [nc'] at *)
      · have hlt : decide (i < zi) = true := by assumption
        have hw : IntKind.i64.wrap (i + 1) = i + 1 := by simp only [decide_eq_true_eq] at hlt; exact wrap_in (by omega)
        rw [hw] at hz
        subst hz
        simp only [decide_eq_true_eq] at hlt
        refine hR2 (i + 1, _, _) _ ⟨⟨by show 0 ≤ i + 1; omega, by show i + 1 ≤ zi; omega⟩, ?_⟩ (by show (zi - (i + 1)).toNat < (zi - i).toNat; omega) ⟨rfl, trivial⟩ ⟨rfl, rfl, rfl, rfl, rfl, rfl, rfl, rfl, rfl, trivial⟩ rfl
        rename_i zr hzr zj hzj zl hzl zs hzs
        have hce : cellAt ⟨a, B, N, S⟩ i.toNat = [PV.int IntKind.i64 v.k, PV.int IntKind.i64 v.n, PV.str v.s] := by rw [← hv]; rfl
        show rowsAt cols m0 k.toNat (i + 1).toNat = zs
        rw [← hzs, ← hzl, ← hzr, show (i + 1).toNat = i.toNat + 1 by omega, ← hce, ← rowsAt_step (by omega) hx (hl2 ▸ hrow _ rfl (by simpa using hlt)), hl2]
      · have hge : decide (i < zi) = false := by assumption
        have hw := hstep hkz2
        rw [hw] at hz
        subst hz
        simp only [decide_eq_false_iff_not] at hge
        simp only [decide_eq_true_eq] at hkz2
        have hie : i.toNat = m0 := by omega
        have hls2 : rowsAt cols m0 (k + 1).toNat 0 = l2 := by
          rw [show (k + 1).toNat = k.toNat + 1 by omega, ← rowsAt_end, ← hl2, hie]
        have hoks : ∀ (j : Nat) c, j < (k + 1).toNat → cols[j]? = some c → okCol m0 c = true := by
          intro j c hj hc
          by_cases h : j < k.toNat
          · exact hok j c h hc
          · have : j = k.toNat := by omega
            subst this
            rw [hx] at hc
            cases hc
            simp [okCol, hgood, hBm]
        refine hR (k + 1, some (_, j2)) _ ⟨⟨by show 0 ≤ k + 1; omega, by show k + 1 ≤ z0; omega⟩, ⟨fun h => (by cases h), fun h => (by have h : k + 1 = 0 := h; omega)⟩, hoks⟩ (by show (z0 - (k + 1)).toNat < (z0 - k).toNat; omega) ⟨rfl, rfl, trivial⟩ ⟨rfl, rfl, rfl, rfl, trivial⟩ ?_
        show [AObj.rvec _ j2 l2 3] = [.rvec _ j2 (rowsAt cols m0 (k + 1).toNat 0) 3]
        rw [hls2]
    · refine hQ _ ?_
      have hge : decide (k < z0) = false := by assumption
      simp only [decide_eq_false_iff_not] at hge
      have htok : tokM cols = true := tok_up fun j c hj => by
        rw [hm0]
        exact hok j c (by have := (List.getElem?_eq_some_iff.1 hj).1; omega) hj
      have hT : tableM cols = (ls, 0) := by
        rw [tableM, htok, if_pos rfl, hm0, ← hls, show k.toNat = cols.length by omega]
      rw [hT]
      rw [← hz]; rfl
end Go.Proofs.Ytnhmnfokbinplaa
