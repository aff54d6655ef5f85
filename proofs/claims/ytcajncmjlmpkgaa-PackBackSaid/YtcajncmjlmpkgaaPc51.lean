/- The reader of packed columns: taking bytes, numbers; The reader's bits: the closure that reads a number of w bits, and its maker; The reader's values that stand: plain forms, and scheme 1; The reader's values that stand, scheme 4; The reader's values that stand, scheme 3; The reader's values that stand, scheme 2. Own work; no condition. -/
import Derived.Test.YtcajncmjlmpkgaaPc50
import Derived.Test.YtcajncmjlmpkgaaPcAbsD
namespace Go.Proofs.Ytcajncmjlmpkgaa
open Go Go.RowKit
set_option maxRecDepth 100000
set_option linter.unusedSimpArgs false
set_option linter.unusedVariables false
theorem byts_extr (s : ByteArray) (i j : Nat) : byts (s.extract i j) = ((byts s).take j).drop i := by
 simp [byts, List.extract_eq_take_drop, List.drop_take]
theorem toB_ext (l : List UInt8) (i j : Nat) : (toB l).extract i j = toB ((l.take j).drop i) := by
 have h := byts_extr (toB l) i j
 exact toB_of h
def dmg : AV := .die 89 (.agg [])
def tkP (n : Int) (r : List UInt8) : Option (List UInt8 × List UInt8) := if 0 ≤ n ∧ n ≤ r.length then some (r.take n.toNat, r.drop n.toNat) else none
theorem tkP_some {n : Int} {r : List UInt8} (h : 0 ≤ n ∧ n ≤ r.length) : tkP n r = some (r.take n.toNat, r.drop n.toNat) := if_pos h
theorem tkP_none {n : Int} {r : List UInt8} (h : ¬ (0 ≤ n ∧ n ≤ r.length)) : tkP n r = none := if_neg h
def rdO (r : List UInt8) : AObj := .cells [.p (.str (toB r))]
theorem take_c (n : Int) (r : List UInt8) (hr : r.length ≤ 1000000000) :
   ACall Try.prog 77 [.ref 0 0, .p (.int .i64 n)] [rdO r] fun x H' => match tkP n r with
     | some (t, r') => x = .p (.str (toB t)) ∧ takeX H' 1 = [rdO r']
     | none => x = dmg ∧ takeX H' 1 = [rdO r] := by
 have hl : ((toB r).size : Int) = r.length := by rw [toB_size]
 have he := toB_ext r
 obtain ⟨s, hs⟩ : ∃ s, toB r = s := ⟨_, rfl⟩
 rw [rdO, hs]
 rw [hs] at hl he
 have hn1 : decide (n < 0) = true → tkP n r = none := fun h => tkP_none fun ⟨h1, _⟩ => by have := of_decide_eq_true h; omega
 have hn2 : ∀ {z : Int}, (s.size : Int) = z → decide (z < n) = true → tkP n r = none := fun h1 h => tkP_none fun ⟨_, h2⟩ => by
   subst h1
   have := of_decide_eq_true h
   omega
 have hok : ∀ {z : Int}, (s.size : Int) = z → decide (n < 0) = false → decide (z < n) = false → 0 ≤ n ∧ n ≤ r.length := fun h1 h2 h3 => by
   subst h1
   have := of_decide_eq_false h2
   have := of_decide_eq_false h3
   omega
 have hs1 : ∀ {z : Int}, (s.size : Int) = z → decide (n < 0) = false → decide (z < n) = false → 0 ≤ (none : Option Int).getD 0 ∧ (none : Option Int).getD 0 ≤ (some n).getD (s.size : Int) ∧ (some n).getD (s.size : Int) ≤ (s.size : Int) := fun h1 h2 h3 => by
   have := hok h1 h2 h3
   exact ⟨Int.le_refl _, this.1, by show n ≤ (s.size : Int); omega⟩
 have hs2 : ∀ {z : Int}, (s.size : Int) = z → decide (n < 0) = false → decide (z < n) = false → 0 ≤ (some n).getD (0 : Int) ∧ (some n).getD (0 : Int) ≤ (none : Option Int).getD (s.size : Int) ∧ (none : Option Int).getD (s.size : Int) ≤ (s.size : Int) := fun h1 h2 h3 => by
   have := hok h1 h2 h3
   exact ⟨this.1, by show n ≤ (s.size : Int); omega, Int.le_refl _⟩
 refine ACall.x (nt := ⟨35, []⟩) (res := [.tmp 4]) mixed tt_ok [] Try.func77 rfl rfl rfl c77 (Nat.le_of_ble_eq_true rfl) ?_
 intro cp cc lp Q' hcp hcc hlp hQ
 repeat' (first
   | (with_reducible refine Nm.mk ?_; intro z hz)
   | (with_reducible refine IfB.mk ?_ ?_ <;> (intro h; cases h))
   | (with_reducible refine Two.l ?_; refine Asm.mk ?_ ?_; focus (decide +kernel))
   | (with_reducible refine Two.r ?_)
   | (with_reducible refine TwoT.r ?_)
   | (with_reducible refine TwoU.r ?_)
   | (with_reducible refine Asm.mk ?_ ?_; focus (first | exact hs1 (by assumption) (by assumption) (by assumption) | exact hs2 (by assumption) (by assumption) (by assumption) | (show (_ : Bool) = true; kernel_rfl)))
   | (with_reducible refine Asm.mk2 ?_ ?_)
   | ((fail_if_success (with_reducible first | refine hQ _ _ ?_ | refine Side.mk ?_ | refine isCP hcp ?_ | refine isCC hcc ?_ | refine isLP hlp ?_ | refine Ix.mk ?_ | refine SIx.mk ?_ | refine SEx.mk ?_ | refine EIx.mk ?_ | refine RIx.mk ?_ | refine LkX.mk ?_ | show False | refine hR ?_ _ ?_ ?_ ?_ ?_ ?_ | refine hR2 ?_ _ ?_ ?_ ?_ ?_ ?_)); cbv))
 · exact hQ _ _ (by rw [hn1 hz]; exact ⟨rfl, rfl⟩)
 · rename_i z1 h1
   exact hQ _ _ (by rw [hn2 h1 hz]; exact ⟨rfl, rfl⟩)
 · rename_i h0 z1 h1 h2 t ht
   have hk := hok h1 h0 h2
   refine hQ _ _ ?_
   rw [tkP_some hk]
   refine ⟨?_, ?_⟩
   · rw [← ht]
     show AV.p (.str (s.extract 0 n.toNat)) = _
     rw [he, List.drop_zero]
   · rw [← hz]
     show [AObj.cells [.p (.str (s.extract n.toNat s.size))]] = _
     rw [he, List.take_of_length_le (by have : s.size = r.length := Int.ofNat.inj hl; omega)]; rfl
theorem takeCC {cc : FuncId → List AV → List AObj → (AV → List AObj → Prop) → Prop} (hcc : ACall Try.prog = cc) (id : Nat) {n : Int} {r : List UInt8} (hr : r.length ≤ 1000000000) {H : List AObj} {args : List AV} {K : AV → List AObj → Prop} (ha : args = [.ref id 0, .p (.int .i64 n)]) (hH : nth H id = some (rdO r))
   (k : ∀ t r', tkP n r = some (t, r') → K (.p (.str (toB t))) (setX H id (rdO r'))) (d : tkP n r = none → K (.die 89 (.agg [])) (setX H id (rdO r))) : cc 77 args H K := by
 subst ha
 have h := take_c n r hr
 cases hk : tkP n r with
 | none =>
   rw [hk] at h
   refine frameT (H1 := [rdO r]) hcc [id] h (by simp [onceX, idxX]) rfl rfl ?_ rfl (d hk)
   simp only [optL, hH]; rfl
 | some y =>
   obtain ⟨t, r'⟩ := y
   rw [hk] at h
   refine frameT (H1 := [rdO r']) hcc [id] h (by simp [onceX, idxX]) rfl rfl ?_ rfl (k t r' hk)
   simp only [optL, hH]; rfl
def numP (n : Nat) (r : List UInt8) : Option (Int × List UInt8) := (tkP n r).map fun p => (numL p.1, p.2)
theorem tkP_len {n : Int} {r t r' : List UInt8} (h : tkP n r = some (t, r')) : (t.length : Int) = n ∧ r = t ++ r' ∧ r'.length ≤ r.length := by
 unfold tkP at h
 split at h
 · rename_i g
   simp only [Option.some.injEq, Prod.mk.injEq] at h
   obtain ⟨rfl, rfl⟩ := h
   refine ⟨by rw [List.length_take]; omega, (List.take_append_drop _ _).symm, by rw [List.length_drop]; omega⟩
 · cases h
theorem number_c (n : Nat) (hn : n ≤ 8) (r : List UInt8) (hr : r.length ≤ 1000000000) :
   ACall Try.prog 52 [.ref 0 0, .p (.int .i64 n)] [rdO r] fun x H' => match numP n r with
     | some (v, r') => x = .p (.int .u64 v) ∧ takeX H' 1 = [rdO r']
     | none => x = dmg ∧ takeX H' 1 = [rdO r] := by
 obtain ⟨m, hm⟩ : ∃ m : Int, (n : Int) = m := ⟨_, rfl⟩
 have hp : numP n r = (tkP m r).map fun p => (numL p.1, p.2) := by rw [numP, hm]
 have hle : m ≤ 8 := by omega
 rw [hm, hp, rdO]
 clear hp hm
 have hg : ∀ {t r' : List UInt8}, tkP m r = some (t, r') → PCall Try.prog 76 [.str (toB t)] fun x => x = [.int .u64 (numL t)] := fun {t r'} h => by
   have := get_c (toB t) (by rw [toB_size]; have := (tkP_len h).1; omega)
   exact this
 refine ACall.x (nt := ⟨9, []⟩) (res := [.tmp 4]) mixed tt_ok [] Try.func52 rfl rfl rfl c52 (Nat.le_of_ble_eq_true rfl) ?_
 intro cp cc lp Q' hcp hcc hlp hQ
 repeat' (first
   | (with_reducible refine Nm.mk ?_; intro z hz)
   | (with_reducible refine IfB.mk ?_ ?_ <;> (intro h; cases h))
   | (with_reducible refine Two.l ?_; refine Asm.mk ?_ ?_; focus (decide +kernel))
   | (with_reducible refine Two.r ?_)
   | (with_reducible refine TwoT.r ?_)
   | (with_reducible refine TwoU.r ?_)
   | (with_reducible refine Asm.mk ?_ ?_; focus (first | (show (_ : Bool) = true; kernel_rfl)))
   | (with_reducible refine isCP hcp ?_; first | (refine iP hcp (hg (by assumption)) ?_; intro z hz))
   | (with_reducible refine isCC hcc ?_; first | (refine iA hcc (hg (by assumption)) rfl ?_; intro z hz))
   | (with_reducible refine isCC hcc ?_; refine takeCC hcc 0 hr rfl rfl (fun t r' ht => ?_) (fun ht => ?_))
   | (with_reducible refine Asm.mk2 ?_ ?_)
   | ((fail_if_success (with_reducible first | refine hQ _ _ ?_ | refine Side.mk ?_ | refine isCP hcp ?_ | refine isCC hcc ?_ | refine isLP hlp ?_ | refine Ix.mk ?_ | refine SIx.mk ?_ | refine SEx.mk ?_ | refine EIx.mk ?_ | refine RIx.mk ?_ | refine LkX.mk ?_ | show False | refine hR ?_ _ ?_ ?_ ?_ ?_ ?_ | refine hR2 ?_ _ ?_ ?_ ?_ ?_ ?_)); cbv))
 · refine hQ _ _ ?_
   rw [ht]
   exact ⟨by rw [← hz]; rfl, rfl⟩
 · refine hQ _ _ ?_
   rw [ht]
   exact ⟨rfl, rfl⟩
theorem numCC {cc : FuncId → List AV → List AObj → (AV → List AObj → Prop) → Prop} (hcc : ACall Try.prog = cc) (id : Nat) (n : Nat) (hn : n ≤ 8) {m : Int} (hm : (n : Int) = m) {r : List UInt8} (hr : r.length ≤ 1000000000) {H : List AObj} {args : List AV} {K : AV → List AObj → Prop} (ha : args = [.ref id 0, .p (.int .i64 m)]) (hH : nth H id = some (rdO r))
   (k : ∀ v r', numP n r = some (v, r') → K (.p (.int .u64 v)) (setX H id (rdO r'))) (d : numP n r = none → K (.die 89 (.agg [])) (setX H id (rdO r))) : cc 52 args H K := by
 subst hm ha
 have h := number_c n hn r hr
 cases hk : numP n r with
 | none =>
   rw [hk] at h
   refine frameT (H1 := [rdO r]) hcc [id] h (by simp [onceX, idxX]) rfl rfl ?_ rfl (d hk)
   simp only [optL, hH]; rfl
 | some y =>
   obtain ⟨v, r'⟩ := y
   rw [hk] at h
   refine frameT (H1 := [rdO r']) hcc [id] h (by simp [onceX, idxX]) rfl rfl ?_ rfl (k v r' hk)
   simp only [optL, hH]; rfl
def valP (kind : Int) (r : List UInt8) : Option (Val × List UInt8) :=
 if kind = 1 then (numP 8 r).map fun p => (num (IntKind.i64.wrap p.1), p.2)
 else (numP 2 r).bind fun p => (tkP (IntKind.i64.wrap p.1) p.2).map fun q => (str (toB q.1), q.2)
theorem numP_len {n : Nat} {r r' : List UInt8} {v : Int} (h : numP n r = some (v, r')) : r'.length ≤ r.length := by
 rw [numP, Option.map_eq_some_iff] at h
 obtain ⟨⟨t, r2⟩, h1, h2⟩ := h
 simp only [Prod.mk.injEq] at h2
 obtain ⟨_, rfl⟩ := h2
 exact (tkP_len h1).2.2
def valD (kind : Int) (r : List UInt8) : List UInt8 := if kind = 1 then r else match numP 2 r with | some p => p.2 | none => r
def vA3 (v : Val) : AV := .agg [.p (.int .i64 v.k), .p (.int .i64 v.n), .p (.str v.s)]
theorem rvalue_c (kind : Int) (r : List UInt8) (hr : r.length ≤ 1000000000) :
   ACall Try.prog 79 [.ref 0 0, .p (.int .i64 kind)] [rdO r] fun x H' => match valP kind r with
     | some (v, r') => x = vA3 v ∧ takeX H' 1 = [rdO r']
     | none => x = dmg ∧ takeX H' 1 = [rdO (valD kind r)] := by
 have d1 : decide (kind = 1) = true → valD kind r = r := fun h => if_pos (of_decide_eq_true h)
 have d2 : decide (kind = 1) = false → valD kind r = match numP 2 r with | some p => p.2 | none => r := fun h => if_neg (of_decide_eq_false h)
 have h1 : decide (kind = 1) = true → valP kind r = (numP 8 r).map fun p => (num (IntKind.i64.wrap p.1), p.2) := fun h => if_pos (of_decide_eq_true h)
 have h2 : decide (kind = 1) = false → valP kind r = (numP 2 r).bind fun p => (tkP (IntKind.i64.wrap p.1) p.2).map fun q => (str (toB q.1), q.2) := fun h => if_neg (of_decide_eq_false h)
 have hle : ∀ {r' : List UInt8} {v : Int}, numP 2 r = some (v, r') → r'.length ≤ 1000000000 := fun h => Nat.le_trans (numP_len h) hr
 refine ACall.x (nt := ⟨17, []⟩) (res := [.cell 4 24]) mixed tt_ok [] Try.func79 rfl rfl rfl c79 (Nat.le_of_ble_eq_true rfl) ?_
 intro cp cc lp Q' hcp hcc hlp hQ
 repeat' (first
   | (with_reducible refine Nm.mk ?_; intro z hz)
   | (with_reducible refine IfB.mk ?_ ?_ <;> (intro h; cases h))
   | (with_reducible refine Two.l ?_; refine Asm.mk ?_ ?_; focus (decide +kernel))
   | (with_reducible refine Two.r ?_)
   | (with_reducible refine TwoT.r ?_)
   | (with_reducible refine TwoU.r ?_)
   | (with_reducible refine Asm.mk ?_ ?_; focus (first | (show (_ : Bool) = true; kernel_rfl)))
   | (with_reducible refine isCC hcc ?_; refine numCC hcc 0 8 (by decide) rfl hr rfl rfl (fun v r' ht => ?_) (fun ht => ?_))
   | (with_reducible refine isCC hcc ?_; refine numCC hcc 0 2 (by decide) rfl hr rfl rfl (fun v r' ht => ?_) (fun ht => ?_))
   | (with_reducible refine isCC hcc ?_; refine takeCC hcc 0 (hle (by assumption)) rfl rfl (fun t r2 ht2 => ?_) (fun ht2 => ?_))
   | (with_reducible refine Asm.mk2 ?_ ?_)
   | ((fail_if_success (with_reducible first | refine hQ _ _ ?_ | refine Side.mk ?_ | refine isCP hcp ?_ | refine isCC hcc ?_ | refine isLP hlp ?_ | refine Ix.mk ?_ | refine SIx.mk ?_ | refine SEx.mk ?_ | refine EIx.mk ?_ | refine RIx.mk ?_ | refine LkX.mk ?_ | show False | refine hR ?_ _ ?_ ?_ ?_ ?_ ?_ | refine hR2 ?_ _ ?_ ?_ ?_ ?_ ?_)); cbv))
 · rename_i hk
   refine hQ _ _ ?_
   rw [h1 hk, ht]
   exact ⟨by rw [← hz]; rfl, rfl⟩
 · refine hQ _ _ ?_
   rw [h1 hz, ht, d1 hz]
   exact ⟨rfl, rfl⟩
 · rename_i hk
   refine hQ _ _ ?_
   rw [h2 hk, ht]
   subst hz
   simp only [Option.bind_some, ht2, Option.map_some]
   exact ⟨rfl, rfl⟩
 · rename_i hk
   refine hQ _ _ ?_
   rw [h2 hk, d2 hk, ht]
   subst hz
   simp only [Option.bind_some, ht2, Option.map_none]
   exact ⟨rfl, rfl⟩
 · refine hQ _ _ ?_
   rw [h2 hz, d2 hz, ht]
   exact ⟨rfl, rfl⟩
theorem rvalueCC {cc : FuncId → List AV → List AObj → (AV → List AObj → Prop) → Prop} (hcc : ACall Try.prog = cc) (id : Nat) {kind : Int} {r : List UInt8} (hr : r.length ≤ 1000000000) {H : List AObj} {args : List AV} {K : AV → List AObj → Prop} (ha : args = [.ref id 0, .p (.int .i64 kind)]) (hH : nth H id = some (rdO r))
   (k : ∀ v r', valP kind r = some (v, r') → K (.agg [.p (.int .i64 v.k), .p (.int .i64 v.n), .p (.str v.s)]) (setX H id (rdO r'))) (d : valP kind r = none → K (.die 89 (.agg [])) (setX H id (rdO (valD kind r)))) : cc 79 args H K := by
 subst ha
 have h := rvalue_c kind r hr
 cases hk : valP kind r with
 | none =>
   rw [hk] at h
   refine frameT (H1 := [rdO (valD kind r)]) hcc [id] h (by simp [onceX, idxX]) rfl rfl ?_ rfl (d hk)
   simp only [optL, hH]; rfl
 | some y =>
   obtain ⟨v, r'⟩ := y
   rw [hk] at h
   refine frameT (H1 := [rdO r']) hcc [id] h (by simp [onceX, idxX]) rfl rfl ?_ rfl (k v r' hk)
   simp only [optL, hH]; rfl
end Go.Proofs.Ytcajncmjlmpkgaa

namespace Go.Proofs.Ytcajncmjlmpkgaa
open Go Go.RowKit
set_option maxRecDepth 100000
set_option linter.unusedSimpArgs false
set_option linter.unusedVariables false
def bitV (c : UInt8) (e k : Int) : Int := IntKind.u64.wrap (IntKind.u64.wrap (IntKind.u8.wrap ((BitVec.ofInt IntKind.u8.bits ((c.toNat : Int).fdiv (2 ^ min e.toNat IntKind.u8.bits)) &&& BitVec.ofInt IntKind.u8.bits 1).toNat : Int)) * 2 ^ min k.toNat IntKind.u64.bits)
def orU64 (x y : Int) : Int := IntKind.u64.wrap ((BitVec.ofInt IntKind.u64.bits x ||| BitVec.ofInt IntKind.u64.bits y).toNat : Int)
def wordN (t : List UInt8) (a : Int) : Nat → Int
 | 0 => 0
 | k + 1 => orU64 (wordN t a k) (bitV (t.getD ((a + k) / 8).toNat 0) ((a + k) % 8) k)
def nxH (w : Int) (t : List UInt8) (a : Int) : List AObj := [.cells [.p (.int .i64 w)], .cells [.p (.str (toB t))], .cells [.p (.int .i64 a)]]
theorem next_c (w : Int) (t : List UInt8) (a : Int) (hw : 0 ≤ w ∧ w ≤ 64) (ha : 0 ≤ a) (hle : a + w ≤ 8 * t.length) (ht : t.length ≤ 1000000) :
   ACall Try.prog 78 [.ref 0 0, .ref 1 0, .ref 2 0] (nxH w t a) fun x H' => x = .p (.int .u64 (wordN t a w.toNat)) ∧ takeX H' 3 = nxH w t (a + w) := by
 obtain ⟨s, hs⟩ : ∃ s, toB t = s := ⟨_, rfl⟩
 have hget : ∀ {z : Nat} {c : UInt8}, s[z]? = some c → t.getD z 0 = c := by
   intro z c h
   rw [← hs] at h
   have h2 := byts_get.1 h
   have h3 : t[z]? = some c := h2
   rw [List.getD_eq_getElem?_getD, h3]; rfl
 have hsl : s.size = t.length := by rw [← hs, toB_size]
 have hbd : ∀ k : Int, 0 ≤ k → k < w → ((a + k) / 8).toNat < s.size ∧ a + k ≤ 8000000 := by
   intro k h1 h2
   rw [hsl]; omega
 have hae : a + w ≤ 8000000 := by omega
 rw [nxH, nxH, hs]
 clear hle
 refine ACall.x (nt := ⟨27, []⟩) (res := [.tmp 3]) mixed tt_ok [] Try.func78 rfl rfl rfl c78 (Nat.le_of_ble_eq_true rfl) ?_
 intro cp cc lp Q' hcp hcc hlp hQ
 repeat' (first
   | (with_reducible refine Nm.mk ?_; intro z hz)
   | (with_reducible refine IfB.mk ?_ ?_ <;> (intro h; cases h))
   | (with_reducible refine Two.l ?_; refine Asm.mk ?_ ?_; focus (decide +kernel))
   | (with_reducible refine Two.r ?_)
   | (with_reducible refine TwoT.r ?_)
   | (with_reducible refine TwoU.r ?_)
   | (with_reducible refine Asm.mk ?_ ?_; focus (first | (show (_ : Bool) = true; kernel_rfl)))
   | (with_reducible refine Asm.mk2 ?_ ?_)
   | ((fail_if_success (with_reducible first | refine hQ _ _ ?_ | refine Side.mk ?_ | refine isCP hcp ?_ | refine isCC hcc ?_ | refine isLP hlp ?_ | refine Ix.mk ?_ | refine SIx.mk ?_ | refine SEx.mk ?_ | refine EIx.mk ?_ | refine RIx.mk ?_ | refine LkX.mk ?_ | show False | refine hR ?_ _ ?_ ?_ ?_ ?_ ?_ | refine hR2 ?_ _ ?_ ?_ ?_ ?_ ?_)); cbv))
 refine loopT (ι := Int × Int) mixed tt_ok hcp hcc hlp [0, 1, 2, 6] (fun p => [(7, .p (.int .i64 p.1)), (4, .p (.int .u64 p.2))]) (fun p => [.cells [.p (.int .i64 w)], .cells [.p (.str s)], .cells [.p (.int .i64 (a + p.1))]]) (fun p => 0 ≤ p.1 ∧ p.1 ≤ w ∧ wordN t a p.1.toNat = p.2) (fun p => (w - p.1).toNat) (0, 0) 3 (fun _ => rfl) ⟨Int.le_refl _, hw.1, rfl⟩ ⟨rfl, rfl, trivial⟩ (by rw [Int.add_zero]) ?_
 rintro R ⟨k, x⟩ ⟨hk0, hk1, hx⟩ hR
 replace hx : wordN t a k.toNat = x := hx
 replace hk0 : 0 ≤ k := hk0
 replace hk1 : k ≤ w := hk1
 obtain ⟨b, hb⟩ : ∃ b, a + k = b := ⟨_, rfl⟩
 rw [hb]
 have hq : ∀ {z : Int}, decide (k < w) = true → IntKind.i64.wrap (b.tdiv 8) = z → z = b / 8 ∧ 0 ≤ z ∧ z.toNat < s.size := by
   rintro z h rfl
   obtain ⟨h1, h2⟩ := hbd k hk0 (of_decide_eq_true h)
   rw [hb] at h1 h2
   have hb0 : 0 ≤ b := by omega
   rw [Int.tdiv_eq_ediv_of_nonneg hb0, wrap_in (by omega)]
   exact ⟨rfl, by omega, h1⟩
 have hr8 : ∀ {z : Int}, b.tmod 8 = z → z = b % 8 ∧ ¬ z < 0 := by
   rintro z rfl
   have hb0 : 0 ≤ b := by omega
   rw [Int.tmod_eq_emod_of_nonneg hb0]
   exact ⟨rfl, by omega⟩
 have hkn : ¬ k < 0 := by omega
 have hgo : decide (k < w) = true → 0 ≤ k + 1 ∧ k + 1 ≤ w ∧ (w - (k + 1)).toNat < (w - k).toNat ∧ IntKind.i64.wrap (k + 1) = k + 1 ∧ IntKind.i64.wrap (b + 1) = a + (k + 1) := by
   intro h
   have h1 := of_decide_eq_true h
   obtain ⟨_, h2⟩ := hbd k hk0 h1
   exact ⟨by omega, by omega, by omega, wrap_in (by omega), by rw [wrap_in (by omega)]; omega⟩
 have hend : decide (k < w) = false → k = w := by
   intro h
   have := of_decide_eq_false h
   omega
 repeat' (first
   | (with_reducible refine Nm.mk ?_; intro z hz)
   | (with_reducible refine IfB.mk ?_ ?_ <;> (intro h; cases h))
   | (with_reducible refine Two.l ?_; refine Asm.mk ?_ ?_; focus (decide +kernel))
   | (with_reducible refine Two.r ?_)
   | (with_reducible refine TwoT.r ?_)
   | (with_reducible refine TwoU.r ?_)
   | (with_reducible refine Asm.mk ?_ ?_; focus (first | exact (hr8 (by assumption)).2 | exact hkn | (show (_ : Bool) = true; kernel_rfl) | decide))
   | (with_reducible refine SIx.at_ (hq (by assumption) (by assumption)).2.1 (hq (by assumption) (by assumption)).2.2 ?_; intro c cz hc hcz)
   | (with_reducible refine Asm.mk2 ?_ ?_)
   | ((fail_if_success (with_reducible first | refine hQ _ _ ?_ | refine Side.mk ?_ | refine isCP hcp ?_ | refine isCC hcc ?_ | refine isLP hlp ?_ | refine Ix.mk ?_ | refine SIx.mk ?_ | refine SEx.mk ?_ | refine EIx.mk ?_ | refine RIx.mk ?_ | refine LkX.mk ?_ | show False | refine hR ?_ _ ?_ ?_ ?_ ?_ ?_ | refine hR2 ?_ _ ?_ ?_ ?_ ?_ ?_)); cbv))
 · rename_i hkw z7 h7 z6 h6 z5 h5 z4 h4 z3 h3 z2 h2 z1 h1 zb hb1
   obtain ⟨g1, g2, g3, g4, g5⟩ := hgo hkw
   rw [g4] at hz
   subst hz
   rw [g5] at hb1
   subst hb1
   refine hR (k + 1, z1) _ ⟨g1, g2, ?_⟩ g3 ⟨rfl, rfl, trivial⟩ ⟨rfl, rfl, rfl, rfl, trivial⟩ rfl
   show wordN t a (k + 1).toNat = z1
   obtain ⟨q1, q2, q3⟩ := hq hkw h7
   obtain ⟨q4, q5⟩ := hr8 h6
   have e : (k + 1).toNat = k.toNat + 1 := by omega
   have ek : ((k.toNat : Nat) : Int) = k := by omega
   rw [e, wordN, hx, ek, hb, ← q1, ← q4, hget hc, ← h1, ← h2, ← h3, ← h4, ← h5, ← hcz]; rfl
 · have hkw := hend hz
   subst hkw
   refine hQ _ _ ⟨by rw [← hx]; rfl, ?_⟩
   rw [← hb]; rfl
theorem nextCC {cc : FuncId → List AV → List AObj → (AV → List AObj → Prop) → Prop} (hcc : ACall Try.prog = cc) (i0 i1 i2 : Nat) (hi : onceX [i0, i1, i2] = true) (w : Int) (t : List UInt8) (a : Int) (hw : 0 ≤ w ∧ w ≤ 64) (ha : 0 ≤ a) (hle : a + w ≤ 8 * t.length) (ht : t.length ≤ 1000000) {H : List AObj} {args : List AV} {K : AV → List AObj → Prop}
   (ha2 : args = [.ref i0 0, .ref i1 0, .ref i2 0]) (hH0 : nth H i0 = some (.cells [.p (.int .i64 w)])) (hH1 : nth H i1 = some (.cells [.p (.str (toB t))])) (hH2 : nth H i2 = some (.cells [.p (.int .i64 a)]))
   (k : ∀ x a', wordN t a w.toNat = x → a + w = a' → K (.p (.int .u64 x)) (setX (setX (setX H i0 (.cells [.p (.int .i64 w)])) i1 (.cells [.p (.str (toB t))])) i2 (.cells [.p (.int .i64 a')]))) : cc 78 args H K := by
 subst ha2
 refine frameT (H1 := nxH w t (a + w)) hcc [i0, i1, i2] (next_c w t a hw ha hle ht) hi rfl rfl ?_ rfl (k _ _ rfl rfl)
 simp only [optL, hH0, hH1, hH2]; rfl
theorem bitsA_c (o0 o1 o3 : AObj) (r : List UInt8) (hr : r.length ≤ 1000000000) (n w : Int) (hn : 0 ≤ n ∧ n ≤ 4096) (hw : 0 ≤ w ∧ w ≤ 64) {Q : AV → List AObj → Prop}
   (k : ∀ t r', tkP ((n * w + 7) / 8) r = some (t, r') → Q (.fn 78 [.ref 4 0, .ref 5 0, .ref 6 0]) ([o0, o1, rdO r', o3, .cells [.p (.int .i64 w)], .cells [.p (.str (toB t))], .cells [.p (.int .i64 0)]]))
   (d : tkP ((n * w + 7) / 8) r = none → ∀ H', takeX H' 4 = [o0, o1, rdO r, o3] → Q (.die 89 (.agg [])) H') : ACall Try.prog 53 [.ref 2 0, .p (.int .i64 n), .p (.int .i64 w)] [o0, o1, rdO r, o3] Q := by
 have hnw : 0 ≤ n * w ∧ n * w ≤ 262144 := by
   refine ⟨Int.mul_nonneg hn.1 hw.1, ?_⟩
   have h1 : n * w ≤ 4096 * 64 := Int.le_trans (Int.mul_le_mul_of_nonneg_right hn.2 hw.1) (Int.mul_le_mul_of_nonneg_left hw.2 (by decide))
   omega
 have hz8 : ∀ {z1 z2 z3 : Int}, IntKind.i64.wrap (n * w) = z1 → IntKind.i64.wrap (z1 + 7) = z2 → IntKind.i64.wrap (z2.tdiv 8) = z3 → z3 = (n * w + 7) / 8 := by
   intro z1 z2 z3 h1 h2 h3
   rw [wrap_in (by omega)] at h1
   subst h1
   rw [wrap_in (by omega)] at h2
   subst h2
   rw [Int.tdiv_eq_ediv_of_nonneg (by omega), wrap_in (by omega)] at h3
   exact h3.symm
 refine ACall.x (nt := ⟨17, []⟩) (res := [.tmp 6]) mixed tt_ok [] Try.func53 rfl rfl rfl c53 (Nat.le_of_ble_eq_true rfl) ?_
 intro cp cc lp Q' hcp hcc hlp hQ
 repeat' (first
   | (with_reducible refine Nm.mk ?_; intro z hz)
   | (with_reducible refine IfB.mk ?_ ?_ <;> (intro h; cases h))
   | (with_reducible refine Two.l ?_; refine Asm.mk ?_ ?_; focus (decide +kernel))
   | (with_reducible refine Two.r ?_)
   | (with_reducible refine TwoT.r ?_)
   | (with_reducible refine TwoU.r ?_)
   | (with_reducible refine Asm.mk ?_ ?_; focus (first | (show (_ : Bool) = true; kernel_rfl) | decide))
   | (with_reducible refine isCC hcc ?_; refine takeCC hcc 2 hr rfl rfl (fun t r' ht => ?_) (fun ht => ?_))
   | (with_reducible refine Asm.mk2 ?_ ?_)
   | ((fail_if_success (with_reducible first | refine hQ _ _ ?_ | refine Side.mk ?_ | refine isCP hcp ?_ | refine isCC hcc ?_ | refine isLP hlp ?_ | refine Ix.mk ?_ | refine SIx.mk ?_ | refine SEx.mk ?_ | refine EIx.mk ?_ | refine RIx.mk ?_ | refine LkX.mk ?_ | show False | refine hR ?_ _ ?_ ?_ ?_ ?_ ?_ | refine hR2 ?_ _ ?_ ?_ ?_ ?_ ?_)); cbv))
 · rename_i z1 h1 z2 h2
   rw [hz8 h1 h2 hz] at ht
   exact hQ _ _ (k t r' ht)
 · rename_i z1 h1 z2 h2
   rw [hz8 h1 h2 hz] at ht
   exact hQ _ _ (d ht _ rfl)
theorem bitsACC {cc : FuncId → List AV → List AObj → (AV → List AObj → Prop) → Prop} (hcc : ACall Try.prog = cc) (o0 o1 o3 : AObj) {r : List UInt8} (hr : r.length ≤ 1000000000) {n w : Int} (hn : 0 ≤ n ∧ n ≤ 4096) (hw : 0 ≤ w ∧ w ≤ 64) {H : List AObj} {args : List AV} {K : AV → List AObj → Prop}
   (ha : args = [.ref 2 0, .p (.int .i64 n), .p (.int .i64 w)]) (hH : H = [o0, o1, rdO r, o3])
   (k : ∀ t r', tkP ((n * w + 7) / 8) r = some (t, r') → K (.fn 78 [.ref 4 0, .ref 5 0, .ref 6 0]) ([o0, o1, rdO r', o3, .cells [.p (.int .i64 w)], .cells [.p (.str (toB t))], .cells [.p (.int .i64 0)]]))
   (d : tkP ((n * w + 7) / 8) r = none → ∀ H', takeX H' 4 = [o0, o1, rdO r, o3] → K (.die 89 (.agg [])) H') : cc 53 args H K := by
 subst ha hH hcc
 exact bitsA_c o0 o1 o3 r hr n w hn hw k d
theorem bitsB_c (o1 : AObj) (r : List UInt8) (hr : r.length ≤ 1000000000) (n w : Int) (hn : 0 ≤ n ∧ n ≤ 4096) (hw : 0 ≤ w ∧ w ≤ 64) {Q : AV → List AObj → Prop}
   (k : ∀ t r', tkP ((n * w + 7) / 8) r = some (t, r') → Q (.fn 78 [.ref 2 0, .ref 3 0, .ref 4 0]) ([rdO r', o1, .cells [.p (.int .i64 w)], .cells [.p (.str (toB t))], .cells [.p (.int .i64 0)]]))
   (d : tkP ((n * w + 7) / 8) r = none → ∀ H', takeX H' 2 = [rdO r, o1] → Q (.die 89 (.agg [])) H') : ACall Try.prog 53 [.ref 0 0, .p (.int .i64 n), .p (.int .i64 w)] [rdO r, o1] Q := by
 have hnw : 0 ≤ n * w ∧ n * w ≤ 262144 := by
   refine ⟨Int.mul_nonneg hn.1 hw.1, ?_⟩
   have h1 : n * w ≤ 4096 * 64 := Int.le_trans (Int.mul_le_mul_of_nonneg_right hn.2 hw.1) (Int.mul_le_mul_of_nonneg_left hw.2 (by decide))
   omega
 have hz8 : ∀ {z1 z2 z3 : Int}, IntKind.i64.wrap (n * w) = z1 → IntKind.i64.wrap (z1 + 7) = z2 → IntKind.i64.wrap (z2.tdiv 8) = z3 → z3 = (n * w + 7) / 8 := by
   intro z1 z2 z3 h1 h2 h3
   rw [wrap_in (by omega)] at h1
   subst h1
   rw [wrap_in (by omega)] at h2
   subst h2
   rw [Int.tdiv_eq_ediv_of_nonneg (by omega), wrap_in (by omega)] at h3
   exact h3.symm
 refine ACall.x (nt := ⟨17, []⟩) (res := [.tmp 6]) mixed tt_ok [] Try.func53 rfl rfl rfl c53 (Nat.le_of_ble_eq_true rfl) ?_
 intro cp cc lp Q' hcp hcc hlp hQ
 repeat' (first
   | (with_reducible refine Nm.mk ?_; intro z hz)
   | (with_reducible refine IfB.mk ?_ ?_ <;> (intro h; cases h))
   | (with_reducible refine Two.l ?_; refine Asm.mk ?_ ?_; focus (decide +kernel))
   | (with_reducible refine Two.r ?_)
   | (with_reducible refine TwoT.r ?_)
   | (with_reducible refine TwoU.r ?_)
   | (with_reducible refine Asm.mk ?_ ?_; focus (first | (show (_ : Bool) = true; kernel_rfl) | decide))
   | (with_reducible refine isCC hcc ?_; refine takeCC hcc 0 hr rfl rfl (fun t r' ht => ?_) (fun ht => ?_))
   | (with_reducible refine Asm.mk2 ?_ ?_)
   | ((fail_if_success (with_reducible first | refine hQ _ _ ?_ | refine Side.mk ?_ | refine isCP hcp ?_ | refine isCC hcc ?_ | refine isLP hlp ?_ | refine Ix.mk ?_ | refine SIx.mk ?_ | refine SEx.mk ?_ | refine EIx.mk ?_ | refine RIx.mk ?_ | refine LkX.mk ?_ | show False | refine hR ?_ _ ?_ ?_ ?_ ?_ ?_ | refine hR2 ?_ _ ?_ ?_ ?_ ?_ ?_)); cbv))
 · rename_i z1 h1 z2 h2
   rw [hz8 h1 h2 hz] at ht
   exact hQ _ _ (k t r' ht)
 · rename_i z1 h1 z2 h2
   rw [hz8 h1 h2 hz] at ht
   exact hQ _ _ (d ht _ rfl)
theorem bitsBCC {cc : FuncId → List AV → List AObj → (AV → List AObj → Prop) → Prop} (hcc : ACall Try.prog = cc) (o1 : AObj) {r : List UInt8} (hr : r.length ≤ 1000000000) {n w : Int} (hn : 0 ≤ n ∧ n ≤ 4096) (hw : 0 ≤ w ∧ w ≤ 64) {H : List AObj} {args : List AV} {K : AV → List AObj → Prop}
   (ha : args = [.ref 0 0, .p (.int .i64 n), .p (.int .i64 w)]) (hH : H = [rdO r, o1])
   (k : ∀ t r', tkP ((n * w + 7) / 8) r = some (t, r') → K (.fn 78 [.ref 2 0, .ref 3 0, .ref 4 0]) ([rdO r', o1, .cells [.p (.int .i64 w)], .cells [.p (.str (toB t))], .cells [.p (.int .i64 0)]]))
   (d : tkP ((n * w + 7) / 8) r = none → ∀ H', takeX H' 2 = [rdO r, o1] → K (.die 89 (.agg [])) H') : cc 53 args H K := by
 subst ha hH hcc
 exact bitsB_c o1 r hr n w hn hw k d
theorem bitsC_c (o1 o2 : AObj) (r : List UInt8) (hr : r.length ≤ 1000000000) (n w : Int) (hn : 0 ≤ n ∧ n ≤ 4096) (hw : 0 ≤ w ∧ w ≤ 64) {Q : AV → List AObj → Prop}
   (k : ∀ t r', tkP ((n * w + 7) / 8) r = some (t, r') → Q (.fn 78 [.ref 3 0, .ref 4 0, .ref 5 0]) ([rdO r', o1, o2, .cells [.p (.int .i64 w)], .cells [.p (.str (toB t))], .cells [.p (.int .i64 0)]]))
   (d : tkP ((n * w + 7) / 8) r = none → ∀ H', takeX H' 3 = [rdO r, o1, o2] → Q (.die 89 (.agg [])) H') : ACall Try.prog 53 [.ref 0 0, .p (.int .i64 n), .p (.int .i64 w)] [rdO r, o1, o2] Q := by
 have hnw : 0 ≤ n * w ∧ n * w ≤ 262144 := by
   refine ⟨Int.mul_nonneg hn.1 hw.1, ?_⟩
   have h1 : n * w ≤ 4096 * 64 := Int.le_trans (Int.mul_le_mul_of_nonneg_right hn.2 hw.1) (Int.mul_le_mul_of_nonneg_left hw.2 (by decide))
   omega
 have hz8 : ∀ {z1 z2 z3 : Int}, IntKind.i64.wrap (n * w) = z1 → IntKind.i64.wrap (z1 + 7) = z2 → IntKind.i64.wrap (z2.tdiv 8) = z3 → z3 = (n * w + 7) / 8 := by
   intro z1 z2 z3 h1 h2 h3
   rw [wrap_in (by omega)] at h1
   subst h1
   rw [wrap_in (by omega)] at h2
   subst h2
   rw [Int.tdiv_eq_ediv_of_nonneg (by omega), wrap_in (by omega)] at h3
   exact h3.symm
 refine ACall.x (nt := ⟨17, []⟩) (res := [.tmp 6]) mixed tt_ok [] Try.func53 rfl rfl rfl c53 (Nat.le_of_ble_eq_true rfl) ?_
 intro cp cc lp Q' hcp hcc hlp hQ
 repeat' (first
   | (with_reducible refine Nm.mk ?_; intro z hz)
   | (with_reducible refine IfB.mk ?_ ?_ <;> (intro h; cases h))
   | (with_reducible refine Two.l ?_; refine Asm.mk ?_ ?_; focus (decide +kernel))
   | (with_reducible refine Two.r ?_)
   | (with_reducible refine TwoT.r ?_)
   | (with_reducible refine TwoU.r ?_)
   | (with_reducible refine Asm.mk ?_ ?_; focus (first | (show (_ : Bool) = true; kernel_rfl) | decide))
   | (with_reducible refine isCC hcc ?_; refine takeCC hcc 0 hr rfl rfl (fun t r' ht => ?_) (fun ht => ?_))
   | (with_reducible refine Asm.mk2 ?_ ?_)
   | ((fail_if_success (with_reducible first | refine hQ _ _ ?_ | refine Side.mk ?_ | refine isCP hcp ?_ | refine isCC hcc ?_ | refine isLP hlp ?_ | refine Ix.mk ?_ | refine SIx.mk ?_ | refine SEx.mk ?_ | refine EIx.mk ?_ | refine RIx.mk ?_ | refine LkX.mk ?_ | show False | refine hR ?_ _ ?_ ?_ ?_ ?_ ?_ | refine hR2 ?_ _ ?_ ?_ ?_ ?_ ?_)); cbv))
 · rename_i z1 h1 z2 h2
   rw [hz8 h1 h2 hz] at ht
   exact hQ _ _ (k t r' ht)
 · rename_i z1 h1 z2 h2
   rw [hz8 h1 h2 hz] at ht
   exact hQ _ _ (d ht _ rfl)
theorem bitsCCC {cc : FuncId → List AV → List AObj → (AV → List AObj → Prop) → Prop} (hcc : ACall Try.prog = cc) (o1 o2 : AObj) {r : List UInt8} (hr : r.length ≤ 1000000000) {n w : Int} (hn : 0 ≤ n ∧ n ≤ 4096) (hw : 0 ≤ w ∧ w ≤ 64) {H : List AObj} {args : List AV} {K : AV → List AObj → Prop}
   (ha : args = [.ref 0 0, .p (.int .i64 n), .p (.int .i64 w)]) (hH : H = [rdO r, o1, o2])
   (k : ∀ t r', tkP ((n * w + 7) / 8) r = some (t, r') → K (.fn 78 [.ref 3 0, .ref 4 0, .ref 5 0]) ([rdO r', o1, o2, .cells [.p (.int .i64 w)], .cells [.p (.str (toB t))], .cells [.p (.int .i64 0)]]))
   (d : tkP ((n * w + 7) / 8) r = none → ∀ H', takeX H' 3 = [rdO r, o1, o2] → K (.die 89 (.agg [])) H') : cc 53 args H K := by
 subst ha hH hcc
 exact bitsC_c o1 o2 r hr n w hn hw k d
end Go.Proofs.Ytcajncmjlmpkgaa

namespace Go.Proofs.Ytcajncmjlmpkgaa
open Go Go.RowKit
set_option maxRecDepth 100000
set_option linter.unusedSimpArgs false
set_option linter.unusedVariables false
def valsP (kind : Int) : Nat → List UInt8 → Option (List Val × List UInt8)
 | 0, r => some ([], r)
 | m + 1, r => (valsP kind m r).bind fun p => (valP kind p.2).map fun q => (p.1 ++ [q.1], q.2)
theorem valP_len {kind : Int} {r r' : List UInt8} {v : Val} (h : valP kind r = some (v, r')) : r'.length ≤ r.length := by
 unfold valP at h
 split at h
 · rw [Option.map_eq_some_iff] at h
   obtain ⟨⟨t, r2⟩, h1, h2⟩ := h
   simp only [Prod.mk.injEq] at h2
   obtain ⟨_, rfl⟩ := h2
   exact numP_len h1
 · rw [Option.bind_eq_some_iff] at h
   obtain ⟨⟨t, r2⟩, h1, h2⟩ := h
   rw [Option.map_eq_some_iff] at h2
   obtain ⟨⟨t3, r3⟩, h3, h4⟩ := h2
   simp only [Prod.mk.injEq] at h4
   obtain ⟨_, rfl⟩ := h4
   exact Nat.le_trans (tkP_len h3).2.2 (numP_len h1)
theorem valsP_len {kind : Int} : ∀ {m : Nat} {r r' : List UInt8} {l : List Val}, valsP kind m r = some (l, r') → r'.length ≤ r.length ∧ l.length = m
 | 0, r, r', l, h => by
   simp only [valsP, Option.some.injEq, Prod.mk.injEq] at h
   obtain ⟨rfl, rfl⟩ := h
   exact ⟨Nat.le_refl _, rfl⟩
 | m + 1, r, r', l, h => by
   rw [valsP, Option.bind_eq_some_iff] at h
   obtain ⟨⟨l1, r1⟩, h1, h2⟩ := h
   rw [Option.map_eq_some_iff] at h2
   obtain ⟨⟨v, r2⟩, h3, h4⟩ := h2
   simp only [Prod.mk.injEq] at h4
   obtain ⟨rfl, rfl⟩ := h4
   obtain ⟨q1, q2⟩ := valsP_len h1
   exact ⟨Nat.le_trans (valP_len h3) q1, by rw [List.length_append, q2]; rfl⟩
theorem valsP_none {kind : Int} {j m : Nat} {r : List UInt8} (h : valsP kind j r = none) (hm : j ≤ m) : valsP kind m r = none := by
 obtain ⟨d, rfl⟩ : ∃ d, m = j + d := ⟨m - j, by omega⟩
 clear hm
 induction d with
 | zero => exact h
 | succ d ih => rw [← Nat.add_assoc, valsP, ih]; rfl
theorem takeX_1 {H l : List AObj} {a : AObj} {n : Nat} (h : takeX H (n + 1) = a :: l) : takeX H 1 = [a] := by
 rw [takeX_eq] at h ⊢
 cases H with
 | nil => simp at h
 | cons b H => simp at h; simp [h.1]
def StQ (o : Option (List Val × List UInt8)) (x : AV) (H : List AObj) : Prop :=
 match o with
 | some (l, r') => x = .p (.sl (l.map Val.cells)) ∧ takeX H 1 = [rdO r']
 | none => x = .die 89 (.agg []) ∧ ∃ r', takeX H 1 = [rdO r']
theorem row_side {l : List Val} {L : List (List PV)} {n : Nat} (g : Nat) (hL : l.map Val.cells = L) (hn : L.length = n) (hle : n ≤ 1000000) (v : Val) :
   g = g ∧ 3 = 3 ∧ 0 = 0 ∧ n ≤ L.length ∧ okEs 3 (List.take n L) = true ∧ okEs 3 [[PV.int .i64 v.1, PV.int .i64 v.2, PV.str v.3]] = true ∧ n + [[PV.int .i64 v.1, PV.int .i64 v.2, PV.str v.3]].length ≤ maxLen ∧ (n + [[PV.int .i64 v.1, PV.int .i64 v.2, PV.str v.3]].length) * 32 ≤ 140737488355328 := by
 refine ⟨rfl, rfl, rfl, by omega, ?_, rfl, ?_, ?_⟩
 · rw [← hL]
   exact List.all_eq_true.2 fun e he => by obtain ⟨c, _, rfl⟩ := List.mem_map.1 (List.mem_of_mem_take he); rfl
 · show n + 1 ≤ 9223372036854775807; omega
 · show (n + 1) * 32 ≤ _; omega
theorem row_step {l : List Val} {L L2 : List (List PV)} {n n2 : Nat} {v : Val} (hL : l.map Val.cells = L) (hn : L.length = n) (h1 : n + [[PV.int .i64 v.k, PV.int .i64 v.n, PV.str v.s]].length = n2) (h2 : List.take n L ++ [[PV.int .i64 v.k, PV.int .i64 v.n, PV.str v.s]] = L2) : (l ++ [v]).map Val.cells = L2 ∧ L2.length = n2 := by
 subst hn
 rw [List.take_length] at h2
 subst h1 h2
 refine ⟨?_, by rw [List.length_append]⟩
 rw [List.map_append, hL]; rfl
theorem row_end {l : List Val} {L L2 : List (List PV)} {n : Nat} (hL : l.map Val.cells = L) (hn : L.length = n) (h : List.take n (List.drop 0 L) = L2) : l.map Val.cells = L2 := by
 rw [List.drop_zero, ← hn, List.take_length] at h
 rw [hL, h]
theorem stand1_c (kind m : Int) (r : List UInt8) (hr : r.length ≤ 1000000000) (hm : 0 ≤ m ∧ m ≤ 4096) :
   ACall Try.prog 54 [.ref 0 0, .p (.int .i64 1), .p (.int .i64 kind), .p (.int .i64 m)] [rdO r] (StQ (valsP kind m.toNat r)) := by
 have hx1 : ¬ decide ((1 : Int) = 1) = false := by decide
 have hms : (0 : Int) ≤ 0 ∧ 0 ≤ m ∧ m.toNat * 32 ≤ 140737488355328 ∧ m.toNat ≤ maxLen := ⟨Int.le_refl _, hm.1, by omega, by show _ ≤ 9223372036854775807; omega⟩
 refine ACall.x (nt := ⟨143, []⟩) (res := [.tmp 8]) mixed tt_ok [(999996, [20])] Try.func54 rfl rfl rfl c54 (Nat.le_of_ble_eq_true rfl) ?_
 intro cp cc lp Q' hcp hcc hlp hQ
 repeat' (first
   | (with_reducible exact absurd (by assumption) hx1)
   | (with_reducible refine Nm.mk ?_; intro z hz)
   | (with_reducible refine IfB.mk ?_ ?_ <;> (intro h; cases h))
   | (with_reducible refine Two.l ?_; refine Asm.mk ?_ ?_; focus (decide +kernel))
   | (with_reducible refine Two.r ?_)
   | (with_reducible refine TwoT.r ?_)
   | (with_reducible refine TwoU.r ?_)
   | (with_reducible refine Asm.mk ?_ ?_; focus (first | exact hms | (show (_ : Bool) = true; kernel_rfl) | decide))
   | (with_reducible refine Asm.mk2 ?_ ?_)
   | ((fail_if_success (with_reducible first | refine hQ _ _ ?_ | refine Side.mk ?_ | refine isCP hcp ?_ | refine isCC hcc ?_ | refine isLP hlp ?_ | refine Ix.mk ?_ | refine SIx.mk ?_ | refine SEx.mk ?_ | refine EIx.mk ?_ | refine RIx.mk ?_ | refine LkX.mk ?_ | show False | refine hR ?_ _ ?_ ?_ ?_ ?_ ?_ | refine hR2 ?_ _ ?_ ?_ ?_ ?_ ?_)); cbv))
 rename_i zn hzn hZ
 clear hz
 obtain rfl : zn = 0 := hzn.symm
 obtain rfl : z = [] := hZ.symm
 clear hzn hZ
 refine loopFr hlp [.tmp 9] ?_
 refine loopTz [(999996, [20])] (ι := Int × List UInt8 × Nat × List (List PV) × Nat × List Val) mixed tt_ok hcp hcc hlp [0, 2, 3, 24] (fun p => [(25, .p (.int .i64 p.1)), (9, .vec 1 p.2.2.1 3 0 p.2.2.2.2.1)]) (fun p => [rdO p.2.1, .vec p.2.2.1 p.2.2.2.1 3]) (fun p => 0 ≤ p.1 ∧ p.1 ≤ m ∧ valsP kind p.1.toNat r = some (p.2.2.2.2.2, p.2.1) ∧ p.2.2.2.2.2.map Val.cells = p.2.2.2.1 ∧ p.2.2.2.1.length = p.2.2.2.2.1) (fun p => (m - p.1).toNat) (0, r, 0, [], 0, []) 2 (fun _ => rfl) ⟨Int.le_refl _, hm.1, rfl, rfl, rfl⟩ ⟨rfl, rfl, trivial⟩ rfl ?_
 rintro R ⟨j, r1, g, L, n, l⟩ ⟨hj0, hj1, hv, hL, hn⟩ hR
 replace hj0 : 0 ≤ j := hj0
 replace hj1 : j ≤ m := hj1
 replace hv : valsP kind j.toNat r = some (l, r1) := hv
 replace hL : l.map Val.cells = L := hL
 replace hn : L.length = n := hn
 have hln := (valsP_len hv).2
 have hnle : n ≤ 1000000 := by rw [← hn, ← hL, List.length_map]; omega
 have hnL : g = g ∧ 0 + n ≤ L.length := ⟨rfl, by omega⟩
 have hr1 : r1.length ≤ 1000000000 := Nat.le_trans (valsP_len hv).1 hr
 have hnone : decide (j < m) = true → valP kind r1 = none → valsP kind m.toNat r = none := fun h h2 => by
   have := of_decide_eq_true h
   refine valsP_none (j := j.toNat + 1) ?_ (by omega)
   rw [valsP, hv]
   simp only [Option.bind_some, h2, Option.map_none]
 have hgo : decide (j < m) = true → 0 ≤ j + 1 ∧ j + 1 ≤ m ∧ (m - (j + 1)).toNat < (m - j).toNat ∧ IntKind.i64.wrap (j + 1) = j + 1 ∧ (j + 1).toNat = j.toNat + 1 := by
   intro h
   have := of_decide_eq_true h
   exact ⟨by omega, by omega, by omega, wrap_in (by omega), by omega⟩
 have hend : decide (j < m) = false → j = m := by
   intro h
   have := of_decide_eq_false h
   omega
 have hlen : ∀ {L2 : List (List PV)} {z : Int}, List.take n (List.drop 0 L) = L2 → (L2.length : Int) = z → decide (j < m) = false → z = m := by
   rintro L2 z h rfl h2
   have h3 := hend h2
   rw [← row_end hL hn h, List.length_map]; omega
 repeat' (first
   | (with_reducible refine Nm.mk ?_; intro z hz)
   | (with_reducible refine IfB.mk ?_ ?_ <;> (intro h; cases h))
   | (with_reducible refine Two.l ?_; refine Asm.mk ?_ ?_; focus (decide +kernel))
   | (with_reducible refine Two.r ?_)
   | (with_reducible refine TwoT.r ?_)
   | (with_reducible refine TwoU.r ?_)
   | (with_reducible refine Asm.mk ?_ ?_; focus (first | exact row_side _ hL hn hnle _ | exact hnL | (show (_ : Bool) = true; kernel_rfl) | decide))
   | (with_reducible refine isCC hcc ?_; refine rvalueCC hcc 0 hr1 rfl rfl (fun v r2 hv2 => ?_) (fun hv2 => ?_))
   | (with_reducible refine Asm.mk2 ?_ ?_)
   | ((fail_if_success (with_reducible first | refine hQ _ _ ?_ | refine Side.mk ?_ | refine isCP hcp ?_ | refine isCC hcc ?_ | refine isLP hlp ?_ | refine Ix.mk ?_ | refine SIx.mk ?_ | refine SEx.mk ?_ | refine EIx.mk ?_ | refine RIx.mk ?_ | refine LkX.mk ?_ | show False | refine hR ?_ _ ?_ ?_ ?_ ?_ ?_ | refine hR2 ?_ _ ?_ ?_ ?_ ?_ ?_)); cbv))
 · rename_i hjm g2 hg2 n2 hn2 L2 hL2
   obtain ⟨g1, g3, g4, g5, g6⟩ := hgo hjm
   rw [g5] at hz
   subst hz
   obtain ⟨q1, q2⟩ := row_step hL hn hn2 hL2
   refine hR (j + 1, r2, g2, L2, n2, l ++ [v]) _ ⟨g1, g3, ?_, q1, q2⟩ g4 ⟨rfl, rfl, trivial⟩ ⟨rfl, rfl, rfl, rfl, trivial⟩ rfl
   show valsP kind (j + 1).toNat r = some (l ++ [v], r2)
   rw [g6, valsP, hv]
   simp only [Option.bind_some, hv2, Option.map_some]
 · refine hQ _ _ ?_
   rw [hnone hz hv2]
   exact ⟨rfl, _, rfl⟩
 · rename_i hjm L2 hL2 hz2
   exfalso
   rw [hlen hL2 hz2 hjm] at hz
   simp at hz
 · rename_i hjm L2 hL2 hz2
   have he := hend hjm
   subst he
   refine hQ _ _ ?_
   rw [hv, ← row_end hL hn hL2]
   exact ⟨rfl, rfl⟩
end Go.Proofs.Ytcajncmjlmpkgaa

namespace Go.Proofs.Ytcajncmjlmpkgaa
open Go Go.RowKit
set_option maxRecDepth 100000
set_option linter.unusedSimpArgs false
set_option linter.unusedVariables false
def offV (low w : Int) (t : List UInt8) (i : Nat) : Val := num (IntKind.i64.wrap (IntKind.u64.wrap (low + wordN t (w * i) w.toNat)))
def offsP (m : Int) (r : List UInt8) : Option (List Val × List UInt8) :=
 (numP 8 r).bind fun p => (numP 1 p.2).bind fun q => if 64 < IntKind.i64.wrap q.1 then none else
   (tkP ((m * IntKind.i64.wrap q.1 + 7) / 8) q.2).map fun y => ((List.range m.toNat).map (offV p.1 (IntKind.i64.wrap q.1) y.1), y.2)
theorem numL_1 {t : List UInt8} (h : (t.length : Int) = 1) : 0 ≤ numL t ∧ numL t < 256 := by
 match t, h with
 | [c], _ =>
   have := c.toNat_lt
   have e : numL [c] = c.toNat := by
     simp only [numL, List.foldl_cons, List.foldl_nil]
     rw [stepN_eq (by omega) (by omega) c]; omega
   rw [e]; omega
theorem numP_1 {r r' : List UInt8} {v : Int} (h : numP 1 r = some (v, r')) : 0 ≤ v ∧ v < 256 := by
 rw [numP, Option.map_eq_some_iff] at h
 obtain ⟨⟨t, r2⟩, h1, h2⟩ := h
 simp only [Prod.mk.injEq] at h2
 obtain ⟨rfl, _⟩ := h2
 exact numL_1 (tkP_len h1).1
set_option maxHeartbeats 400000 in
theorem stand4_c (kind m : Int) (r : List UInt8) (hr : r.length ≤ 100000000) (hm : 0 ≤ m ∧ m ≤ 4096) :
   ACall Try.prog 54 [.ref 0 0, .p (.int .i64 4), .p (.int .i64 kind), .p (.int .i64 m)] [rdO r] (StQ (offsP m r)) := by
 have hx1 : ¬ decide ((4 : Int) = 1) = true := by decide
 have hx2 : ¬ decide ((4 : Int) = 2) = true := by decide
 have hx3 : ¬ decide ((4 : Int) = 3) = true := by decide
 have hx4 : ¬ decide ((4 : Int) = 4) = false := by decide
 have hr9 : r.length ≤ 1000000000 := by omega
 have hms : (0 : Int) ≤ 0 ∧ 0 ≤ m ∧ m.toNat * 32 ≤ 140737488355328 ∧ m.toNat ≤ maxLen := ⟨Int.le_refl _, hm.1, by omega, by show _ ≤ 9223372036854775807; omega⟩
 have hl1 : ∀ {v : Int} {r1 : List UInt8}, numP 8 r = some (v, r1) → r1.length ≤ 1000000000 := fun h => Nat.le_trans (numP_len h) hr9
 have hl2 : ∀ {v w : Int} {r1 r2 : List UInt8}, numP 8 r = some (v, r1) → numP 1 r1 = some (w, r2) → r2.length ≤ 1000000000 := fun h h2 => Nat.le_trans (numP_len h2) (hl1 h)
 have hw1 : ∀ {v w : Int} {r1 r2 : List UInt8}, numP 1 r1 = some (v, r2) → IntKind.i64.wrap v = w → decide (64 < w) = false → 0 ≤ w ∧ w ≤ 64 := by
   rintro v w r1 r2 h rfl h2
   have h3 := numP_1 h
   have h4 := of_decide_eq_false h2
   rw [wrap_in (by omega)] at h4 ⊢
   omega
 have hn1 : numP 8 r = none → offsP m r = none := fun h => by rw [offsP, h]; rfl
 have hn2 : ∀ {v : Int} {r1 : List UInt8}, numP 8 r = some (v, r1) → numP 1 r1 = none → offsP m r = none := fun h h2 => by
   rw [offsP, h]
   simp only [Option.bind_some, h2, Option.bind_none]
 have hn3 : ∀ {v w : Int} {r1 r2 : List UInt8} {z : Int}, numP 8 r = some (v, r1) → numP 1 r1 = some (w, r2) → IntKind.i64.wrap w = z → decide (64 < z) = true → offsP m r = none := by
   rintro v w r1 r2 z h h2 rfl h3
   rw [offsP, h]
   simp only [Option.bind_some, h2, if_pos (of_decide_eq_true h3)]
 have hn4 : ∀ {v w : Int} {r1 r2 : List UInt8} {z : Int}, numP 8 r = some (v, r1) → numP 1 r1 = some (w, r2) → IntKind.i64.wrap w = z → decide (64 < z) = false → tkP ((m * z + 7) / 8) r2 = none → offsP m r = none := by
   rintro v w r1 r2 z h h2 rfl h3 h4
   rw [offsP, h]
   simp only [Option.bind_some, h2, if_neg (of_decide_eq_false h3), h4, Option.map_none]
 have hs4 : ∀ {v w : Int} {r1 r2 t r3 : List UInt8} {z : Int}, numP 8 r = some (v, r1) → numP 1 r1 = some (w, r2) → IntKind.i64.wrap w = z → decide (64 < z) = false → tkP ((m * z + 7) / 8) r2 = some (t, r3) → offsP m r = some ((List.range m.toNat).map (offV v z t), r3) := by
   rintro v w r1 r2 t r3 z h h2 rfl h3 h4
   rw [offsP, h]
   simp only [Option.bind_some, h2, if_neg (of_decide_eq_false h3), h4, Option.map_some]
 refine ACall.x (nt := ⟨143, []⟩) (res := [.tmp 8]) mixed tt_ok [(999996, [20])] Try.func54 rfl rfl rfl c54 (Nat.le_of_ble_eq_true rfl) ?_
 intro cp cc lp Q' hcp hcc hlp hQ
 repeat' (first
   | (with_reducible exact absurd (by assumption) hx1)
   | (with_reducible exact absurd (by assumption) hx2)
   | (with_reducible exact absurd (by assumption) hx3)
   | (with_reducible exact absurd (by assumption) hx4)
   | (with_reducible refine Nm.mk ?_; intro z hz)
   | (with_reducible refine IfB.mk ?_ ?_ <;> (intro h; cases h))
   | (with_reducible refine Two.l ?_; refine Asm.mk ?_ ?_; focus (decide +kernel))
   | (with_reducible refine Two.r ?_)
   | (with_reducible refine TwoT.r ?_)
   | (with_reducible refine TwoU.r ?_)
   | (with_reducible refine Asm.mk ?_ ?_; focus (first | exact hms | (show (_ : Bool) = true; kernel_rfl) | decide))
   | (with_reducible refine isCC hcc ?_; refine numCC hcc 0 8 (by decide) rfl hr9 rfl rfl (fun v r1 hv1 => ?_) (fun hv1 => ?_))
   | (with_reducible refine isCC hcc ?_; refine numCC hcc 0 1 (by decide) rfl (hl1 (by assumption)) rfl rfl (fun w r2 hv2 => ?_) (fun hv2 => ?_))
   | (with_reducible refine isCC hcc ?_; refine bitsBCC hcc _ (hl2 (by assumption) (by assumption)) hm (hw1 (by assumption) (by assumption) (by assumption)) rfl rfl (fun t r3 ht => ?_) (fun ht H2 hH2 => ?_))
   | (with_reducible refine Asm.mk2 ?_ ?_)
   | ((fail_if_success (with_reducible first | refine hQ _ _ ?_ | refine Side.mk ?_ | refine isCP hcp ?_ | refine isCC hcc ?_ | refine isLP hlp ?_ | refine Ix.mk ?_ | refine SIx.mk ?_ | refine SEx.mk ?_ | refine EIx.mk ?_ | refine RIx.mk ?_ | refine LkX.mk ?_ | show False | refine hR ?_ _ ?_ ?_ ?_ ?_ ?_ | refine hR2 ?_ _ ?_ ?_ ?_ ?_ ?_)); cbv))
 · rename_i hz1
   refine hQ _ _ ?_
   rw [hn3 hv1 hv2 hz1 hz]
   exact ⟨rfl, _, rfl⟩
 · rename_i zn hzn zZ hZ h1 h2 h3 h4 hz1
   have hw := hw1 hv2 hz1 hz
   have hsome := hs4 hv1 hv2 hz1 hz ht
   clear h1 h2 h3 h4 hl1 hl2 hw1 hn1 hn2 hn3 hn4 hs4 hms
   obtain rfl : zn = 0 := hzn.symm
   obtain rfl : zZ = [] := hZ.symm
   clear hzn hZ
   have htl := (tkP_len ht).1
   have hmz : 0 ≤ m * z ∧ m * z ≤ 262144 := by
     refine ⟨Int.mul_nonneg hm.1 hw.1, ?_⟩
     have h1 : m * z ≤ 4096 * 64 := Int.le_trans (Int.mul_le_mul_of_nonneg_right hm.2 hw.1) (Int.mul_le_mul_of_nonneg_left hw.2 (by decide))
     omega
   have ht6 : t.length ≤ 1000000 := by omega
   have ht8 : m * z ≤ 8 * (t.length : Int) := by omega
   clear htl
   refine loopFr hlp [.tmp 9] ?_
   refine loopTz [(999996, [20])] (ι := Int × Int × Nat × List (List PV) × Nat × List Val) mixed tt_ok hcp hcc hlp [3, 16, 18, 123] (fun p => [(124, .p (.int .i64 p.1)), (9, .vec 1 p.2.2.1 3 0 p.2.2.2.2.1)]) (fun p => [rdO r3, .vec p.2.2.1 p.2.2.2.1 3, .cells [.p (.int .i64 z)], .cells [.p (.str (toB t))], .cells [.p (.int .i64 p.2.1)]]) (fun p => 0 ≤ p.1 ∧ p.1 ≤ m ∧ z * p.1 = p.2.1 ∧ (List.range p.1.toNat).map (offV v z t) = p.2.2.2.2.2 ∧ p.2.2.2.2.2.map Val.cells = p.2.2.2.1 ∧ p.2.2.2.1.length = p.2.2.2.2.1) (fun p => (m - p.1).toNat) (0, 0, 0, [], 0, []) 5 (fun _ => rfl) ⟨Int.le_refl _, hm.1, Int.mul_zero _, rfl, rfl, rfl⟩ ⟨rfl, rfl, trivial⟩ rfl ?_
   rintro R ⟨j, a, g, L, n, l⟩ ⟨hj0, hj1, ha, hl, hL, hn⟩ hR
   replace hj0 : 0 ≤ j := hj0
   replace hj1 : j ≤ m := hj1
   replace ha : z * j = a := ha
   replace hl : (List.range j.toNat).map (offV v z t) = l := hl
   replace hL : l.map Val.cells = L := hL
   replace hn : L.length = n := hn
   have hll : l.length = j.toNat := by rw [← hl, List.length_map, List.length_range]
   have hnle : n ≤ 1000000 := by rw [← hn, ← hL, List.length_map]; omega
   have hnL : g = g ∧ 0 + n ≤ L.length := ⟨rfl, by omega⟩
   have ha0 : 0 ≤ a := by rw [← ha]; exact Int.mul_nonneg hw.1 hj0
   have hnx : decide (j < m) = true → a + z ≤ 8 * (t.length : Int) := by
     intro h
     have h1 := of_decide_eq_true h
     have h2 : z * (j + 1) ≤ z * m := Int.mul_le_mul_of_nonneg_left (by omega) hw.1
     rw [Int.mul_add, Int.mul_one, ha, Int.mul_comm z m] at h2
     omega
   have hgo : decide (j < m) = true → 0 ≤ j + 1 ∧ j + 1 ≤ m ∧ (m - (j + 1)).toNat < (m - j).toNat ∧ IntKind.i64.wrap (j + 1) = j + 1 ∧ (j + 1).toNat = j.toNat + 1 ∧ z * (j + 1) = a + z := by
     intro h
     have := of_decide_eq_true h
     exact ⟨by omega, by omega, by omega, wrap_in (by omega), by omega, by rw [Int.mul_add, ha, Int.mul_one]⟩
   have hend : decide (j < m) = false → j = m := by
     intro h
     have := of_decide_eq_false h
     omega
   have hlen : ∀ {L2 : List (List PV)} {y : Int}, List.take n (List.drop 0 L) = L2 → (L2.length : Int) = y → decide (j < m) = false → y = m := by
     rintro L2 y h rfl h2
     have h3 := hend h2
     rw [← row_end hL hn h, List.length_map]; omega
   repeat' (first
     | (with_reducible refine Nm.mk ?_; intro z hz)
     | (with_reducible refine IfB.mk ?_ ?_ <;> (intro h; cases h))
     | (with_reducible refine Two.l ?_; refine Asm.mk ?_ ?_; focus (decide +kernel))
     | (with_reducible refine Two.r ?_)
     | (with_reducible refine TwoT.r ?_)
     | (with_reducible refine TwoU.r ?_)
     | (with_reducible refine Asm.mk ?_ ?_; focus (first | exact row_side _ hL hn hnle ⟨1, _, ⟨⟨[]⟩⟩⟩ | exact hnL | (show (_ : Bool) = true; kernel_rfl) | decide))
     | (with_reducible refine isCC hcc ?_; refine nextCC hcc 2 3 4 (by decide) z t a hw ha0 (hnx (by assumption)) ht6 rfl rfl rfl rfl (fun x a' hx ha' => ?_))
     | (with_reducible refine Asm.mk2 ?_ ?_)
     | ((fail_if_success (with_reducible first | refine hQ _ _ ?_ | refine Side.mk ?_ | refine isCP hcp ?_ | refine isCC hcc ?_ | refine isLP hlp ?_ | refine Ix.mk ?_ | refine SIx.mk ?_ | refine SEx.mk ?_ | refine EIx.mk ?_ | refine RIx.mk ?_ | refine LkX.mk ?_ | show False | refine hR ?_ _ ?_ ?_ ?_ ?_ ?_ | refine hR2 ?_ _ ?_ ?_ ?_ ?_ ?_)); cbv))
   · rename_i hjm z1 h1 z2 h2 g2 hg2 n2 hn2 L2 hL2
     obtain ⟨g1, g3, g4, g5, g6, g7⟩ := hgo hjm
     rw [g5] at hz
     subst hz
     subst ha'
     have hj : ((j.toNat : Nat) : Int) = j := by omega
     have hv : offV v z t j.toNat = ⟨1, z2, ⟨⟨[]⟩⟩⟩ := by
       rw [offV, hj, ha, hx, ← h2, ← h1]; rfl
     obtain ⟨q1, q2⟩ := row_step (v := ⟨1, z2, ⟨⟨[]⟩⟩⟩) hL hn hn2 hL2
     refine hR (j + 1, a + z, g2, L2, n2, l ++ [⟨1, z2, ⟨⟨[]⟩⟩⟩]) _ ⟨g1, g3, g7, ?_, q1, q2⟩ g4 ⟨rfl, rfl, trivial⟩ ⟨rfl, rfl, rfl, rfl, trivial⟩ rfl
     show (List.range (j + 1).toNat).map (offV v z t) = l ++ [⟨1, z2, ⟨⟨[]⟩⟩⟩]
     rw [g6, List.range_succ, List.map_append, hl, ← hv]; rfl
   · rename_i hjm L2 hL2 hz2
     exfalso
     rw [hlen hL2 hz2 hjm] at hz
     simp at hz
   · rename_i hjm L2 hL2 hz2
     have he := hend hjm
     subst he
     refine hQ _ _ ?_
     rw [hsome, hl, ← row_end hL hn hL2]
     exact ⟨rfl, rfl⟩
 · rename_i hz1
   refine hQ _ _ ?_
   rw [hn4 hv1 hv2 hz1 hz ht]
   exact ⟨rfl, _, takeX_1 hH2⟩
 · refine hQ _ _ ?_
   rw [hn2 hv1 hv2]
   exact ⟨rfl, _, rfl⟩
 · refine hQ _ _ ?_
   rw [hn1 hv1]
   exact ⟨rfl, _, rfl⟩
end Go.Proofs.Ytcajncmjlmpkgaa

namespace Go.Proofs.Ytcajncmjlmpkgaa
open Go Go.RowKit
set_option maxRecDepth 100000
set_option linter.unusedSimpArgs false
set_option linter.unusedVariables false
def pickP (u : List Val) (w : Int) (t : List UInt8) : Nat → Option (List Val)
 | 0 => some []
 | j + 1 => (pickP u w t j).bind fun l => (u[(wordN t (w * j) w.toNat).toNat]?).map fun x => l ++ [x]
theorem pickP_none {u : List Val} {w : Int} {t : List UInt8} {j m : Nat} (h : pickP u w t j = none) (hm : j ≤ m) : pickP u w t m = none := by
 obtain ⟨d, rfl⟩ : ∃ d, m = j + d := ⟨m - j, by omega⟩
 clear hm
 induction d with
 | zero => exact h
 | succ d ih => rw [← Nat.add_assoc, pickP, ih]; rfl
theorem pickP_len {u : List Val} {w : Int} {t : List UInt8} : ∀ {j : Nat} {l : List Val}, pickP u w t j = some l → l.length = j
 | 0, l, h => by simp only [pickP, Option.some.injEq] at h; subst h; rfl
 | j + 1, l, h => by
   rw [pickP, Option.bind_eq_some_iff] at h
   obtain ⟨l1, h1, h2⟩ := h
   rw [Option.map_eq_some_iff] at h2
   obtain ⟨x, _, rfl⟩ := h2
   rw [List.length_append, pickP_len h1]; rfl
def wordsP (kind m : Int) (r : List UInt8) : Option (List Val × List UInt8) :=
 (numP 2 r).bind fun p => (valsP kind p.1.toNat p.2).bind fun q => (tkP ((m * wordsW q.1 + 7) / 8) q.2).bind fun y => (pickP q.1 (wordsW q.1) y.1 m.toNat).map fun l => (l, y.2)
theorem numL_2 {t : List UInt8} (h : (t.length : Int) = 2) : 0 ≤ numL t ∧ numL t < 65536 := by
 match t, h with
 | [b, c], _ =>
   have := c.toNat_lt
   have := b.toNat_lt
   have e : numL [b, c] = (b.toNat : Int) * 256 + c.toNat := by
     simp only [numL, List.foldl_cons, List.foldl_nil]
     rw [stepN_eq (by omega) (by omega) b, stepN_eq (by omega) (by omega) c]; omega
   rw [e]; omega
theorem numP_2 {r r' : List UInt8} {v : Int} (h : numP 2 r = some (v, r')) : 0 ≤ v ∧ v < 65536 := by
 rw [numP, Option.map_eq_some_iff] at h
 obtain ⟨⟨t, r2⟩, h1, h2⟩ := h
 simp only [Prod.mk.injEq] at h2
 obtain ⟨rfl, _⟩ := h2
 exact numL_2 (tkP_len h1).1
theorem wordN_in (t : List UInt8) (a : Int) : ∀ k, 0 ≤ wordN t a k ∧ wordN t a k < 18446744073709551616
 | 0 => by rw [wordN]; omega
 | k + 1 => by rw [wordN, orU64]; exact u64_in _
set_option maxHeartbeats 1000000 in
theorem stand3_c (kind m : Int) (r : List UInt8) (hr : r.length ≤ 100000000) (hm : 0 ≤ m ∧ m ≤ 4096) :
   ACall Try.prog 54 [.ref 0 0, .p (.int .i64 3), .p (.int .i64 kind), .p (.int .i64 m)] [rdO r] (StQ (wordsP kind m r)) := by
 have hx1 : ¬ decide ((3 : Int) = 1) = true := by decide
 have hx2 : ¬ decide ((3 : Int) = 2) = true := by decide
 have hx3 : ¬ decide ((3 : Int) = 3) = false := by decide
 have hr9 : r.length ≤ 1000000000 := by omega
 have hms : (0 : Int) ≤ 0 ∧ 0 ≤ m ∧ m.toNat * 32 ≤ 140737488355328 ∧ m.toNat ≤ maxLen := ⟨Int.le_refl _, hm.1, by omega, by show _ ≤ 9223372036854775807; omega⟩
 have hn1 : numP 2 r = none → wordsP kind m r = none := fun h => by rw [wordsP, h]; rfl
 refine ACall.x (nt := ⟨143, []⟩) (res := [.tmp 8]) mixed tt_ok [(999996, [20])] Try.func54 rfl rfl rfl c54 (Nat.le_of_ble_eq_true rfl) ?_
 intro cp cc lp Q' hcp hcc hlp hQ
 repeat' (first
   | (with_reducible exact absurd (by assumption) hx1)
   | (with_reducible exact absurd (by assumption) hx2)
   | (with_reducible exact absurd (by assumption) hx3)
   | (with_reducible refine Nm.mk ?_; intro z hz)
   | (with_reducible refine IfB.mk ?_ ?_ <;> (intro h; cases h))
   | (with_reducible refine Two.l ?_; refine Asm.mk ?_ ?_; focus (decide +kernel))
   | (with_reducible refine Two.r ?_)
   | (with_reducible refine TwoT.r ?_)
   | (with_reducible refine TwoU.r ?_)
   | (with_reducible refine Asm.mk ?_ ?_; focus (first | exact hms | (show (_ : Bool) = true; kernel_rfl) | decide))
   | (with_reducible refine isCC hcc ?_; refine numCC hcc 0 2 (by decide) rfl hr9 rfl rfl (fun v r1 hv1 => ?_) (fun hv1 => ?_))
   | (with_reducible refine Asm.mk2 ?_ ?_)
   | ((fail_if_success (with_reducible first | refine hQ _ _ ?_ | refine Side.mk ?_ | refine isCP hcp ?_ | refine isCC hcc ?_ | refine isLP hlp ?_ | refine Ix.mk ?_ | refine SIx.mk ?_ | refine SEx.mk ?_ | refine EIx.mk ?_ | refine RIx.mk ?_ | refine LkX.mk ?_ | show False | refine hR ?_ _ ?_ ?_ ?_ ?_ ?_ | refine hR2 ?_ _ ?_ ?_ ?_ ?_ ?_)); cbv))
 · rename_i zn hzn hZ h1 h2
   clear h1 h2 hz
   obtain rfl : zn = 0 := hzn.symm
   obtain rfl : z = [] := hZ.symm
   clear hzn hZ
   have hv := numP_2 hv1
   have hr1 : r1.length ≤ 1000000000 := Nat.le_trans (numP_len hv1) hr9
   refine mintT hlp 3 12 rfl ?_
   refine loopTz [(999996, [20])] (ι := Int × List UInt8 × List (List PV) × Nat × List Val) mixed tt_ok hcp hcc hlp [0, 2, 3, 9, 66] (fun p => [(67, .p (.int .u64 p.1)), (12, .tok 2 p.2.2.1)]) (fun p => [rdO p.2.1, .vec 0 [] 3, .spare p.2.2.2.1 3]) (fun p => 0 ≤ p.1 ∧ p.1 ≤ v ∧ valsP kind p.1.toNat r1 = some (p.2.2.2.2, p.2.1) ∧ p.2.2.2.2.map Val.cells = p.2.2.1 ∧ p.2.2.1.length = p.2.2.2.1) (fun p => (v - p.1).toNat) (0, r1, [], 0, []) 3 (fun _ => rfl) ⟨Int.le_refl _, hv.1, rfl, rfl, rfl⟩ ⟨rfl, rfl, trivial⟩ rfl ?_
   rintro R ⟨i, r2, U, n, u⟩ ⟨hi0, hi1, hvu, hU, hn⟩ hR
   replace hi0 : 0 ≤ i := hi0
   replace hi1 : i ≤ v := hi1
   replace hvu : valsP kind i.toNat r1 = some (u, r2) := hvu
   replace hU : u.map Val.cells = U := hU
   replace hn : U.length = n := hn
   have hul := (valsP_len hvu).2
   have hUl : U.length = u.length := by rw [← hU, List.length_map]
   have hr2 : r2.length ≤ 1000000000 := Nat.le_trans (valsP_len hvu).1 hr1
   have hokU : okEs 3 U = true := by
     rw [← hU]; exact List.all_eq_true.2 fun e he => by obtain ⟨c, _, rfl⟩ := List.mem_map.1 he; rfl
   have hsd : ∀ x : Val, n = U.length ∧ 3 = 3 ∧ okEs 3 U = true ∧ okEs 3 [[PV.int .i64 x.1, PV.int .i64 x.2, PV.str x.3]] = true ∧ U.length + [[PV.int .i64 x.1, PV.int .i64 x.2, PV.str x.3]].length ≤ maxLen ∧ (U.length + [[PV.int .i64 x.1, PV.int .i64 x.2, PV.str x.3]].length) * 32 ≤ 140737488355328 := by
     intro x
     refine ⟨hn.symm, rfl, hokU, rfl, ?_, ?_⟩
     · show U.length + 1 ≤ 9223372036854775807; omega
     · show (U.length + 1) * 32 ≤ _; omega
   have hgo : decide (i < v) = true → 0 ≤ i + 1 ∧ i + 1 ≤ v ∧ (v - (i + 1)).toNat < (v - i).toNat ∧ IntKind.u64.wrap (i + 1) = i + 1 ∧ (i + 1).toNat = i.toNat + 1 := by
     intro h
     have := of_decide_eq_true h
     refine ⟨by omega, by omega, by omega, ?_, by omega⟩
     have hb : 0 ≤ i + 1 ∧ i + 1 < 18446744073709551616 := by omega
     generalize i + 1 = y at hb
     simp [IntKind.wrap, IntKind.bits, IntKind.signed]; omega
   have hend : decide (i < v) = false → i = v := by
     intro h
     have := of_decide_eq_false h
     omega
   have hnone : decide (i < v) = true → valP kind r2 = none → wordsP kind m r = none := fun h h2 => by
     have := of_decide_eq_true h
     have e : valsP kind v.toNat r1 = none := by
       refine valsP_none (j := i.toNat + 1) ?_ (by omega)
       rw [valsP, hvu]
       simp only [Option.bind_some, h2, Option.map_none]
     rw [wordsP, hv1]
     simp only [Option.bind_some, e, Option.bind_none]
   have hu64 : ∀ {x m : Int}, IntKind.u64.wrap x = m → 0 ≤ m ∧ m < 18446744073709551616 := fun h => h ▸ u64_in _
   have hvx : decide (i < v) = false → valsP kind v.toNat r1 = some (u, r2) := fun h => by rw [← hend h]; exact hvu
   have hwid1 : ∀ {z3 z2 z1 z0 w : Int}, (U.length : Int) = z3 → decide (0 < z3) = true → (U.length : Int) = z2 → IntKind.i64.wrap (z2 - 1) = z1 → IntKind.u64.wrap z1 = z0 → lenI z0 = w → w = wordsW u := by
     intro z3 z2 z1 z0 w h3 h3d h2 h1 h0 hw
     have := of_decide_eq_true h3d
     have hne : u ≠ [] := by
       intro e
       have : U.length = 0 := by rw [hUl, e]; rfl
       omega
     rw [wrap_in (by omega)] at h1
     have e : z0 = z1 := by
       have hz1 : 0 ≤ z1 ∧ z1 < 18446744073709551616 := by omega
       rw [← h0]; simp [IntKind.wrap, IntKind.bits, IntKind.signed]; omega
     rw [wordsW, if_neg hne, ← hw, e, ← h1, ← h2, hUl]
   have hwid0 : ∀ {z3 : Int}, (U.length : Int) = z3 → decide (0 < z3) = false → (0 : Int) = wordsW u := by
     intro z3 h3 h3d
     have := of_decide_eq_false h3d
     have hne : u = [] := List.length_eq_zero_iff.1 (by omega)
     rw [wordsW, if_pos hne]
   repeat' (first
     | (with_reducible refine Nm.mk ?_; intro z hz)
     | (with_reducible refine IfB.mk ?_ ?_ <;> (intro h; cases h))
     | (with_reducible refine Two.l ?_; refine Asm.mk ?_ ?_; focus (decide +kernel))
     | (with_reducible refine Two.r ?_)
     | (with_reducible refine TwoT.r ?_)
     | (with_reducible refine TwoU.r ?_)
     | (with_reducible refine Asm.mk ?_ ?_; focus (first | exact hsd _ | (show (_ : Bool) = true; kernel_rfl) | decide))
     | (with_reducible refine isCP hcp ?_; first | (refine iP hcp (len_c _ (hu64 (by assumption))) ?_; intro w hw))
     | (with_reducible refine isCC hcc ?_; first | (refine iA hcc (len_c _ (hu64 (by assumption))) rfl ?_; intro w hw))
     | (with_reducible refine isCC hcc ?_; refine rvalueCC hcc 0 hr2 rfl rfl (fun x r3 hx => ?_) (fun hx => ?_))
     | (with_reducible refine Asm.mk2 ?_ ?_)
     | ((fail_if_success (with_reducible first | refine hQ _ _ ?_ | refine Side.mk ?_ | refine isCP hcp ?_ | refine isCC hcc ?_ | refine isLP hlp ?_ | refine Ix.mk ?_ | refine SIx.mk ?_ | refine SEx.mk ?_ | refine EIx.mk ?_ | refine RIx.mk ?_ | refine LkX.mk ?_ | show False | refine hR ?_ _ ?_ ?_ ?_ ?_ ?_ | refine hR2 ?_ _ ?_ ?_ ?_ ?_ ?_)); cbv))
   · rename_i hiv g1 hg1 g2 hg2
     obtain ⟨q1, q2, q3, q4, q5⟩ := hgo hiv
     rw [q4] at hz
     subst hz
     refine hR (i + 1, r3, g1, g2, u ++ [x]) _ ⟨q1, q2, ?_, ?_, ?_⟩ q3 ⟨rfl, rfl, trivial⟩ ⟨rfl, rfl, rfl, rfl, rfl, trivial⟩ rfl
     · show valsP kind (i + 1).toNat r1 = some (u ++ [x], r3)
       rw [q5, valsP, hvu]
       simp only [Option.bind_some, hx, Option.map_some]
     · show (u ++ [x]).map Val.cells = g1
       rw [← hg1, List.map_append, hU]; rfl
     · show g1.length = g2
       rw [← hg1, ← hg2, List.length_append]
   · refine hQ _ _ ?_
     rw [hnone hz hx]
     exact ⟨rfl, _, rfl⟩
   · rename_i hiv z3 h3 h3d z2 h2 z1 h1
     have hwW := hwid1 h3 h3d h2 h1 hz hw
     have hvv := hvx hiv
     have hw0 : 0 ≤ w ∧ w ≤ 64 := by rw [hwW]; exact wordsW_le u
     clear hwid1 hwid0 h3 h3d h2 h1 hz hw hn1 hms
     refine bitsCCC hcc _ _ hr2 hm hw0 rfl rfl (fun t r4 ht => ?_) (fun ht H2 hH2 => ?_)
     · skip
       repeat' (first
         | (with_reducible refine Nm.mk ?_; intro z hz)
         | (with_reducible refine IfB.mk ?_ ?_ <;> (intro h; cases h))
         | (with_reducible refine Two.l ?_; refine Asm.mk ?_ ?_; focus (decide +kernel))
         | (with_reducible refine Two.r ?_)
         | (with_reducible refine TwoT.r ?_)
         | (with_reducible refine TwoU.r ?_)
         | (with_reducible refine Asm.mk ?_ ?_; focus (first | (show (_ : Bool) = true; kernel_rfl) | decide))
         | (with_reducible refine Asm.mk2 ?_ ?_)
         | ((fail_if_success (with_reducible first | refine hQ _ _ ?_ | refine Side.mk ?_ | refine isCP hcp ?_ | refine isCC hcc ?_ | refine isLP hlp ?_ | refine Ix.mk ?_ | refine SIx.mk ?_ | refine SEx.mk ?_ | refine EIx.mk ?_ | refine RIx.mk ?_ | refine LkX.mk ?_ | show False | refine hR ?_ _ ?_ ?_ ?_ ?_ ?_ | refine hR2 ?_ _ ?_ ?_ ?_ ?_ ?_)); cbv))
       have htl := (tkP_len ht).1
       have hwr : IntKind.u64.wrap (U.length : Int) = u.length := by
         have hb : 0 ≤ (u.length : Int) ∧ (u.length : Int) < 18446744073709551616 := by omega
         rw [hUl]
         generalize (u.length : Int) = y at hb
         simp [IntKind.wrap, IntKind.bits, IntKind.signed]; omega
       have hsome : ∀ {l : List Val}, pickP u w t m.toNat = some l → wordsP kind m r = some (l, r4) := fun h => by
         rw [wordsP, hv1]
         simp only [Option.bind_some, hvv, ← hwW, ht, h, Option.map_some]
       have hnon : pickP u w t m.toNat = none → wordsP kind m r = none := fun h => by
         rw [wordsP, hv1]
         simp only [Option.bind_some, hvv, ← hwW, ht, h, Option.map_none]
       have hmz : 0 ≤ m * w ∧ m * w ≤ 262144 := by
         refine ⟨Int.mul_nonneg hm.1 hw0.1, ?_⟩
         have h1 : m * w ≤ 4096 * 64 := Int.le_trans (Int.mul_le_mul_of_nonneg_right hm.2 hw0.1) (Int.mul_le_mul_of_nonneg_left hw0.2 (by decide))
         omega
       have ht6 : t.length ≤ 1000000 := by omega
       have ht8 : m * w ≤ 8 * (t.length : Int) := by omega
       clear htl ht hvv hnone hgo hsd
       refine loopFr hlp [.tmp 9] ?_
       refine loopTz [(999996, [20])] (ι := Int × Int × Nat × List (List PV) × Nat × List Val) mixed tt_ok hcp hcc hlp [3, 12, 14, 88] (fun p => [(89, .p (.int .i64 p.1)), (9, .vec 1 p.2.2.1 3 0 p.2.2.2.2.1)]) (fun p => [rdO r4, .vec p.2.2.1 p.2.2.2.1 3, .spare n 3, .cells [.p (.int .i64 w)], .cells [.p (.str (toB t))], .cells [.p (.int .i64 p.2.1)]]) (fun p => 0 ≤ p.1 ∧ p.1 ≤ m ∧ w * p.1 = p.2.1 ∧ pickP u w t p.1.toNat = some p.2.2.2.2.2 ∧ p.2.2.2.2.2.map Val.cells = p.2.2.2.1 ∧ p.2.2.2.1.length = p.2.2.2.2.1) (fun p => (m - p.1).toNat) (0, 0, 0, [], 0, []) 6 (fun _ => rfl) ⟨Int.le_refl _, hm.1, Int.mul_zero _, rfl, rfl, rfl⟩ ⟨rfl, rfl, trivial⟩ rfl ?_
       rintro R2 ⟨j, a, g, L, nL, l⟩ ⟨hj0, hj1, ha, hl, hL, hnl⟩ hR2
       replace hj0 : 0 ≤ j := hj0
       replace hj1 : j ≤ m := hj1
       replace ha : w * j = a := ha
       replace hl : pickP u w t j.toNat = some l := hl
       replace hL : l.map Val.cells = L := hL
       replace hnl : L.length = nL := hnl
       have hll := pickP_len hl
       have hnle : nL ≤ 1000000 := by rw [← hnl, ← hL, List.length_map]; omega
       have hnL : g = g ∧ 0 + nL ≤ L.length := ⟨rfl, by omega⟩
       have ha0 : 0 ≤ a := by rw [← ha]; exact Int.mul_nonneg hw0.1 hj0
       have hnx : decide (j < m) = true → a + w ≤ 8 * (t.length : Int) := by
         intro h
         have h1 := of_decide_eq_true h
         have h2 : w * (j + 1) ≤ w * m := Int.mul_le_mul_of_nonneg_left (by omega) hw0.1
         rw [Int.mul_add, Int.mul_one, ha, Int.mul_comm w m] at h2
         omega
       have hgo2 : decide (j < m) = true → 0 ≤ j + 1 ∧ j + 1 ≤ m ∧ (m - (j + 1)).toNat < (m - j).toNat ∧ IntKind.i64.wrap (j + 1) = j + 1 ∧ (j + 1).toNat = j.toNat + 1 ∧ w * (j + 1) = a + w := by
         intro h
         have := of_decide_eq_true h
         exact ⟨by omega, by omega, by omega, wrap_in (by omega), by omega, by rw [Int.mul_add, ha, Int.mul_one]⟩
       have hend2 : decide (j < m) = false → j = m := by
         intro h
         have := of_decide_eq_false h
         omega
       have hlen : ∀ {L2 : List (List PV)} {y : Int}, List.take nL (List.drop 0 L) = L2 → (L2.length : Int) = y → decide (j < m) = false → y = m := by
         rintro L2 y h rfl h2
         have h3 := hend2 h2
         rw [← row_end hL hnl h, List.length_map]; omega
       have hjj : ((j.toNat : Nat) : Int) = j := by omega
       have hge : ∀ {x z1 z2 : Int}, wordN t a (Int.toNat w) = x → (U.length : Int) = z1 → IntKind.u64.wrap z1 = z2 → decide (z2 ≤ x) = true → decide (j < m) = true → wordsP kind m r = none := by
         rintro x z1 z2 rfl rfl rfl h h2
         have h3 := of_decide_eq_true h
         have h4 := of_decide_eq_true h2
         rw [hwr] at h3
         refine hnon (pickP_none (j := j.toNat + 1) ?_ (by omega))
         rw [pickP, hl, hjj, ha]
         simp only [Option.bind_some]
         rw [List.getElem?_eq_none (by omega)]; rfl
       have hlt : ∀ {x z1 z2 : Int}, wordN t a (Int.toNat w) = x → (U.length : Int) = z1 → IntKind.u64.wrap z1 = z2 → decide (z2 ≤ x) = false → 0 ≤ x ∧ x < u.length := by
         rintro x z1 z2 rfl rfl rfl h
         have h3 := of_decide_eq_false h
         rw [hwr] at h3
         exact ⟨(wordN_in t a _).1, by omega⟩
       repeat' (first
         | (with_reducible refine Nm.mk ?_; intro z hz)
         | (with_reducible refine IfB.mk ?_ ?_ <;> (intro h; cases h))
         | (with_reducible refine Two.l ?_; refine Asm.mk ?_ ?_; focus (decide +kernel))
         | (with_reducible refine Two.r ?_)
         | (with_reducible refine TwoT.r ?_)
         | (with_reducible refine TwoU.r ?_)
         | (with_reducible refine Asm.mk ?_ ?_; focus (first | exact row_side _ hL hnl hnle _ | exact hnL | (show (_ : Bool) = true; kernel_rfl) | decide))
         | (with_reducible refine isCC hcc ?_; refine nextCC hcc 3 4 5 (by decide) w t a hw0 ha0 (hnx (by assumption)) ht6 rfl rfl rfl rfl (fun x a' hx ha' => ?_))
         | (with_reducible refine Ix.map hU cells_len (by decide) (hlt (by assumption) (by assumption) (by assumption) (by assumption)).1 (hlt (by assumption) (by assumption) (by assumption) (by assumption)).2 ?_; intro y hy)
         | (with_reducible refine Asm.mk2 ?_ ?_)
         | ((fail_if_success (with_reducible first | refine hQ _ _ ?_ | refine Side.mk ?_ | refine isCP hcp ?_ | refine isCC hcc ?_ | refine isLP hlp ?_ | refine Ix.mk ?_ | refine SIx.mk ?_ | refine SEx.mk ?_ | refine EIx.mk ?_ | refine RIx.mk ?_ | refine LkX.mk ?_ | show False | refine hR ?_ _ ?_ ?_ ?_ ?_ ?_ | refine hR2 ?_ _ ?_ ?_ ?_ ?_ ?_)); cbv))
       · rename_i hjm z1 h1 h2
         refine hQ _ _ ?_
         rw [hge hx h1 h2 hz hjm]
         exact ⟨rfl, _, rfl⟩
       · rename_i hjm z1 h1 z2 h2 h3 g2 hg2 n2 hn2 L2 hL2
         obtain ⟨g1, g3, g4, g5, g6, g7⟩ := hgo2 hjm
         rw [g5] at hz
         subst hz
         subst ha'
         obtain ⟨q1, q2⟩ := row_step hL hnl hn2 hL2
         refine hR2 (j + 1, a + w, g2, L2, n2, l ++ [y]) _ ⟨g1, g3, g7, ?_, q1, q2⟩ g4 ⟨rfl, rfl, trivial⟩ ⟨rfl, rfl, rfl, rfl, trivial⟩ rfl
         show pickP u w t (j + 1).toNat = some (l ++ [y])
         rw [g6, pickP, hl, show ((j.toNat : Nat) : Int) = j from by omega, ha]
         simp only [Option.bind_some]
         rw [hx, hy]; rfl
       · rename_i hjm L2 hL2 hz2
         exfalso
         rw [hlen hL2 hz2 hjm] at hz
         simp at hz
       · rename_i hjm L2 hL2 hz2
         have he := hend2 hjm
         subst he
         refine hQ _ _ ?_
         rw [hsome hl, ← row_end hL hnl hL2]
         exact ⟨rfl, rfl⟩
     · refine hQ _ _ ?_
       have e : wordsP kind m r = none := by
         rw [wordsP, hv1]
         simp only [Option.bind_some, hvv, ← hwW, ht, Option.bind_none]
       rw [e]
       exact ⟨rfl, _, takeX_1 hH2⟩
   · rename_i hiv h3
     have hwW := hwid0 h3 hz
     have hvv := hvx hiv
     have hw0 : (0 : Int) ≤ 0 ∧ (0 : Int) ≤ 64 := by decide
     clear hwid1 hwid0 h3 hz hn1 hms
     refine bitsCCC hcc _ _ hr2 hm hw0 rfl rfl (fun t r4 ht => ?_) (fun ht H2 hH2 => ?_)
     · skip
       repeat' (first
         | (with_reducible refine Nm.mk ?_; intro z hz)
         | (with_reducible refine IfB.mk ?_ ?_ <;> (intro h; cases h))
         | (with_reducible refine Two.l ?_; refine Asm.mk ?_ ?_; focus (decide +kernel))
         | (with_reducible refine Two.r ?_)
         | (with_reducible refine TwoT.r ?_)
         | (with_reducible refine TwoU.r ?_)
         | (with_reducible refine Asm.mk ?_ ?_; focus (first | (show (_ : Bool) = true; kernel_rfl) | decide))
         | (with_reducible refine Asm.mk2 ?_ ?_)
         | ((fail_if_success (with_reducible first | refine hQ _ _ ?_ | refine Side.mk ?_ | refine isCP hcp ?_ | refine isCC hcc ?_ | refine isLP hlp ?_ | refine Ix.mk ?_ | refine SIx.mk ?_ | refine SEx.mk ?_ | refine EIx.mk ?_ | refine RIx.mk ?_ | refine LkX.mk ?_ | show False | refine hR ?_ _ ?_ ?_ ?_ ?_ ?_ | refine hR2 ?_ _ ?_ ?_ ?_ ?_ ?_)); cbv))
       have htl := (tkP_len ht).1
       have hwr : IntKind.u64.wrap (U.length : Int) = u.length := by
         have hb : 0 ≤ (u.length : Int) ∧ (u.length : Int) < 18446744073709551616 := by omega
         rw [hUl]
         generalize (u.length : Int) = y at hb
         simp [IntKind.wrap, IntKind.bits, IntKind.signed]; omega
       have hsome : ∀ {l : List Val}, pickP u (0 : Int) t m.toNat = some l → wordsP kind m r = some (l, r4) := fun h => by
         rw [wordsP, hv1]
         simp only [Option.bind_some, hvv, ← hwW, ht, h, Option.map_some]
       have hnon : pickP u (0 : Int) t m.toNat = none → wordsP kind m r = none := fun h => by
         rw [wordsP, hv1]
         simp only [Option.bind_some, hvv, ← hwW, ht, h, Option.map_none]
       have hmz : 0 ≤ m * (0 : Int) ∧ m * (0 : Int) ≤ 262144 := by
         refine ⟨Int.mul_nonneg hm.1 hw0.1, ?_⟩
         have h1 : m * (0 : Int) ≤ 4096 * 64 := Int.le_trans (Int.mul_le_mul_of_nonneg_right hm.2 hw0.1) (Int.mul_le_mul_of_nonneg_left hw0.2 (by decide))
         omega
       have ht6 : t.length ≤ 1000000 := by omega
       have ht8 : m * (0 : Int) ≤ 8 * (t.length : Int) := by omega
       clear htl ht hvv hnone hgo hsd
       refine loopFr hlp [.tmp 9] ?_
       refine loopTz [(999996, [20])] (ι := Int × Int × Nat × List (List PV) × Nat × List Val) mixed tt_ok hcp hcc hlp [3, 12, 14, 88] (fun p => [(89, .p (.int .i64 p.1)), (9, .vec 1 p.2.2.1 3 0 p.2.2.2.2.1)]) (fun p => [rdO r4, .vec p.2.2.1 p.2.2.2.1 3, .spare n 3, .cells [.p (.int .i64 (0 : Int))], .cells [.p (.str (toB t))], .cells [.p (.int .i64 p.2.1)]]) (fun p => 0 ≤ p.1 ∧ p.1 ≤ m ∧ (0 : Int) * p.1 = p.2.1 ∧ pickP u (0 : Int) t p.1.toNat = some p.2.2.2.2.2 ∧ p.2.2.2.2.2.map Val.cells = p.2.2.2.1 ∧ p.2.2.2.1.length = p.2.2.2.2.1) (fun p => (m - p.1).toNat) (0, 0, 0, [], 0, []) 6 (fun _ => rfl) ⟨Int.le_refl _, hm.1, Int.mul_zero _, rfl, rfl, rfl⟩ ⟨rfl, rfl, trivial⟩ rfl ?_
       rintro R2 ⟨j, a, g, L, nL, l⟩ ⟨hj0, hj1, ha, hl, hL, hnl⟩ hR2
       replace hj0 : 0 ≤ j := hj0
       replace hj1 : j ≤ m := hj1
       replace ha : (0 : Int) * j = a := ha
       replace hl : pickP u (0 : Int) t j.toNat = some l := hl
       replace hL : l.map Val.cells = L := hL
       replace hnl : L.length = nL := hnl
       have hll := pickP_len hl
       have hnle : nL ≤ 1000000 := by rw [← hnl, ← hL, List.length_map]; omega
       have hnL : g = g ∧ 0 + nL ≤ L.length := ⟨rfl, by omega⟩
       have ha0 : 0 ≤ a := by rw [← ha]; exact Int.mul_nonneg hw0.1 hj0
       have hnx : decide (j < m) = true → a + (0 : Int) ≤ 8 * (t.length : Int) := by
         intro h
         have h1 := of_decide_eq_true h
         have h2 : (0 : Int) * (j + 1) ≤ (0 : Int) * m := Int.mul_le_mul_of_nonneg_left (by omega) hw0.1
         rw [Int.mul_add, Int.mul_one, ha, Int.mul_comm (0 : Int) m] at h2
         omega
       have hgo2 : decide (j < m) = true → 0 ≤ j + 1 ∧ j + 1 ≤ m ∧ (m - (j + 1)).toNat < (m - j).toNat ∧ IntKind.i64.wrap (j + 1) = j + 1 ∧ (j + 1).toNat = j.toNat + 1 ∧ (0 : Int) * (j + 1) = a + (0 : Int) := by
         intro h
         have := of_decide_eq_true h
         exact ⟨by omega, by omega, by omega, wrap_in (by omega), by omega, by rw [Int.mul_add, ha, Int.mul_one]⟩
       have hend2 : decide (j < m) = false → j = m := by
         intro h
         have := of_decide_eq_false h
         omega
       have hlen : ∀ {L2 : List (List PV)} {y : Int}, List.take nL (List.drop 0 L) = L2 → (L2.length : Int) = y → decide (j < m) = false → y = m := by
         rintro L2 y h rfl h2
         have h3 := hend2 h2
         rw [← row_end hL hnl h, List.length_map]; omega
       have hjj : ((j.toNat : Nat) : Int) = j := by omega
       have hge : ∀ {x z1 z2 : Int}, wordN t a (Int.toNat (0 : Int)) = x → (U.length : Int) = z1 → IntKind.u64.wrap z1 = z2 → decide (z2 ≤ x) = true → decide (j < m) = true → wordsP kind m r = none := by
         rintro x z1 z2 rfl rfl rfl h h2
         have h3 := of_decide_eq_true h
         have h4 := of_decide_eq_true h2
         rw [hwr] at h3
         refine hnon (pickP_none (j := j.toNat + 1) ?_ (by omega))
         rw [pickP, hl, hjj, ha]
         simp only [Option.bind_some]
         rw [List.getElem?_eq_none (by omega)]; rfl
       have hlt : ∀ {x z1 z2 : Int}, wordN t a (Int.toNat (0 : Int)) = x → (U.length : Int) = z1 → IntKind.u64.wrap z1 = z2 → decide (z2 ≤ x) = false → 0 ≤ x ∧ x < u.length := by
         rintro x z1 z2 rfl rfl rfl h
         have h3 := of_decide_eq_false h
         rw [hwr] at h3
         exact ⟨(wordN_in t a _).1, by omega⟩
       repeat' (first
         | (with_reducible refine Nm.mk ?_; intro z hz)
         | (with_reducible refine IfB.mk ?_ ?_ <;> (intro h; cases h))
         | (with_reducible refine Two.l ?_; refine Asm.mk ?_ ?_; focus (decide +kernel))
         | (with_reducible refine Two.r ?_)
         | (with_reducible refine TwoT.r ?_)
         | (with_reducible refine TwoU.r ?_)
         | (with_reducible refine Asm.mk ?_ ?_; focus (first | exact row_side _ hL hnl hnle _ | exact hnL | (show (_ : Bool) = true; kernel_rfl) | decide))
         | (with_reducible refine isCC hcc ?_; refine nextCC hcc 3 4 5 (by decide) (0 : Int) t a hw0 ha0 (hnx (by assumption)) ht6 rfl rfl rfl rfl (fun x a' hx ha' => ?_))
         | (with_reducible refine Ix.map hU cells_len (by decide) (hlt (by assumption) (by assumption) (by assumption) (by assumption)).1 (hlt (by assumption) (by assumption) (by assumption) (by assumption)).2 ?_; intro y hy)
         | (with_reducible refine Asm.mk2 ?_ ?_)
         | ((fail_if_success (with_reducible first | refine hQ _ _ ?_ | refine Side.mk ?_ | refine isCP hcp ?_ | refine isCC hcc ?_ | refine isLP hlp ?_ | refine Ix.mk ?_ | refine SIx.mk ?_ | refine SEx.mk ?_ | refine EIx.mk ?_ | refine RIx.mk ?_ | refine LkX.mk ?_ | show False | refine hR ?_ _ ?_ ?_ ?_ ?_ ?_ | refine hR2 ?_ _ ?_ ?_ ?_ ?_ ?_)); cbv))
       · rename_i hjm z1 h1 h2
         refine hQ _ _ ?_
         rw [hge hx h1 h2 hz hjm]
         exact ⟨rfl, _, rfl⟩
       · rename_i hjm z1 h1 z2 h2 h3 g2 hg2 n2 hn2 L2 hL2
         obtain ⟨g1, g3, g4, g5, g6, g7⟩ := hgo2 hjm
         rw [g5] at hz
         subst hz
         subst ha'
         obtain ⟨q1, q2⟩ := row_step hL hnl hn2 hL2
         refine hR2 (j + 1, a + (0 : Int), g2, L2, n2, l ++ [y]) _ ⟨g1, g3, g7, ?_, q1, q2⟩ g4 ⟨rfl, rfl, trivial⟩ ⟨rfl, rfl, rfl, rfl, trivial⟩ rfl
         show pickP u (0 : Int) t (j + 1).toNat = some (l ++ [y])
         rw [g6, pickP, hl, show ((j.toNat : Nat) : Int) = j from by omega, ha]
         simp only [Option.bind_some]
         rw [hx, hy]; rfl
       · rename_i hjm L2 hL2 hz2
         exfalso
         rw [hlen hL2 hz2 hjm] at hz
         simp at hz
       · rename_i hjm L2 hL2 hz2
         have he := hend2 hjm
         subst he
         refine hQ _ _ ?_
         rw [hsome hl, ← row_end hL hnl hL2]
         exact ⟨rfl, rfl⟩
     · refine hQ _ _ ?_
       have e : wordsP kind m r = none := by
         rw [wordsP, hv1]
         simp only [Option.bind_some, hvv, ← hwW, ht, Option.bind_none]
       rw [e]
       exact ⟨rfl, _, takeX_1 hH2⟩
 · refine hQ _ _ ?_
   rw [hn1 hv1]
   exact ⟨rfl, _, rfl⟩
end Go.Proofs.Ytcajncmjlmpkgaa

namespace Go.Proofs.Ytcajncmjlmpkgaa
open Go Go.RowKit
set_option maxRecDepth 100000
set_option linter.unusedSimpArgs false
set_option linter.unusedVariables false
def runStep (kind m : Int) (s : List Val × List UInt8) : Option (List Val × List UInt8) :=
 (numP 4 s.2).bind fun p => (valP kind p.2).bind fun q => if m - s.1.length < p.1 then none else some (s.1 ++ List.replicate p.1.toNat q.1, q.2)
def runsP (kind m : Int) : Nat → List UInt8 → Option (List Val × List UInt8)
 | 0, r => some ([], r)
 | i + 1, r => (runsP kind m i r).bind (runStep kind m)
def runsQ (kind m : Int) (r : List UInt8) : Option (List Val × List UInt8) :=
 (numP 4 r).bind fun p => (runsP kind m p.1.toNat p.2).bind fun y => if (y.1.length : Int) = m then some y else none
theorem runsP_none {kind m : Int} {j k : Nat} {r : List UInt8} (h : runsP kind m j r = none) (hm : j ≤ k) : runsP kind m k r = none := by
 obtain ⟨d, rfl⟩ : ∃ d, k = j + d := ⟨k - j, by omega⟩
 clear hm
 induction d with
 | zero => exact h
 | succ d ih => rw [← Nat.add_assoc, runsP, ih]; rfl
theorem numL_4 {t : List UInt8} (h : (t.length : Int) = 4) : 0 ≤ numL t ∧ numL t < 4294967296 := by
 match t, h with
 | [a, b, c, d], _ =>
   have := a.toNat_lt
   have := b.toNat_lt
   have := c.toNat_lt
   have := d.toNat_lt
   have e : numL [a, b, c, d] = (((a.toNat : Int) * 256 + b.toNat) * 256 + c.toNat) * 256 + d.toNat := by
     simp only [numL, List.foldl_cons, List.foldl_nil]
     rw [stepN_eq (by omega) (by omega) a, stepN_eq (by omega) (by omega) b, stepN_eq (by omega) (by omega) c, stepN_eq (by omega) (by omega) d]; omega
   rw [e]; omega
theorem numP_4 {r r' : List UInt8} {v : Int} (h : numP 4 r = some (v, r')) : 0 ≤ v ∧ v < 4294967296 := by
 rw [numP, Option.map_eq_some_iff] at h
 obtain ⟨⟨t, r2⟩, h1, h2⟩ := h
 simp only [Prod.mk.injEq] at h2
 obtain ⟨rfl, _⟩ := h2
 exact numL_4 (tkP_len h1).1
theorem u64_id {y : Int} (h : 0 ≤ y ∧ y < 18446744073709551616) : IntKind.u64.wrap y = y := by
 simp [IntKind.wrap, IntKind.bits, IntKind.signed]; omega
set_option maxHeartbeats 1000000 in
theorem stand2_c (kind m : Int) (r : List UInt8) (hr : r.length ≤ 100000000) (hm : 0 ≤ m ∧ m ≤ 4096) :
   ACall Try.prog 54 [.ref 0 0, .p (.int .i64 2), .p (.int .i64 kind), .p (.int .i64 m)] [rdO r] (StQ (runsQ kind m r)) := by
 have hx1 : ¬ decide ((2 : Int) = 1) = true := by decide
 have hx2 : ¬ decide ((2 : Int) = 2) = false := by decide
 have hr9 : r.length ≤ 1000000000 := by omega
 have hms : (0 : Int) ≤ 0 ∧ 0 ≤ m ∧ m.toNat * 32 ≤ 140737488355328 ∧ m.toNat ≤ maxLen := ⟨Int.le_refl _, hm.1, by omega, by show _ ≤ 9223372036854775807; omega⟩
 have hn1 : numP 4 r = none → runsQ kind m r = none := fun h => by rw [runsQ, h]; rfl
 refine ACall.x (nt := ⟨143, []⟩) (res := [.tmp 8]) mixed tt_ok [(999996, [20])] Try.func54 rfl rfl rfl c54 (Nat.le_of_ble_eq_true rfl) ?_
 intro cp cc lp Q' hcp hcc hlp hQ
 repeat' (first
   | (with_reducible exact absurd (by assumption) hx1)
   | (with_reducible exact absurd (by assumption) hx2)
   | (with_reducible refine Nm.mk ?_; intro z hz)
   | (with_reducible refine IfB.mk ?_ ?_ <;> (intro h; cases h))
   | (with_reducible refine Two.l ?_; refine Asm.mk ?_ ?_; focus (decide +kernel))
   | (with_reducible refine Two.r ?_)
   | (with_reducible refine TwoT.r ?_)
   | (with_reducible refine TwoU.r ?_)
   | (with_reducible refine Asm.mk ?_ ?_; focus (first | exact hms | (show (_ : Bool) = true; kernel_rfl) | decide))
   | (with_reducible refine isCC hcc ?_; refine numCC hcc 0 4 (by decide) rfl hr9 rfl rfl (fun v r1 hv1 => ?_) (fun hv1 => ?_))
   | (with_reducible refine Asm.mk2 ?_ ?_)
   | ((fail_if_success (with_reducible first | refine hQ _ _ ?_ | refine Side.mk ?_ | refine isCP hcp ?_ | refine isCC hcc ?_ | refine isLP hlp ?_ | refine Ix.mk ?_ | refine SIx.mk ?_ | refine SEx.mk ?_ | refine EIx.mk ?_ | refine RIx.mk ?_ | refine LkX.mk ?_ | show False | refine hR ?_ _ ?_ ?_ ?_ ?_ ?_ | refine hR2 ?_ _ ?_ ?_ ?_ ?_ ?_)); cbv))
 · rename_i zn hzn hZ h1
   clear h1 hz
   obtain rfl : zn = 0 := hzn.symm
   obtain rfl : z = [] := hZ.symm
   clear hzn hZ
   have hv := numP_4 hv1
   have hr1 : r1.length ≤ 1000000000 := Nat.le_trans (numP_len hv1) hr9
   refine loopFr hlp [.tmp 9] ?_
   refine loopTz [(999996, [20])] (ι := Int × List UInt8 × Nat × List (List PV) × Nat × List Val) mixed tt_ok hcp hcc hlp [0, 2, 3, 37] (fun p => [(38, .p (.int .u64 p.1)), (9, .vec 1 p.2.2.1 3 0 p.2.2.2.2.1)]) (fun p => [rdO p.2.1, .vec p.2.2.1 p.2.2.2.1 3]) (fun p => 0 ≤ p.1 ∧ p.1 ≤ v ∧ runsP kind m p.1.toNat r1 = some (p.2.2.2.2.2, p.2.1) ∧ p.2.2.2.2.2.map Val.cells = p.2.2.2.1 ∧ p.2.2.2.1.length = p.2.2.2.2.1 ∧ p.2.1.length ≤ 1000000000 ∧ (p.2.2.2.2.1 : Int) ≤ m) (fun p => (v - p.1).toNat) (0, r1, 0, [], 0, []) 2 (fun _ => rfl) ⟨Int.le_refl _, hv.1, rfl, rfl, rfl, hr1, hm.1⟩ ⟨rfl, rfl, trivial⟩ rfl ?_
   rintro R2 ⟨i, r2, g, L, n, l⟩ ⟨hi0, hi1, hl, hL, hn, hr2, hnm⟩ hR2
   replace hi0 : 0 ≤ i := hi0
   replace hi1 : i ≤ v := hi1
   replace hl : runsP kind m i.toNat r1 = some (l, r2) := hl
   replace hL : l.map Val.cells = L := hL
   replace hn : L.length = n := hn
   replace hr2 : r2.length ≤ 1000000000 := hr2
   replace hnm : (n : Int) ≤ m := hnm
   have hll : l.length = n := by rw [← hn, ← hL, List.length_map]
   have hnL : g = g ∧ 0 + n ≤ L.length := ⟨rfl, by omega⟩
   have hnL1 : g = g ∧ n ≤ L.length := ⟨rfl, by omega⟩
   have hgo : decide (i < v) = true → 0 ≤ i + 1 ∧ i + 1 ≤ v ∧ (v - (i + 1)).toNat < (v - i).toNat ∧ IntKind.u64.wrap (i + 1) = i + 1 ∧ (i + 1).toNat = i.toNat + 1 := by
     intro h
     have := of_decide_eq_true h
     exact ⟨by omega, by omega, by omega, u64_id (by omega), by omega⟩
   have hend : decide (i < v) = false → i = v := by
     intro h
     have := of_decide_eq_false h
     omega
   have hbad : decide (i < v) = true → runStep kind m (l, r2) = none → runsQ kind m r = none := fun h h2 => by
     have := of_decide_eq_true h
     have e : runsP kind m v.toNat r1 = none := by
       refine runsP_none (j := i.toNat + 1) ?_ (by omega)
       rw [runsP, hl]
       exact h2
     rw [runsQ, hv1]
     simp only [Option.bind_some, e, Option.bind_none]
   have hs1 : numP 4 r2 = none → runStep kind m (l, r2) = none := fun h => by rw [runStep, h]; rfl
   have hs2 : ∀ {k : Int} {r3 : List UInt8}, numP 4 r2 = some (k, r3) → valP kind r3 = none → runStep kind m (l, r2) = none := fun h h2 => by
     rw [runStep, h]
     simp only [Option.bind_some, h2, Option.bind_none]
   have hroom : ∀ {z1 z2 z3 : Int}, (n : Int) = z1 → IntKind.i64.wrap (m - z1) = z2 → IntKind.u64.wrap z2 = z3 → z3 = m - l.length := by
     rintro z1 z2 z3 rfl rfl rfl
     rw [wrap_in (by omega), u64_id (by omega), hll]
   have hs3 : ∀ {k z1 z2 z3 : Int} {r3 r4 : List UInt8} {x : Val}, numP 4 r2 = some (k, r3) → valP kind r3 = some (x, r4) → (n : Int) = z1 → IntKind.i64.wrap (m - z1) = z2 → IntKind.u64.wrap z2 = z3 → decide (z3 < k) = true → runStep kind m (l, r2) = none := fun h h2 h3 h4 h5 h6 => by
     have h7 := of_decide_eq_true h6
     rw [hroom h3 h4 h5] at h7
     rw [runStep, h]
     simp only [Option.bind_some, h2, if_pos h7]
   have hs4 : ∀ {k z1 z2 z3 : Int} {r3 r4 : List UInt8} {x : Val}, numP 4 r2 = some (k, r3) → valP kind r3 = some (x, r4) → (n : Int) = z1 → IntKind.i64.wrap (m - z1) = z2 → IntKind.u64.wrap z2 = z3 → decide (z3 < k) = false → runStep kind m (l, r2) = some (l ++ List.replicate k.toNat x, r4) ∧ (k.toNat + l.length ≤ m.toNat ∨ k < 0) := fun h h2 h3 h4 h5 h6 => by
     have h7 := of_decide_eq_false h6
     rw [hroom h3 h4 h5] at h7
     refine ⟨?_, by omega⟩
     rw [runStep, h]
     simp only [Option.bind_some, h2, if_neg h7]
   have hr3 : ∀ {k : Int} {r3 : List UInt8}, numP 4 r2 = some (k, r3) → r3.length ≤ 1000000000 := fun h => Nat.le_trans (numP_len h) hr2
   have hqd : decide (i < v) = false → ¬ (l.length : Int) = m → runsQ kind m r = none := fun h h2 => by
     have h3 := hend h
     subst h3
     rw [runsQ, hv1]
     simp only [Option.bind_some, hl, if_neg h2]
   have hqs : decide (i < v) = false → (l.length : Int) = m → runsQ kind m r = some (l, r2) := fun h h2 => by
     have h3 := hend h
     subst h3
     rw [runsQ, hv1]
     simp only [Option.bind_some, hl, if_pos h2]
   have hq1 : ∀ {L2 : List (List PV)} {z : Int}, List.take n (List.drop 0 L) = L2 → (L2.length : Int) = z → decide (i < v) = false → (!decide (z = m)) = true → runsQ kind m r = none := by
     rintro L2 z h rfl h2 h3
     refine hqd h2 fun e => ?_
     rw [← row_end hL hn h, List.length_map, e] at h3
     simp at h3
   have hq2 : ∀ {L2 : List (List PV)} {z : Int}, List.take n (List.drop 0 L) = L2 → (L2.length : Int) = z → decide (i < v) = false → (!decide (z = m)) = false → runsQ kind m r = some (l, r2) := by
     rintro L2 z h rfl h2 h3
     refine hqs h2 ?_
     have e1 : (L2.length : Int) = m := by simpa using h3
     rw [← e1, ← row_end hL hn h, List.length_map]
   repeat' (first
     | (with_reducible refine Nm.mk ?_; intro z hz)
     | (with_reducible refine IfB.mk ?_ ?_ <;> (intro h; cases h))
     | (with_reducible refine Two.l ?_; refine Asm.mk ?_ ?_; focus (decide +kernel))
     | (with_reducible refine Two.r ?_)
     | (with_reducible refine TwoT.r ?_)
     | (with_reducible refine TwoU.r ?_)
     | (with_reducible refine Asm.mk ?_ ?_; focus (first | exact hnL | exact hnL1 | (show (_ : Bool) = true; kernel_rfl) | decide))
     | (with_reducible refine isCC hcc ?_; refine numCC hcc 0 4 (by decide) rfl hr2 rfl rfl (fun k r3 hk => ?_) (fun hk => ?_))
     | (with_reducible refine isCC hcc ?_; refine rvalueCC hcc 0 (hr3 (by assumption)) rfl rfl (fun x r4 hx => ?_) (fun hx => ?_))
     | (with_reducible refine Asm.mk2 ?_ ?_)
     | ((fail_if_success (with_reducible first | refine hQ _ _ ?_ | refine Side.mk ?_ | refine isCP hcp ?_ | refine isCC hcc ?_ | refine isLP hlp ?_ | refine Ix.mk ?_ | refine SIx.mk ?_ | refine SEx.mk ?_ | refine EIx.mk ?_ | refine RIx.mk ?_ | refine LkX.mk ?_ | show False | refine hR ?_ _ ?_ ?_ ?_ ?_ ?_ | refine hR2 ?_ _ ?_ ?_ ?_ ?_ ?_)); cbv))
   · rename_i hiv z1 h1 z2 h2 h3
     refine hQ _ _ ?_
     rw [hbad hiv (hs3 hk hx h1 h2 h3 hz)]
     exact ⟨rfl, _, rfl⟩
   · rename_i hiv z1 h1 z2 h2 h3
     obtain ⟨hst, hkm0⟩ := hs4 hk hx h1 h2 h3 hz
     have hk4 := numP_4 hk
     have hkm : k.toNat + l.length ≤ m.toNat := hkm0.resolve_right (by omega)
     clear hkm0
     have hr4 : r4.length ≤ 1000000000 := Nat.le_trans (valP_len hx) (hr3 hk)
     obtain ⟨q1, q2, q3, q4, q5⟩ := hgo hiv
     clear hbad hs1 hs2 hs3 hs4 hroom hqd hqs hr3 h1 h2 h3 hz
     refine loopTz [(999996, [20])] (ι := Int × Nat × List (List PV) × Nat) mixed tt_ok hcp hcc hlp [0, 2, 3, 10, 11, 37, 38, 54] (fun p => [(55, .p (.int .u64 p.1)), (9, .vec 1 p.2.1 3 0 p.2.2.2)]) (fun p => [rdO r4, .vec p.2.1 p.2.2.1 3, .cells [.p (.int .i64 x.k), .p (.int .i64 x.n), .p (.str x.s)]]) (fun p => 0 ≤ p.1 ∧ p.1 ≤ k ∧ (l ++ List.replicate p.1.toNat x).map Val.cells = p.2.2.1 ∧ p.2.2.1.length = p.2.2.2) (fun p => (k - p.1).toNat) (0, g, L, n) 3 (fun _ => rfl) ⟨Int.le_refl _, hk4.1, by simp [hL], hn⟩ ⟨rfl, rfl, trivial⟩ rfl ?_
     rintro R ⟨j, g2, L2, n2⟩ ⟨hj0, hj1, hL2, hn2⟩ hR
     replace hj0 : 0 ≤ j := hj0
     replace hj1 : j ≤ k := hj1
     replace hL2 : (l ++ List.replicate j.toNat x).map Val.cells = L2 := hL2
     replace hn2 : L2.length = n2 := hn2
     have hnl2 : n2 = l.length + j.toNat := by rw [← hn2, ← hL2, List.length_map, List.length_append, List.length_replicate]
     have hnle : n2 ≤ 1000000 := by omega
     have hnm2 : j = k → (n2 : Int) ≤ m := fun h => by omega
     have hgo2 : decide (j < k) = true → 0 ≤ j + 1 ∧ j + 1 ≤ k ∧ (k - (j + 1)).toNat < (k - j).toNat ∧ IntKind.u64.wrap (j + 1) = j + 1 ∧ (j + 1).toNat = j.toNat + 1 := by
       intro h
       have := of_decide_eq_true h
       exact ⟨by omega, by omega, by omega, u64_id (by omega), by omega⟩
     have hend2 : decide (j < k) = false → j = k := by
       intro h
       have := of_decide_eq_false h
       omega
     repeat' (first
       | (with_reducible refine Nm.mk ?_; intro z hz)
       | (with_reducible refine IfB.mk ?_ ?_ <;> (intro h; cases h))
       | (with_reducible refine Two.l ?_; refine Asm.mk ?_ ?_; focus (decide +kernel))
       | (with_reducible refine Two.r ?_)
       | (with_reducible refine TwoT.r ?_)
       | (with_reducible refine TwoU.r ?_)
       | (with_reducible refine Asm.mk ?_ ?_; focus (first | exact row_side _ hL2 hn2 hnle x | (show (_ : Bool) = true; kernel_rfl) | decide))
       | (with_reducible refine Asm.mk2 ?_ ?_)
       | ((fail_if_success (with_reducible first | refine hQ _ _ ?_ | refine Side.mk ?_ | refine isCP hcp ?_ | refine isCC hcc ?_ | refine isLP hlp ?_ | refine Ix.mk ?_ | refine SIx.mk ?_ | refine SEx.mk ?_ | refine EIx.mk ?_ | refine RIx.mk ?_ | refine LkX.mk ?_ | show False | refine hR ?_ _ ?_ ?_ ?_ ?_ ?_ | refine hR2 ?_ _ ?_ ?_ ?_ ?_ ?_)); cbv))
     · rename_i hjk g3 hg3 n3 hn3 L3 hL3
       obtain ⟨p1, p2, p3, p4, p5⟩ := hgo2 hjk
       rw [p4] at hz
       subst hz
       obtain ⟨y1, y2⟩ := row_step hL2 hn2 hn3 hL3
       refine hR (j + 1, g3, L3, n3) _ ⟨p1, p2, ?_, y2⟩ p3 ⟨rfl, rfl, trivial⟩ ⟨rfl, rfl, rfl, rfl, rfl, rfl, rfl, rfl, trivial⟩ rfl
       show (l ++ List.replicate (j + 1).toNat x).map Val.cells = L3
       rw [p5, List.replicate_succ', ← List.append_assoc]; exact y1
     · rename_i hjk
       have hj := hend2 hjk
       subst hj
       rw [q4] at hz
       subst hz
       refine hR2 (i + 1, r4, g2, L2, n2, l ++ List.replicate j.toNat x) _ ⟨q1, q2, ?_, hL2, hn2, hr4, hnm2 rfl⟩ q3 ⟨rfl, rfl, trivial⟩ ⟨rfl, rfl, rfl, rfl, trivial⟩ rfl
       show runsP kind m (i + 1).toNat r1 = some (l ++ List.replicate j.toNat x, r4)
       rw [q5, runsP, hl]
       exact hst
   · refine hQ _ _ ?_
     rw [hbad (by assumption) (hs2 hk hx)]
     exact ⟨rfl, _, rfl⟩
   · refine hQ _ _ ?_
     rw [hbad hz (hs1 hk)]
     exact ⟨rfl, _, rfl⟩
   · rename_i hiv L2 hL2 hz2
     refine hQ _ _ ?_
     rw [hq1 hL2 hz2 hiv hz]
     exact ⟨rfl, _, rfl⟩
   · rename_i hiv L2 hL2 hz2
     refine hQ _ _ ?_
     rw [hq2 hL2 hz2 hiv hz, ← row_end hL hn hL2]
     exact ⟨rfl, rfl⟩
 · refine hQ _ _ ?_
   rw [hn1 hv1]
   exact ⟨rfl, _, rfl⟩
end Go.Proofs.Ytcajncmjlmpkgaa
