/- What the arguments' types say of their cells; vec: From, in both texts; VecMakes: SameVec of a column and itself; the law; rows' keys: eight bytes as a number. Own work; no condition. -/
import Derived.Test.YtlabphnonlicdaaGreatPaTy
import Derived.Test.YtlabphnonlicdaaGreatPaAbs21
import Derived.Test.YtlabphnonlicdaaGreatPaRd
import Derived.Test.YtlabphnonlicdaaGreatPa34
import Derived.Test.YtlabphnonlicdaaGreatPaAbs23
import Derived.Test.YtlabphnonlicdaaGreatPaAbs24
namespace Go.Proofs.YtlabphnonlicdaaGreat
open Go Go.RowKit
set_option maxRecDepth 100000
def Val.cells (v : Val) : List PV := [.int .i64 v.k, .int .i64 v.n, .str v.s]
def i64c (x : Int) : List PV := [.int .i64 x]
def boolc (x : Bool) : List PV := [.bool x]
def strc (x : ByteArray) : List PV := [.str x]
theorem cells_len (v : Val) : v.cells.length = 3 := rfl
theorem i64c_len (x : Int) : (i64c x).length = 1 := rfl
theorem boolc_len (x : Bool) : (boolc x).length = 1 := rfl
theorem strc_len (x : ByteArray) : (strc x).length = 1 := rfl
def Val.ok (v : Val) : Prop := (Lit.int .i64 v.k).wf = true ∧ (Lit.int .i64 v.n).wf = true ∧ v.s.size ≤ reachBytes
theorem cells25 : Tryz.prog.cellsOf 52 = 3 := by kernel_rfl
theorem cells2 : Tryz.prog.cellsOf 2 = 1 := by kernel_rfl
theorem cells3 : Tryz.prog.cellsOf 3 = 1 := by kernel_rfl
theorem cells9 : Tryz.prog.cellsOf 9 = 1 := by kernel_rfl
theorem cellsVal {n : Nat} {cs : List PV} (h : Fits Tryz.prog n 52 cs) : ∃ k m s, cs = [.int .i64 k, .int .i64 m, .str s] ∧ (Lit.int .i64 k).wf = true ∧ (Lit.int .i64 m).wf = true ∧ s.size ≤ reachBytes := by
 obtain ⟨m, rfl, hl, hf⟩ := h.struct Tryz.underlying52
 rw [cells25] at hl
 obtain ⟨a, b, c, rfl⟩ : ∃ a b c, cs = [a, b, c] := by
   match cs, hl with
   | [a, b, c], _ => exact ⟨a, b, c, rfl⟩
 have h0 : Fits Tryz.prog m 3 (([a, b, c].drop 0).take (Tryz.prog.cellsOf 3)) := hf 0 _ rfl
 have h1 : Fits Tryz.prog m 2 (([a, b, c].drop 1).take (Tryz.prog.cellsOf 2)) := hf 1 _ rfl
 have h2 : Fits Tryz.prog m 9 (([a, b, c].drop 2).take (Tryz.prog.cellsOf 9)) := hf 2 _ rfl
 rw [cells3] at h0
 rw [cells2] at h1
 rw [cells9] at h2
 have h0 : Fits Tryz.prog m 3 [a] := h0
 have h1 : Fits Tryz.prog m 2 [b] := h1
 have h2 : Fits Tryz.prog m 9 [c] := h2
 obtain ⟨k, e0, w0⟩ := h0.int Tryz.underlying3
 obtain ⟨v, e1, w1⟩ := h1.int Tryz.underlying2
 obtain ⟨s, e2, w2⟩ := h2.str Tryz.underlying9
 simp only [List.cons.injEq, and_true] at e0 e1 e2
 subst e0 e1 e2
 exact ⟨k, v, s, rfl, w0, w1, w2⟩
theorem fits25 {n : Nat} {x : PV} (h : FitsA Tryz.prog n 52 x) : ∃ k m s, x = .agg [.int .i64 k, .int .i64 m, .str s] ∧ (Lit.int .i64 k).wf = true ∧ (Lit.int .i64 m).wf = true ∧ s.size ≤ reachBytes := by
 obtain ⟨cs, rfl, g⟩ := h.agg Tryz.underlying52
 obtain ⟨k, m, s, rfl, w⟩ := cellsVal g
 exact ⟨k, m, s, rfl, w⟩
theorem cellsV {n : Nat} {cs : List PV} (h : Fits Tryz.prog n 52 cs) : ∃ v : Val, v.cells = cs ∧ v.ok := by
 obtain ⟨k, m, s, rfl, w⟩ := cellsVal h
 exact ⟨⟨k, m, s⟩, rfl, w⟩
theorem elems_of {α : Type} {enc : α → List PV} {ok : α → Prop} : ∀ {es : List (List PV)}, (∀ x, x ∈ es → ∃ v, enc v = x ∧ ok v) → ∃ l : List α, l.map enc = es ∧ ∀ v, v ∈ l → ok v := by
 intro es
 induction es with
 | nil => intro _; exact ⟨[], rfl, fun v h => by simp at h⟩
 | cons e es ih =>
   intro h
   obtain ⟨v, hv, ho⟩ := h e (by simp)
   obtain ⟨l, hl, hlo⟩ := ih (fun x hx => h x (by simp [hx]))
   exact ⟨v :: l, by simp [hv, hl], fun u hu => by
     rcases List.mem_cons.1 hu with e | e
     · subst e; exact ho
     · exact hlo u e⟩
theorem bytes25 : Tryz.prog.bytesOf 52 = 32 := by kernel_rfl
theorem fits29 {n : Nat} {x : PV} (h : FitsA Tryz.prog n 46 x) : ∃ l : List Val, x = .sl (l.map Val.cells) ∧ l.length * 32 ≤ 140737488351232 ∧ ∀ v, v ∈ l → v.ok := by
 obtain ⟨m, es, rfl, h1, ⟨h2, h3⟩, h4⟩ := (h.one Tryz.underlying46 rfl).slice Tryz.underlying46
 simp only [List.cons.injEq, and_true] at h1
 subst h1
 obtain ⟨l, rfl, hl⟩ := elems_of (fun x hx => cellsV (h4 x hx).2)
 rw [bytes25, List.length_map] at h3
 exact ⟨l, rfl, h3, hl⟩
theorem fits3 {n : Nat} {x : PV} (h : FitsA Tryz.prog n 3 x) : ∃ v : Int, x = .int .i64 v ∧ (Lit.int .i64 v).wf = true := by
 obtain ⟨v, e, w⟩ := (h.one Tryz.underlying3 rfl).int Tryz.underlying3
 simp only [List.cons.injEq, and_true] at e
 exact ⟨v, e, w⟩
theorem fits2 {n : Nat} {x : PV} (h : FitsA Tryz.prog n 2 x) : ∃ v : Int, x = .int .i64 v ∧ (Lit.int .i64 v).wf = true := by
 obtain ⟨v, e, w⟩ := (h.one Tryz.underlying2 rfl).int Tryz.underlying2
 simp only [List.cons.injEq, and_true] at e
 exact ⟨v, e, w⟩
theorem fits9 {n : Nat} {x : PV} (h : FitsA Tryz.prog n 9 x) : ∃ v : ByteArray, x = .str v ∧ v.size ≤ reachBytes := by
 obtain ⟨v, e, w⟩ := (h.one Tryz.underlying9 rfl).str Tryz.underlying9
 simp only [List.cons.injEq, and_true] at e
 exact ⟨v, e, w⟩
end Go.Proofs.YtlabphnonlicdaaGreat

namespace Go.Proofs.YtlabphnonlicdaaGreat
open Go Go.RowKit
set_option maxRecDepth 100000
set_option linter.unusedSimpArgs false
set_option linter.unusedVariables false
structure Vec where
 kind : Int
 null : List Bool
 ns : List Int
 ss : List ByteArray
def Vec.enc (v : Vec) : PV := .agg [.int .i64 v.kind, .sl (v.null.map boolc), .sl (v.ns.map i64c), .sl (v.ss.map strc)]
def Vec.zero : Vec := ⟨0, [], [], []⟩
def nullsOf (p : List Val) : List Bool := p.map fun v => decide ((clean v).k = 0)
def numsOf (kind : Int) (p : List Val) : List Int := if kind = 1 then p.map fun v => (clean v).n else []
def textsOf (kind : Int) (p : List Val) : List ByteArray := if kind = 1 then [] else p.map fun v => (clean v).s
def bigs (p : List Val) : Bool := p.any fun v => decide ((1000 : Int) < ((clean v).s.size : Int))
def kinds (kind : Int) (p : List Val) : Bool := p.all fun v => decide ((clean v).k = 0) || decide ((clean v).k = kind)
section
variable {P : Program} {cp : FuncId → List PV → (CR → Prop) → Prop} {cc : FuncId → List AV → List AObj → (AV → List AObj → Prop) → Prop} {f : FuncId} {args : List PV} {aargs : List AV} {H : List AObj}
end
theorem num_r (n : Int) : PCall Tryz.prog 58 [.int .i64 n] fun r => r = [(num n).enc] := by
 refine PCall.x (nt := 5) (res := [.cell 2 52]) mixed tt_ok [] Tryz.func58 rfl rfl rfl c58 (Nat.le_of_ble_eq_true rfl) ?_
 intro cp cc lp Q' hcp hcc hlp hQ
 repeat' (first
   | (with_reducible refine Nm.mk ?_; intro z hz)
   | (with_reducible refine IfB.mk ?_ ?_ <;> (intro h; cases h))
   | (with_reducible refine Two.l ?_; refine Asm.mk ?_ ?_; focus (decide +kernel))
   | (with_reducible refine Two.r ?_)
   | (with_reducible refine TwoT.r ?_)
   | (with_reducible refine Asm.mk ?_ ?_; focus (first | kernel_rfl | decide))
   | (with_reducible refine Asm.mk2 ?_ ?_)
   | ((fail_if_success (with_reducible first | refine hQ _ ?_ | refine Side.mk ?_ | refine isCP hcp ?_ | refine isCC hcc ?_ | refine isLP hlp ?_ | refine Ix.mk ?_ | refine SIx.mk ?_ | refine SEx.mk ?_ | refine EIx.mk ?_ | refine RIx.mk ?_ | refine LkX.mk ?_ | show False | refine hR ?_ _ ?_ ?_ ?_ ?_ ?_ | refine hR2 ?_ _ ?_ ?_ ?_ ?_ ?_)); cbv))
 all_goals (refine hQ _ ?_; clear hQ hcp hcc hlp; subst_vars; simp_all [num, Val.enc])
def str (s : ByteArray) : Val := ⟨2, 0, s⟩
theorem str_r (s : ByteArray) : PCall Tryz.prog 59 [.str s] fun r => r = [(str s).enc] := by
 refine PCall.x (nt := 5) (res := [.cell 2 52]) mixed tt_ok [] Tryz.func59 rfl rfl rfl c59 (Nat.le_of_ble_eq_true rfl) ?_
 intro cp cc lp Q' hcp hcc hlp hQ
 repeat' (first
   | (with_reducible refine Nm.mk ?_; intro z hz)
   | (with_reducible refine IfB.mk ?_ ?_ <;> (intro h; cases h))
   | (with_reducible refine Two.l ?_; refine Asm.mk ?_ ?_; focus (decide +kernel))
   | (with_reducible refine Two.r ?_)
   | (with_reducible refine TwoT.r ?_)
   | (with_reducible refine Asm.mk ?_ ?_; focus (first | kernel_rfl | decide))
   | (with_reducible refine Asm.mk2 ?_ ?_)
   | ((fail_if_success (with_reducible first | refine hQ _ ?_ | refine Side.mk ?_ | refine isCP hcp ?_ | refine isCC hcc ?_ | refine isLP hlp ?_ | refine Ix.mk ?_ | refine SIx.mk ?_ | refine SEx.mk ?_ | refine EIx.mk ?_ | refine RIx.mk ?_ | refine LkX.mk ?_ | show False | refine hR ?_ _ ?_ ?_ ?_ ?_ ?_ | refine hR2 ?_ _ ?_ ?_ ?_ ?_ ?_)); cbv))
 all_goals (refine hQ _ ?_; clear hQ hcp hcc hlp; subst_vars; simp_all [str, Val.enc])
theorem none_r : PCall Tryz.prog 60 [] fun r => r = [Val.zero.enc] := by
 refine PCall.x (nt := 2) (res := [.cell 0 52]) mixed tt_ok [] Tryz.func60 rfl rfl rfl c60 (Nat.le_of_ble_eq_true rfl) ?_
 intro cp cc lp Q' hcp hcc hlp hQ
 repeat' (first
   | (with_reducible refine Nm.mk ?_; intro z hz)
   | (with_reducible refine IfB.mk ?_ ?_ <;> (intro h; cases h))
   | (with_reducible refine Two.l ?_; refine Asm.mk ?_ ?_; focus (decide +kernel))
   | (with_reducible refine Two.r ?_)
   | (with_reducible refine TwoT.r ?_)
   | (with_reducible refine Asm.mk ?_ ?_; focus (first | kernel_rfl | decide))
   | (with_reducible refine Asm.mk2 ?_ ?_)
   | ((fail_if_success (with_reducible first | refine hQ _ ?_ | refine Side.mk ?_ | refine isCP hcp ?_ | refine isCC hcc ?_ | refine isLP hlp ?_ | refine Ix.mk ?_ | refine SIx.mk ?_ | refine SEx.mk ?_ | refine EIx.mk ?_ | refine RIx.mk ?_ | refine LkX.mk ?_ | show False | refine hR ?_ _ ?_ ?_ ?_ ?_ ?_ | refine hR2 ?_ _ ?_ ?_ ?_ ?_ ?_)); cbv))
 all_goals (refine hQ _ ?_; clear hQ hcp hcc hlp; subst_vars; simp_all [Val.zero, Val.enc])
theorem rclean_c (k n : Int) (s : ByteArray) : PCall Tryz.prog 25 [.agg [.int .i64 k, .int .i64 n, .str s]] fun r => r = [(clean ⟨k, n, s⟩).enc] := by
 refine PCall.x (nt := 16) (res := [.cell 2 52]) mixed tt_ok [] Tryz.func25 rfl rfl rfl c25 (Nat.le_of_ble_eq_true rfl) ?_
 intro cp cc lp Q' hcp hcc hlp hQ
 repeat' (first
   | (with_reducible refine Nm.mk ?_; intro z hz)
   | (with_reducible refine IfB.mk ?_ ?_ <;> (intro h; cases h))
   | (with_reducible refine Two.l ?_; refine Asm.mk ?_ ?_; focus (decide +kernel))
   | (with_reducible refine Two.r ?_)
   | (with_reducible refine TwoT.r ?_)
   | (with_reducible refine Asm.mk ?_ ?_; focus (first | kernel_rfl | decide))
   | (with_reducible refine isCP hcp ?_; first | (refine vP hcp (num_r _) ?_; intro v hv) | (refine vP hcp (str_r _) ?_; intro v hv) | (refine vP hcp (none_r) ?_; intro v hv))
   | (with_reducible refine isCC hcc ?_; first | (refine vA hcc (num_r _) rfl ?_; intro v hv) | (refine vA hcc (str_r _) rfl ?_; intro v hv) | (refine vA hcc (none_r) rfl ?_; intro v hv))
   | (with_reducible refine Asm.mk2 ?_ ?_)
   | ((fail_if_success (with_reducible first | refine hQ _ ?_ | refine Side.mk ?_ | refine isCP hcp ?_ | refine isCC hcc ?_ | refine isLP hlp ?_ | refine Ix.mk ?_ | refine SIx.mk ?_ | refine SEx.mk ?_ | refine EIx.mk ?_ | refine RIx.mk ?_ | refine LkX.mk ?_ | show False | refine hR ?_ _ ?_ ?_ ?_ ?_ ?_ | refine hR2 ?_ _ ?_ ?_ ?_ ?_ ?_)); cbv))
 all_goals (refine hQ _ ?_; clear hQ hcp hcc hlp; subst_vars; simp_all [clean, num, str, Val.enc, Val.zero])
structure FromOk (kind : Int) (l p : List Val) (k : Int) (b : Bool) (N0 : List (List PV)) (m0 : Nat) (N1 : List (List PV)) (m1 : Nat) (N2 : List (List PV)) (m2 : Nat) : Prop where
 pre : ∃ r, l = p ++ r
 k : k = (p.length : Int)
 b : bigs p = b
 f : kinds kind p = true
 n0 : (nullsOf p).map boolc = N0
 c0 : N0.length = m0
 n1 : (numsOf kind p).map i64c = N1
 c1 : N1.length = m1
 n2 : (textsOf kind p).map strc = N2
 c2 : N2.length = m2
theorem FromOk.at_ {kind : Int} {l p : List Val} {k : Int} {b : Bool} {N0 : List (List PV)} {m0 : Nat} {N1 : List (List PV)} {m1 : Nat} {N2 : List (List PV)} {m2 : Nat} (h : FromOk kind l p k b N0 m0 N1 m1 N2 m2) {x : Val} (hx : l[k.toNat]? = some x) : ∃ r, l = p ++ x :: r := by
 obtain ⟨r, rfl⟩ := h.pre
 rw [h.k, Int.toNat_natCast, List.getElem?_append_right (Nat.le_refl _), Nat.sub_self] at hx
 cases r with
 | nil => simp at hx
 | cons y r => simp at hx; subst hx; exact ⟨r, rfl⟩
end Go.Proofs.YtlabphnonlicdaaGreat

namespace Go.Proofs.YtlabphnonlicdaaGreat
open Go Go.RowKit
set_option maxRecDepth 100000
set_option linter.unusedSimpArgs false
set_option linter.unusedVariables false
theorem maxLen_eq : maxLen = 9223372036854775807 := rfl
end Go.Proofs.YtlabphnonlicdaaGreat

namespace Go.Proofs.YtlabphnonlicdaaGreat
open Go Go.RowKit
set_option maxRecDepth 100000
set_option linter.unusedSimpArgs false
set_option linter.unusedVariables false
def byts (s : ByteArray) : List UInt8 := s.data.toList
theorem byts_len (s : ByteArray) : (byts s).length = s.size := Array.length_toList
theorem byts_get {s : ByteArray} {i : Nat} {b : UInt8} : s[i]? = some b ↔ (byts s)[i]? = some b := by
 by_cases h : i < s.size
 · rw [getElem?_pos s i h, List.getElem?_eq_getElem (by rw [byts_len]; exact h)]
   rfl
 · rw [getElem?_neg s i h, List.getElem?_eq_none (by rw [byts_len]; omega)]
theorem byts_at {s : ByteArray} {i : Nat} (h : i < s.size) : ∃ b, s[i]? = some b := ⟨_, getElem?_pos s i h⟩
theorem at_cases {s : ByteArray} {i : Int} (h0 : 0 ≤ i) (h1 : i.toNat ≤ s.size) : ∀ z : Int, (s.size : Int) = z → (decide (i < z) = true → i.toNat < s.size) ∧ (decide (i < z) = false → i.toNat = s.size) := by
 intro z h; simp only [decide_eq_true_eq, decide_eq_false_iff_not]; omega
theorem SIx.at_ {s : ByteArray} {i : Int} {K : Int → Prop} (h0 : 0 ≤ i) (h : i.toNat < s.size) (g : ∀ b c, s[i.toNat]? = some b → (b.toNat : Int) = c → K c) : SIx s i K := by
 obtain ⟨b, hb⟩ := byts_at h
 exact ⟨⟨b, h0, hb, fun z hz => g b z hb hz⟩⟩
theorem IxB {s : ByteArray} {L : List (List PV)} (hL : bytesL s = L) {i : Int} {K : List PV → Prop} (h0 : 0 ≤ i) (h : i.toNat < s.size) (g : ∀ b c, s[i.toNat]? = some b → (b.toNat : Int) = c → K [.int .u8 c]) : Ix 1 L i K := by
 obtain ⟨b, hb⟩ := byts_at h
 refine ⟨⟨[.int .u8 b.toNat], h0, ?_, rfl, by decide, g b _ hb rfl⟩⟩
 rw [← hL, bytesL, List.getElem?_map, show s.data.toList[i.toNat]? = some b from byts_get.1 hb]; rfl
end Go.Proofs.YtlabphnonlicdaaGreat
