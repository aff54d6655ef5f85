/- What the arguments' types say of their cells; vec: From, in both texts; VecMakes: SameVec of a column and itself; the law; rows' keys: eight bytes as a number; rows' keys: a number as eight bytes; rows' keys: the key of one value, tallyref's; rows' keys: what a text is read as; rows' keys: tallyref's Row. Own work; no condition. -/
import Derived.Test.YtnhmnfokbinplaaDoorTy
import Derived.Test.YtnhmnfokbinplaaDoorAbs21
import Derived.Test.YtnhmnfokbinplaaDoorRd
import Derived.Test.YtnhmnfokbinplaaDoorCell1
import Derived.Test.YtnhmnfokbinplaaDoorAbs23
import Derived.Test.YtnhmnfokbinplaaDoorAbs24
import Derived.Test.YtnhmnfokbinplaaDoorAbs25
namespace Go.Proofs.YtnhmnfokbinplaaDoor
open Go Go.RowKit
set_option maxRecDepth 100000

def Val.cells (v : Val) : List PV := [.int .i64 v.k, .int .i64 v.n, .str v.s]
def i64c (x : Int) : List PV := [.int .i64 x]
def boolc (x : Bool) : List PV := [.bool x]
def strc (x : ByteArray) : List PV := [.str x]
theorem cells_len (v : Val) : v.cells.length = 3 := rfl
theorem i64c_len (x : Int) : (i64c x).length = 1 := rfl
theorem boolc_len (x : Bool) : (boolc x).length = 1 := rfl
theorem strc_len (x : ByteArray) : (strc x).length = 1 := rfl
/-- What is known of a value that came in. -/
def Val.ok (v : Val) : Prop := (Lit.int .i64 v.k).wf = true ∧ (Lit.int .i64 v.n).wf = true ∧ v.s.size ≤ reachBytes

theorem cells25 : Tryd.prog.cellsOf 33 = 3 := by kernel_rfl
theorem cells2 : Tryd.prog.cellsOf 2 = 1 := by kernel_rfl
theorem cells3 : Tryd.prog.cellsOf 3 = 1 := by kernel_rfl
theorem cells9 : Tryd.prog.cellsOf 9 = 1 := by kernel_rfl
/-- A value's cells. -/
theorem cellsVal {n : Nat} {cs : List PV} (h : Fits Tryd.prog n 33 cs) : ∃ k m s, cs = [.int .i64 k, .int .i64 m, .str s] ∧ (Lit.int .i64 k).wf = true ∧ (Lit.int .i64 m).wf = true ∧ s.size ≤ reachBytes := by
  obtain ⟨m, rfl, hl, hf⟩ := h.struct Tryd.underlying33
  rw [cells25] at hl
  obtain ⟨a, b, c, rfl⟩ : ∃ a b c, cs = [a, b, c] := by
    match cs, hl with
    | [a, b, c], _ => exact ⟨a, b, c, rfl⟩
  have h0 : Fits Tryd.prog m 3 (([a, b, c].drop 0).take (Tryd.prog.cellsOf 3)) := hf 0 _ rfl
  have h1 : Fits Tryd.prog m 2 (([a, b, c].drop 1).take (Tryd.prog.cellsOf 2)) := hf 1 _ rfl
  have h2 : Fits Tryd.prog m 9 (([a, b, c].drop 2).take (Tryd.prog.cellsOf 9)) := hf 2 _ rfl
  rw [cells3] at h0
  rw [cells2] at h1
  rw [cells9] at h2
  have h0 : Fits Tryd.prog m 3 [a] := h0
  have h1 : Fits Tryd.prog m 2 [b] := h1
  have h2 : Fits Tryd.prog m 9 [c] := h2
  obtain ⟨k, e0, w0⟩ := h0.int Tryd.underlying3
  obtain ⟨v, e1, w1⟩ := h1.int Tryd.underlying2
  obtain ⟨s, e2, w2⟩ := h2.str Tryd.underlying9
  simp only [List.cons.injEq, and_true] at e0 e1 e2
  subst e0 e1 e2
  exact ⟨k, v, s, rfl, w0, w1, w2⟩
theorem fits25 {n : Nat} {x : PV} (h : FitsA Tryd.prog n 33 x) : ∃ k m s, x = .agg [.int .i64 k, .int .i64 m, .str s] ∧ (Lit.int .i64 k).wf = true ∧ (Lit.int .i64 m).wf = true ∧ s.size ≤ reachBytes := by
  obtain ⟨cs, rfl, g⟩ := h.agg Tryd.underlying33
  obtain ⟨k, m, s, rfl, w⟩ := cellsVal g
  exact ⟨k, m, s, rfl, w⟩


theorem cellsV {n : Nat} {cs : List PV} (h : Fits Tryd.prog n 33 cs) : ∃ v : Val, v.cells = cs ∧ v.ok := by
  obtain ⟨k, m, s, rfl, w⟩ := cellsVal h
  exact ⟨⟨k, m, s⟩, rfl, w⟩

/-- Lists of elements that are told by values of another type. -/
theorem elems_of {α : Type} {enc : α → List PV} {ok : α → Prop} : ∀ {es : List (List PV)}, (∀ x, x ∈ es → ∃ v, enc v = x ∧ ok v) → ∃ l : List α, l.map enc = es ∧ ∀ v, v ∈ l → ok v := by
  intro es
  induction es with
  | nil => intro _; exact ⟨[], rfl, fun v h => by simp at h⟩
  | cons e es ih =>
    intro h
    obtain ⟨v, hv, ho⟩ := h e (by simp)
    obtain ⟨l, hl, hlo⟩ := ih (fun x hx => h x (by simp [hx]))
    exact ⟨v :: l, by simp [hv, hl], fun u hu => by
      rcases List.mem_cons.1 hu with e | e
      · subst e; exact ho
      · exact hlo u e⟩

theorem bytes25 : Tryd.prog.bytesOf 33 = 32 := by kernel_rfl
/-- A row of values. -/
theorem fits29 {n : Nat} {x : PV} (h : FitsA Tryd.prog n 22 x) : ∃ l : List Val, x = .sl (l.map Val.cells) ∧ l.length * 32 ≤ 140737488351232 ∧ ∀ v, v ∈ l → v.ok := by
  obtain ⟨m, es, rfl, h1, ⟨h2, h3⟩, h4⟩ := (h.one Tryd.underlying22 rfl).slice Tryd.underlying22
  simp only [List.cons.injEq, and_true] at h1
  subst h1
  obtain ⟨l, rfl, hl⟩ := elems_of (fun x hx => cellsV (h4 x hx).2)
  rw [bytes25, List.length_map] at h3
  exact ⟨l, rfl, h3, hl⟩
theorem fits3 {n : Nat} {x : PV} (h : FitsA Tryd.prog n 3 x) : ∃ v : Int, x = .int .i64 v ∧ (Lit.int .i64 v).wf = true := by
  obtain ⟨v, e, w⟩ := (h.one Tryd.underlying3 rfl).int Tryd.underlying3
  simp only [List.cons.injEq, and_true] at e
  exact ⟨v, e, w⟩
theorem fits2 {n : Nat} {x : PV} (h : FitsA Tryd.prog n 2 x) : ∃ v : Int, x = .int .i64 v ∧ (Lit.int .i64 v).wf = true := by
  obtain ⟨v, e, w⟩ := (h.one Tryd.underlying2 rfl).int Tryd.underlying2
  simp only [List.cons.injEq, and_true] at e
  exact ⟨v, e, w⟩
theorem fits9 {n : Nat} {x : PV} (h : FitsA Tryd.prog n 9 x) : ∃ v : ByteArray, x = .str v ∧ v.size ≤ reachBytes := by
  obtain ⟨v, e, w⟩ := (h.one Tryd.underlying9 rfl).str Tryd.underlying9
  simp only [List.cons.injEq, and_true] at e
  exact ⟨v, e, w⟩
end Go.Proofs.YtnhmnfokbinplaaDoor

namespace Go.Proofs.YtnhmnfokbinplaaDoor
open Go Go.RowKit
set_option maxRecDepth 100000
set_option linter.unusedSimpArgs false
set_option linter.unusedVariables false

structure Vec where
  kind : Int
  null : List Bool
  ns : List Int
  ss : List ByteArray
def Vec.enc (v : Vec) : PV := .agg [.int .i64 v.kind, .sl (v.null.map boolc), .sl (v.ns.map i64c), .sl (v.ss.map strc)]
def Vec.zero : Vec := ⟨0, [], [], []⟩

def nullsOf (p : List Val) : List Bool := p.map fun v => decide ((clean v).k = 0)
def numsOf (kind : Int) (p : List Val) : List Int := if kind = 1 then p.map fun v => (clean v).n else []
def textsOf (kind : Int) (p : List Val) : List ByteArray := if kind = 1 then [] else p.map fun v => (clean v).s
def bigs (p : List Val) : Bool := p.any fun v => decide ((1000 : Int) < ((clean v).s.size : Int))
def kinds (kind : Int) (p : List Val) : Bool := p.all fun v => decide ((clean v).k = 0) || decide ((clean v).k = kind)

section
variable {P : Program} {cp : FuncId → List PV → (CR → Prop) → Prop} {cc : FuncId → List AV → List AObj → (AV → List AObj → Prop) → Prop} {f : FuncId} {args : List PV} {aargs : List AV} {H : List AObj}
end

def str (s : ByteArray) : Val := ⟨2, 0, s⟩
/-- What a round knows. -/
structure FromOk (kind : Int) (l p : List Val) (k : Int) (b : Bool) (N0 : List (List PV)) (m0 : Nat) (N1 : List (List PV)) (m1 : Nat) (N2 : List (List PV)) (m2 : Nat) : Prop where
  pre : ∃ r, l = p ++ r
  k : k = (p.length : Int)
  b : bigs p = b
  f : kinds kind p = true
  n0 : (nullsOf p).map boolc = N0
  c0 : N0.length = m0
  n1 : (numsOf kind p).map i64c = N1
  c1 : N1.length = m1
  n2 : (textsOf kind p).map strc = N2
  c2 : N2.length = m2

theorem FromOk.at_ {kind : Int} {l p : List Val} {k : Int} {b : Bool} {N0 : List (List PV)} {m0 : Nat} {N1 : List (List PV)} {m1 : Nat} {N2 : List (List PV)} {m2 : Nat} (h : FromOk kind l p k b N0 m0 N1 m1 N2 m2) {x : Val} (hx : l[k.toNat]? = some x) : ∃ r, l = p ++ x :: r := by
  obtain ⟨r, rfl⟩ := h.pre
  rw [h.k, Int.toNat_natCast, List.getElem?_append_right (Nat.le_refl _), Nat.sub_self] at hx
  cases r with
  | nil => simp at hx
  | cons y r => simp at hx; subst hx; exact ⟨r, rfl⟩

end Go.Proofs.YtnhmnfokbinplaaDoor

namespace Go.Proofs.YtnhmnfokbinplaaDoor
open Go Go.RowKit
set_option maxRecDepth 100000
set_option linter.unusedSimpArgs false
set_option linter.unusedVariables false

end Go.Proofs.YtnhmnfokbinplaaDoor

namespace Go.Proofs.YtnhmnfokbinplaaDoor
open Go Go.RowKit
set_option maxRecDepth 100000
set_option linter.unusedSimpArgs false
set_option linter.unusedVariables false

def byts (s : ByteArray) : List UInt8 := s.data.toList
theorem byts_len (s : ByteArray) : (byts s).length = s.size := Array.length_toList
theorem byts_get {s : ByteArray} {i : Nat} {b : UInt8} : s[i]? = some b ↔ (byts s)[i]? = some b := by
  by_cases h : i < s.size
  · rw [getElem?_pos s i h, List.getElem?_eq_getElem (by rw [byts_len]; exact h)]
    rfl
  · rw [getElem?_neg s i h, List.getElem?_eq_none (by rw [byts_len]; omega)]
theorem byts_at {s : ByteArray} {i : Nat} (h : i < s.size) : ∃ b, s[i]? = some b := ⟨_, getElem?_pos s i h⟩
/-- Where a place stands in a text. -/
theorem at_cases {s : ByteArray} {i : Int} (h0 : 0 ≤ i) (h1 : i.toNat ≤ s.size) : ∀ z : Int, (s.size : Int) = z → (decide (i < z) = true → i.toNat < s.size) ∧ (decide (i < z) = false → i.toNat = s.size) := by
  intro z h; simp only [decide_eq_true_eq, decide_eq_false_iff_not]; omega
theorem SIx.at_ {s : ByteArray} {i : Int} {K : Int → Prop} (h0 : 0 ≤ i) (h : i.toNat < s.size) (g : ∀ b c, s[i.toNat]? = some b → (b.toNat : Int) = c → K c) : SIx s i K := by
  obtain ⟨b, hb⟩ := byts_at h
  exact ⟨⟨b, h0, hb, fun z hz => g b z hb hz⟩⟩
theorem IxB {s : ByteArray} {L : List (List PV)} (hL : bytesL s = L) {i : Int} {K : List PV → Prop} (h0 : 0 ≤ i) (h : i.toNat < s.size) (g : ∀ b c, s[i.toNat]? = some b → (b.toNat : Int) = c → K [.int .u8 c]) : Ix 1 L i K := by
  obtain ⟨b, hb⟩ := byts_at h
  refine ⟨⟨[.int .u8 b.toNat], h0, ?_, rfl, by decide, g b _ hb rfl⟩⟩
  rw [← hL, bytesL, List.getElem?_map, show s.data.toList[i.toNat]? = some b from byts_get.1 hb]; rfl

def stepN (n : Int) (b : UInt8) : Int := IntKind.u64.wrap ((BitVec.ofInt IntKind.u64.bits (IntKind.u64.wrap (n * 2 ^ min (Int.toNat 8) IntKind.u64.bits)) ||| BitVec.ofInt IntKind.u64.bits (IntKind.u64.wrap (b.toNat : Int))).toNat : Int)
def numL (l : List UInt8) : Int := l.foldl stepN 0
theorem numL_succ {l : List UInt8} {i : Nat} {b : UInt8} (h : l[i]? = some b) : numL (l.take (i + 1)) = stepN (numL (l.take i)) b := by
  rw [numL, List.take_add_one, List.foldl_append, h]; rfl

theorem get_c (s : ByteArray) (hs : s.size ≤ 1048577) : PCall Tryd.prog 21 [.str s] fun r => r = [.int .u64 (numL (byts s))] := by
  refine PCall.x (nt := 20) (res := [.tmp 2]) mixed tt_ok [] Tryd.func21 rfl rfl rfl c21 (Nat.le_of_ble_eq_true rfl) ?_
  intro cp cc lp Q' hcp hcc hlp hQ
  repeat' (first
    | (with_reducible refine Nm.mk ?_; intro z hz)
    | (with_reducible refine IfB.mk ?_ ?_ <;> (intro h; cases h))
    | (with_reducible refine Two.l ?_; refine Asm.mk ?_ ?_; focus (decide +kernel))
    | (with_reducible refine Two.r ?_)
    | (with_reducible refine TwoT.r ?_)
    | (with_reducible refine Asm.mk ?_ ?_; focus (first | (show (_ : Bool) = true; kernel_rfl) | (simp only [maxLen]; omega)))
    | (with_reducible refine Asm.mk2 ?_ ?_)
    | ((fail_if_success (with_reducible first | refine hQ _ ?_ | refine Side.mk ?_ | refine isCP hcp ?_ | refine isCC hcc ?_ | refine isLP hlp ?_ | refine Ix.mk ?_ | refine SIx.mk ?_ | refine SEx.mk ?_ | refine EIx.mk ?_ | refine RIx.mk ?_ | show False | refine hR ?_ _ ?_ ?_ ?_ ?_ ?_ | refine hR2 ?_ _ ?_ ?_ ?_ ?_ ?_)); cbv))
  rename_i L hL
  have hz2 : (s.size : Int) = z := by rw [← hz, ← hL, bytesL, List.length_map, Array.length_toList]; rfl
  clear hz
  generalize z = zz at *
  refine loopK (ι := Int × Int) mixed tt_ok hcp hcc hlp [0, 7, 8] (fun p => [(3, .p (.int .u64 p.1)), (9, .p (.int .i64 p.2))]) (fun p => (0 ≤ p.2 ∧ p.2.toNat ≤ s.size) ∧ numL ((byts s).take p.2.toNat) = p.1) (fun p => s.size - p.2.toNat) (0, 0) (fun _ => rfl) ⟨by simp, rfl⟩ ⟨rfl, rfl, trivial⟩ ?_
  rintro R ⟨n, i⟩ ⟨⟨hi0, hi1⟩, hn⟩ hR
  replace hi0 : 0 ≤ i := hi0
  replace hi1 : i.toNat ≤ s.size := hi1
  replace hn : numL ((byts s).take i.toNat) = n := hn
  have hie := fun (_ : zz = zz) => at_cases hi0 hi1 zz hz2
  repeat' (first
    | (with_reducible refine Nm.mk ?_; intro z hz)
    | (with_reducible refine IfB.mk ?_ ?_ <;> (intro h; cases h))
    | (with_reducible refine Two.l ?_; refine Asm.mk ?_ ?_; focus (decide +kernel))
    | (with_reducible refine Two.r ?_)
    | (with_reducible refine TwoT.r ?_)
    | (with_reducible refine Asm.mk ?_ ?_; focus (show (_ : Bool) = true; kernel_rfl))
    | (with_reducible refine IxB hL hi0 ((hie rfl).1 (by assumption)) ?_; intro b c hb hc)
    | (with_reducible refine Asm.mk2 ?_ ?_)
    | ((fail_if_success (with_reducible first | refine hQ _ ?_ | refine Side.mk ?_ | refine isCP hcp ?_ | refine isCC hcc ?_ | refine isLP hlp ?_ | refine Ix.mk ?_ | refine SIx.mk ?_ | refine SEx.mk ?_ | refine EIx.mk ?_ | refine RIx.mk ?_ | show False | refine hR ?_ _ ?_ ?_ ?_ ?_ ?_ | refine hR2 ?_ _ ?_ ?_ ?_ ?_ ?_)); cbv))
  all_goals first
    | exact ⟨by decide⟩
    | (have hl : i.toNat < s.size := by first | exact (hie _ (by assumption)).1 (by assumption) | exact (hie rfl).1 (by assumption)
       have hw : IntKind.i64.wrap (i + 1) = i + 1 := wrap_in (by omega)
       rw [hw] at hz
       subst hz
       refine hR (_, i + 1) _ ⟨⟨by show 0 ≤ i + 1; omega, by show (i + 1).toNat ≤ s.size; omega⟩, ?_⟩ (by show s.size - (i + 1).toNat < s.size - i.toNat; omega) ⟨rfl, rfl, trivial⟩ (by first | exact ⟨rfl, trivial⟩ | exact ⟨rfl, rfl, rfl, trivial⟩) rfl
       show numL ((byts s).take (i + 1).toNat) = _
       rw [show (i + 1).toNat = i.toNat + 1 by omega, numL_succ (byts_get.1 hb), hn]
       clear hR hQ hcp hcc hlp
       subst_vars
       rfl)
    | (have hl : i.toNat = s.size := by first | exact (hie _ (by assumption)).2 (by assumption) | exact (hie rfl).2 (by assumption)
       refine hQ _ ?_
       rw [← hn, List.take_of_length_le (by rw [byts_len]; omega)])
end Go.Proofs.YtnhmnfokbinplaaDoor

namespace Go.Proofs.YtnhmnfokbinplaaDoor
open Go Go.RowKit
set_option maxRecDepth 100000
set_option linter.unusedSimpArgs false
set_option linter.unusedVariables false

theorem wrap_8 (n : Int) : IntKind.u8.wrap n = n % 256 := by
  simp [IntKind.wrap, IntKind.bits, IntKind.signed]
def byteAt (n : Int) (k : Nat) : UInt8 := UInt8.ofNat (n.toNat / 2 ^ (8 * k))
theorem byteAt_toNat (n : Int) (k : Nat) : (byteAt n k).toNat = n.toNat / 2 ^ (8 * k) % 256 := by simp [byteAt]
def byteC (b : UInt8) : List PV := [.int .u8 b.toNat]
def upB (n : Int) (i : Int) : List (List PV) := (List.range (7 - i).toNat).map fun j => byteC (byteAt n (7 - j))
def bytesN (n : Int) : List UInt8 := (List.range 8).map fun j => byteAt n (7 - j)
theorem upB_len (n i : Int) : (upB n i).length = (7 - i).toNat := by simp [upB]
theorem upB_succ {n i : Int} (h : 0 ≤ i) (h7 : i ≤ 7) : upB n (i - 1) = upB n i ++ [byteC (byteAt n i.toNat)] := by
  rw [upB, upB, show (7 - (i - 1)).toNat = (7 - i).toNat + 1 by omega, List.range_succ, List.map_append]
  simp only [List.map_cons, List.map_nil]
  rw [show 7 - (7 - i).toNat = i.toNat by omega]
theorem byte_eq {n i : Int} (hn : 0 ≤ n) (hi : 0 ≤ i) (h7 : i ≤ 7) {z3 z2 z1 : Int} (h3 : IntKind.i64.wrap (8 * i) = z3) (h2 : n.fdiv (2 ^ min z3.toNat IntKind.u64.bits) = z2) (h1 : IntKind.u8.wrap z2 = z1) : [PV.int .u8 z1] = byteC (byteAt n i.toNat) := by
  rw [wrap_in (by omega)] at h3
  subst h3
  have hm : min (8 * i).toNat IntKind.u64.bits = 8 * i.toNat := by
    show min (8 * i).toNat 64 = _
    omega
  rw [hm] at h2
  rw [byteC, byteAt_toNat, ← h1, wrap_8, ← h2]
  obtain ⟨m, rfl⟩ := Int.eq_ofNat_of_zero_le hn
  rw [Int.fdiv_eq_ediv_of_nonneg _ (Int.le_of_lt (Int.pow_pos (by decide)))]
  simp

/-! ### eight bytes and their number -/
theorem stepN_eq {n : Int} (h0 : 0 ≤ n) (h : n < 72057594037927936) (b : UInt8) : stepN n b = n * 256 + b.toNat := by
  obtain ⟨m, rfl⟩ := Int.eq_ofNat_of_zero_le h0
  have hb := b.toNat_lt
  have hw : IntKind.u64.wrap ((m : Int) * 2 ^ min (Int.toNat 8) IntKind.u64.bits) = ((m * 256 : Nat) : Int) := by
    show IntKind.u64.wrap ((m : Int) * 256) = _
    simp [IntKind.wrap, IntKind.bits, IntKind.signed]
    omega
  have hw2 : IntKind.u64.wrap (b.toNat : Int) = ((b.toNat : Nat) : Int) := by
    simp [IntKind.wrap, IntKind.bits, IntKind.signed]
    omega
  rw [stepN, hw, hw2]
  have e : (BitVec.ofInt IntKind.u64.bits ((m * 256 : Nat) : Int) ||| BitVec.ofInt IntKind.u64.bits ((b.toNat : Nat) : Int)).toNat = m * 256 + b.toNat := by
    show (BitVec.ofInt 64 ((m * 256 : Nat) : Int) ||| BitVec.ofInt 64 ((b.toNat : Nat) : Int)).toNat = m * 256 + b.toNat
    rw [BitVec.toNat_or, BitVec.ofInt_natCast, BitVec.ofInt_natCast, BitVec.toNat_ofNat, BitVec.toNat_ofNat, Nat.mod_eq_of_lt (by omega), Nat.mod_eq_of_lt (by omega)]
    have := Nat.shiftLeft_add_eq_or_of_lt (i := 8) (b := b.toNat) (by omega) m
    rw [Nat.shiftLeft_eq, show (2 : Nat) ^ 8 = 256 from rfl] at this
    omega
  rw [e]
  simp [IntKind.wrap, IntKind.bits, IntKind.signed]
  omega
end Go.Proofs.YtnhmnfokbinplaaDoor

namespace Go.Proofs.YtnhmnfokbinplaaDoor
open Go Go.RowKit
set_option maxRecDepth 100000
set_option linter.unusedSimpArgs false
set_option linter.unusedVariables false

def toB (l : List UInt8) : ByteArray := ⟨l.toArray⟩
theorem byts_toB (l : List UInt8) : byts (toB l) = l := rfl
theorem toB_byts (s : ByteArray) : toB (byts s) = s := rfl
theorem toB_of {s : ByteArray} {l : List UInt8} (h : byts s = l) : s = toB l := by rw [← h, toB_byts]
theorem byts_ext (s : ByteArray) (i j : Nat) : byts (s.extract i j) = ((byts s).take j).drop i := by
  simp [byts, List.extract_eq_take_drop, List.drop_take]
def escL (l : List UInt8) : List UInt8 := l.flatMap fun b => if b = 0 then [0, 255] else [b]
theorem escL_len (l : List UInt8) : (escL l).length ≤ 2 * l.length := by
  induction l with
  | nil => simp [escL]
  | cons b r ih =>
    rw [escL, List.flatMap_cons, List.length_append]
    have : (if b = 0 then [(0 : UInt8), 255] else [b]).length ≤ 2 := by split <;> simp
    have h2 : (escL r).length = (r.flatMap fun b => if b = 0 then [(0 : UInt8), 255] else [b]).length := rfl
    simp only [List.length_cons]
    omega
def flipN (n : Int) : Int := IntKind.u64.wrap ((BitVec.ofInt IntKind.u64.bits (IntKind.u64.wrap n) ^^^ BitVec.ofInt IntKind.u64.bits 9223372036854775808).toNat : Int)
def keyV (v : Val) : List UInt8 :=
  if v.k = 0 then [1] else if v.k = 1 then 2 :: bytesN (flipN v.n) else if v.k = 2 then 3 :: (escL (byts v.s) ++ [0, 1]) else []

end Go.Proofs.YtnhmnfokbinplaaDoor

namespace Go.Proofs.YtnhmnfokbinplaaDoor
open Go Go.RowKit
set_option maxRecDepth 100000
set_option linter.unusedSimpArgs false
set_option linter.unusedVariables false

def textM : List UInt8 → Option (List UInt8 × List UInt8)
  | [] => none
  | [_] => none
  | b :: c :: r => if b = 0 then (if c = 1 then some ([], r) else if c = 255 then (textM r).map fun p => (0 :: p.1, p.2) else none) else (textM (c :: r)).map fun p => (b :: p.1, p.2)
def backN (n : Int) : Int := IntKind.i64.wrap (IntKind.u64.wrap ((BitVec.ofInt IntKind.u64.bits n ^^^ BitVec.ofInt IntKind.u64.bits 9223372036854775808).toNat : Int))
def stepM : List UInt8 → Option (Val × List UInt8)
  | [] => none
  | t :: r => if t = 1 then some (Val.zero, r)
    else if t = 2 then (if r.length < 8 then none else some (⟨1, backN (numL (r.take 8)), ⟨#[]⟩⟩, r.drop 8))
    else if t = 3 then (textM r).map fun p => (⟨2, 0, toB p.1⟩, p.2) else none
def rowF : Nat → List UInt8 → Option (List Val)
  | _, [] => some []
  | 0, _ :: _ => none
  | f + 1, b :: l => match stepM (b :: l) with
    | none => none
    | some (v, r) => (rowF f r).map (v :: ·)
def rowM (l : List UInt8) : Option (List Val) := rowF l.length l
theorem textM_len : ∀ {l t r : List UInt8}, textM l = some (t, r) → r.length + t.length + 2 ≤ l.length
  | [], t, r, h => by simp [textM] at h
  | [_], t, r, h => by simp [textM] at h
  | b :: c :: l, t, r, h => by
    rw [textM] at h
    split at h
    · split at h
      · simp only [Option.some.injEq, Prod.mk.injEq] at h
        obtain ⟨rfl, rfl⟩ := h
        simp
      · split at h
        · rw [Option.map_eq_some_iff] at h
          obtain ⟨⟨t', r'⟩, h1, h2⟩ := h
          simp only [Prod.mk.injEq] at h2
          obtain ⟨rfl, rfl⟩ := h2
          have := textM_len h1
          simp only [List.length_cons]; omega
        · simp at h
    · rw [Option.map_eq_some_iff] at h
      obtain ⟨⟨t', r'⟩, h1, h2⟩ := h
      simp only [Prod.mk.injEq] at h2
      obtain ⟨rfl, rfl⟩ := h2
      have := textM_len h1
      simp only [List.length_cons] at *; omega
theorem stepM_len {l r : List UInt8} {v : Val} (h : stepM l = some (v, r)) : r.length < l.length ∧ v.s.size + r.length ≤ l.length := by
  cases l with
  | nil => simp [stepM] at h
  | cons t l =>
    rw [stepM] at h
    split at h
    · simp only [Option.some.injEq, Prod.mk.injEq] at h
      obtain ⟨rfl, rfl⟩ := h
      exact ⟨by simp, by show 0 + l.length ≤ (t :: l).length; simp⟩
    · split at h
      · split at h
        · simp at h
        · simp only [Option.some.injEq, Prod.mk.injEq] at h
          obtain ⟨rfl, rfl⟩ := h
          exact ⟨by simp; omega, by show 0 + (l.drop 8).length ≤ (t :: l).length; simp; omega⟩
      · split at h
        · rw [Option.map_eq_some_iff] at h
          obtain ⟨⟨t', r'⟩, h1, h2⟩ := h
          simp only [Prod.mk.injEq] at h2
          obtain ⟨rfl, rfl⟩ := h2
          have := textM_len h1
          have e : (toB t').size = t'.length := by rw [← byts_len, byts_toB]
          simp only [List.length_cons, e]; omega
        · simp at h
theorem rowF_step {f : Nat} {l r : List UInt8} {v : Val} (h : stepM l = some (v, r)) : rowF (f + 1) l = (rowF f r).map (v :: ·) := by
  cases l with
  | nil => simp [stepM] at h
  | cons t l => rw [rowF, h]
theorem rowF_none {f : Nat} {l : List UInt8} (hl : l ≠ []) (h : stepM l = none) : rowF (f + 1) l = none := by
  cases l with
  | nil => exact absurd rfl hl
  | cons t l => rw [rowF, h]

theorem textM_esc : ∀ (a rest : List UInt8), textM (escL a ++ rest) = (textM rest).map fun p => (a ++ p.1, p.2)
  | [], rest => by
    show textM rest = _
    cases textM rest <;> rfl
  | b :: a, rest => by
    have ih := textM_esc a rest
    by_cases hb : b = 0
    · subst hb
      have : escL (0 :: a) ++ rest = 0 :: 255 :: (escL a ++ rest) := by simp [escL]
      rw [this, textM, if_pos rfl, if_neg (by decide), if_pos rfl, ih]
      cases textM rest <;> rfl
    · have : escL (b :: a) ++ rest = b :: (escL a ++ rest) := by simp [escL, hb]
      rw [this]
      cases hx : escL a ++ rest with
      | nil =>
        rw [hx] at ih
        have hr : rest = [] := (List.append_eq_nil_iff.1 hx).2
        subst hr
        rfl
      | cons c r =>
        rw [textM, if_neg hb, ← hx, ih]
        cases textM rest <;> rfl
/-- What begins with a key. -/
def pre (l kl : List UInt8) : Prop := l.take kl.length = kl
theorem step_n0 {l : List UInt8} (h : l.length < 8) : stepM (2 :: l) = none := by
  rw [stepM, if_neg (by decide), if_pos rfl, if_pos h]
end Go.Proofs.YtnhmnfokbinplaaDoor

namespace Go.Proofs.YtnhmnfokbinplaaDoor
open Go Go.RowKit
set_option maxRecDepth 100000
set_option linter.unusedSimpArgs false
set_option linter.unusedVariables false

def rowOut : Option (List Val) → List PV
  | none => [.sl [], .int .i64 2]
  | some r => [.sl (r.map Val.cells), .int .i64 0]
theorem cell_ok (acc : List Val) : okEs 3 (acc.map Val.cells) = true := List.all_eq_true.2 fun e he => by obtain ⟨c, _, rfl⟩ := List.mem_map.1 he; rfl

theorem chr_eq {b : UInt8} {c : Int} (h : (b.toNat : Int) = c) (k : Nat) (hk : k < 256) : c = k ↔ b = UInt8.ofNat k := by
  refine ⟨fun e => ?_, fun e => ?_⟩
  · apply UInt8.toNat_inj.1
    rw [UInt8.toNat_ofNat']; omega
  · rw [← h, e, UInt8.toNat_ofNat']; omega
end Go.Proofs.YtnhmnfokbinplaaDoor
