/- For the quick walk: rules at calls, side conditions, loops. Own work; no condition. -/
import Derived.Test.YtnhmnfokbinplaaAbs20
import Derived.Laws.Strings
namespace Go.Proofs.Ytnhmnfokbinplaa
open Go Go.RowKit

structure Side (c : Unit → Prop) : Prop where
  of : c ()
theorem Asm.mk2 {c k : Unit → Prop} (h : Side c) (g : k ()) : Asm c k := ⟨h.of, g⟩

/-- A value: its kind, its number, its text. -/
structure Val where
  k : Int
  n : Int
  s : ByteArray
deriving DecidableEq
def Val.enc (v : Val) : PV := .agg [.int .i64 v.k, .int .i64 v.n, .str v.s]

section
variable {P : Program} {cp : FuncId → List PV → (List PV → Prop) → Prop} {cc : FuncId → List AV → List AObj → (AV → List AObj → Prop) → Prop} {f : FuncId} {args : List PV} {aargs : List AV} {H : List AObj}
theorem isCP (_ : PC1 P = cp) {K : List PV → Prop} (h : cp f args K) : cp f args K := h
theorem isCC (_ : ACall P = cc) {K : AV → List AObj → Prop} (h : cc f aargs H K) : cc f aargs H K := h
theorem isLP {nt : Nat} {lp : LP} (_ : (fun c Q A => Wp P nt (.loop c) Q A) = lp) {c : Code} {Q : Exit → AS → Prop} {A : AS} (h : lp c Q A) : lp c Q A := h
theorem eP (hcp : PC1 P = cp) {X : List PV} {K : List PV → Prop} (h : PCall P f args fun r => r = X) (k : ∀ r, X = r → K r) : cp f args K := callP hcp h k
theorem eA (hcc : ACall P = cc) {X : List PV} {K : AV → List AObj → Prop} (h : PCall P f args fun r => r = X) (ha : optL pureX aargs = some args) (k : ∀ r, X = r → K (packV (mapX .p r)) H) : cc f aargs H K := callA hcc ha h k
theorem vP (hcp : PC1 P = cp) {X : Val} {K : List PV → Prop} (h : PCall P f args fun r => r = [X.enc]) (k : ∀ v, X = v → K [.agg [.int .i64 v.k, .int .i64 v.n, .str v.s]]) : cp f args K :=
  callP hcp h fun _ e => e ▸ k X rfl
theorem vA (hcc : ACall P = cc) {X : Val} {K : AV → List AObj → Prop} (h : PCall P f args fun r => r = [X.enc]) (ha : optL pureX aargs = some args) (k : ∀ v, X = v → K (.p (.agg [.int .i64 v.k, .int .i64 v.n, .str v.s])) H) : cc f aargs H K :=
  callA hcc ha h fun _ e => e ▸ k X rfl
theorem bP (hcp : PC1 P = cp) {X : Bool} {K : List PV → Prop} (h : PCall P f args fun r => r = [.bool X]) (k : ∀ z, X = z → K [.bool z]) : cp f args K := callP hcp h fun _ e => e ▸ k X rfl
theorem bA (hcc : ACall P = cc) {X : Bool} {K : AV → List AObj → Prop} (h : PCall P f args fun r => r = [.bool X]) (ha : optL pureX aargs = some args) (k : ∀ z, X = z → K (.p (.bool z)) H) : cc f aargs H K := callA hcc ha h fun _ e => e ▸ k X rfl
theorem iP (hcp : PC1 P = cp) {q : IntKind} {X : Int} {K : List PV → Prop} (h : PCall P f args fun r => r = [.int q X]) (k : ∀ z, X = z → K [.int q z]) : cp f args K := callP hcp h fun _ e => e ▸ k X rfl
theorem iA (hcc : ACall P = cc) {q : IntKind} {X : Int} {K : AV → List AObj → Prop} (h : PCall P f args fun r => r = [.int q X]) (ha : optL pureX aargs = some args) (k : ∀ z, X = z → K (.p (.int q z)) H) : cc f aargs H K := callA hcc ha h fun _ e => e ▸ k X rfl
theorem sP (hcp : PC1 P = cp) {X : ByteArray} {K : List PV → Prop} (h : PCall P f args fun r => r = [.str X]) (k : ∀ z, X = z → K [.str z]) : cp f args K := callP hcp h fun _ e => e ▸ k X rfl
theorem sA (hcc : ACall P = cc) {X : ByteArray} {K : AV → List AObj → Prop} (h : PCall P f args fun r => r = [.str X]) (ha : optL pureX aargs = some args) (k : ∀ z, X = z → K (.p (.str z)) H) : cc f aargs H K := callA hcc ha h fun _ e => e ▸ k X rfl
theorem lP (hcp : PC1 P = cp) {X : List (List PV)} {K : List PV → Prop} (h : PCall P f args fun r => r = [.sl X]) (k : ∀ z, X = z → K [.sl z]) : cp f args K := callP hcp h fun _ e => e ▸ k X rfl
theorem lA (hcc : ACall P = cc) {X : List (List PV)} {K : AV → List AObj → Prop} (h : PCall P f args fun r => r = [.sl X]) (ha : optL pureX aargs = some args) (k : ∀ z, X = z → K (.p (.sl z)) H) : cc f aargs H K := callA hcc ha h fun _ e => e ▸ k X rfl
end

/-! ### what is the same -/
theorem sbeq_eq (a b : ByteArray) : sbeq a b = decide (a = b) := by
  rw [sbeq, Bool.eq_iff_iff]
  simp only [beq_iff_eq, decide_eq_true_eq, ByteArray.toList_eq]
  constructor
  · intro h
    have := Array.toList_inj.1 h
    cases a; cases b; simp_all
  · intro h; rw [h]
theorem eqB_val (a b : Int) (c : ByteArray) (a' b' : Int) (c' : ByteArray) :
    eqB [(0, .num .i64), (1, .num .i64), (2, .str)] [.int .i64 a, .int .i64 b, .str c] [.int .i64 a', .int .i64 b', .str c'] = decide ((⟨a, b, c⟩ : Val) = ⟨a', b', c'⟩) := by
  rw [Bool.eq_iff_iff]
  simp [eqB, eq1, sbeq_eq]

end Go.Proofs.Ytnhmnfokbinplaa
