/- For the quick walk: rules at calls, side conditions, loops. Own work; no condition. -/
import Derived.Test.YtcajncmjlmpkgaaPcAbs20
import Derived.Laws.Strings
import Derived.IntWalk
namespace Go.Proofs.Ytcajncmjlmpkgaa
open Go Go.RowKit
structure Side (c : Unit → Prop) : Prop where
 of : c ()
theorem Asm.mk2 {c k : Unit → Prop} (h : Side c) (g : k ()) : Asm c k := ⟨h.of, g⟩
structure Val where
 k : Int
 n : Int
 s : ByteArray
deriving DecidableEq
def Val.enc (v : Val) : PV := .agg [.int .i64 v.k, .int .i64 v.n, .str v.s]
section
variable {P : Program} {cp : FuncId → List PV → (CR → Prop) → Prop} {cc : FuncId → List AV → List AObj → (AV → List AObj → Prop) → Prop} {f : FuncId} {args : List PV} {aargs : List AV} {H : List AObj}
theorem isCP (_ : PC1 P = cp) {K : CR → Prop} (h : cp f args K) : cp f args K := h
theorem isCC (_ : ACall P = cc) {K : AV → List AObj → Prop} (h : cc f aargs H K) : cc f aargs H K := h
theorem isLP {nt : NT} {lp : LP} (_ : (fun c Q A => Wp P nt (.loop c) Q A) = lp) {c : Code} {Q : Exit → AS → Prop} {A : AS} (h : lp c Q A) : lp c Q A := h
theorem eP (hcp : PC1 P = cp) {X : List PV} {K : CR → Prop} (h : PCall P f args fun r => r = X) (k : ∀ r, X = r → K (.pure r)) : cp f args K := callP hcp h k
theorem eA (hcc : ACall P = cc) {X : List PV} {K : AV → List AObj → Prop} (h : PCall P f args fun r => r = X) (ha : optL pureX aargs = some args) (k : ∀ r, X = r → K (packV (mapX .p r)) H) : cc f aargs H K := callA hcc ha h k
theorem vP (hcp : PC1 P = cp) {X : Val} {K : CR → Prop} (h : PCall P f args fun r => r = [X.enc]) (k : ∀ v, X = v → K (.pure [.agg [.int .i64 v.k, .int .i64 v.n, .str v.s]])) : cp f args K :=
 callP hcp h fun _ e => e ▸ k X rfl
theorem vA (hcc : ACall P = cc) {X : Val} {K : AV → List AObj → Prop} (h : PCall P f args fun r => r = [X.enc]) (ha : optL pureX aargs = some args) (k : ∀ v, X = v → K (.p (.agg [.int .i64 v.k, .int .i64 v.n, .str v.s])) H) : cc f aargs H K :=
 callA hcc ha h fun _ e => e ▸ k X rfl
theorem bP (hcp : PC1 P = cp) {X : Bool} {K : CR → Prop} (h : PCall P f args fun r => r = [.bool X]) (k : ∀ z, X = z → K (.pure [.bool z])) : cp f args K := callP hcp h fun _ e => e ▸ k X rfl
theorem bA (hcc : ACall P = cc) {X : Bool} {K : AV → List AObj → Prop} (h : PCall P f args fun r => r = [.bool X]) (ha : optL pureX aargs = some args) (k : ∀ z, X = z → K (.p (.bool z)) H) : cc f aargs H K := callA hcc ha h fun _ e => e ▸ k X rfl
theorem iP (hcp : PC1 P = cp) {q : IntKind} {X : Int} {K : CR → Prop} (h : PCall P f args fun r => r = [.int q X]) (k : ∀ z, X = z → K (.pure [.int q z])) : cp f args K := callP hcp h fun _ e => e ▸ k X rfl
theorem iA (hcc : ACall P = cc) {q : IntKind} {X : Int} {K : AV → List AObj → Prop} (h : PCall P f args fun r => r = [.int q X]) (ha : optL pureX aargs = some args) (k : ∀ z, X = z → K (.p (.int q z)) H) : cc f aargs H K := callA hcc ha h fun _ e => e ▸ k X rfl
theorem xP (hcp : PC1 P = cp) {X : List PV} {K : CR → Prop} (h : PCall P f args fun r => r = X) (k : K (.pure X)) : cp f args K := callP hcp h fun _ e => e ▸ k
theorem xA (hcc : ACall P = cc) {X : List PV} {K : AV → List AObj → Prop} (h : PCall P f args fun r => r = X) (ha : optL pureX aargs = some args) (k : K (packV (mapX .p X)) H) : cc f aargs H K := callA hcc ha h fun _ e => e ▸ k
theorem lP (hcp : PC1 P = cp) {X : List (List PV)} {K : CR → Prop} (h : PCall P f args fun r => r = [.sl X]) (k : ∀ z, X = z → K (.pure [.sl z])) : cp f args K := callP hcp h fun _ e => e ▸ k X rfl
theorem lA (hcc : ACall P = cc) {X : List (List PV)} {K : AV → List AObj → Prop} (h : PCall P f args fun r => r = [.sl X]) (ha : optL pureX aargs = some args) (k : ∀ z, X = z → K (.p (.sl z)) H) : cc f aargs H K := callA hcc ha h fun _ e => e ▸ k X rfl
end
def subL (T : List (Nat × AV)) : List (Nat × AV) → Prop
 | [] => True
 | (k, x) :: r => look T k = some x ∧ subL T r
def pickX (T : List (Nat × AV)) : List Nat → List (Nat × AV)
 | [] => []
 | k :: r => match look T k with
   | some x => (k, x) :: pickX T r
   | none => pickX T r
def subP (T' T : List (Nat × AV)) : List Nat → Prop
 | [] => True
 | k :: r => look T' k = look T k ∧ subP T' T r
theorem subL_ok {T : List (Nat × AV)} : ∀ {l : List (Nat × AV)}, subL T l → subT T l := by
 intro l
 induction l with
 | nil => intro _ t x h; simp [look] at h
 | cons p l ih =>
   obtain ⟨k, y⟩ := p
   intro h t x hx
   simp only [look] at hx
   split at hx
   · rename_i e; subst e; simp only [Option.some.injEq] at hx; subst hx; exact h.1
   · exact ih h.2 t x hx
theorem subL_cat {T a b : List (Nat × AV)} (h : subL T a) (k : subL T b) : subL T (catX a b) := by
 induction a with
 | nil => exact k
 | cons p a ih => exact ⟨h.1, ih h.2⟩
theorem subL_pick {T T' : List (Nat × AV)} : ∀ {ks : List Nat}, subP T' T ks → subL T' (pickX T ks) := by
 intro ks
 induction ks with
 | nil => intro _; trivial
 | cons k ks ih =>
   intro h
   simp only [pickX]
   split
   · rename_i x hx; exact ⟨by rw [h.1]; exact hx, ih h.2⟩
   · exact ih h.2
theorem subP_refl {T : List (Nat × AV)} : ∀ {ks : List Nat}, subP T T ks := by
 intro ks
 induction ks with
 | nil => trivial
 | cons k ks ih => exact ⟨rfl, ih⟩
theorem Ix.map {α : Type} {enc : α → List PV} {l : List (List PV)} {v : List α} {es : Nat} {n : Int} {K : List PV → Prop} (hl : v.map enc = l) (he : ∀ x, (enc x).length = es) (hes : es ≠ 0) (h0 : 0 ≤ n) (hn : n < v.length) (g : ∀ x, v[n.toNat]? = some x → K (enc x)) : Ix es l n K := by
 have hlt : n.toNat < v.length := by omega
 refine ⟨enc v[n.toNat], h0, ?_, he _, hes, g _ (List.getElem?_eq_getElem hlt)⟩
 rw [← hl, List.getElem?_map, List.getElem?_eq_getElem hlt]; rfl
theorem nc (n : Nat) : @NatCast.natCast Int instNatCastInt n = Int.ofNat n := rfl
theorem nc' (n : Nat) : Int.ofNat n = (n : Int) := rfl
theorem wrap_in {n : Int} (h : -9223372036854775808 ≤ n ∧ n ≤ 9223372036854775807) : IntKind.i64.wrap n = n := IntWalk.i64_in _ (by omega)
theorem sbeq_eq (a b : ByteArray) : sbeq a b = decide (a = b) := by
 rw [sbeq, Bool.eq_iff_iff]
 simp only [beq_iff_eq, decide_eq_true_eq, ByteArray.toList_eq]
 constructor
 · intro h
   have := Array.toList_inj.1 h
   cases a; cases b; simp_all
 · intro h; rw [h]
theorem eqB_val (a b : Int) (c : ByteArray) (a' b' : Int) (c' : ByteArray) :
   eqB [(0, .num .i64), (1, .num .i64), (2, .str)] [.int .i64 a, .int .i64 b, .str c] [.int .i64 a', .int .i64 b', .str c'] = decide ((⟨a, b, c⟩ : Val) = ⟨a', b', c'⟩) := by
 rw [Bool.eq_iff_iff]
 simp [eqB, eq1, sbeq_eq]
end Go.Proofs.Ytcajncmjlmpkgaa
