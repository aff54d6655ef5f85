/- rows' keys: eight bytes as a number. Own work; no condition. -/
import Derived.Test.YtnhmnfokbinplaaVec2
import Derived.Test.YtnhmnfokbinplaaAbs24
namespace Go.Proofs.Ytnhmnfokbinplaa
open Go Go.RowKit
set_option maxRecDepth 100000
set_option linter.unusedSimpArgs false
set_option linter.unusedVariables false

def byts (s : ByteArray) : List UInt8 := s.data.toList
theorem byts_len (s : ByteArray) : (byts s).length = s.size := Array.length_toList
theorem byts_get {s : ByteArray} {i : Nat} {b : UInt8} : s[i]? = some b ↔ (byts s)[i]? = some b := by
  by_cases h : i < s.size
  · rw [getElem?_pos s i h, List.getElem?_eq_getElem (by rw [byts_len]; exact h)]
    rfl
  · rw [getElem?_neg s i h, List.getElem?_eq_none (by rw [byts_len]; omega)]
theorem byts_at {s : ByteArray} {i : Nat} (h : i < s.size) : ∃ b, s[i]? = some b := ⟨_, getElem?_pos s i h⟩
/-- Where a place stands in a text. -/
theorem at_cases {s : ByteArray} {i : Int} (h0 : 0 ≤ i) (h1 : i.toNat ≤ s.size) : ∀ z : Int, (s.size : Int) = z → (decide (i < z) = true → i.toNat < s.size) ∧ (decide (i < z) = false → i.toNat = s.size) := by
  intro z h; simp only [decide_eq_true_eq, decide_eq_false_iff_not]; omega
theorem SIx.at_ {s : ByteArray} {i : Int} {K : Int → Prop} (h0 : 0 ≤ i) (h : i.toNat < s.size) (g : ∀ b c, s[i.toNat]? = some b → (b.toNat : Int) = c → K c) : SIx s i K := by
  obtain ⟨b, hb⟩ := byts_at h
  exact ⟨⟨b, h0, hb, fun z hz => g b z hb hz⟩⟩
theorem IxB {s : ByteArray} {L : List (List PV)} (hL : bytesL s = L) {i : Int} {K : List PV → Prop} (h0 : 0 ≤ i) (h : i.toNat < s.size) (g : ∀ b c, s[i.toNat]? = some b → (b.toNat : Int) = c → K [.int .u8 c]) : Ix 1 L i K := by
  obtain ⟨b, hb⟩ := byts_at h
  refine ⟨⟨[.int .u8 b.toNat], h0, ?_, rfl, by decide, g b _ hb rfl⟩⟩
  rw [← hL, bytesL, List.getElem?_map, show s.data.toList[i.toNat]? = some b from byts_get.1 hb]; rfl

def stepN (n : Int) (b : UInt8) : Int := IntKind.u64.wrap ((BitVec.ofInt IntKind.u64.bits (IntKind.u64.wrap (n * 2 ^ min (Int.toNat 8) IntKind.u64.bits)) ||| BitVec.ofInt IntKind.u64.bits (IntKind.u64.wrap (b.toNat : Int))).toNat : Int)
def numL (l : List UInt8) : Int := l.foldl stepN 0
theorem numL_succ {l : List UInt8} {i : Nat} {b : UInt8} (h : l[i]? = some b) : numL (l.take (i + 1)) = stepN (numL (l.take i)) b := by
  rw [numL, List.take_add_one, List.foldl_append, h]; rfl

theorem num_get (s : ByteArray) (hs : s.size ≤ 1048577) : PCall Try.prog 94 [.str s] fun r => r = [.int .u64 (numL (byts s))] := by
  refine PCall.x (nt := 19) (res := [.tmp 2]) mixed tt_ok [] Try.func94 rfl rfl rfl c94 (Nat.le_of_ble_eq_true rfl) ?_
  intro cp cc lp Q' hcp hcc hlp hQ
  repeat' (first
    | (with_reducible refine Nm.mk ?_; intro z hz)
    | (with_reducible refine IfB.mk ?_ ?_ <;> (intro h; cases h))
    | (with_reducible refine Asm.mk ?_ ?_; focus (first | kernel_rfl | decide))
    | (with_reducible refine Asm.mk2 ?_ ?_)
    | ((fail_if_success (with_reducible refine hQ _ ?_)); (fail_if_success (with_reducible refine Side.mk ?_)); (fail_if_success (with_reducible refine isCP hcp ?_)); (fail_if_success (with_reducible refine isCC hcc ?_)); (fail_if_success (with_reducible refine isLP hlp ?_)); (fail_if_success (with_reducible refine Ix.mk ?_)); (fail_if_success (with_reducible refine SIx.mk ?_)); (fail_if_success (with_reducible refine SEx.mk ?_)); (fail_if_success (with_reducible refine EIx.mk ?_)); (fail_if_success (with_reducible refine RIx.mk ?_)); (fail_if_success (with_reducible show False)); (fail_if_success (with_reducible refine hR ?_ _ ?_ ?_ ?_ ?_ ?_)); (fail_if_success (with_reducible refine hR2 ?_ _ ?_ ?_ ?_ ?_ ?_)); cbv))
  refine loopK (ι := Int × Int) mixed tt_ok hcp hcc hlp [0] (fun p => [(3, .p (.int .u64 p.1)), (4, .p (.int .i64 p.2))]) (fun p => (0 ≤ p.2 ∧ p.2.toNat ≤ s.size) ∧ numL ((byts s).take p.2.toNat) = p.1) (fun p => s.size - p.2.toNat) (0, 0) (fun _ => rfl) ⟨by simp, rfl⟩ ⟨rfl, rfl, trivial⟩ ?_
  rintro R ⟨n, i⟩ ⟨⟨hi0, hi1⟩, hn⟩ hR
  replace hi0 : 0 ≤ i := hi0
  replace hi1 : i.toNat ≤ s.size := hi1
  replace hn : numL ((byts s).take i.toNat) = n := hn
  have hie := at_cases hi0 hi1
  repeat' (first
    | (with_reducible refine Nm.mk ?_; intro z hz)
    | (with_reducible refine IfB.mk ?_ ?_ <;> (intro h; cases h))
    | (with_reducible refine Asm.mk ?_ ?_; focus (show (_ : Bool) = true; kernel_rfl))
    | (with_reducible refine SIx.at_ hi0 ((hie _ (by assumption)).1 (by assumption)) ?_; intro b c hb hc)
    | (with_reducible refine Asm.mk2 ?_ ?_)
    | ((fail_if_success (with_reducible refine hQ _ ?_)); (fail_if_success (with_reducible refine Side.mk ?_)); (fail_if_success (with_reducible refine isCP hcp ?_)); (fail_if_success (with_reducible refine isCC hcc ?_)); (fail_if_success (with_reducible refine isLP hlp ?_)); (fail_if_success (with_reducible refine Ix.mk ?_)); (fail_if_success (with_reducible refine SIx.mk ?_)); (fail_if_success (with_reducible refine SEx.mk ?_)); (fail_if_success (with_reducible refine EIx.mk ?_)); (fail_if_success (with_reducible refine RIx.mk ?_)); (fail_if_success (with_reducible show False)); (fail_if_success (with_reducible refine hR ?_ _ ?_ ?_ ?_ ?_ ?_)); (fail_if_success (with_reducible refine hR2 ?_ _ ?_ ?_ ?_ ?_ ?_)); cbv))
  all_goals first
    | exact ⟨by decide⟩
    | (have hl : i.toNat < s.size := by first | exact (hie _ (by assumption)).1 (by assumption) | exact (hie rfl).1 (by assumption)
       have hw : IntKind.i64.wrap (i + 1) = i + 1 := wrap_in (by omega)
       rw [hw] at hz
       subst hz
       refine hR (_, i + 1) _ ⟨⟨by show 0 ≤ i + 1; omega, by show (i + 1).toNat ≤ s.size; omega⟩, ?_⟩ (by show s.size - (i + 1).toNat < s.size - i.toNat; omega) ⟨rfl, rfl, trivial⟩ (by first | exact ⟨rfl, trivial⟩ | exact ⟨rfl, rfl, rfl, trivial⟩) rfl
       show numL ((byts s).take (i + 1).toNat) = _
       rw [show (i + 1).toNat = i.toNat + 1 by omega, numL_succ (byts_get.1 hb), hn]
       clear hR hQ hcp hcc hlp
       subst_vars
       rfl)
    | (have hl : i.toNat = s.size := by first | exact (hie _ (by assumption)).2 (by assumption) | exact (hie rfl).2 (by assumption)
       refine hQ _ ?_
       rw [← hn, List.take_of_length_le (by rw [byts_len]; omega)])
theorem get_c (s : ByteArray) (hs : s.size ≤ 1048577) : PCall Try.prog 91 [.str s] fun r => r = [.int .u64 (numL (byts s))] := by
  refine PCall.x (nt := 20) (res := [.tmp 2]) mixed tt_ok [] Try.func91 rfl rfl rfl c91 (Nat.le_of_ble_eq_true rfl) ?_
  intro cp cc lp Q' hcp hcc hlp hQ
  repeat' (first
    | (with_reducible refine Nm.mk ?_; intro z hz)
    | (with_reducible refine IfB.mk ?_ ?_ <;> (intro h; cases h))
    | (with_reducible refine Asm.mk ?_ ?_; focus (first | (show (_ : Bool) = true; kernel_rfl) | (simp only [maxLen]; omega)))
    | (with_reducible refine Asm.mk2 ?_ ?_)
    | ((fail_if_success (with_reducible refine hQ _ ?_)); (fail_if_success (with_reducible refine Side.mk ?_)); (fail_if_success (with_reducible refine isCP hcp ?_)); (fail_if_success (with_reducible refine isCC hcc ?_)); (fail_if_success (with_reducible refine isLP hlp ?_)); (fail_if_success (with_reducible refine Ix.mk ?_)); (fail_if_success (with_reducible refine SIx.mk ?_)); (fail_if_success (with_reducible refine SEx.mk ?_)); (fail_if_success (with_reducible refine EIx.mk ?_)); (fail_if_success (with_reducible refine RIx.mk ?_)); (fail_if_success (with_reducible show False)); (fail_if_success (with_reducible refine hR ?_ _ ?_ ?_ ?_ ?_ ?_)); (fail_if_success (with_reducible refine hR2 ?_ _ ?_ ?_ ?_ ?_ ?_)); cbv))
  rename_i L hL
  have hz2 : (s.size : Int) = z := by rw [← hz, ← hL, bytesL, List.length_map, Array.length_toList]; rfl
  clear hz
  generalize z = zz at *
  refine loopK (ι := Int × Int) mixed tt_ok hcp hcc hlp [0, 7, 8] (fun p => [(3, .p (.int .u64 p.1)), (9, .p (.int .i64 p.2))]) (fun p => (0 ≤ p.2 ∧ p.2.toNat ≤ s.size) ∧ numL ((byts s).take p.2.toNat) = p.1) (fun p => s.size - p.2.toNat) (0, 0) (fun _ => rfl) ⟨by simp, rfl⟩ ⟨rfl, rfl, trivial⟩ ?_
  rintro R ⟨n, i⟩ ⟨⟨hi0, hi1⟩, hn⟩ hR
  replace hi0 : 0 ≤ i := hi0
  replace hi1 : i.toNat ≤ s.size := hi1
  replace hn : numL ((byts s).take i.toNat) = n := hn
  have hie := fun (_ : zz = zz) => at_cases hi0 hi1 zz hz2
  repeat' (first
    | (with_reducible refine Nm.mk ?_; intro z hz)
    | (with_reducible refine IfB.mk ?_ ?_ <;> (intro h; cases h))
    | (with_reducible refine Asm.mk ?_ ?_; focus (show (_ : Bool) = true; kernel_rfl))
    | (with_reducible refine IxB hL hi0 ((hie rfl).1 (by assumption)) ?_; intro b c hb hc)
    | (with_reducible refine Asm.mk2 ?_ ?_)
    | ((fail_if_success (with_reducible refine hQ _ ?_)); (fail_if_success (with_reducible refine Side.mk ?_)); (fail_if_success (with_reducible refine isCP hcp ?_)); (fail_if_success (with_reducible refine isCC hcc ?_)); (fail_if_success (with_reducible refine isLP hlp ?_)); (fail_if_success (with_reducible refine Ix.mk ?_)); (fail_if_success (with_reducible refine SIx.mk ?_)); (fail_if_success (with_reducible refine SEx.mk ?_)); (fail_if_success (with_reducible refine EIx.mk ?_)); (fail_if_success (with_reducible refine RIx.mk ?_)); (fail_if_success (with_reducible show False)); (fail_if_success (with_reducible refine hR ?_ _ ?_ ?_ ?_ ?_ ?_)); (fail_if_success (with_reducible refine hR2 ?_ _ ?_ ?_ ?_ ?_ ?_)); cbv))
  all_goals first
    | exact ⟨by decide⟩
    | (have hl : i.toNat < s.size := by first | exact (hie _ (by assumption)).1 (by assumption) | exact (hie rfl).1 (by assumption)
       have hw : IntKind.i64.wrap (i + 1) = i + 1 := wrap_in (by omega)
       rw [hw] at hz
       subst hz
       refine hR (_, i + 1) _ ⟨⟨by show 0 ≤ i + 1; omega, by show (i + 1).toNat ≤ s.size; omega⟩, ?_⟩ (by show s.size - (i + 1).toNat < s.size - i.toNat; omega) ⟨rfl, rfl, trivial⟩ (by first | exact ⟨rfl, trivial⟩ | exact ⟨rfl, rfl, rfl, trivial⟩) rfl
       show numL ((byts s).take (i + 1).toNat) = _
       rw [show (i + 1).toNat = i.toNat + 1 by omega, numL_succ (byts_get.1 hb), hn]
       clear hR hQ hcp hcc hlp
       subst_vars
       rfl)
    | (have hl : i.toNat = s.size := by first | exact (hie _ (by assumption)).2 (by assumption) | exact (hie rfl).2 (by assumption)
       refine hQ _ ?_
       rw [← hn, List.take_of_length_le (by rw [byts_len]; omega)])
end Go.Proofs.Ytnhmnfokbinplaa
