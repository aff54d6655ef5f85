/- strings. Own work; no condition. -/
import Derived.Test.YtnhmnfokbinplaaDoorRa45
import Derived.Test.YtnhmnfokbinplaaDoorRa44
namespace Go.Proofs.YtnhmnfokbinplaaDoor
open Go Go.RowKit
set_option maxRecDepth 100000
set_option linter.unusedSimpArgs false
set_option linter.unusedVariables false

theorem count_0 (l : List UInt8) : Lib.count l [0] ≤ l.length := by
  induction l with
  | nil => simp [Lib.count_one]
  | cons b r ih => rw [Lib.count_one] at ih ⊢; simp only [List.count_cons, List.length_cons]; split <;> omega
theorem escL_no {l : List UInt8} (h : l.count 0 = 0) : escL l = l := by
  induction l with
  | nil => rfl
  | cons b r ih =>
    rw [List.count_cons] at h
    have hb : ¬ b = 0 := by rintro rfl; simp at h
    rw [escL, List.flatMap_cons, if_neg hb, show r.flatMap (fun b => if b = 0 then [(0 : UInt8), 255] else [b]) = escL r from rfl, ih (by omega)]; rfl
theorem escL_app (a b : List UInt8) : escL (a ++ b) = escL a ++ escL b := by simp [escL]
theorem idx_0 : ∀ l : List UInt8, 0 < l.count 0 → ∃ pre post, l = pre ++ 0 :: post ∧ pre.count 0 = 0 ∧ Lib.index l [0] = (pre.length : Int)
  | [], h => by simp at h
  | b :: r, h => by
    rw [Lib.index_one]
    by_cases hb : b = 0
    · subst hb
      exact ⟨[], r, rfl, rfl, by simp [Lib.indexByte]⟩
    · have hbb : (b == 0) = false := by simpa using hb
      rw [List.count_cons, hbb] at h
      obtain ⟨pre, post, h1, h2, h3⟩ := idx_0 r (by simpa using h)
      rw [Lib.index_one] at h3
      refine ⟨b :: pre, post, by rw [h1]; rfl, by rw [List.count_cons, hbb, h2]; rfl, ?_⟩
      have : ¬ ((pre.length : Int) = -1) := by omega
      simp [Lib.indexByte, hbb, h3, this]
theorem replaceK_0 : ∀ (k : Nat) (l : List UInt8), l.count 0 = k → Lib.replaceK [0] [0, 255] k l = escL l
  | 0, l, h => by rw [Lib.replaceK, escL_no h]
  | k + 1, l, h => by
    obtain ⟨pre, post, rfl, h2, h3⟩ := idx_0 l (by omega)
    rw [Lib.replaceK_hit _ _ _ _ _ h3, escL_app, escL_no h2]
    have hk : post.count 0 = k := by
      rw [List.count_append, h2, List.count_cons] at h
      simpa using h
    rw [show (pre ++ 0 :: post).take pre.length = pre by simp, show (pre ++ 0 :: post).drop (pre.length + [(0 : UInt8)].length) = post by simp, replaceK_0 k post hk]
    simp [escL]
theorem replaceAll_0 (l : List UInt8) : Lib.replaceAll l [0] [0, 255] = escL l := by
  rw [Lib.replaceAll, Lib.replace, if_neg (by decide), Lib.replaceNum, if_pos (.inl (by decide))]
  exact replaceK_0 _ l (by rw [Lib.count_one])
theorem rep_c (s : ByteArray) (hs : s.size ≤ 1048577) : PCall Tryd.prog 18 [.str s, .str ⟨#[0]⟩, .str ⟨#[0, 255]⟩] fun r => r = [.str (toB (escL (byts s)))] := by
  refine ⟨fun m w vals hm hv => ?_⟩
  obtain ⟨v, v1, v2, hvl, h0, h1, h2⟩ : ∃ v v1 v2, vals = [v, v1, v2] ∧ RP m (.str s) v ∧ RP m (.str ⟨#[0]⟩) v1 ∧ RP m (.str ⟨#[0, 255]⟩) v2 := by
    match vals, hv with
    | [v, v1, v2], hv => exact ⟨v, v1, v2, rfl, hv.2 0 _ v rfl rfl, hv.2 1 _ v1 rfl rfl, hv.2 2 _ v2 rfl rfl⟩
  subst hvl
  cases h0
  cases h1
  cases h2
  have hc := count_0 s.data.toList
  have hlen : s.size + Lib.countB s ⟨#[0]⟩ * (⟨#[0, 255]⟩ : ByteArray).size ≤ 140737488355328 := by
    have e : Lib.countB s ⟨#[0]⟩ = Lib.count s.data.toList [0] := rfl
    have e2 : (⟨#[0, 255]⟩ : ByteArray).size = 2 := rfl
    have e3 : s.data.toList.length = s.size := Array.length_toList
    rw [e, e2]; omega
  refine Runs.of_calls (by kernel_rfl) ((Tryd.strings_ReplaceAll s ⟨#[0]⟩ ⟨#[0, 255]⟩ w rfl hlen).mono ?_)
  rintro e w' ⟨rfl, hb⟩
  refine ⟨_, [.str (toB (escL (byts s)))], m, rfl, ?_, fun _ _ _ h => h, fun b o v h => ?_, fun _ _ _ h => .inl h, hb, rfl⟩
  · rw [show (Lib.replaceAll s.data.toList (⟨#[0]⟩ : ByteArray).data.toList (⟨#[0, 255]⟩ : ByteArray).data.toList) = escL (byts s) from replaceAll_0 _]
    exact .p (.str _)
  · have h1 := hm b o v h
    rw [hb.cell (cell?_lt h1)]; exact h1
end Go.Proofs.YtnhmnfokbinplaaDoor
