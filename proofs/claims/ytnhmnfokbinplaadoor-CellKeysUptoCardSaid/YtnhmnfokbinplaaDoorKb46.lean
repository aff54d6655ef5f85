/- strings; strings; rows' keys: cell. Own work; no condition. -/
import Derived.Test.YtnhmnfokbinplaaDoorKb45
import Derived.Test.YtnhmnfokbinplaaDoorKb44
import Derived.Test.YtnhmnfokbinplaaDoorKb43
import Derived.Lib.Bytealg
import Derived.Test.YtnhmnfokbinplaaDoorAbsX
namespace Go.Proofs.YtnhmnfokbinplaaDoor
open Go Go.RowKit
set_option maxRecDepth 100000
set_option linter.unusedSimpArgs false
set_option linter.unusedVariables false

theorem count_0 (l : List UInt8) : Lib.count l [0] ≤ l.length := by
  induction l with
  | nil => simp [Lib.count_one]
  | cons b r ih => rw [Lib.count_one] at ih ⊢; simp only [List.count_cons, List.length_cons]; split <;> omega
theorem escL_no {l : List UInt8} (h : l.count 0 = 0) : escL l = l := by
  induction l with
  | nil => rfl
  | cons b r ih =>
    rw [List.count_cons] at h
    have hb : ¬ b = 0 := by rintro rfl; simp at h
    rw [escL, List.flatMap_cons, if_neg hb, show r.flatMap (fun b => if b = 0 then [(0 : UInt8), 255] else [b]) = escL r from rfl, ih (by omega)]; rfl
theorem escL_cat (a b : List UInt8) : escL (a ++ b) = escL a ++ escL b := by simp [escL]
theorem idx_0 : ∀ l : List UInt8, 0 < l.count 0 → ∃ pre post, l = pre ++ 0 :: post ∧ pre.count 0 = 0 ∧ Lib.index l [0] = (pre.length : Int)
  | [], h => by simp at h
  | b :: r, h => by
    rw [Lib.index_one]
    by_cases hb : b = 0
    · subst hb
      exact ⟨[], r, rfl, rfl, by simp [Lib.indexByte]⟩
    · have hbb : (b == 0) = false := by simpa using hb
      rw [List.count_cons, hbb] at h
      obtain ⟨pre, post, h1, h2, h3⟩ := idx_0 r (by simpa using h)
      rw [Lib.index_one] at h3
      refine ⟨b :: pre, post, by rw [h1]; rfl, by rw [List.count_cons, hbb, h2]; rfl, ?_⟩
      have : ¬ ((pre.length : Int) = -1) := by omega
      simp [Lib.indexByte, hbb, h3, this]
theorem replaceK_0 : ∀ (k : Nat) (l : List UInt8), l.count 0 = k → Lib.replaceK [0] [0, 255] k l = escL l
  | 0, l, h => by rw [Lib.replaceK, escL_no h]
  | k + 1, l, h => by
    obtain ⟨pre, post, rfl, h2, h3⟩ := idx_0 l (by omega)
    rw [Lib.replaceK_hit _ _ _ _ _ h3, escL_cat, escL_no h2]
    have hk : post.count 0 = k := by
      rw [List.count_append, h2, List.count_cons] at h
      simpa using h
    rw [show (pre ++ 0 :: post).take pre.length = pre by simp, show (pre ++ 0 :: post).drop (pre.length + [(0 : UInt8)].length) = post by simp, replaceK_0 k post hk]
    simp [escL]
theorem replaceAll_0 (l : List UInt8) : Lib.replaceAll l [0] [0, 255] = escL l := by
  rw [Lib.replaceAll, Lib.replace, if_neg (by decide), Lib.replaceNum, if_pos (.inl (by decide))]
  exact replaceK_0 _ l (by rw [Lib.count_one])
theorem rep_c (s : ByteArray) (hs : s.size ≤ 1048577) : PCall Tryd.prog 18 [.str s, .str ⟨#[0]⟩, .str ⟨#[0, 255]⟩] fun r => r = [.str (toB (escL (byts s)))] := by
  refine ⟨fun m w vals hm hv => ?_⟩
  obtain ⟨v, v1, v2, hvl, h0, h1, h2⟩ : ∃ v v1 v2, vals = [v, v1, v2] ∧ RP m (.str s) v ∧ RP m (.str ⟨#[0]⟩) v1 ∧ RP m (.str ⟨#[0, 255]⟩) v2 := by
    match vals, hv with
    | [v, v1, v2], hv => exact ⟨v, v1, v2, rfl, hv.2 0 _ v rfl rfl, hv.2 1 _ v1 rfl rfl, hv.2 2 _ v2 rfl rfl⟩
  subst hvl
  cases h0
  cases h1
  cases h2
  have hc := count_0 s.data.toList
  have hlen : s.size + Lib.countB s ⟨#[0]⟩ * (⟨#[0, 255]⟩ : ByteArray).size ≤ 140737488355328 := by
    have e : Lib.countB s ⟨#[0]⟩ = Lib.count s.data.toList [0] := rfl
    have e2 : (⟨#[0, 255]⟩ : ByteArray).size = 2 := rfl
    have e3 : s.data.toList.length = s.size := Array.length_toList
    rw [e, e2]; omega
  refine Runs.of_calls (by kernel_rfl) ((Tryd.strings_ReplaceAll s ⟨#[0]⟩ ⟨#[0, 255]⟩ w rfl hlen).mono ?_)
  rintro e w' ⟨rfl, hb⟩
  refine ⟨_, [.str (toB (escL (byts s)))], m, rfl, ?_, fun _ _ _ h => h, fun b o v h => ?_, fun _ _ _ h => .inl h, hb, rfl⟩
  · rw [show (Lib.replaceAll s.data.toList (⟨#[0]⟩ : ByteArray).data.toList (⟨#[0, 255]⟩ : ByteArray).data.toList) = escL (byts s) from replaceAll_0 _]
    exact .p (.str _)
  · have h1 := hm b o v h
    rw [hb.cell (cell?_lt h1)]; exact h1
end Go.Proofs.YtnhmnfokbinplaaDoor

namespace Go.Proofs
open Go.RowKit Go.Proofs.YtnhmnfokbinplaaDoor

set_option maxHeartbeats 1000000 in
set_option maxRecDepth 100000 in
theorem Tryd.IndexByte0 (s : ByteArray) (c : Int) (w : World) :
    Calls Tryd.prog 32 #[.string s, .int .u8 c] w fun e w' => e = .returned (.int .i64 (Lib.indexByte s.data.toList c.toNat.toUInt8)) ∧ w' = w := by
  have mixed : Tryd.prog.follows .mixedOrders = true := by kernel_rfl
  have e42 : ∀ args w, (callFunc 42 args).run Tryd.prog w = .ok (.enter 42 args) w := enters_of Tryd.func42 (by kernel_rfl) rfl
  go_enter Tryd.func32, Tryd.ntmps32
  go_wp2
  rw [run_callFunc_extern Tryd.func50 (by kernel_rfl) (by kernel_rfl) (by kernel_rfl) (e := Extern.BytealgIndexByte.indexByte) (by kernel_rfl)]
  rw [Lib.run_indexByteString]
  simp only [Result.andThen]
  rw [Oper.upon_value]
  go_wp2
  go_ret
  exact ⟨rfl, rfl⟩

theorem textM_cons {b : UInt8} (hb : ¬ b = 0) (l : List UInt8) : textM (b :: l) = (textM l).map fun p => (b :: p.1, p.2) := by
  cases l with
  | nil => rfl
  | cons c r => rw [textM, if_neg hb]
/-- Where the first zero stands. -/
theorem idx_cases (l : List UInt8) : (Lib.indexByte l 0 = -1 ∧ textM l = none) ∨ ∃ pre post, l = pre ++ 0 :: post ∧ Lib.indexByte l 0 = (pre.length : Int) ∧ textM l = (textM (0 :: post)).map fun p => (pre ++ p.1, p.2) := by
  induction l with
  | nil => exact .inl ⟨rfl, rfl⟩
  | cons b l ih =>
    by_cases hb : b = 0
    · subst hb
      refine .inr ⟨[], l, rfl, by simp [Lib.indexByte], ?_⟩
      cases textM (0 :: l) <;> rfl
    · have hbb : (b == 0) = false := by simpa using hb
      rcases ih with ⟨h1, h2⟩ | ⟨pre, post, h1, h2, h3⟩
      · refine .inl ⟨by simp [Lib.indexByte, hbb, h1], ?_⟩
        rw [textM_cons hb, h2]; rfl
      · refine .inr ⟨b :: pre, post, by rw [h1]; rfl, ?_, ?_⟩
        · have : ¬ ((pre.length : Int) = -1) := by omega
          simp [Lib.indexByte, hbb, h2, this]
        · rw [textM_cons hb, h3, Option.map_map]; rfl

def textV : Option (List UInt8 × List UInt8) → Value
  | none => .tuple #[.string ⟨#[]⟩, .string ⟨#[]⟩, .bool false]
  | some (t, r) => .tuple #[.string ⟨t.toArray⟩, .string ⟨r.toArray⟩, .bool true]
def strLen : Value → Nat
  | .string s => s.size
  | _ => 0

set_option maxHeartbeats 4000000 in
set_option maxRecDepth 1000000 in
theorem Tryd.text_walk (s : ByteArray) (w : World) (hs : s.size ≤ 4000000) :
    Calls Tryd.prog 22 #[.string s] w fun e w' => e = .returned (textV (textM (byts s))) ∧ Below w.heap.size w w' := by
  go_enter Tryd.func22, Tryd.ntmps22
  go_wp2
  go_loopw [0] (fun v wr => ∃ (q : ByteArray) (acc : List UInt8), v = .string q ∧ Lib.IsBuilder 55 5 w.heap.size w.heap.size (Lib.byteCells acc) wr ∧ Below w.heap.size w wr ∧ textM (byts s) = ((textM (byts q)).map fun p => (acc ++ p.1, p.2)) ∧ acc.length + q.size ≤ s.size) (fun v _ => strLen v)
  case atStart =>
    refine ⟨s, [], rfl, Lib.fresh_isBuilder 55 5 w, (Below.refl _ w).alloc (Nat.le_refl _) _, ?_, by simp⟩
    cases textM (byts s) <;> rfl
  case round =>
    obtain ⟨q, acc, rfl, hI, hbw, htx, hsz⟩ := hrel
    have hix : ∀ n : Int, Lib.indexByte (byts q) 0 = n → ∀ W, Calls Tryd.prog 32 #[.string q, .int .u8 0] W fun e w' => e = .returned (.int .i64 n) ∧ w' = W := by
      rintro n rfl W; exact Tryd.IndexByte0 q 0 W
    have hcase : textM (byts q) = none → textM (byts s) = none := fun h => by rw [htx, h]; rfl
    have hql := byts_len q
    rcases idx_cases (byts q) with ⟨h1, h2⟩ | ⟨pre, post, h1, h2, h3⟩
    · go_wp2_with (go_at_call 32; refine (hix _ h1 _).mono ?_)
      rintro e W1 ⟨rfl, rfl⟩
      go_wp2
      go_ret3
      rw [hcase h2]
      exact ⟨rfl, hbw⟩
    · rw [h1, List.length_append, List.length_cons] at hql
      cases post with
      | nil =>
        have hlt : q.size ≤ pre.length + 1 := by simp at hql; omega
        go_wp2_with (go_at_call 32; refine (hix _ h2 _).mono ?_)
        rintro e W1 ⟨rfl, rfl⟩
        go_wp2
        go_ret3
        rw [hcase (by rw [h3]; rfl)]
        exact ⟨rfl, hbw⟩
      | cons c post =>
        have hlt : ¬ q.size ≤ pre.length + 1 := by simp at hql; omega
        go_wp2_with (go_at_call 32; refine (hix _ h2 _).mono ?_)
        rintro e W1 ⟨rfl, rfl⟩
        go_wp2_with (go_at_call 33; refine (Tryd.Builder_WriteString w.heap.size w.heap.size _ _ _ hI (by rw [Lib.byteCells_length, ← byts_len (q.extract _ _), byts_ext, h1]; simp; simp at hql; omega) hbw.size).mono ?_)
        rintro e W2 ⟨rfl, hI2, hbw2⟩
        have hcq : q[pre.length + 1]? = some c := byts_get.2 (by rw [h1]; simp)
        have hst : Lib.byteCells acc ++ Lib.strCells (q.extract 0 pre.length) = Lib.byteCells (acc ++ pre) := by
          rw [Lib.byteCells_append, Lib.strCells_eq]
          show _ ++ Lib.byteCells (byts (q.extract 0 pre.length)) = _
          rw [byts_ext, h1]; simp
        rw [hst] at hI2
        have hqz : pre.length + (post.length + 2) = q.size := by simp at hql; omega
        have hqc : ∀ (h : pre.length + 1 < q.size), q[pre.length + 1] = c := fun h => by rw [getElem?_pos q _ h] at hcq; simpa using hcq
        have hrest : byts (q.extract (pre.length + 2) q.size) = post := by
          rw [byts_ext, h1, List.take_of_length_le (by simp; omega), List.drop_append]
          simp
        have hrs : (q.extract (pre.length + 2) q.size).size = post.length := by rw [← byts_len, hrest]
        have hBs : w.heap.size ≤ W2.heap.size := (hbw.trans hbw2).size
        have hl2 : (Lib.byteCells (acc ++ pre)).length + 1 ≤ 140737488355328 := by rw [Lib.byteCells_length, List.length_append]; omega
        go_wp2_with (first | (go_at_call 34; refine (Tryd.Builder_String_any w.heap.size w.heap.size (acc ++ pre) _ (Or.inr hI2) hBs).mono ?_) | (go_at_call 35; refine (Tryd.Builder_WriteByte w.heap.size w.heap.size (Lib.byteCells (acc ++ pre)) 0 _ (Or.inr hI2) hl2 hBs).mono ?_))
        · rintro e W3 ⟨rfl, hbw3⟩
          go_wp2
          go_ret3
          have hc1 : c = 1 := by
            rename_i ha hh
            rw [beq_iff_eq] at hh
            exact UInt8.toNat_inj.1 (by rw [show c.toNat = 1 by omega]; rfl)
          refine ⟨?_, (hbw.trans hbw2).trans hbw3⟩
          rw [htx, h3, hc1, textM, if_pos rfl, if_pos rfl]
          simp [textV, toB, toB_of hrest]
        · rintro e W3 ⟨rfl, hI3, hbw3⟩
          go_wp2
          have hc1 : c = 255 := by
            rename_i ha hb hh
            rw [beq_iff_eq] at hh
            exact UInt8.toNat_inj.1 (by rw [show c.toNat = 255 by omega]; rfl)
          go_roundw
          case rel =>
            refine ⟨_, acc ++ pre ++ [0], rfl, ?_, (hbw.trans hbw2).trans hbw3, ?_, ?_⟩
            · rw [Lib.byteCells_append]; exact Or.inr hI3
            · rw [htx, h3, hc1, textM, if_pos rfl, if_neg (by decide), if_pos rfl, hrest]
              cases textM post <;> simp
            · rw [hrs, List.length_append, List.length_append, List.length_singleton]; omega
          case measure =>
            show (q.extract (pre.length + 2) q.size).size < q.size
            omega
        · go_ret3
          rename_i ha hb hd
          have hc1 : ¬ c = 1 := by rintro rfl; simp at hb
          have hc2 : ¬ c = 255 := by rintro rfl; simp at hd
          refine ⟨?_, hbw.trans hbw2⟩
          rw [htx, h3, textM, if_pos rfl, if_neg hc1, if_neg hc2]
          rfl
end Go.Proofs

namespace Go.Proofs.YtnhmnfokbinplaaDoor
open Go Go.RowKit
set_option maxRecDepth 100000
set_option linter.unusedSimpArgs false
set_option linter.unusedVariables false

def textP : Option (List UInt8 × List UInt8) → List PV
  | none => [.str ⟨#[]⟩, .str ⟨#[]⟩, .bool false]
  | some (t, r) => [.str (toB t), .str (toB r), .bool true]
theorem text_c (s : ByteArray) (hs : s.size ≤ 4000000) : PCall Tryd.prog 22 [.str s] fun r => r = textP (textM (byts s)) := by
  refine ⟨fun m w vals hm hv => ?_⟩
  obtain ⟨v, hvl, hv2⟩ : ∃ v, vals = [v] ∧ RP m (.str s) v := by
    match vals, hv with
    | [v], hv => exact ⟨v, rfl, hv.2 0 _ v rfl rfl⟩
  subst hvl
  cases hv2 with
  | str =>
    refine Runs.of_calls (by kernel_rfl) ((Tryd.text_walk s w hs).mono ?_)
    rintro e w' ⟨rfl, hb⟩
    refine ⟨_, textP (textM (byts s)), m, rfl, ?_, fun _ _ _ h => h, fun b o v h => ?_, fun _ _ _ h => .inl h, hb, rfl⟩
    · cases textM (byts s) with
      | none => exact .tup rfl (fun i c v hc hv => by
          match i, hc, hv with
          | 0, hc, hv => cases hc; cases hv; exact .p (.str _)
          | 1, hc, hv => cases hc; cases hv; exact .p (.str _)
          | 2, hc, hv => cases hc; cases hv; exact .p (.bool _))
      | some p => exact .tup rfl (fun i c v hc hv => by
          match i, hc, hv with
          | 0, hc, hv => cases hc; cases hv; exact .p (.str _)
          | 1, hc, hv => cases hc; cases hv; exact .p (.str _)
          | 2, hc, hv => cases hc; cases hv; exact .p (.bool _))
    · have h1 := hm b o v h
      rw [hb.cell (cell?_lt h1)]; exact h1

section
variable {P : Program} {cc : FuncId → List AV → List AObj → (AV → List AObj → Prop) → Prop} {f : FuncId} {aargs : List AV} {H : List AObj}
theorem txA (hcc : ACall P = cc) {y : ByteArray} {K : AV → List AObj → Prop} (h : PCall P f [.str y] fun r => r = textP (textM (byts y))) (ha : optL pureX aargs = some [.str y])
    (k0 : textM (byts y) = none → K (.tup [.p (.str ⟨#[]⟩), .p (.str ⟨#[]⟩), .p (.bool false)]) H) (k1 : ∀ t r : ByteArray, textM (byts y) = some (byts t, byts r) → K (.tup [.p (.str t), .p (.str r), .p (.bool true)]) H) : cc f aargs H K := by
  cases ht : textM (byts y) with
  | none =>
    rw [ht] at h
    exact xA hcc h ha (k0 ht)
  | some p =>
    rw [ht] at h
    exact xA hcc h ha (k1 (toB p.1) (toB p.2) ht)
end

theorem step_1 (l : List UInt8) : stepM (1 :: l) = some (Val.zero, l) := by rw [stepM, if_pos rfl]
theorem step_2 {l : List UInt8} (h : ¬ l.length < 8) : stepM (2 :: l) = some (num (backN (numL (l.take 8))), l.drop 8) := by
  rw [stepM, if_neg (by decide), if_pos rfl, if_neg h]; rfl
theorem step_3 {l : List UInt8} {t r : ByteArray} (h : textM l = some (byts t, byts r)) : stepM (3 :: l) = some (str t, byts r) := by
  rw [stepM, if_neg (by decide), if_neg (by decide), if_pos rfl, h]; rfl
theorem step_30 {l : List UInt8} (h : textM l = none) : stepM (3 :: l) = none := by
  rw [stepM, if_neg (by decide), if_neg (by decide), if_pos rfl, h]; rfl
theorem step_e {b : UInt8} (l : List UInt8) (h1 : ¬ b = 1) (h2 : ¬ b = 2) (h3 : ¬ b = 3) : stepM (b :: l) = none := by
  rw [stepM, if_neg h1, if_neg h2, if_neg h3]

set_option maxHeartbeats 2000000 in
theorem row_c (s0 : ByteArray) (hs0 : s0.size ≤ 4000000) : PCall Tryd.prog 9 [.str s0] fun r => r = rowOut (rowM (byts s0)) := by
  refine PCall.x (nt := 55) (res := [.tmp 2, .tmp 3]) mixed tt_ok [] Tryd.func9 rfl rfl rfl c9 (Nat.le_of_ble_eq_true rfl) ?_
  intro cp cc lp Q' hcp hcc hlp hQ
  repeat' (first
    | (with_reducible refine Nm.mk ?_; intro z hz)
    | (with_reducible refine IfB.mk ?_ ?_ <;> (intro h; cases h))
    | (with_reducible refine Two.l ?_; refine Asm.mk ?_ ?_; focus (decide +kernel))
    | (with_reducible refine Two.r ?_)
    | (with_reducible refine TwoT.r ?_)
    | (with_reducible refine Asm.mk ?_ ?_; focus (show (_ : Bool) = true; kernel_rfl))
    | (with_reducible refine Asm.mk2 ?_ ?_)
    | ((fail_if_success (with_reducible first | refine hQ _ ?_ | refine Side.mk ?_ | refine isCP hcp ?_ | refine isCC hcc ?_ | refine isLP hlp ?_ | refine Ix.mk ?_ | refine SIx.mk ?_ | refine SEx.mk ?_ | refine EIx.mk ?_ | refine RIx.mk ?_ | show False | refine hR ?_ _ ?_ ?_ ?_ ?_ ?_ | refine hR2 ?_ _ ?_ ?_ ?_ ?_ ?_)); cbv))
  refine mintT hlp 3 4 rfl ?_
  refine loopT (ι := ByteArray × List (List PV) × Nat × List Val × Nat) mixed tt_ok hcp hcc hlp [] (fun p => [(0, .p (.str p.1)), (4, .tok 0 p.2.1)]) (fun p => [.spare p.2.2.1 3]) (fun p => p.2.1.length = p.2.2.1 ∧ p.2.2.2.1.map Val.cells = p.2.1 ∧ p.1.size ≤ p.2.2.2.2 ∧ p.1.size + p.2.2.2.1.length ≤ s0.size ∧ rowM (byts s0) = (rowF p.2.2.2.2 (byts p.1)).map (p.2.2.2.1 ++ ·)) (fun p => p.1.size) (s0, [], 0, [], s0.size) 1 (fun _ => rfl) ⟨rfl, rfl, Nat.le_refl _, Nat.le_refl _, by show rowF _ _ = _; rw [byts_len]; cases rowF s0.size (byts s0) <;> rfl⟩ ⟨rfl, rfl, trivial⟩ rfl ?_
  rintro R ⟨s, L, m, acc, f⟩ ⟨hm, hL, hf, hsz, hM⟩ hR
  replace hm : L.length = m := hm
  replace hL : acc.map Val.cells = L := hL
  replace hf : s.size ≤ f := hf
  replace hsz : s.size + acc.length ≤ s0.size := hsz
  replace hM : rowM (byts s0) = (rowF f (byts s)).map (acc ++ ·) := hM
  have hok : okEs 3 L = true := by rw [← hL]; exact cell_ok acc
  have hLl : L.length = acc.length := by rw [← hL, List.length_map]
  obtain ⟨l, hl⟩ : ∃ l, byts s = l := ⟨_, rfl⟩
  have hll : l.length = s.size := by rw [← hl, byts_len]
  rw [hl] at hM
  have hne : (!sbeq s ⟨#[]⟩) = true → ∃ b tl, l = b :: tl := by
    intro h
    cases l with
    | nil => rw [toB_of hl] at h; simp [sbeq_eq, toB] at h
    | cons b tl => exact ⟨b, tl, rfl⟩
  have h0s : (!sbeq s ⟨#[]⟩) = true → Int.toNat 0 < s.size := by
    intro h; obtain ⟨b, tl, e⟩ := hne h; rw [← hll, e]; exact Nat.succ_pos _
  have hxl : ∀ {y : ByteArray}, s.extract ((some 1).getD (0 : Int)).toNat (none.getD (s.size : Int)).toNat = y → byts y = l.drop 1 := by
    intro y h
    rw [← h]
    show byts (s.extract 1 s.size) = _
    rw [byts_ext, hl, List.take_of_length_le (by omega)]
  have hys : ∀ {y : ByteArray}, s.extract ((some 1).getD (0 : Int)).toNat (none.getD (s.size : Int)).toNat = y → y.size ≤ 4000000 := by
    intro y h
    rw [← byts_len, hxl h, List.length_drop]; omega
  have hbb : ∀ {b : UInt8}, s[Int.toNat 0]? = some b → ∃ tl, l = b :: tl ∧ l.drop 1 = tl := by
    intro b h1
    have h3 : l[0]? = some b := by rw [← hl]; exact byts_get.1 h1
    cases l with
    | nil => simp at h3
    | cons x tl => simp at h3; subst h3; exact ⟨tl, rfl, rfl⟩
  have hfail : ∀ {b : UInt8}, s[Int.toNat 0]? = some b → stepM l = none → [PV.sl [], .int .i64 2] = rowOut (rowM (byts s0)) := by
    intro b h1 h2
    obtain ⟨tl, e, _⟩ := hbb h1
    have hf0 : f = (f - 1) + 1 := by rw [e, List.length_cons] at hll; omega
    rw [hM, hf0, rowF_none (by rw [e]; simp) h2]; rfl
  have hgo : ∀ {v : Val} {y : ByteArray} {m' : Nat} {L' : List (List PV)} {A}, stepM l = some (v, byts y) → L ++ [v.cells] = L' → L.length + [v.cells].length = m' → subL A.T [(0, .p (.str y)), (4, .tok 0 L')] → takeX A.H 1 = [.spare m' 3] → R A := fun {v y m' L' A} h1 h2 h3 h4 h5 => by
    have hlt := (stepM_len h1).1
    have hyl := byts_len y
    have hf0 : f = (f - 1) + 1 := by omega
    refine hR (y, L', m', acc ++ [v], f - 1) A ⟨by show L'.length = m'; rw [← h2, ← h3, List.length_append], by show (acc ++ [v]).map Val.cells = L'; rw [← h2, ← hL]; simp, by show y.size ≤ f - 1; omega, by show y.size + (acc ++ [v]).length ≤ s0.size; rw [List.length_append]; simp; omega, ?_⟩ (by show y.size < s.size; omega) h4 trivial h5
    show rowM (byts s0) = (rowF (f - 1) (byts y)).map ((acc ++ [v]) ++ ·)
    rw [hM, hf0, rowF_step h1, Option.map_map]
    congr 1
    funext r
    simp
  have hx1 : (!sbeq s ⟨#[]⟩) = true → (0 : Int) ≤ 1 ∧ (1 : Int) ≤ (s.size : Int) ∧ (s.size : Int) ≤ (s.size : Int) := by
    intro h; have := h0s h; omega
  have hget : ∀ {y z : ByteArray}, y.extract (none.getD (0 : Int)).toNat ((some 8).getD (y.size : Int)).toNat = z → s.extract ((some 1).getD (0 : Int)).toNat (none.getD (s.size : Int)).toNat = y → PCall Tryd.prog 21 [.str z] fun r => r = [.int .u64 (numL ((l.drop 1).take 8))] := by
    intro y z h1 h2
    have e : byts z = (l.drop 1).take 8 := by
      rw [← h1]
      show byts (y.extract 0 8) = _
      rw [byts_ext, hxl h2, List.drop_zero]
    rw [← e]
    exact get_c z (by rw [← byts_len, e, List.length_take]; omega)
  have h8a : ∀ {z : Int} {y : ByteArray}, decide (z < 8) = false → (y.size : Int) = z → (0 : Int) ≤ 0 ∧ (0 : Int) ≤ 8 ∧ 8 ≤ (y.size : Int) := by
    intro z y h1 h2; simp only [decide_eq_false_iff_not] at h1; omega
  have h8b : ∀ {z : Int} {y : ByteArray}, decide (z < 8) = false → (y.size : Int) = z → (0 : Int) ≤ 8 ∧ (8 : Int) ≤ (y.size : Int) ∧ (y.size : Int) ≤ (y.size : Int) := by
    intro z y h1 h2; simp only [decide_eq_false_iff_not] at h1; omega
  have hb1 : ∀ {b : UInt8} {c : Int} {k : Nat}, k < 256 → s[Int.toNat 0]? = some b → (b.toNat : Int) = c → decide (c = k) = true → ∃ tl, l = UInt8.ofNat k :: tl ∧ l.drop 1 = tl := by
    intro b c k hk h1 h2 h3
    obtain ⟨tl, e, e2⟩ := hbb h1
    simp only [decide_eq_true_eq] at h3
    rw [(chr_eq h2 k hk).1 h3] at e
    exact ⟨tl, e, e2⟩
  have r1 : ∀ {b : UInt8} {c : Int} {y : ByteArray}, s[Int.toNat 0]? = some b → (b.toNat : Int) = c → decide (c = 1) = true → s.extract ((some 1).getD (0 : Int)).toNat (none.getD (s.size : Int)).toNat = y → stepM l = some (Val.zero, byts y) := by
    intro b c y h1 h2 h3 h4
    obtain ⟨tl, e, e2⟩ := hb1 (k := 1) (by decide) h1 h2 h3
    rw [hxl h4, e2, e]; exact step_1 tl
  have r2e : ∀ {b : UInt8} {c z : Int} {y : ByteArray}, s[Int.toNat 0]? = some b → (b.toNat : Int) = c → decide (c = 2) = true → s.extract ((some 1).getD (0 : Int)).toNat (none.getD (s.size : Int)).toNat = y → decide (z < 8) = true → (y.size : Int) = z → stepM l = none := by
    intro b c z y h1 h2 h3 h4 h5 h6
    obtain ⟨tl, e, e2⟩ := hb1 (k := 2) (by decide) h1 h2 h3
    have hyl := byts_len y
    rw [hxl h4, e2] at hyl
    simp only [decide_eq_true_eq] at h5
    rw [e]; exact step_n0 (by omega)
  have r2 : ∀ {b : UInt8} {c z z4 z3 z2 : Int} {y x : ByteArray}, s[Int.toNat 0]? = some b → (b.toNat : Int) = c → decide (c = 2) = true → y.extract ((some 8).getD (0 : Int)).toNat (none.getD (y.size : Int)).toNat = x → s.extract ((some 1).getD (0 : Int)).toNat (none.getD (s.size : Int)).toNat = y → decide (z < 8) = false → (y.size : Int) = z → numL ((l.drop 1).take 8) = z4 → IntKind.u64.wrap ((BitVec.ofInt IntKind.u64.bits z4 ^^^ BitVec.ofInt IntKind.u64.bits 9223372036854775808).toNat : Int) = z3 → IntKind.i64.wrap z3 = z2 → stepM l = some (num z2, byts x) := by
    intro b c z z4 z3 z2 y x h1 h2 h3 h0 h4 h5 h6 h7 h8 h9
    obtain ⟨tl, e, e2⟩ := hb1 (k := 2) (by decide) h1 h2 h3
    have hyl := byts_len y
    have hyb := hxl h4
    rw [hyb, e2] at hyl
    simp only [decide_eq_false_iff_not] at h5
    have hxb : byts x = tl.drop 8 := by
      rw [← h0]
      show byts (y.extract 8 y.size) = _
      rw [byts_ext, hyb, e2, List.take_of_length_le (by omega)]
    have en : backN (numL (tl.take 8)) = z2 := by rw [← h9, ← h8, ← h7, e2]; rfl
    rw [hxb, e, ← en]; exact step_2 (by omega)
  have r3 : ∀ {b : UInt8} {c : Int} {y t r : ByteArray}, s[Int.toNat 0]? = some b → (b.toNat : Int) = c → decide (c = 3) = true → s.extract ((some 1).getD (0 : Int)).toNat (none.getD (s.size : Int)).toNat = y → textM (byts y) = some (byts t, byts r) → stepM l = some (str t, byts r) := by
    intro b c y t r h1 h2 h3 h4 h5
    obtain ⟨tl, e, e2⟩ := hb1 (k := 3) (by decide) h1 h2 h3
    rw [hxl h4, e2] at h5
    rw [e]; exact step_3 h5
  have r3e : ∀ {b : UInt8} {c : Int} {y : ByteArray}, s[Int.toNat 0]? = some b → (b.toNat : Int) = c → decide (c = 3) = true → s.extract ((some 1).getD (0 : Int)).toNat (none.getD (s.size : Int)).toNat = y → textM (byts y) = none → stepM l = none := by
    intro b c y h1 h2 h3 h4 h5
    obtain ⟨tl, e, e2⟩ := hb1 (k := 3) (by decide) h1 h2 h3
    rw [hxl h4, e2] at h5
    rw [e]; exact step_30 h5
  have re : ∀ {b : UInt8} {c : Int}, s[Int.toNat 0]? = some b → (b.toNat : Int) = c → decide (c = 1) = false → decide (c = 2) = false → decide (c = 3) = false → stepM l = none := by
    intro b c h1 h2 h3 h4 h5
    obtain ⟨tl, e, _⟩ := hbb h1
    simp only [decide_eq_false_iff_not] at h3 h4 h5
    rw [e]
    exact step_e tl (fun h => h3 ((chr_eq h2 1 (by decide)).2 h)) (fun h => h4 ((chr_eq h2 2 (by decide)).2 h)) (fun h => h5 ((chr_eq h2 3 (by decide)).2 h))
  repeat' (first
    | (with_reducible refine Nm.mk ?_; intro z hz)
    | (with_reducible refine IfB.mk ?_ ?_ <;> (intro h; cases h))
    | (with_reducible refine Two.l ?_; refine Asm.mk ?_ ?_; focus (decide +kernel))
    | (with_reducible refine Two.r ?_)
    | (with_reducible refine TwoT.r ?_)
    | (with_reducible refine Asm.mk ?_ ?_; focus (first | (simp only [Option.getD_some, Option.getD_none]; first | exact hx1 (by assumption) | exact h8a (by assumption) (by assumption) | exact h8b (by assumption) (by assumption)) | (refine ⟨hm.symm, rfl, hok, rfl, ?_, ?_⟩ <;> (clear hR hQ; simp only [List.length_cons, List.length_nil, maxLen]; omega)) | (show (_ : Bool) = true; kernel_rfl)))
    | (with_reducible refine isCP hcp ?_; first | (refine iP hcp (hget (by assumption) (by assumption)) ?_; intro z hz))
    | (with_reducible refine isCC hcc ?_; first | (refine iA hcc (hget (by assumption) (by assumption)) rfl ?_; intro z hz))
    | (with_reducible refine SIx.at_ (by decide) (h0s (by assumption)) ?_; intro b c hb hc)
    | (with_reducible refine isCC hcc ?_; refine txA hcc (text_c _ (hys (by assumption))) rfl ?_ ?_ <;> intros)
    | (with_reducible refine Asm.mk2 ?_ ?_)
    | ((fail_if_success (with_reducible first | refine hQ _ ?_ | refine Side.mk ?_ | refine isCP hcp ?_ | refine isCC hcc ?_ | refine isLP hlp ?_ | refine Ix.mk ?_ | refine SIx.mk ?_ | refine SEx.mk ?_ | refine EIx.mk ?_ | refine RIx.mk ?_ | show False | refine hR ?_ _ ?_ ?_ ?_ ?_ ?_ | refine hR2 ?_ _ ?_ ?_ ?_ ?_ ?_)); cbv))
  all_goals first
    | exact absurd (show (!false) = false by assumption) (by decide)
    | exact absurd (show (!true) = true by assumption) (by decide)
    | exact hgo (r1 hb hc (by assumption) (by assumption)) (by assumption) (by assumption) ⟨rfl, rfl, trivial⟩ rfl
    | exact hgo (r2 hb hc (by assumption) hz (by assumption) (by assumption) (by assumption) (by assumption) (by assumption) (by assumption)) (by assumption) (by assumption) ⟨rfl, rfl, trivial⟩ rfl
    | exact hgo (r3 hb hc (by assumption) (by assumption) (by assumption)) (by assumption) (by assumption) ⟨rfl, rfl, trivial⟩ rfl
    | exact hQ _ (hfail hb (r2e hb hc (by assumption) (by assumption) (by assumption) (by assumption)))
    | exact hQ _ (hfail hb (r3e hb hc (by assumption) (by assumption) (by assumption)))
    | exact hQ _ (hfail hb (re hb hc (by assumption) (by assumption) (by assumption)))
    | (refine hQ _ ?_
       have hs : s = ⟨#[]⟩ := by rw [sbeq_eq] at hz; simpa using hz
       have hln : l = [] := by rw [← hl, hs]; rfl
       rw [hM, hln, show rowF f [] = some [] by cases f <;> rfl, ← hL]
       show _ = [PV.sl ((acc ++ []).map Val.cells), .int .i64 0]
       rw [List.append_nil])
end Go.Proofs.YtnhmnfokbinplaaDoor
