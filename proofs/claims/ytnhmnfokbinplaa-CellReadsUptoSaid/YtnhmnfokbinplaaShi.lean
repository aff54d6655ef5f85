/- strings.IndexByte and a text of a key, walked in the world. Own work; no condition. -/
import Derived.Test.YtnhmnfokbinplaaShf
import Derived.Test.YtnhmnfokbinplaaRow4
import Derived.Lib.Bytealg
namespace Go.Proofs
open Go.RowKit Go.Proofs.Ytnhmnfokbinplaa

set_option maxHeartbeats 1000000 in
set_option maxRecDepth 100000 in
theorem Try.IndexByte0 (s : ByteArray) (c : Int) (w : World) :
    Calls Try.prog 148 #[.string s, .int .u8 c] w fun e w' => e = .returned (.int .i64 (Lib.indexByte s.data.toList c.toNat.toUInt8)) ∧ w' = w := by
  have mixed : Try.prog.follows .mixedOrders = true := by kernel_rfl
  have e186 : ∀ args w, (callFunc 186 args).run Try.prog w = .ok (.enter 186 args) w := enters_of Try.func186 (by kernel_rfl) rfl
  go_enter Try.func148, Try.ntmps148
  go_wp2
  rw [run_callFunc_extern Try.func203 (by kernel_rfl) (by kernel_rfl) (by kernel_rfl) (e := Extern.BytealgIndexByte.indexByte) (by kernel_rfl)]
  rw [Lib.run_indexByteString]
  simp only [Result.andThen]
  rw [Oper.upon_value]
  go_wp2
  go_ret
  exact ⟨rfl, rfl⟩

theorem textM_cons {b : UInt8} (hb : ¬ b = 0) (l : List UInt8) : textM (b :: l) = (textM l).map fun p => (b :: p.1, p.2) := by
  cases l with
  | nil => rfl
  | cons c r => rw [textM, if_neg hb]
/-- Where the first zero stands. -/
theorem idx_cases (l : List UInt8) : (Lib.indexByte l 0 = -1 ∧ textM l = none) ∨ ∃ pre post, l = pre ++ 0 :: post ∧ Lib.indexByte l 0 = (pre.length : Int) ∧ textM l = (textM (0 :: post)).map fun p => (pre ++ p.1, p.2) := by
  induction l with
  | nil => exact .inl ⟨rfl, rfl⟩
  | cons b l ih =>
    by_cases hb : b = 0
    · subst hb
      refine .inr ⟨[], l, rfl, by simp [Lib.indexByte], ?_⟩
      cases textM (0 :: l) <;> rfl
    · have hbb : (b == 0) = false := by simpa using hb
      rcases ih with ⟨h1, h2⟩ | ⟨pre, post, h1, h2, h3⟩
      · refine .inl ⟨by simp [Lib.indexByte, hbb, h1], ?_⟩
        rw [textM_cons hb, h2]; rfl
      · refine .inr ⟨b :: pre, post, by rw [h1]; rfl, ?_, ?_⟩
        · have : ¬ ((pre.length : Int) = -1) := by omega
          simp [Lib.indexByte, hbb, h2, this]
        · rw [textM_cons hb, h3, Option.map_map]; rfl

def textV : Option (List UInt8 × List UInt8) → Value
  | none => .tuple #[.string ⟨#[]⟩, .string ⟨#[]⟩, .bool false]
  | some (t, r) => .tuple #[.string ⟨t.toArray⟩, .string ⟨r.toArray⟩, .bool true]
def strLen : Value → Nat
  | .string s => s.size
  | _ => 0

set_option maxHeartbeats 4000000 in
set_option maxRecDepth 1000000 in
theorem Try.text_walk (s : ByteArray) (w : World) (hs : s.size ≤ 1048577) :
    Calls Try.prog 92 #[.string s] w fun e w' => e = .returned (textV (textM (byts s))) ∧ Below w.heap.size w w' := by
  go_enter Try.func92, Try.ntmps92
  go_wp2
  go_loopw [0] (fun v wr => ∃ (q : ByteArray) (acc : List UInt8), v = .string q ∧ Lib.IsBuilder 171 5 w.heap.size w.heap.size (Lib.byteCells acc) wr ∧ Below w.heap.size w wr ∧ textM (byts s) = ((textM (byts q)).map fun p => (acc ++ p.1, p.2)) ∧ acc.length + q.size ≤ s.size) (fun v _ => strLen v)
  case atStart =>
    refine ⟨s, [], rfl, Lib.fresh_isBuilder 171 5 w, (Below.refl _ w).alloc (Nat.le_refl _) _, ?_, by simp⟩
    cases textM (byts s) <;> rfl
  case round =>
    obtain ⟨q, acc, rfl, hI, hbw, htx, hsz⟩ := hrel
    have hix : ∀ n : Int, Lib.indexByte (byts q) 0 = n → ∀ W, Calls Try.prog 148 #[.string q, .int .u8 0] W fun e w' => e = .returned (.int .i64 n) ∧ w' = W := by
      rintro n rfl W; exact Try.IndexByte0 q 0 W
    have hcase : textM (byts q) = none → textM (byts s) = none := fun h => by rw [htx, h]; rfl
    have hql := byts_len q
    rcases idx_cases (byts q) with ⟨h1, h2⟩ | ⟨pre, post, h1, h2, h3⟩
    · go_wp2_with (go_at_call 148; refine (hix _ h1 _).mono ?_)
      rintro e W1 ⟨rfl, rfl⟩
      go_wp2
      go_ret3
      rw [hcase h2]
      exact ⟨rfl, hbw⟩
    · rw [h1, List.length_append, List.length_cons] at hql
      cases post with
      | nil =>
        have hlt : q.size ≤ pre.length + 1 := by simp at hql; omega
        go_wp2_with (go_at_call 148; refine (hix _ h2 _).mono ?_)
        rintro e W1 ⟨rfl, rfl⟩
        go_wp2
        go_ret3
        rw [hcase (by rw [h3]; rfl)]
        exact ⟨rfl, hbw⟩
      | cons c post =>
        have hlt : ¬ q.size ≤ pre.length + 1 := by simp at hql; omega
        go_wp2_with (go_at_call 148; refine (hix _ h2 _).mono ?_)
        rintro e W1 ⟨rfl, rfl⟩
        go_wp2_with (go_at_call 149; refine (Try.Builder_WriteString w.heap.size w.heap.size _ _ _ hI (by rw [Lib.byteCells_length, ← byts_len (q.extract _ _), byts_ext, h1]; simp; simp at hql; omega) hbw.size).mono ?_)
        rintro e W2 ⟨rfl, hI2, hbw2⟩
        have hcq : q[pre.length + 1]? = some c := byts_get.2 (by rw [h1]; simp)
        have hst : Lib.byteCells acc ++ Lib.strCells (q.extract 0 pre.length) = Lib.byteCells (acc ++ pre) := by
          rw [Lib.byteCells_append, Lib.strCells_eq]
          show _ ++ Lib.byteCells (byts (q.extract 0 pre.length)) = _
          rw [byts_ext, h1]; simp
        rw [hst] at hI2
        have hqz : pre.length + (post.length + 2) = q.size := by simp at hql; omega
        have hqc : ∀ (h : pre.length + 1 < q.size), q[pre.length + 1] = c := fun h => by rw [getElem?_pos q _ h] at hcq; simpa using hcq
        have hrest : byts (q.extract (pre.length + 2) q.size) = post := by
          rw [byts_ext, h1, List.take_of_length_le (by simp; omega), List.drop_append]
          simp
        have hrs : (q.extract (pre.length + 2) q.size).size = post.length := by rw [← byts_len, hrest]
        have hBs : w.heap.size ≤ W2.heap.size := (hbw.trans hbw2).size
        have hl2 : (Lib.byteCells (acc ++ pre)).length + 1 ≤ 140737488355328 := by rw [Lib.byteCells_length, List.length_append]; omega
        go_wp2_with (first | (go_at_call 150; refine (Try.Builder_String_any w.heap.size w.heap.size (acc ++ pre) _ (Or.inr hI2) hBs).mono ?_) | (go_at_call 151; refine (Try.Builder_WriteByte w.heap.size w.heap.size (Lib.byteCells (acc ++ pre)) 0 _ (Or.inr hI2) hl2 hBs).mono ?_))
        · rintro e W3 ⟨rfl, hbw3⟩
          go_wp2
          go_ret3
          have hc1 : c = 1 := by
            rename_i ha hh
            rw [beq_iff_eq] at hh
            exact UInt8.toNat_inj.1 (by rw [show c.toNat = 1 by omega]; rfl)
          refine ⟨?_, (hbw.trans hbw2).trans hbw3⟩
          rw [htx, h3, hc1, textM, if_pos rfl, if_pos rfl]
          simp [textV, toB, toB_of hrest]
        · rintro e W3 ⟨rfl, hI3, hbw3⟩
          go_wp2
          have hc1 : c = 255 := by
            rename_i ha hb hh
            rw [beq_iff_eq] at hh
            exact UInt8.toNat_inj.1 (by rw [show c.toNat = 255 by omega]; rfl)
          go_roundw
          case rel =>
            refine ⟨_, acc ++ pre ++ [0], rfl, ?_, (hbw.trans hbw2).trans hbw3, ?_, ?_⟩
            · rw [Lib.byteCells_append]; exact Or.inr hI3
            · rw [htx, h3, hc1, textM, if_pos rfl, if_neg (by decide), if_pos rfl, hrest]
              cases textM post <;> simp
            · rw [hrs, List.length_append, List.length_append, List.length_singleton]; omega
          case measure =>
            show (q.extract (pre.length + 2) q.size).size < q.size
            omega
        · go_ret3
          rename_i ha hb hd
          have hc1 : ¬ c = 1 := by rintro rfl; simp at hb
          have hc2 : ¬ c = 255 := by rintro rfl; simp at hd
          refine ⟨?_, hbw.trans hbw2⟩
          rw [htx, h3, textM, if_pos rfl, if_neg hc1, if_neg hc2]
          rfl
end Go.Proofs
