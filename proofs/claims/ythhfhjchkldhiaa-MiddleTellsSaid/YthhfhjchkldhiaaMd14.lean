/- sketch.Middle: what holds between calls; bits and mod. Own work; no condition. -/
import Derived.Test.YthhfhjchkldhiaaMd13
namespace Go.Proofs.Ythhfhjchkldhiaa
open Go Go.RowKit Go.Deep
set_option linter.unusedSimpArgs false
set_option linter.unusedVariables false

def bitsN (n : Nat) : Nat := if h : n = 0 then 0 else bitsN (n / 2) + 1
termination_by n
decreasing_by omega
theorem bitsN_zero : bitsN 0 = 0 := by rw [bitsN]; simp
theorem bitsN_pos {n : Nat} (h : 0 < n) : bitsN n = bitsN (n / 2) + 1 := by rw [bitsN, dif_neg (by omega)]
theorem bitsN_ge : ∀ (j n : Nat), 2 ^ j ≤ n → j + 1 ≤ bitsN n
  | 0, n, h => by rw [bitsN_pos (by simp at h; omega)]; omega
  | j + 1, n, h => by
    rw [Nat.pow_succ] at h
    have h0 : 0 < 2 ^ j := Nat.pow_pos (by omega)
    have := bitsN_ge j (n / 2) (by omega)
    rw [bitsN_pos (by omega)]; omega
theorem bitsN_le : ∀ (k n : Nat), n < 2 ^ k → bitsN n ≤ k
  | 0, n, h => by
    have : n = 0 := by simpa using h
    subst this; rw [bitsN_zero]; omega
  | k + 1, n, h => by
    rcases Nat.eq_zero_or_pos n with g | g
    · subst g; rw [bitsN_zero]; omega
    · rw [Nat.pow_succ] at h
      have := bitsN_le k (n / 2) (by omega)
      rw [bitsN_pos g]; omega

/-- What holds of a sketch and the list of all that came to it. -/
structure Inv0 (c tot : Nat) (sh : Int) (ls : List (List Int)) (ml : List Int) : Prop where
  fit : Fit c tot sh ls
  div : Div c ls
  n : ml.length = tot
  rk : ∀ x, rk x 0 ls ≤ cnt x ml ∧ (cnt x ml : Int) ≤ (rk x 0 ls : Nat) + sh
structure Inv (c tot : Nat) (sh : Int) (ls : List (List Int)) (ml : List Int) : Prop extends Inv0 c tot sh ls ml where
  low : ∀ (j : Nat) l, ls[j]? = some l → l.length < c

theorem Inv0.steps {c tot : Nat} {sh sh' : Int} {ls ls' : List (List Int)} {ml : List Int} (h : Inv0 c tot sh ls ml) (s : Steps c sh ls sh' ls') : Inv0 c tot sh' ls' ml := by
  induction s with
  | refl => exact h
  | tail _ s ih =>
    refine ⟨ih.fit.step s, ih.div.step s ih.fit.even, ih.n, fun x => ?_⟩
    obtain ⟨d, h1, h2, h3⟩ := step_rk s ih.fit.even x
    have h4 := ih.rk x
    constructor
    · omega
    · rw [h1]; omega
theorem Inv.start {c : Nat} (h : okC c = true) : Inv c 0 0 [] [] := by
  simp [okC] at h
  exact ⟨⟨⟨by omega, by omega, by omega, rfl, by simp [vt], by simp, fun l hl => by simp at hl⟩, fun j => by simp [wt], rfl, fun x => by simp [_root_.Go.Proofs.Ythhfhjchkldhiaa.rk, cnt]⟩, fun j l hl => by simp at hl⟩
theorem Inv.add {c tot : Nat} {sh : Int} {ls : List (List Int)} {ml : List Int} (h : Inv c tot sh ls ml) (x : Int) (hb : tot + 1 ≤ 2 ^ 41) : Inv0 c (tot + 1) sh (putM ls 0 [x]) (ml ++ [x]) := by
  refine ⟨h.fit.add x hb, h.div.add x, by simp [h.n], fun z => ?_⟩
  have h1 := h.rk z
  have h2 : _root_.Go.Proofs.Ythhfhjchkldhiaa.rk z 0 (putM ls 0 [x]) = _root_.Go.Proofs.Ythhfhjchkldhiaa.rk z 0 ls + cnt z [x] := by
    cases ls with
    | nil => simp [putM, _root_.Go.Proofs.Ythhfhjchkldhiaa.rk]
    | cons l r => simp [putM, _root_.Go.Proofs.Ythhfhjchkldhiaa.rk, cnt_app]; omega
  rw [h2, cnt_app]
  constructor <;> omega
theorem Inv.merge {c tot tot2 : Nat} {sh sh2 : Int} {ls ls2 : List (List Int)} {ml ml2 : List Int} (h : Inv c tot sh ls ml) (h2 : Inv c tot2 sh2 ls2 ml2) (hb : tot + tot2 ≤ 2 ^ 41) : Inv0 c (tot + tot2) (sh + sh2) (mergeL ls ls2) (ml ++ ml2) := by
  refine ⟨h.fit.merge h2.fit hb, h.div.merge h2.div, by rw [List.length_append, h.n, h2.n], fun x => ?_⟩
  have h3 := h.rk x
  have h4 := h2.rk x
  rw [mergeL_rk, cnt_app]
  constructor <;> omega

theorem wt_drop_le : ∀ (ls : List (List Int)) (j n : Nat), wt (j + n) (ls.drop n) ≤ wt j ls
  | ls, j, 0 => by simp
  | [], j, n + 1 => by simp [wt]
  | l :: r, j, n + 1 => by
    have := wt_drop_le r (j + 1) n
    rw [show j + 1 + n = j + (n + 1) by omega] at this
    simp only [List.drop_succ_cons, wt]; omega
theorem vt_le' : ∀ (ls : List (List Int)) (j : Nat), vt j ls ≤ (j + (ls.length - 1)) * wt j ls
  | [], j => by simp [vt, wt]
  | [x], j => by simp [vt, wt]
  | x :: y :: r, j => by
    have h := vt_le' (y :: r) (j + 1)
    have e : j + 1 + ((y :: r).length - 1) = j + ((x :: y :: r).length - 1) := by simp; omega
    rw [e] at h
    have h2 : j * (x.length * 2 ^ j) ≤ (j + ((x :: y :: r).length - 1)) * (x.length * 2 ^ j) := Nat.mul_le_mul_right _ (by omega)
    have h3 : vt j (x :: y :: r) = j * (x.length * 2 ^ j) + vt (j + 1) (y :: r) := rfl
    have h4 : wt j (x :: y :: r) = x.length * 2 ^ j + wt (j + 1) (y :: r) := rfl
    rw [h3, h4, Nat.mul_add]
    exact Nat.add_le_add h2 h
theorem Inv0.len {c tot : Nat} {sh : Int} {ls : List (List Int)} {ml : List Int} (h : Inv0 c tot sh ls ml) : ls.length ≤ bitsN (tot / c) + 1 := by
  rcases Nat.lt_or_ge ls.length 2 with g | g
  · omega
  · obtain ⟨J, hJ⟩ : ∃ J, ls.length = J + 2 := ⟨ls.length - 2, by omega⟩
    have hlast : ls.getLast? = some ls[J + 1] := by
      rw [List.getLast?_eq_getElem?, ← List.getElem?_eq_getElem]
      congr 1; omega
    have hne := h.fit.top _ hlast
    have hd := h.div J
    have hdrop : ls.drop (J + 1) = [ls[J + 1]] := by
      rw [List.drop_eq_getElem_cons (by omega), List.drop_eq_nil_of_le (by omega)]
    rw [hdrop] at hd
    have hpos : 0 < (ls[J + 1]).length := List.length_pos_iff.2 hne
    have h1 : wt (J + 1) [ls[J + 1]] = (ls[J + 1]).length * 2 ^ (J + 1) := by simp [wt]
    have h2 : 0 < wt (J + 1) [ls[J + 1]] := by rw [h1]; exact Nat.mul_pos hpos (Nat.pow_pos (by omega))
    have h3 := Nat.le_of_dvd h2 hd
    have h4 := wt_drop_le ls 0 (J + 1)
    rw [Nat.zero_add, hdrop, h.fit.w] at h4
    have hcp := h.fit.pos
    have h5 : 2 ^ J ≤ tot / c := (Nat.le_div_iff_mul_le (by omega)).2 (by rw [Nat.mul_comm]; omega)
    have := bitsN_ge J _ h5
    omega
theorem Inv0.short {c tot : Nat} {sh : Int} {ls : List (List Int)} {ml : List Int} (h : Inv0 c tot sh ls ml) : sh ≤ ((bitsN (tot / c) * tot / c : Nat) : Int) := by
  have h1 := vt_le' ls 0
  have h2 := h.len
  have h3 : vt 0 ls ≤ bitsN (tot / c) * tot := by
    refine Nat.le_trans h1 ?_
    rw [h.fit.w, Nat.zero_add]
    exact Nat.mul_le_mul_right _ (by omega)
  have h4 := h.fit.v
  have h5 := h.fit.short.1
  have hcp := h.fit.pos
  obtain ⟨s, rfl⟩ : ∃ s : Nat, sh = s := ⟨sh.toNat, by omega⟩
  have h6 : c * s = vt 0 ls := by exact_mod_cast h4
  have h7 : s ≤ bitsN (tot / c) * tot / c := (Nat.le_div_iff_mul_le (by omega)).2 (by rw [Nat.mul_comm, h6]; exact h3)
  omega
theorem Inv.size {c tot : Nat} {sh : Int} {ls : List (List Int)} {ml : List Int} (h : Inv c tot sh ls ml) : (ls.map List.length).sum ≤ c * (bitsN (tot / c) + 1) := by
  have h1 : ∀ (m : List (List Int)), (∀ l, l ∈ m → l.length ≤ c) → (m.map List.length).sum ≤ c * m.length := by
    intro m
    induction m with
    | nil => simp
    | cons a m ih =>
      intro hm
      have h2 := ih fun l hl => hm l (List.mem_cons_of_mem _ hl)
      have h3 := hm a (List.mem_cons_self ..)
      simp only [List.map_cons, List.sum_cons, List.length_cons, Nat.mul_add, Nat.mul_one]
      omega
  refine Nat.le_trans (h1 ls fun l hm => ?_) (Nat.mul_le_mul_left _ h.toInv0.len)
  obtain ⟨i, hi⟩ := List.getElem?_of_mem hm
  exact Nat.le_of_lt (h.low i l hi)

set_option maxRecDepth 100000 in
set_option maxHeartbeats 1000000 in
theorem bits_w (n : Nat) (hn : n < 2 ^ 62) (w : World) : Calls Try.prog 12 #[.int .i64 n] w fun e w' => e = .returned (.int .i64 (bitsN n)) ∧ w' = w := by
  have hb := bitsN_le 62 n hn
  go_enter Try.func12, Try.ntmps12
  go_wp2_with fail
  go_loopg [0, 3] n (fun g a k wr => ∃ m j : Nat, a = .int .i64 m ∧ k = .int .i64 j ∧ bitsN n = j + bitsN m ∧ g = m ∧ m ≤ n ∧ wr = w)
  case atStart => exact ⟨n, 0, rfl, rfl, by omega, rfl, Nat.le_refl _, rfl⟩
  case round =>
    obtain ⟨m, j, rfl, rfl, hbm, rfl, hmn, rfl⟩ := hrel
    by_cases hm : 0 < gk
    · have hj : (j : Int) ≤ 62 := by omega
      have hm' : (0 : Int) < (gk : Int) := by omega
      have hb2 := bitsN_pos hm
      have HB : Hid (bitsN n = j + bitsN gk ∧ bitsN gk = bitsN (gk / 2) + 1) := ⟨hbm, hb2⟩
      have HN : Hid (gk ≤ n ∧ n < 2 ^ 62) := ⟨hmn, hn⟩
      clear hbm hb2 hb hmn hn
      go_wp2_with fail
      have hh : bitsN n = j + bitsN gk ∧ bitsN gk = bitsN (gk / 2) + 1 := HB
      have hnn : gk ≤ n ∧ n < 2 ^ 62 := HN
      go_roundg (gk / 2)
      case measure => omega
      case rel => exact ⟨gk / 2, j + 1, by rw [wrap_small (by omega) (by omega)]; simp, by simp, by omega, rfl, by omega, rfl⟩
    · have em : gk = 0 := by omega
      subst em
      rw [bitsN_zero] at hbm
      have e : bitsN n = j := by omega
      clear hn hb hbm
      go_wp2_with fail
      go_ret
      exact ⟨by rw [e]; rfl, rfl⟩
end Go.Proofs.Ythhfhjchkldhiaa
