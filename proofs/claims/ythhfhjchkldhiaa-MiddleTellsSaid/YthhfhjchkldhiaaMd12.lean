/- sketch.Middle: Rank; bits and mod, walked in the world. Own work; no condition. -/
import Derived.Test.YthhfhjchkldhiaaMd11
namespace Go.Proofs.Ythhfhjchkldhiaa
open Go Go.RowKit Go.Deep
set_option linter.unusedSimpArgs false
set_option linter.unusedVariables false

/-- What is told of a rank. -/
def rankZ (x : Int) (tot : Nat) (sh : Int) (ls : List (List Int)) : Int × Int :=
  if x = 9223372036854775807 then (tot, tot) else ((rk x 0 ls : Nat), min ((rk x 0 ls : Nat) + sh) tot)

set_option maxRecDepth 100000 in
set_option maxHeartbeats 2000000 in
theorem rank_max (b c tot : Nat) (sh : Int) (rv : Value) (vs : List Value) (ls : List (List Int)) (w : World) (M : MidAt w b c tot sh rv vs ls) :
    Calls Try.prog 13 #[.pointer (some ⟨b, 0, none⟩), .int .i64 9223372036854775807] w fun e w' => e = .returned (.tuple #[.int .i64 tot, .int .i64 tot]) ∧ Turn w w' (fun _ => False) ∧ w'.heap.size = w.heap.size := by
  obtain ⟨c0, c1, c2, c3, f1, f2⟩ := M.facts
  clear c0 c2 c3 f1 f2
  go_enter Try.func13, Try.ntmps13
  go_wp2_with fail
  go_quiet (fail)
  go_wp2_with fail
  go_ret2
  exact ⟨rfl, ⟨rfl, rfl, rfl, Nat.le_refl _, fun _ _ _ => rfl⟩, rfl⟩

set_option maxRecDepth 100000 in
set_option maxHeartbeats 4000000 in
theorem rank_w (b c tot : Nat) (sh : Int) (rv : Value) (vs : List Value) (ls : List (List Int)) (x : Int) (w : World) (M : MidAt w b c tot sh rv vs ls) (F : Fit c tot sh ls) (hx : ¬ x = 9223372036854775807) :
    Calls Try.prog 13 #[.pointer (some ⟨b, 0, none⟩), .int .i64 x] w fun e w' => e = .returned (.tuple #[.int .i64 (rk x 0 ls : Nat), .int .i64 (min ((rk x 0 ls : Nat) + sh) tot)]) ∧ Turn w w' (fun _ => False) ∧ w'.heap.size = w.heap.size := by
  obtain ⟨c0, c1, c2, c3, f1, f2⟩ := M.facts
  obtain ⟨ra, rc, hrv⟩ := ownsRow_slice M.row
  subst hrv
  have hl := F.len
  have hb : ∀ k, rk x 0 (ls.take k) ≤ 2199023255552 := fun k => by
    have h1 := rk_le_take x ls k
    have h2 := F.bound
    have h3 := F.w
    omega
  have hxb : (x == 9223372036854775807) = false := by simpa using hx
  obtain ⟨T, hT⟩ : ∃ T : Int, T = tot := ⟨_, rfl⟩
  rw [← hT] at c1
  have HT : Hid (T = tot) := hT
  clear c0 f1 f2 hx hT
  go_enter Try.func13, Try.ntmps13
  go_wp2_with fail
  go_loopg [26, 6] 100 (fun g t n wr => ∃ k : Nat, t = .int .i64 k ∧ n = .int .i64 (rk x 0 (ls.take k) : Nat) ∧ g + k = 100 ∧ k ≤ ls.length ∧ wr = w)
  case atStart => exact ⟨0, rfl, rfl, rfl, Nat.zero_le _, rfl⟩
  case round =>
    obtain ⟨k, rfl, rfl, hgk, hk, rfl⟩ := hrel
    by_cases hlt : k < ls.length
    · have hvl : k < vs.length := by rw [M.vlen]; exact hlt
      obtain ⟨v, hv⟩ : ∃ v, vs[k]? = some v := ⟨_, List.getElem?_eq_getElem hvl⟩
      obtain ⟨l, hl'⟩ : ∃ l, ls[k]? = some l := ⟨_, List.getElem?_eq_getElem hlt⟩
      obtain ⟨rb, cap, hform, _, _⟩ := M.row.form (by omega)
      simp only [Value.slice.injEq, true_and] at hform
      obtain ⟨rfl, rfl⟩ := hform
      obtain ⟨_, _, _, _, cr, _⟩ := M.rd hv
      have hin := M.inner k v l hv hl'
      obtain ⟨va, vc, rfl⟩ := ownsRow_slice hin
      have hi0 : (0 : Int) ≤ (k : Int) := Int.natCast_nonneg _
      have hi1 : (k : Int) < (ls.length : Int) := by omega
      have hr1 := rk_take x hl'
      have hll := F.each hl'
      obtain ⟨S, hS⟩ : ∃ S : Nat, S = rk x 0 (ls.take k) := ⟨_, rfl⟩
      have hpart : ∀ i, S + cnt x (l.take i) * 2 ^ k ≤ 2199023255552 := fun i => by
        have h1 := hb (k + 1)
        have h2 : cnt x (l.take i) ≤ cnt x l := by
          unfold cnt
          exact List.Sublist.countP_le (List.take_sublist i l)
        have h3 := Nat.mul_le_mul_right (2 ^ k) h2
        omega
      have HS : Hid (S = rk x 0 (ls.take k) ∧ rk x 0 (ls.take (k + 1)) = rk x 0 (ls.take k) + cnt x l * 2 ^ k) := ⟨hS, hr1⟩
      have hpw : (2 : Int) ^ k = ((2 ^ k : Nat) : Int) := by simp
      have hpl : 2 ^ k ≤ 2 ^ 42 := Nat.pow_le_pow_right (by omega) (by omega)
      have hpz : ((2 ^ k : Nat) : Int) ≤ 4398046511104 := by
        have : ((2 ^ k : Nat) : Int) ≤ ((2 ^ 42 : Nat) : Int) := Int.ofNat_le.2 hpl
        simpa using this
      have HP : Hid ((2 : Int) ^ k = ((2 ^ k : Nat) : Int) ∧ ((2 ^ k : Nat) : Int) ≤ 4398046511104) := ⟨hpw, hpz⟩
      rw [← hS]
      have Hpart : Hid (∀ i, S + cnt x (l.take i) * 2 ^ k ≤ 2199023255552) := hpart
      have hk43 : (k : Int) < 43 := by omega
      clear hS hr1 hb hpw hpl hpz hpart hv hl'
      go_wp2_with fail
      go_loopg [33, 6] l.length (fun g t n wq => ∃ i : Nat, t = .int .i64 i ∧ n = .int .i64 ((S + cnt x (l.take i) * 2 ^ k : Nat) : Int) ∧ g + i = l.length ∧ wq = wr)
      case atStart => exact ⟨0, rfl, by simp [cnt], rfl, rfl⟩
      case round =>
        obtain ⟨i, rfl, rfl, hgi, rfl⟩ := hrel
        by_cases hil : i < l.length
        · obtain ⟨y, hy⟩ : ∃ y, l[i]? = some y := ⟨_, List.getElem?_eq_getElem hil⟩
          obtain ⟨xb, xcap, hform, _, _⟩ := hin.form (by omega)
          simp only [Value.slice.injEq, true_and] at hform
          obtain ⟨rfl, rfl⟩ := hform
          have cy := hin.cells (g := xb) rfl i (.int .i64 y) (by rw [List.getElem?_map, hy]; rfl)
          rw [add0] at cy
          have hq0 : (0 : Int) ≤ (i : Int) := Int.natCast_nonneg _
          have hq1 : (i : Int) < (l.length : Int) := by omega
          have hc := cnt_take x hy
          have h1 : S + cnt x (l.take (i + 1)) * 2 ^ k ≤ 2199023255552 := Hpart (i + 1)
          obtain ⟨N, hN⟩ : ∃ N : Nat, N = S + cnt x (l.take i) * 2 ^ k := ⟨_, rfl⟩
          rw [← hN]
          have hN2 : (N : Int) ≤ 2199023255552 := by have : S + cnt x (l.take i) * 2 ^ k ≤ 2199023255552 := Hpart i; omega
          have hc2 : S + cnt x (l.take (i + 1)) * 2 ^ k = N + if y ≤ x then 2 ^ k else 0 := by
            rw [hc, hN]; split <;> simp [Nat.add_mul] <;> omega
          have HN : Hid (S + cnt x (l.take (i + 1)) * 2 ^ k = N + if y ≤ x then 2 ^ k else 0) := hc2
          clear hN h1 hc hc2 hy hin M F
          obtain ⟨o, ho⟩ : ∃ o : Int, o = if y < x then -1 else if x < y then 1 else 0 := ⟨_, rfl⟩
          have hcmp : ∀ W, Calls Try.prog 18 #[.int .i64 y, .int .i64 x] W fun e w' => e = .returned (.int .i64 o) ∧ w' = W := fun W => by rw [ho]; exact compare_w y x W
          by_cases hyx : y ≤ x
          · have ho' : o ≤ 0 := by rw [ho]; split <;> (try split) <;> omega
            have HY : Hid (y ≤ x) := hyx
            clear ho hyx
            go_wp2_with (go_at_call 18; refine (hcmp _).mono ?_; rintro e w5 ⟨rfl, rfl⟩)
            go_roundg (gk - 1)
            case measure => omega
            case rel =>
              refine ⟨i + 1, by simp, ?_, by omega, rfl⟩
              have hp : (2 : Int) ^ k = ((2 ^ k : Nat) : Int) ∧ ((2 ^ k : Nat) : Int) ≤ 4398046511104 := HP
              have hn : S + cnt x (l.take (i + 1)) * 2 ^ k = N + if y ≤ x then 2 ^ k else 0 := HN
              have hpp : (0 : Int) ≤ ((2 ^ k : Nat) : Int) := Int.natCast_nonneg _
              have hy : y ≤ x := HY
              rw [hn, if_pos hy, hp.1, wrap_small hpp (by omega), wrap_small (by omega) (by omega)]
              congr 1
          · have ho' : ¬ o ≤ 0 := by rw [ho, if_neg (by omega), if_pos (by omega)]; omega
            have HY : Hid (¬ y ≤ x) := hyx
            clear ho hyx
            go_wp2_with (go_at_call 18; refine (hcmp _).mono ?_; rintro e w5 ⟨rfl, rfl⟩)
            go_roundg (gk - 1)
            case measure => omega
            case rel =>
              refine ⟨i + 1, by simp, ?_, by omega, rfl⟩
              have hn : S + cnt x (l.take (i + 1)) * 2 ^ k = N + if y ≤ x then 2 ^ k else 0 := HN
              have hy : ¬ y ≤ x := by have h : x < y := HY; omega
              rw [hn, if_neg hy]; rfl
        · have ei : i = l.length := by omega
          subst ei
          rw [List.take_length]
          go_wp2_with fail
          go_roundg (99 - k)
          case measure => omega
          case rel =>
            have hs : S = rk x 0 (ls.take k) ∧ rk x 0 (ls.take (k + 1)) = rk x 0 (ls.take k) + cnt x l * 2 ^ k := HS
            exact ⟨k + 1, by simp, by rw [hs.2, ← hs.1], by omega, by omega, rfl⟩
    · have ek : k = ls.length := by omega
      subst ek
      rw [List.take_length]
      have hS := hb ls.length
      rw [List.take_length] at hS
      have hS' : ((rk x 0 ls : Nat) : Int) ≤ 2199023255552 := by omega
      have hsh := F.short
      have hsh2 : sh ≤ 92358976733184 := by omega
      have hsh1 : 0 ≤ sh := hsh.1
      clear hsh hS hb M F hgk hk
      go_wp2_with fail
      go_quiet (fail)
      go_wp2_with fail
      go_ret2
      have hTe : T = tot := HT
      subst hTe
      exact ⟨rfl, ⟨rfl, rfl, rfl, Nat.le_refl _, fun _ _ _ => rfl⟩, rfl⟩
end Go.Proofs.Ythhfhjchkldhiaa
