/- MiddleTells: ranked, walked in the world. Own work; no condition. -/
import Derived.Test.YthhfhjchkldhiaaMd15
namespace Go.Proofs.Ythhfhjchkldhiaa
open Go Go.RowKit Go.Deep
set_option linter.unusedSimpArgs false
set_option linter.unusedVariables false

set_option maxRecDepth 100000 in
set_option maxHeartbeats 4000000 in
theorem ranked_w (b c tot : Nat) (sh : Int) (rv : Value) (vs : List Value) (ls : List (List Int)) (ml : List Int) (mv : Value) (x y : Int) (w : World) (M : MidAt w b c tot sh rv vs ls) (I : Inv c tot sh ls ml) (hml : ∀ z, z ∈ ml → z ≤ 9223372036854775807)
    (R : w.ownsRow 0 2 1 mv ml.length (i64v ml)) (hy : y ≤ 9223372036854775807) :
    Calls Try.prog 8 #[.pointer (some ⟨b, 0, none⟩), mv, .int .i64 c, .int .i64 x, .int .i64 y] w fun e w' => e = .returned (.bool true) ∧ Turn w w' (fun _ => False) := by
  have hF := I.fit
  obtain ⟨mva, mc, hmv⟩ := ownsRow_slice R
  subst hmv
  have hn := I.n
  have hbd := hF.bound
  have hc2 := hF.pos
  have hc3 := hF.cap
  go_enter Try.func8, Try.ntmps8
  go_wp2_with fail
  go_loopg [13, 12] ml.length (fun g t k wr => ∃ i : Nat, t = .int .i64 i ∧ k = .int .i64 (cnt x (ml.take i) : Nat) ∧ g + i = ml.length ∧ wr = w)
  case atStart => exact ⟨0, rfl, rfl, rfl, rfl⟩
  case round =>
    obtain ⟨i, rfl, rfl, hgi, rfl⟩ := hrel
    have hle : cnt x (ml.take i) ≤ i := Nat.le_trans (cnt_le x _) (by rw [List.length_take]; omega)
    by_cases hi : i < ml.length
    · obtain ⟨g, cap, hform, _, _⟩ := R.form (by omega)
      simp only [Value.slice.injEq, true_and] at hform
      obtain ⟨rfl, rfl⟩ := hform
      obtain ⟨z, hz⟩ : ∃ z, ml[i]? = some z := ⟨_, List.getElem?_eq_getElem hi⟩
      have cz := R.cells (g := g) rfl i (.int .i64 z) (by rw [List.getElem?_map, hz]; rfl)
      rw [add0] at cz
      have hi0 : (0 : Int) ≤ (i : Int) := Int.natCast_nonneg _
      have hi1 : (i : Int) < (ml.length : Int) := by omega
      have hct := cnt_take x hz
      obtain ⟨K, hK⟩ : ∃ K, K = cnt x (ml.take i) := ⟨_, rfl⟩
      rw [← hK] at hct hle ⊢
      have hK1 : (K : Int) ≤ 2199023255552 := by omega
      have hI2 : (i : Int) ≤ 2199023255552 := by omega
      have HC : Hid (cnt x (ml.take (i + 1)) = K + if z ≤ x then 1 else 0) := hct
      clear hK hct hle hz M I hF hml R hn hbd hc2 hc3
      by_cases hzx : z ≤ x
      · have HZ : Hid (z ≤ x) := hzx
        go_wp2_with fail
        go_roundg (gk - 1)
        case measure => omega
        case rel =>
          have h : cnt x (ml.take (i + 1)) = K + if z ≤ x then 1 else 0 := HC
          exact ⟨i + 1, by simp, by rw [h, if_pos (show z ≤ x from HZ)]; simp, by omega, rfl⟩
      · have HZ : Hid (¬ z ≤ x) := hzx
        go_wp2_with fail
        go_roundg (gk - 1)
        case measure => omega
        case rel =>
          have h : cnt x (ml.take (i + 1)) = K + if z ≤ x then 1 else 0 := HC
          exact ⟨i + 1, by simp, by rw [h, if_neg (by have h : x < z := HZ; omega)]; simp, by omega, rfl⟩
    · have ei : i = ml.length := by omega
      subst ei
      rw [List.take_length]
      have hcm := cnt_le x ml
      obtain ⟨t1, t2, t3, t4, t5, t6, t7, t8⟩ := I.told hml x
      have hsz := I.size
      have hL : bitsN (tot / c) ≤ 42 := bitsN_le 42 _ (by have := Nat.div_le_self tot c; omega)
      have hrise : y < x ∨ (rankZ x tot sh ls).1 ≤ (rankZ y tot sh ls).1 ∧ (rankZ x tot sh ls).2 ≤ (rankZ y tot sh ls).2 := by
        rcases Int.lt_or_le y x with h | h
        · exact .inl h
        · exact .inr (I.rises h hy)
      obtain ⟨_, _, _, _, u4, _, u7, _⟩ := I.told hml y
      clear hml hcm R hy hle hgi
      go_wp2_with fail
      have eq1 : wrap64 ((tot : Int) / (c : Int)) = ((tot / c : Nat) : Int) := by
        have h1 : ((tot / c : Nat) : Int) = (tot : Int) / (c : Int) := Int.natCast_ediv ..
        have h2 := Nat.div_le_self tot c
        rw [← h1, wrap_small (Int.natCast_nonneg _) (Int.lt_of_le_of_lt (Int.ofNat_le.2 h2) (by omega))]
      rw [eq1]
      refine (bits_w (tot / c) (Nat.lt_of_le_of_lt (Nat.div_le_self tot c) (by omega)) _).mono ?_
      rintro e w5 ⟨rfl, rfl⟩
      obtain ⟨L, hLd⟩ : ∃ L : Nat, bitsN (tot / c) = L := ⟨_, rfl⟩
      rw [hLd] at hL hsz t3 ⊢
      obtain ⟨P, hP⟩ : ∃ P : Int, (L : Int) * (tot : Int) = P := ⟨_, rfl⟩
      obtain ⟨Q, hQ⟩ : ∃ Q : Int, P / (c : Int) = Q := ⟨_, rfl⟩
      obtain ⟨S, hS⟩ : ∃ S : Int, (c : Int) * ((L : Int) + 1) = S := ⟨_, rfl⟩
      have hP0 : 0 ≤ P := by rw [← hP]; exact Int.mul_nonneg (by omega) (by omega)
      have hP1 : P ≤ 92358976733184 := by
        rw [← hP]
        have h := Nat.le_trans (Nat.mul_le_mul hL hbd) (show 42 * 2 ^ 41 ≤ 92358976733184 by decide)
        have e : (L : Int) * (tot : Int) = ((L * tot : Nat) : Int) := by simp
        rw [e]
        generalize L * tot = z at *
        omega
      have hQ0 : 0 ≤ Q := by rw [← hQ]; exact Int.ediv_nonneg hP0 (by omega)
      have hQ1 : Q ≤ 92358976733184 := by
        rw [← hQ]
        exact Int.le_trans (Int.ediv_le_self _ hP0) hP1
      have hQe : ((L * tot / c : Nat) : Int) = Q := by rw [← hQ, ← hP]; simp
      rw [hQe] at t3
      have hSe : ((c * (L + 1) : Nat) : Int) = S := by rw [← hS]; simp
      have hS1 : S ≤ 45000 := by
        have h := Nat.le_trans (Nat.mul_le_mul hc3 (Nat.add_le_add_right hL 1)) (show 1024 * (42 + 1) ≤ 45000 by decide)
        rw [← hSe]
        generalize c * (L + 1) = z at *
        omega
      have hsz' : (((ls.map List.length).sum : Nat) : Int) ≤ S := by
        rw [← hSe]
        exact Int.ofNat_le.2 hsz
      have hS0 : 0 ≤ S := by omega
      have htb : (tot : Int) ≤ 2199023255552 := by omega
      have hL' : (L : Int) ≤ 42 := by omega
      generalize hlo : (rankZ x tot sh ls).1 = lo at *
      generalize hhi : (rankZ x tot sh ls).2 = hi at *
      generalize hot : (rankZ y tot sh ls).1 = ot at *
      generalize hab : (rankZ y tot sh ls).2 = ab at *
      clear hQe hSe hsz hL hbd eq1 hLd hF
      have hr1 := fun W MW => rank_c b c tot sh rv vs ls x W MW I.fit
      have hr2 := fun W MW => rank_c b c tot sh rv vs ls y W MW I.fit
      rw [hlo, hhi] at hr1
      rw [hot, hab] at hr2
      have hcz : ((c : Int) == 0) = false := by simp; omega
      have hc1 : (c : Int) ≤ 1024 := by omega
      have htot := total_w b c tot sh rv vs ls
      have hsize := fun W MW => size_w b c tot sh rv vs ls W MW I.fit
      obtain ⟨Sz, hSz⟩ : ∃ Sz : Int, (((ls.map List.length).sum : Nat) : Int) = Sz := ⟨_, rfl⟩
      rw [hSz] at hsz' hsize
      have hSz0 : 0 ≤ Sz := by rw [← hSz]; exact Int.natCast_nonneg _
      clear hSz I
      generalize hcn : ((cnt x ml : Nat) : Int) = cn at *
      clear hcn
      go_wp2_with fail
      refine (hr1 _ M).mono ?_
      rintro e w1 ⟨rfl, T1, hz1⟩
      have M1 := M.keep (w' := w1) fun q hq => T1.block q (M.lt hq) id
      have HM : Hid (MidAt w1 b c tot sh rv vs ls ∧ Turn w5 w1 (fun _ => False)) := ⟨M1, T1⟩
      clear hr1 M1 T1 hz1 M
      have HR : Hid (y < x ∨ lo ≤ ot ∧ hi ≤ ab) := hrise
      clear hrise
      by_cases hxm : x = 9223372036854775807
      · obtain ⟨e1, e2⟩ := t8 hxm
        subst e1 e2 hxm
        clear t8
        go_wp2_with (first | (go_at_call 14; refine (htot _ (And.left HM)).mono ?_; rintro e w5 ⟨rfl, rfl⟩) | (go_at_call 15; refine (hsize _ (And.left HM)).mono ?_; rintro e w5 ⟨rfl, rfl⟩))
        refine (hr2 _ (And.left HM)).mono ?_
        rintro e w6 ⟨rfl, T2, hz2⟩
        have HT : Hid (Turn _ w6 (fun _ => False)) := (And.right HM).trans T2 (fun _ h => h) fun _ _ h => h
        rcases (show _ ∨ _ from HR) with h1 | ⟨h1, h2⟩
        · clear hz2 T2 hr2 htot hsize
          go_wp2_with fail
          go_ret
          exact ⟨by simp [*], HT⟩
        · by_cases h3 : y < 9223372036854775807
          · clear hz2 T2 hr2 htot hsize
            go_wp2_with fail
            go_ret
            exact ⟨by simp [*], HT⟩
          · clear hz2 T2 hr2 htot hsize
            go_wp2_with fail
            go_ret
            exact ⟨by simp [*], HT⟩
      · have hxm' : (x == 9223372036854775807) = false := by simpa using hxm
        clear t8 hxm
        go_wp2_with (first | (go_at_call 14; refine (htot _ (And.left HM)).mono ?_; rintro e w5 ⟨rfl, rfl⟩) | (go_at_call 15; refine (hsize _ (And.left HM)).mono ?_; rintro e w5 ⟨rfl, rfl⟩))
        refine (hr2 _ (And.left HM)).mono ?_
        rintro e w6 ⟨rfl, T2, hz2⟩
        have HT : Hid (Turn _ w6 (fun _ => False)) := (And.right HM).trans T2 (fun _ h => h) fun _ _ h => h
        rcases (show _ ∨ _ from HR) with h1 | ⟨h1, h2⟩
        · clear hz2 T2 hr2 htot hsize
          go_wp2_with fail
          go_ret
          exact ⟨by simp [*], HT⟩
        · by_cases h3 : y < x
          · clear hz2 T2 hr2 htot hsize
            go_wp2_with fail
            go_ret
            exact ⟨by simp [*], HT⟩
          · clear hz2 T2 hr2 htot hsize
            go_wp2_with fail
            go_ret
            exact ⟨by simp [*], HT⟩
end Go.Proofs.Ythhfhjchkldhiaa
