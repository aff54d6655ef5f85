/- tallyref; tallyref. Own work; no condition. -/
import Derived.Test.YtcajncmjlmpkgaaPa50
namespace Go.Proofs.Ytcajncmjlmpkgaa
open Go Go.RowKit
set_option maxRecDepth 100000
set_option linter.unusedSimpArgs false
set_option linter.unusedVariables false
attribute [local irreducible] valB plainB bitsB byW
set_option maxHeartbeats 1000000 in
theorem rwrite4_c (a : Int) (B : List Bool) (N : List Int) (S : List ByteArray) (n1 n2 n3 : List (List PV)) (h1 : B.map boolc = n1) (h2 : N.map i64c = n2) (h3 : S.map strc = n3) (hg : goodV ⟨a, B, N, S⟩ = true) (hB : B.length ≤ 4096) (ha1 : a = 1) :
   PCall Try.prog 28 [.agg [.int .i64 a, .sl n1, .sl n2, .sl n3], .int .i64 4] fun r => r = [.str (toB (headB 4 ⟨a, B, N, S⟩ ++ offsB (stand (valuesM ⟨a, B, N, S⟩)))), .int .i64 0] := by
 have hgc := rgood_c a B N S n1 n2 n3 h1 h2 h3
 have hm1 := @markB_all ⟨a, B, N, S⟩
 have hm2 : ¬ (stand (valuesM ⟨a, B, N, S⟩)).length = (valuesM ⟨a, B, N, S⟩).length → markB ⟨a, B, N, S⟩ = [1] ++ bitsB 1 ((valuesM ⟨a, B, N, S⟩).map markN) := fun h => by rw [markB_some h, marks_values hg]
 have hhB : headB 4 ⟨a, B, N, S⟩ = [byO 4, byO a] ++ byW 4 (u64 (valuesM ⟨a, B, N, S⟩).length) ++ markB ⟨a, B, N, S⟩ := rfl
 have hvc := rvalues_c a B N S n1 n2 n3 h1 h2 h3 (by omega)
 have hvc0 := values_clean ⟨a, B, N, S⟩
 have hvle := values_len ⟨a, B, N, S⟩
 have hfew : Few (stand (valuesM ⟨a, B, N, S⟩)) := stand_few hB
 have hkn := kind_values (v := ⟨a, B, N, S⟩) ha1
 obtain ⟨hb0, hb0e⟩ : ∃ x, headB 4 ⟨a, B, N, S⟩ = x := ⟨_, rfl⟩
 obtain ⟨mk, hmk⟩ : ∃ x, markB ⟨a, B, N, S⟩ = x := ⟨_, rfl⟩
 rw [hb0e] at hhB ⊢
 rw [hmk] at hhB hm1 hm2
 rw [hg] at hgc
 obtain ⟨vs, hvs⟩ : ∃ vs, valuesM ⟨a, B, N, S⟩ = vs := ⟨_, rfl⟩
 obtain ⟨C, hC⟩ : ∃ C, vs.map Val.cells = C := ⟨_, rfl⟩
 rw [hvs] at hvc hvc0 hvle hfew hm1 hm2 hhB hkn ⊢
 rw [hC] at hvc
 clear hvs hb0e hmk hg
 have hCl : C.length = vs.length := by rw [← hC, List.length_map]
 have hvle2 : vs.length ≤ 4096 := Nat.le_trans hvle hB
 have hsc := stand_c vs C hC (by omega)
 have hsl : (stand vs).length ≤ vs.length := List.length_filter_le _ _
 have hcl : Clean (stand vs) := fun x hx => hvc0 x (stand_mem hx)
 obtain ⟨l, hl⟩ : ∃ l, stand vs = l := ⟨_, rfl⟩
 rw [hl] at hsc hsl hcl hfew hm1 hm2 hkn ⊢
 obtain ⟨D, hD⟩ : ∃ D, l.map Val.cells = D := ⟨_, rfl⟩
 rw [hD] at hsc
 have hDl : D.length = l.length := by rw [← hD, List.length_map]
 have hl0 : l.length ≤ 4096 := hfew.1
 have hun := runlike_c l D hD (by omega) hcl
 obtain ⟨u, hu⟩ : ∃ u, words l = u := ⟨_, rfl⟩
 rw [hu] at hun
 obtain ⟨U, hU⟩ : ∃ U, u.map Val.cells = U := ⟨_, rfl⟩
 rw [hU] at hun
 have hUl : U.length = u.length := by rw [← hU, List.length_map]
 have hul : u.length ≤ l.length := hu ▸ words_len l
 have hu64 : ∀ {x m : Int}, IntKind.u64.wrap x = m → 0 ≤ m ∧ m < 18446744073709551616 := fun h => h ▸ u64_in _
 have hU0 : ∀ {z : Int}, (D.length : Int) = z → decide (0 < z) = true → (0 : Int) < u.length := by
   intro z h h1
   have h2 := of_decide_eq_true h1
   have h3 := words_pos hcl (fun e => by rw [e, List.length_nil] at hDl; omega)
   rw [hu] at h3; omega
 have hUm : ∀ {z y b : Int}, (D.length : Int) = z → decide (0 < z) = true → (U.length : Int) = y → IntKind.i64.wrap (y - 1) = b → 0 ≤ b ∧ b < u.length ∧ b.toNat + 1 = u.length := by
   intro z y b h h1 h2 h3
   have h4 := hU0 h h1
   rw [wrap_in (by omega)] at h3
   omega
 have hlo : ∀ {y0 : Val} {zl : Int}, u[(0 : Int).toNat]? = some y0 → IntKind.u64.wrap y0.n = zl → u64 (lowV l) = zl := by
   rintro y0 zl h rfl
   rw [first_low hcl hkn (by rw [hu]; exact h)]; rfl
 have hhi : ∀ {y1 : Val} {z y b zh : Int}, (D.length : Int) = z → decide (0 < z) = true → (U.length : Int) = y → IntKind.i64.wrap (y - 1) = b → u[b.toNat]? = some y1 → IntKind.u64.wrap y1.n = zh → u64 (highV l) = zh := by
   rintro y1 z y b zh g1 g2 g3 g4 g5 rfl
   rw [last_high hcl hkn (by rw [hu]; exact (hUm g1 g2 g3 g4).2.2) (by rw [hu]; exact g5)]; rfl
 have hemp : ∀ {z : Int}, (D.length : Int) = z → decide (0 < z) = false → u64 (lowV l) = 0 ∧ u64 (highV l) = 0 := by
   intro z h h1
   have h2 := of_decide_eq_false h1
   have h3 : l = [] := List.length_eq_zero_iff.1 (by omega)
   rw [h3]; exact ⟨rfl, rfl⟩
 clear hl hvc0
 have hpos : ∀ {x m : Int}, IntKind.u64.wrap x = m → 0 ≤ m := fun h => h ▸ u64_pos _
 have hx1 : ∀ {p : Prop}, decide ((4 : Int) < 1) = true → p := fun h => absurd h (by decide)
 have hx2 : ∀ {p : Prop}, decide ((4 : Int) < 4) = true → p := fun h => absurd h (by decide)
 have hxc1 : ¬ decide ((4 : Int) = 1) = true := by decide
 have hxc2 : ¬ decide ((4 : Int) = 2) = true := by decide
 have hxc3 : ¬ decide ((4 : Int) = 3) = true := by decide
 have hxc4 : ¬ decide ((4 : Int) = 4) = false := by decide
 have hx4 : ∀ {p : Prop} {z : Bool}, (!z) = true → true = z → p := by rintro p z h rfl; cases h
 have hx5 : ∀ {p : Prop} {z : Int}, decide (4096 < z) = true → (C.length : Int) = z → p := by
   intro p z h h2
   have := of_decide_eq_true h
   omega
 have hx6 : ∀ {p : Prop}, decide (a = 2) = true → p := fun h => absurd (of_decide_eq_true h) (by omega)
 have hT8 : ∀ {x : Int} {s : ByteArray}, toB (byW 8 x) = s → Txt s (byW 8 x) 8 := by
   rintro x s rfl
   exact ⟨rfl, by rw [byW_len]; decide⟩
 have hTw : ∀ {w z8 : Int} {s : ByteArray}, strOf [[PV.int .u8 z8]] = s → IntKind.u8.wrap w = z8 → Txt s [byO w] 1 := by
   rintro w z8 s rfl rfl
   refine ⟨?_, Nat.le_refl _⟩
   rw [← strOf_bytes]
   show _ = strOf [byteC (byO w)]
   rw [byO_c]
 have hTL : ∀ {x w z8 : Int} {t s r : ByteArray}, t ++ s = r → toB (byW 8 x) = t → strOf [[PV.int .u8 z8]] = s → IntKind.u8.wrap w = z8 → Txt r (byW 8 x ++ [byO w]) (8 + 1) := fun e e1 e2 e3 => (hT8 e1).app (hTw e2 e3) e
 have hTk : ∀ {z1 z2 : Int} {s : ByteArray}, strOf [[PV.int .u8 z1], [PV.int .u8 z2]] = s → IntKind.u8.wrap 4 = z1 → IntKind.u8.wrap a = z2 → Txt s [byO 4, byO a] 2 := by
   rintro z1 z2 s rfl rfl rfl
   refine ⟨?_, Nat.le_refl _⟩
   rw [← strOf_bytes]
   show _ = strOf [byteC (byO 4), byteC (byO a)]
   rw [byO_c, byO_c]
 have hT4 : ∀ {x : Int} {s : ByteArray}, toB (byW 4 x) = s → Txt s (byW 4 x) 4 := by
   rintro x s rfl
   exact ⟨rfl, by rw [byW_len]; decide⟩
 have hT6 : ∀ {z1 z2 x : Int} {s t r : ByteArray}, s ++ t = r → strOf [[PV.int .u8 z1], [PV.int .u8 z2]] = s → IntKind.u8.wrap 4 = z1 → IntKind.u8.wrap a = z2 → toB (byW 4 x) = t → Txt r ([byO 4, byO a] ++ byW 4 x) 6 := fun e e1 e2 e3 e4 => (hTk e1 e2 e3).app (hT4 e4) e
 have hT0 : Txt ⟨⟨[0]⟩⟩ [0] 1 := ⟨rfl, Nat.le_refl _⟩
 have hTA : ∀ {z1 z2 x : Int} {s t r q : ByteArray}, r ++ ⟨⟨[0]⟩⟩ = q → s ++ t = r → strOf [[PV.int .u8 z1], [PV.int .u8 z2]] = s → IntKind.u8.wrap 4 = z1 → IntKind.u8.wrap a = z2 → toB (byW 4 x) = t → Txt q ([byO 4, byO a] ++ byW 4 x ++ [0]) (6 + 1) := fun e0 e e1 e2 e3 e4 => (hT6 e e1 e2 e3 e4).app hT0 e0
 have hT1 : Txt ⟨⟨[1]⟩⟩ [1] 1 := ⟨rfl, Nat.le_refl _⟩
 have hTb : ∀ {s : ByteArray}, toB (bitsB 1 (vs.map markN)) = s → Txt s (bitsB 1 (vs.map markN)) 1000 := by
   rintro s rfl
   refine ⟨rfl, ?_⟩
   have := (bitsB_at (W := 1) (by decide) (vs.map markN)).2
   rw [List.length_map] at this; omega
 generalize byO 4 = kb at *
 generalize byO a = ab at *
 have hhA : ∀ {zD zC zc zu : Int}, (D.length : Int) = zD → (C.length : Int) = zC → decide (zD = zC) = true → (C.length : Int) = zc → IntKind.u64.wrap zc = zu → hb0 = [kb, ab] ++ byW 4 zu ++ [0] := by
   rintro zD zC zc zu rfl rfl h rfl rfl
   have := of_decide_eq_true h
   rw [hhB, hm1 (by omega), hCl]; rfl
 have hhM : ∀ {zD zC zc zu : Int}, (D.length : Int) = zD → (C.length : Int) = zC → decide (zD = zC) = false → (C.length : Int) = zc → IntKind.u64.wrap zc = zu → hb0 = [kb, ab] ++ byW 4 zu ++ ([1] ++ bitsB 1 (vs.map markN)) := by
   rintro zD zC zc zu rfl rfl h rfl rfl
   have := of_decide_eq_false h
   rw [hhB, hm2 (by omega), hCl]; rfl
 refine PCall.x (nt := 268) (res := [.tmp 4, .tmp 5]) mixed tt_ok [] Try.func28 rfl rfl rfl c28 (Nat.le_of_ble_eq_true rfl) ?_
 intro cp cc lp Q' hcp hcc hlp hQ
 repeat' (first
   | (with_reducible exact absurd (by assumption) hxc1)
   | (with_reducible exact absurd (by assumption) hxc2)
   | (with_reducible exact absurd (by assumption) hxc3)
   | (with_reducible exact absurd (by assumption) hxc4)
   | (with_reducible refine Nm.mk ?_; intro z hz)
   | (with_reducible refine IfB.mk ?_ ?_ <;> (intro h; cases h))
   | (with_reducible refine Two.l ?_; refine Asm.mk ?_ ?_; focus (decide +kernel))
   | (with_reducible refine Two.r ?_)
   | (with_reducible refine TwoT.r ?_)
   | (with_reducible refine TwoU.r ?_)
   | (with_reducible refine Asm.mk ?_ ?_; focus (first | exact (hTk (by assumption) (by assumption) (by assumption)).side (hT4 (by assumption)) (by decide) (by decide) | exact (hT6 (by assumption) (by assumption) (by assumption) (by assumption) (by assumption)).side hT0 (by decide) (by decide) | exact (hT8 (by assumption)).side (hTw (by assumption) (by assumption)) (by decide) (by decide) | exact (hTA (by assumption) (by assumption) (by assumption) (by assumption) (by assumption) (by assumption)).side (hTL (by assumption) (by assumption) (by assumption) (by assumption)) (by decide) (by decide) | (show (_ : Bool) = true; kernel_rfl)))
   | (with_reducible refine isCP hcp ?_; first | (refine bP hcp (hgc) ?_; intro z hz) | (refine eP hcp (hvc) ?_; rintro r rfl) | (refine eP hcp (hsc) ?_; rintro r rfl) | (refine eP hcp (hun) ?_; rintro r rfl) | (refine sP hcp (bytesW_c 4 _ (hpos (by assumption)) (by decide)) ?_; intro z hz) | (refine iP hcp (width_c _ (by first | exact hu64 (by assumption) | decide)) ?_; intro z hz) | (refine sP hcp (bytesW_c 8 _ (by first | exact hpos (by assumption) | decide) (by decide)) ?_; intro z hz))
   | (with_reducible refine isCC hcc ?_; first | (refine bA hcc (hgc) rfl ?_; intro z hz) | (refine bR hcc (hgc) rfl ?_; intro z hz) | (refine eA hcc (hvc) rfl ?_; rintro r rfl) | (refine eA hcc (hsc) rfl ?_; rintro r rfl) | (refine eA hcc (hun) rfl ?_; rintro r rfl) | (refine sA hcc (bytesW_c 4 _ (hpos (by assumption)) (by decide)) rfl ?_; intro z hz) | (refine sR hcc (bytesW_c 4 _ (hpos (by assumption)) (by decide)) rfl ?_; intro z hz) | (refine iA hcc (width_c _ (by first | exact hu64 (by assumption) | decide)) rfl ?_; intro z hz) | (refine iR hcc (width_c _ (by first | exact hu64 (by assumption) | decide)) rfl ?_; intro z hz) | (refine sA hcc (bytesW_c 8 _ (by first | exact hpos (by assumption) | decide) (by decide)) rfl ?_; intro z hz) | (refine sR hcc (bytesW_c 8 _ (by first | exact hpos (by assumption) | decide) (by decide)) rfl ?_; intro z hz))
   | (with_reducible refine Ix.map hU cells_len (by decide) (Int.le_refl 0) (hU0 (by assumption) (by assumption)) ?_; intro y0 hy0)
   | (with_reducible refine Ix.map hU cells_len (by decide) (hUm (by assumption) (by assumption) (by assumption) (by assumption)).1 (hUm (by assumption) (by assumption) (by assumption) (by assumption)).2.1 ?_; intro y1 hy1)
   | (with_reducible refine Asm.mk2 ?_ ?_)
   | ((fail_if_success (with_reducible first | refine hQ _ ?_ | refine Side.mk ?_ | refine isCP hcp ?_ | refine isCC hcc ?_ | refine isLP hlp ?_ | refine Ix.mk ?_ | refine SIx.mk ?_ | refine SEx.mk ?_ | refine EIx.mk ?_ | refine RIx.mk ?_ | refine LkX.mk ?_ | show False | refine hR ?_ _ ?_ ?_ ?_ ?_ ?_ | refine hR2 ?_ _ ?_ ?_ ?_ ?_ ?_)); cbv))
 all_goals first | exact hx1 (by assumption) | exact hx2 (by assumption) | exact hx4 (by assumption) (by assumption) | exact hx5 (by assumption) (by assumption) | exact hx6 (by assumption) | skip
 · rename_i zk hzk za hza zs1 hs1 zc hzc zu hzu zb4 hb4 zs hzs zD hzD zC hzC hpq zr hzr h11 h12 h13 h14 zl hzl hlt zlo hzlo zU hzU zm hzm zhi hzhi zd hzd w hw tb htb z8 hz8 ts hts tr htr tq htq
   have hh := hhA hzD hzC hpq hzc hzu
   obtain ⟨hd, hhd, htx⟩ := (((hT6 hzs hs1 hzk hza hb4).app hT0 hzr).app (hTL htr htb hts hz8) htq).name (by decide)
   have hh2 : hb0 ++ (byW 8 (zlo) ++ [byO w]) = hd := by rw [← hhd, hh]
   have elo := hlo hy0 hzlo
   have ehi := hhi hzl hlt hzU hzm hy1 hzhi
   have hzl2 : z = (l.length : Int) := by rw [← hz, hDl]
   clear hz
   refine mintT hlp 1 28 rfl ?_
   refine loopT (ι := Int × List (List PV) × Nat) mixed tt_ok hcp hcc hlp [9, 25, 27, 247, 248] (fun p => [(249, .p (.int .i64 p.1)), (28, .tok 2 p.2.1)]) (fun p => [.cells [.p (.int .i64 a), .p (.sl n1), .p (.sl n2), .p (.sl n3)], .cells [.p (.sl U)], .spare p.2.2 1]) (fun p => 0 ≤ p.1 ∧ p.1 ≤ l.length ∧ ((l.take p.1.toNat).map (offN l)).map u64c = p.2.1 ∧ p.2.1.length = p.2.2) (fun p => (l.length - p.1).toNat) (0, [], 0) 3 (fun _ => rfl) ⟨Int.le_refl _, by show (0 : Int) ≤ _; omega, rfl, rfl⟩ ⟨rfl, rfl, trivial⟩ rfl ?_
   rintro R ⟨i, L, m2⟩ ⟨hi0, hi1, hL, hm⟩ hR
   replace hi0 : 0 ≤ i := hi0
   replace hi1 : i ≤ l.length := hi1
   replace hL : ((l.take i.toNat).map (offN l)).map u64c = L := hL
   replace hm : L.length = m2 := hm
   have hLn : L.length ≤ 4096 := by rw [← hL]; simp; omega
   have hok : okEs 1 L = true := by
     rw [← hL]; exact List.all_eq_true.2 fun e he => by obtain ⟨c, _, rfl⟩ := List.mem_map.1 he; rfl
   have hk : decide (i < z) = true → i < l.length := fun h => by have := of_decide_eq_true h; omega
   have hgo : decide (i < z) = true → 0 ≤ i + 1 ∧ i + 1 ≤ l.length ∧ (l.length - (i + 1)).toNat < (l.length - i).toNat ∧ IntKind.i64.wrap (i + 1) = i + 1 ∧ (i + 1).toNat = i.toNat + 1 := by
     intro h
     have := of_decide_eq_true h
     exact ⟨by omega, by omega, by omega, wrap_in (by omega), by omega⟩
   have hend : decide (i < z) = false → i.toNat = l.length := by
     intro h
     have := of_decide_eq_false h
     omega
   have hsd : ∀ {e : List (List PV)}, okEs 1 e = true → e.length ≤ 1 → m2 = L.length ∧ 1 = 1 ∧ okEs 1 L = true ∧ okEs 1 e = true ∧ L.length + e.length ≤ maxLen ∧ (L.length + e.length) * 8 ≤ 140737488355328 := by
     intro e h1 h2
     refine ⟨hm.symm, rfl, hok, h1, ?_, by omega⟩
     show _ ≤ 9223372036854775807
     omega
   have hst : ∀ {x : Val}, l[i.toNat]? = some x → ((l.take (i.toNat + 1)).map (offN l)).map u64c = L ++ [[PV.int .u64 ((offN l) x)]] := by
     intro x hx
     rw [take_snoc hx, List.map_append, List.map_append, hL]; rfl
   have hLe : decide (i < z) = false → (l.map (offN l)).map u64c = L := by
     intro h; rw [← hL, hend h, List.take_length]
   have hlm : (l.map (offN l)).length ≤ 4096 := by rw [List.length_map]; exact hl0
   have hw0 := lenI_le zd
   rw [hw] at hw0
   have hTb4 : ∀ {t : ByteArray}, toB (bitsB w (l.map (offN l))) = t → Txt t (bitsB w (l.map (offN l))) 50000 := by
     rintro t rfl
     exact ⟨rfl, bits_le hw0 hlm⟩
   repeat' (first
     | (with_reducible refine Nm.mk ?_; intro z hz)
     | (with_reducible refine IfB.mk ?_ ?_ <;> (intro h; cases h))
     | (with_reducible refine Two.l ?_; refine Asm.mk ?_ ?_; focus (decide +kernel))
     | (with_reducible refine Two.r ?_)
     | (with_reducible refine TwoT.r ?_)
     | (with_reducible refine TwoU.r ?_)
     | (with_reducible refine Asm.mk ?_ ?_; focus (first | exact htx.side (hTb4 (by assumption)) (by decide) (by decide) | exact hsd rfl (Nat.le_refl _) | (show (_ : Bool) = true; kernel_rfl)))
     | (with_reducible refine isCP hcp ?_; first | (refine sP hcp (bits_c (l.map (offN l)) L (hLe (by assumption)) hlm _ hw0) ?_; intro z hz))
     | (with_reducible refine isCC hcc ?_; first | (refine sA hcc (bits_c (l.map (offN l)) L (hLe (by assumption)) hlm _ hw0) rfl ?_; intro z hz) | (refine sR hcc (bits_c (l.map (offN l)) L (hLe (by assumption)) hlm _ hw0) rfl ?_; intro z hz))
     | (with_reducible refine Ix.map hD cells_len (by decide) hi0 (hk (by assumption)) ?_; intro x hx)
     | (with_reducible refine Asm.mk2 ?_ ?_)
     | ((fail_if_success (with_reducible first | refine hQ _ ?_ | refine Side.mk ?_ | refine isCP hcp ?_ | refine isCC hcc ?_ | refine isLP hlp ?_ | refine Ix.mk ?_ | refine SIx.mk ?_ | refine SEx.mk ?_ | refine EIx.mk ?_ | refine RIx.mk ?_ | refine LkX.mk ?_ | show False | refine hR ?_ _ ?_ ?_ ?_ ?_ ?_ | refine hR2 ?_ _ ?_ ?_ ?_ ?_ ?_)); cbv))
   · rename_i hiz z1 hz1 z2 hz2 zL hzL zm2 hzm2
     obtain ⟨g1, g2, g3, g4, g5⟩ := hgo hiz
     rw [g4] at hz
     subst hz
     refine hR (i + 1, zL, zm2) _ ⟨g1, g2, ?_, ?_⟩ g3 ⟨rfl, rfl, trivial⟩ ⟨rfl, rfl, rfl, rfl, rfl, trivial⟩ rfl
     · show ((l.take (i + 1).toNat).map (offN l)).map u64c = zL
       rw [g5, hst hx, ← hzL, ← hz2, ← hz1, offN, elo]; rfl
     · show zL.length = zm2
       rw [← hzL, ← hzm2, List.length_append]
   · rename_i hiz2 t ht
     have hR3 := htx.app (hTb4 ht) hz
     have hwW : offW l = w := by rw [offW, elo, ehi]; exact (congrArg lenI hzd).trans hw
     have e8 : IntKind.u8.wrap w = w := by rw [wrap_8]; omega
     have hby : byO w = UInt8.ofNat w.toNat := by rw [byO, e8]
     refine hQ _ ?_
     rw [hR3.e, ← hh2, offsB, hwW, elo, hby]
     simp only [List.append_assoc]
 · rename_i zk hzk za hza zs1 hs1 zc hzc zu hzu zb4 hb4 zs hzs zD hzD zC hzC hpq zr hzr h11 h12 h13 h14 zl hzl hlt zd hzd w hw tb htb z8 hz8 ts hts tr htr tq htq
   have hh := hhA hzD hzC hpq hzc hzu
   obtain ⟨hd, hhd, htx⟩ := (((hT6 hzs hs1 hzk hza hb4).app hT0 hzr).app (hTL htr htb hts hz8) htq).name (by decide)
   have hh2 : hb0 ++ (byW 8 (0) ++ [byO w]) = hd := by rw [← hhd, hh]
   obtain ⟨elo, ehi⟩ := hemp hzl hlt
   have hzl2 : z = (l.length : Int) := by rw [← hz, hDl]
   clear hz
   refine mintT hlp 1 28 rfl ?_
   refine loopT (ι := Int × List (List PV) × Nat) mixed tt_ok hcp hcc hlp [9, 25, 27, 247, 248] (fun p => [(249, .p (.int .i64 p.1)), (28, .tok 2 p.2.1)]) (fun p => [.cells [.p (.int .i64 a), .p (.sl n1), .p (.sl n2), .p (.sl n3)], .cells [.p (.sl U)], .spare p.2.2 1]) (fun p => 0 ≤ p.1 ∧ p.1 ≤ l.length ∧ ((l.take p.1.toNat).map (offN l)).map u64c = p.2.1 ∧ p.2.1.length = p.2.2) (fun p => (l.length - p.1).toNat) (0, [], 0) 3 (fun _ => rfl) ⟨Int.le_refl _, by show (0 : Int) ≤ _; omega, rfl, rfl⟩ ⟨rfl, rfl, trivial⟩ rfl ?_
   rintro R ⟨i, L, m2⟩ ⟨hi0, hi1, hL, hm⟩ hR
   replace hi0 : 0 ≤ i := hi0
   replace hi1 : i ≤ l.length := hi1
   replace hL : ((l.take i.toNat).map (offN l)).map u64c = L := hL
   replace hm : L.length = m2 := hm
   have hLn : L.length ≤ 4096 := by rw [← hL]; simp; omega
   have hok : okEs 1 L = true := by
     rw [← hL]; exact List.all_eq_true.2 fun e he => by obtain ⟨c, _, rfl⟩ := List.mem_map.1 he; rfl
   have hk : decide (i < z) = true → i < l.length := fun h => by have := of_decide_eq_true h; omega
   have hgo : decide (i < z) = true → 0 ≤ i + 1 ∧ i + 1 ≤ l.length ∧ (l.length - (i + 1)).toNat < (l.length - i).toNat ∧ IntKind.i64.wrap (i + 1) = i + 1 ∧ (i + 1).toNat = i.toNat + 1 := by
     intro h
     have := of_decide_eq_true h
     exact ⟨by omega, by omega, by omega, wrap_in (by omega), by omega⟩
   have hend : decide (i < z) = false → i.toNat = l.length := by
     intro h
     have := of_decide_eq_false h
     omega
   have hsd : ∀ {e : List (List PV)}, okEs 1 e = true → e.length ≤ 1 → m2 = L.length ∧ 1 = 1 ∧ okEs 1 L = true ∧ okEs 1 e = true ∧ L.length + e.length ≤ maxLen ∧ (L.length + e.length) * 8 ≤ 140737488355328 := by
     intro e h1 h2
     refine ⟨hm.symm, rfl, hok, h1, ?_, by omega⟩
     show _ ≤ 9223372036854775807
     omega
   have hst : ∀ {x : Val}, l[i.toNat]? = some x → ((l.take (i.toNat + 1)).map (offN l)).map u64c = L ++ [[PV.int .u64 ((offN l) x)]] := by
     intro x hx
     rw [take_snoc hx, List.map_append, List.map_append, hL]; rfl
   have hLe : decide (i < z) = false → (l.map (offN l)).map u64c = L := by
     intro h; rw [← hL, hend h, List.take_length]
   have hlm : (l.map (offN l)).length ≤ 4096 := by rw [List.length_map]; exact hl0
   have hw0 := lenI_le zd
   rw [hw] at hw0
   have hTb4 : ∀ {t : ByteArray}, toB (bitsB w (l.map (offN l))) = t → Txt t (bitsB w (l.map (offN l))) 50000 := by
     rintro t rfl
     exact ⟨rfl, bits_le hw0 hlm⟩
   repeat' (first
     | (with_reducible refine Nm.mk ?_; intro z hz)
     | (with_reducible refine IfB.mk ?_ ?_ <;> (intro h; cases h))
     | (with_reducible refine Two.l ?_; refine Asm.mk ?_ ?_; focus (decide +kernel))
     | (with_reducible refine Two.r ?_)
     | (with_reducible refine TwoT.r ?_)
     | (with_reducible refine TwoU.r ?_)
     | (with_reducible refine Asm.mk ?_ ?_; focus (first | exact htx.side (hTb4 (by assumption)) (by decide) (by decide) | exact hsd rfl (Nat.le_refl _) | (show (_ : Bool) = true; kernel_rfl)))
     | (with_reducible refine isCP hcp ?_; first | (refine sP hcp (bits_c (l.map (offN l)) L (hLe (by assumption)) hlm _ hw0) ?_; intro z hz))
     | (with_reducible refine isCC hcc ?_; first | (refine sA hcc (bits_c (l.map (offN l)) L (hLe (by assumption)) hlm _ hw0) rfl ?_; intro z hz) | (refine sR hcc (bits_c (l.map (offN l)) L (hLe (by assumption)) hlm _ hw0) rfl ?_; intro z hz))
     | (with_reducible refine Ix.map hD cells_len (by decide) hi0 (hk (by assumption)) ?_; intro x hx)
     | (with_reducible refine Asm.mk2 ?_ ?_)
     | ((fail_if_success (with_reducible first | refine hQ _ ?_ | refine Side.mk ?_ | refine isCP hcp ?_ | refine isCC hcc ?_ | refine isLP hlp ?_ | refine Ix.mk ?_ | refine SIx.mk ?_ | refine SEx.mk ?_ | refine EIx.mk ?_ | refine RIx.mk ?_ | refine LkX.mk ?_ | show False | refine hR ?_ _ ?_ ?_ ?_ ?_ ?_ | refine hR2 ?_ _ ?_ ?_ ?_ ?_ ?_)); cbv))
   · rename_i hiz z1 hz1 z2 hz2 zL hzL zm2 hzm2
     obtain ⟨g1, g2, g3, g4, g5⟩ := hgo hiz
     rw [g4] at hz
     subst hz
     refine hR (i + 1, zL, zm2) _ ⟨g1, g2, ?_, ?_⟩ g3 ⟨rfl, rfl, trivial⟩ ⟨rfl, rfl, rfl, rfl, rfl, trivial⟩ rfl
     · show ((l.take (i + 1).toNat).map (offN l)).map u64c = zL
       rw [g5, hst hx, ← hzL, ← hz2, ← hz1, offN, elo]; rfl
     · show zL.length = zm2
       rw [← hzL, ← hzm2, List.length_append]
   · rename_i hiz2 t ht
     have hR3 := htx.app (hTb4 ht) hz
     have hwW : offW l = w := by rw [offW, elo, ehi]; exact (congrArg lenI hzd).trans hw
     have e8 : IntKind.u8.wrap w = w := by rw [wrap_8]; omega
     have hby : byO w = UInt8.ofNat w.toNat := by rw [byO, e8]
     refine hQ _ ?_
     rw [hR3.e, ← hh2, offsB, hwW, elo, hby]
     simp only [List.append_assoc]
 · rename_i zk hzk za hza zs1 hs1 zc hzc zu hzu zb4 hb4 zs hzs zD hzD zC hzC hpq
   have hh := hhM hzD hzC hpq hzc hzu
   have hzl : z = (vs.length : Int) := by rw [← hz, hCl]
   clear hz
   refine mintT hlp 1 10 rfl ?_
   refine loopT (ι := Int × List (List PV) × Nat) mixed tt_ok hcp hcc hlp [1, 6, 7, 8, 9, 88, 89] (fun p => [(90, .p (.int .i64 p.1)), (10, .tok 2 p.2.1)]) (fun p => [.cells [.p (.int .i64 a), .p (.sl n1), .p (.sl n2), .p (.sl n3)], .cells [.p (.sl U)], .spare p.2.2 1]) (fun p => 0 ≤ p.1 ∧ p.1 ≤ vs.length ∧ ((vs.take p.1.toNat).map markN).map u64c = p.2.1 ∧ p.2.1.length = p.2.2) (fun p => (vs.length - p.1).toNat) (0, [], 0) 3 (fun _ => rfl) ⟨Int.le_refl _, by show (0 : Int) ≤ _; omega, rfl, rfl⟩ ⟨rfl, rfl, trivial⟩ rfl ?_
   rintro R ⟨i, L, m⟩ ⟨hi0, hi1, hL, hm⟩ hR
   replace hi0 : 0 ≤ i := hi0
   replace hi1 : i ≤ vs.length := hi1
   replace hL : ((vs.take i.toNat).map markN).map u64c = L := hL
   replace hm : L.length = m := hm
   have hLn : L.length ≤ 4096 := by rw [← hL]; simp; omega
   have hok : okEs 1 L = true := by
     rw [← hL]; exact List.all_eq_true.2 fun e he => by obtain ⟨c, _, rfl⟩ := List.mem_map.1 he; rfl
   have hk : decide (i < z) = true → i < vs.length := fun h => by have := of_decide_eq_true h; omega
   have hgo : decide (i < z) = true → 0 ≤ i + 1 ∧ i + 1 ≤ vs.length ∧ (vs.length - (i + 1)).toNat < (vs.length - i).toNat ∧ IntKind.i64.wrap (i + 1) = i + 1 ∧ (i + 1).toNat = i.toNat + 1 := by
     intro h
     have := of_decide_eq_true h
     exact ⟨by omega, by omega, by omega, wrap_in (by omega), by omega⟩
   have hend : decide (i < z) = false → i.toNat = vs.length := by
     intro h
     have := of_decide_eq_false h
     omega
   have hsd : ∀ {e : List (List PV)}, okEs 1 e = true → e.length ≤ 1 → m = L.length ∧ 1 = 1 ∧ okEs 1 L = true ∧ okEs 1 e = true ∧ L.length + e.length ≤ maxLen ∧ (L.length + e.length) * 8 ≤ 140737488355328 := by
     intro e h1 h2
     refine ⟨hm.symm, rfl, hok, h1, ?_, by omega⟩
     show _ ≤ 9223372036854775807
     omega
   have hmk : ∀ {x : Val} {zb : Bool} {v : Val} {zu : Int}, decide (x.k = 0) = zb → truthV zb = v → IntKind.u64.wrap v.n = zu → zu = markN x := by
     rintro x zb v zu rfl rfl rfl
     rw [markN]
     by_cases h : x.k = 0
     · rw [if_pos h, decide_eq_true h]; decide
     · rw [if_neg h, decide_eq_false h]; decide
   have hst : ∀ {x : Val}, vs[i.toNat]? = some x → ((vs.take (i.toNat + 1)).map markN).map u64c = L ++ [[PV.int .u64 (markN x)]] := by
     intro x hx
     rw [take_snoc hx, List.map_append, List.map_append, hL]; rfl
   have hLe : decide (i < z) = false → (vs.map markN).map u64c = L := by
     intro h; rw [← hL, hend h, List.take_length]
   have hTm : ∀ {s r : ByteArray}, ⟨⟨[1]⟩⟩ ++ s = r → toB (bitsB 1 (vs.map markN)) = s → Txt r ([1] ++ bitsB 1 (vs.map markN)) 1001 := fun e e1 => hT1.app (hTb e1) e
   have hTM : ∀ {z1 z2 x : Int} {s t r q y w : ByteArray}, r ++ y = q → ⟨⟨[1]⟩⟩ ++ w = y → toB (bitsB 1 (vs.map markN)) = w → s ++ t = r → strOf [[PV.int .u8 z1], [PV.int .u8 z2]] = s → IntKind.u8.wrap 4 = z1 → IntKind.u8.wrap a = z2 → toB (byW 4 x) = t → Txt q ([kb, ab] ++ byW 4 x ++ ([1] ++ bitsB 1 (vs.map markN))) (6 + 1001) := fun e0 e9 e8 e e1 e2 e3 e4 => (hT6 e e1 e2 e3 e4).app (hTm e9 e8) e0
   repeat' (first
     | (with_reducible exact absurd (by assumption) hxc1)
     | (with_reducible exact absurd (by assumption) hxc2)
     | (with_reducible exact absurd (by assumption) hxc3)
     | (with_reducible exact absurd (by assumption) hxc4)
     | (with_reducible refine Nm.mk ?_; intro z hz)
     | (with_reducible refine IfB.mk ?_ ?_ <;> (intro h; cases h))
     | (with_reducible refine Two.l ?_; refine Asm.mk ?_ ?_; focus (decide +kernel))
     | (with_reducible refine Two.r ?_)
     | (with_reducible refine TwoT.r ?_)
     | (with_reducible refine TwoU.r ?_)
     | (with_reducible refine Asm.mk ?_ ?_; focus (first | exact hT1.side (hTb (by assumption)) (by decide) (by decide) | exact (hT6 (by assumption) (by assumption) (by assumption) (by assumption) (by assumption)).side (hTm (by assumption) (by assumption)) (by decide) (by decide) | exact (hT8 (by assumption)).side (hTw (by assumption) (by assumption)) (by decide) (by decide) | exact (hTM (by assumption) (by assumption) (by assumption) (by assumption) (by assumption) (by assumption) (by assumption) (by assumption)).side (hTL (by assumption) (by assumption) (by assumption) (by assumption)) (by decide) (by decide) | exact hsd rfl (Nat.le_refl _) | (show (_ : Bool) = true; kernel_rfl)))
     | (with_reducible refine isCP hcp ?_; first | (refine vP hcp (truth_c _) ?_; intro v hv) | (refine sP hcp (bits_c (vs.map markN) L (hLe (by assumption)) (by rw [List.length_map]; exact hvle2) 1 (by decide)) ?_; intro z hz) | (refine iP hcp (width_c _ (by first | exact hu64 (by assumption) | decide)) ?_; intro z hz) | (refine sP hcp (bytesW_c 8 _ (by first | exact hpos (by assumption) | decide) (by decide)) ?_; intro z hz))
     | (with_reducible refine isCC hcc ?_; first | (refine vA hcc (truth_c _) rfl ?_; intro v hv) | (refine vR hcc (truth_c _) rfl ?_; intro v hv) | (refine sA hcc (bits_c (vs.map markN) L (hLe (by assumption)) (by rw [List.length_map]; exact hvle2) 1 (by decide)) rfl ?_; intro z hz) | (refine sR hcc (bits_c (vs.map markN) L (hLe (by assumption)) (by rw [List.length_map]; exact hvle2) 1 (by decide)) rfl ?_; intro z hz) | (refine iA hcc (width_c _ (by first | exact hu64 (by assumption) | decide)) rfl ?_; intro z hz) | (refine iR hcc (width_c _ (by first | exact hu64 (by assumption) | decide)) rfl ?_; intro z hz) | (refine sA hcc (bytesW_c 8 _ (by first | exact hpos (by assumption) | decide) (by decide)) rfl ?_; intro z hz) | (refine sR hcc (bytesW_c 8 _ (by first | exact hpos (by assumption) | decide) (by decide)) rfl ?_; intro z hz))
     | (with_reducible refine Ix.map hC cells_len (by decide) hi0 (hk (by assumption)) ?_; intro x hx)
     | (with_reducible refine Ix.map hU cells_len (by decide) (Int.le_refl 0) (hU0 (by assumption) (by assumption)) ?_; intro y0 hy0)
     | (with_reducible refine Ix.map hU cells_len (by decide) (hUm (by assumption) (by assumption) (by assumption) (by assumption)).1 (hUm (by assumption) (by assumption) (by assumption) (by assumption)).2.1 ?_; intro y1 hy1)
     | (with_reducible refine Asm.mk2 ?_ ?_)
     | ((fail_if_success (with_reducible first | refine hQ _ ?_ | refine Side.mk ?_ | refine isCP hcp ?_ | refine isCC hcc ?_ | refine isLP hlp ?_ | refine Ix.mk ?_ | refine SIx.mk ?_ | refine SEx.mk ?_ | refine EIx.mk ?_ | refine RIx.mk ?_ | refine LkX.mk ?_ | show False | refine hR ?_ _ ?_ ?_ ?_ ?_ ?_ | refine hR2 ?_ _ ?_ ?_ ?_ ?_ ?_)); cbv))
   · rename_i hiz zb hzb zu hzu zL hzL zm hzm
     obtain ⟨g1, g2, g3, g4, g5⟩ := hgo hiz
     rw [g4] at hz
     subst hz
     refine hR (i + 1, zL, zm) _ ⟨g1, g2, ?_, ?_⟩ g3 ⟨rfl, rfl, trivial⟩ ⟨rfl, rfl, rfl, rfl, rfl, rfl, rfl, trivial⟩ rfl
     · show ((vs.take (i + 1).toNat).map markN).map u64c = zL
       rw [g5, hst hx, ← hzL, hmk hzb hv hzu]
     · show zL.length = zm
       rw [← hzL, ← hzm, List.length_append]
   · rename_i hiz zb hzb zr hzr zq2 hzq2 h11 h12 h13 h14 zl hzl hlt zlo hzlo zU hzU zm hzm zhi hzhi zd hzd w hw tb htb z8 hz8 ts hts tr htr tq htq
     obtain ⟨hd, hhd, htx⟩ := (((hT6 hzs hs1 hzk hza hb4).app (hTm hzr hzb) hzq2).app (hTL htr htb hts hz8) htq).name (by decide)
     clear hR hL hm hLn hok hk hgo hend hsd hmk hst hLe hTm
     have hh2 : hb0 ++ (byW 8 (zlo) ++ [byO w]) = hd := by rw [← hhd, hh]
     have elo := hlo hy0 hzlo
     have ehi := hhi hzl hlt hzU hzm hy1 hzhi
     have hzl2 : z = (l.length : Int) := by rw [← hz, hDl]
     clear hz
     refine mintT hlp 1 28 rfl ?_
     refine loopT (ι := Int × List (List PV) × Nat) mixed tt_ok hcp hcc hlp [9, 25, 27, 247, 248] (fun p => [(249, .p (.int .i64 p.1)), (28, .tok 3 p.2.1)]) (fun p => [.cells [.p (.int .i64 a), .p (.sl n1), .p (.sl n2), .p (.sl n3)], .cells [.p (.sl U)], .spare m 1, .spare p.2.2 1]) (fun p => 0 ≤ p.1 ∧ p.1 ≤ l.length ∧ ((l.take p.1.toNat).map (offN l)).map u64c = p.2.1 ∧ p.2.1.length = p.2.2) (fun p => (l.length - p.1).toNat) (0, [], 0) 4 (fun _ => rfl) ⟨Int.le_refl _, by show (0 : Int) ≤ _; omega, rfl, rfl⟩ ⟨rfl, rfl, trivial⟩ rfl ?_
     rintro R ⟨i, L, m2⟩ ⟨hi0, hi1, hL, hm⟩ hR
     replace hi0 : 0 ≤ i := hi0
     replace hi1 : i ≤ l.length := hi1
     replace hL : ((l.take i.toNat).map (offN l)).map u64c = L := hL
     replace hm : L.length = m2 := hm
     have hLn : L.length ≤ 4096 := by rw [← hL]; simp; omega
     have hok : okEs 1 L = true := by
       rw [← hL]; exact List.all_eq_true.2 fun e he => by obtain ⟨c, _, rfl⟩ := List.mem_map.1 he; rfl
     have hk : decide (i < z) = true → i < l.length := fun h => by have := of_decide_eq_true h; omega
     have hgo : decide (i < z) = true → 0 ≤ i + 1 ∧ i + 1 ≤ l.length ∧ (l.length - (i + 1)).toNat < (l.length - i).toNat ∧ IntKind.i64.wrap (i + 1) = i + 1 ∧ (i + 1).toNat = i.toNat + 1 := by
       intro h
       have := of_decide_eq_true h
       exact ⟨by omega, by omega, by omega, wrap_in (by omega), by omega⟩
     have hend : decide (i < z) = false → i.toNat = l.length := by
       intro h
       have := of_decide_eq_false h
       omega
     have hsd : ∀ {e : List (List PV)}, okEs 1 e = true → e.length ≤ 1 → m2 = L.length ∧ 1 = 1 ∧ okEs 1 L = true ∧ okEs 1 e = true ∧ L.length + e.length ≤ maxLen ∧ (L.length + e.length) * 8 ≤ 140737488355328 := by
       intro e h1 h2
       refine ⟨hm.symm, rfl, hok, h1, ?_, by omega⟩
       show _ ≤ 9223372036854775807
       omega
     have hst : ∀ {x : Val}, l[i.toNat]? = some x → ((l.take (i.toNat + 1)).map (offN l)).map u64c = L ++ [[PV.int .u64 ((offN l) x)]] := by
       intro x hx
       rw [take_snoc hx, List.map_append, List.map_append, hL]; rfl
     have hLe : decide (i < z) = false → (l.map (offN l)).map u64c = L := by
       intro h; rw [← hL, hend h, List.take_length]
     have hlm : (l.map (offN l)).length ≤ 4096 := by rw [List.length_map]; exact hl0
     have hw0 := lenI_le zd
     rw [hw] at hw0
     have hTb4 : ∀ {t : ByteArray}, toB (bitsB w (l.map (offN l))) = t → Txt t (bitsB w (l.map (offN l))) 50000 := by
       rintro t rfl
       exact ⟨rfl, bits_le hw0 hlm⟩
     repeat' (first
       | (with_reducible refine Nm.mk ?_; intro z hz)
       | (with_reducible refine IfB.mk ?_ ?_ <;> (intro h; cases h))
       | (with_reducible refine Two.l ?_; refine Asm.mk ?_ ?_; focus (decide +kernel))
       | (with_reducible refine Two.r ?_)
       | (with_reducible refine TwoT.r ?_)
       | (with_reducible refine TwoU.r ?_)
       | (with_reducible refine Asm.mk ?_ ?_; focus (first | exact htx.side (hTb4 (by assumption)) (by decide) (by decide) | exact hsd rfl (Nat.le_refl _) | (show (_ : Bool) = true; kernel_rfl)))
       | (with_reducible refine isCP hcp ?_; first | (refine sP hcp (bits_c (l.map (offN l)) L (hLe (by assumption)) hlm _ hw0) ?_; intro z hz))
       | (with_reducible refine isCC hcc ?_; first | (refine sA hcc (bits_c (l.map (offN l)) L (hLe (by assumption)) hlm _ hw0) rfl ?_; intro z hz) | (refine sR hcc (bits_c (l.map (offN l)) L (hLe (by assumption)) hlm _ hw0) rfl ?_; intro z hz))
       | (with_reducible refine Ix.map hD cells_len (by decide) hi0 (hk (by assumption)) ?_; intro x hx)
       | (with_reducible refine Asm.mk2 ?_ ?_)
       | ((fail_if_success (with_reducible first | refine hQ _ ?_ | refine Side.mk ?_ | refine isCP hcp ?_ | refine isCC hcc ?_ | refine isLP hlp ?_ | refine Ix.mk ?_ | refine SIx.mk ?_ | refine SEx.mk ?_ | refine EIx.mk ?_ | refine RIx.mk ?_ | refine LkX.mk ?_ | show False | refine hR ?_ _ ?_ ?_ ?_ ?_ ?_ | refine hR2 ?_ _ ?_ ?_ ?_ ?_ ?_)); cbv))
     · rename_i hiz z1 hz1 z2 hz2 zL hzL zm2 hzm2
       obtain ⟨g1, g2, g3, g4, g5⟩ := hgo hiz
       rw [g4] at hz
       subst hz
       refine hR (i + 1, zL, zm2) _ ⟨g1, g2, ?_, ?_⟩ g3 ⟨rfl, rfl, trivial⟩ ⟨rfl, rfl, rfl, rfl, rfl, trivial⟩ rfl
       · show ((l.take (i + 1).toNat).map (offN l)).map u64c = zL
         rw [g5, hst hx, ← hzL, ← hz2, ← hz1, offN, elo]; rfl
       · show zL.length = zm2
         rw [← hzL, ← hzm2, List.length_append]
     · rename_i hiz2 t ht
       have hR3 := htx.app (hTb4 ht) hz
       have hwW : offW l = w := by rw [offW, elo, ehi]; exact (congrArg lenI hzd).trans hw
       have e8 : IntKind.u8.wrap w = w := by rw [wrap_8]; omega
       have hby : byO w = UInt8.ofNat w.toNat := by rw [byO, e8]
       refine hQ _ ?_
       rw [hR3.e, ← hh2, offsB, hwW, elo, hby]
       simp only [List.append_assoc]
   · rename_i hiz zb hzb zr hzr zq2 hzq2 h11 h12 h13 h14 zl hzl hlt zd hzd w hw tb htb z8 hz8 ts hts tr htr tq htq
     obtain ⟨hd, hhd, htx⟩ := (((hT6 hzs hs1 hzk hza hb4).app (hTm hzr hzb) hzq2).app (hTL htr htb hts hz8) htq).name (by decide)
     clear hR hL hm hLn hok hk hgo hend hsd hmk hst hLe hTm
     have hh2 : hb0 ++ (byW 8 (0) ++ [byO w]) = hd := by rw [← hhd, hh]
     obtain ⟨elo, ehi⟩ := hemp hzl hlt
     have hzl2 : z = (l.length : Int) := by rw [← hz, hDl]
     clear hz
     refine mintT hlp 1 28 rfl ?_
     refine loopT (ι := Int × List (List PV) × Nat) mixed tt_ok hcp hcc hlp [9, 25, 27, 247, 248] (fun p => [(249, .p (.int .i64 p.1)), (28, .tok 3 p.2.1)]) (fun p => [.cells [.p (.int .i64 a), .p (.sl n1), .p (.sl n2), .p (.sl n3)], .cells [.p (.sl U)], .spare m 1, .spare p.2.2 1]) (fun p => 0 ≤ p.1 ∧ p.1 ≤ l.length ∧ ((l.take p.1.toNat).map (offN l)).map u64c = p.2.1 ∧ p.2.1.length = p.2.2) (fun p => (l.length - p.1).toNat) (0, [], 0) 4 (fun _ => rfl) ⟨Int.le_refl _, by show (0 : Int) ≤ _; omega, rfl, rfl⟩ ⟨rfl, rfl, trivial⟩ rfl ?_
     rintro R ⟨i, L, m2⟩ ⟨hi0, hi1, hL, hm⟩ hR
     replace hi0 : 0 ≤ i := hi0
     replace hi1 : i ≤ l.length := hi1
     replace hL : ((l.take i.toNat).map (offN l)).map u64c = L := hL
     replace hm : L.length = m2 := hm
     have hLn : L.length ≤ 4096 := by rw [← hL]; simp; omega
     have hok : okEs 1 L = true := by
       rw [← hL]; exact List.all_eq_true.2 fun e he => by obtain ⟨c, _, rfl⟩ := List.mem_map.1 he; rfl
     have hk : decide (i < z) = true → i < l.length := fun h => by have := of_decide_eq_true h; omega
     have hgo : decide (i < z) = true → 0 ≤ i + 1 ∧ i + 1 ≤ l.length ∧ (l.length - (i + 1)).toNat < (l.length - i).toNat ∧ IntKind.i64.wrap (i + 1) = i + 1 ∧ (i + 1).toNat = i.toNat + 1 := by
       intro h
       have := of_decide_eq_true h
       exact ⟨by omega, by omega, by omega, wrap_in (by omega), by omega⟩
     have hend : decide (i < z) = false → i.toNat = l.length := by
       intro h
       have := of_decide_eq_false h
       omega
     have hsd : ∀ {e : List (List PV)}, okEs 1 e = true → e.length ≤ 1 → m2 = L.length ∧ 1 = 1 ∧ okEs 1 L = true ∧ okEs 1 e = true ∧ L.length + e.length ≤ maxLen ∧ (L.length + e.length) * 8 ≤ 140737488355328 := by
       intro e h1 h2
       refine ⟨hm.symm, rfl, hok, h1, ?_, by omega⟩
       show _ ≤ 9223372036854775807
       omega
     have hst : ∀ {x : Val}, l[i.toNat]? = some x → ((l.take (i.toNat + 1)).map (offN l)).map u64c = L ++ [[PV.int .u64 ((offN l) x)]] := by
       intro x hx
       rw [take_snoc hx, List.map_append, List.map_append, hL]; rfl
     have hLe : decide (i < z) = false → (l.map (offN l)).map u64c = L := by
       intro h; rw [← hL, hend h, List.take_length]
     have hlm : (l.map (offN l)).length ≤ 4096 := by rw [List.length_map]; exact hl0
     have hw0 := lenI_le zd
     rw [hw] at hw0
     have hTb4 : ∀ {t : ByteArray}, toB (bitsB w (l.map (offN l))) = t → Txt t (bitsB w (l.map (offN l))) 50000 := by
       rintro t rfl
       exact ⟨rfl, bits_le hw0 hlm⟩
     repeat' (first
       | (with_reducible refine Nm.mk ?_; intro z hz)
       | (with_reducible refine IfB.mk ?_ ?_ <;> (intro h; cases h))
       | (with_reducible refine Two.l ?_; refine Asm.mk ?_ ?_; focus (decide +kernel))
       | (with_reducible refine Two.r ?_)
       | (with_reducible refine TwoT.r ?_)
       | (with_reducible refine TwoU.r ?_)
       | (with_reducible refine Asm.mk ?_ ?_; focus (first | exact htx.side (hTb4 (by assumption)) (by decide) (by decide) | exact hsd rfl (Nat.le_refl _) | (show (_ : Bool) = true; kernel_rfl)))
       | (with_reducible refine isCP hcp ?_; first | (refine sP hcp (bits_c (l.map (offN l)) L (hLe (by assumption)) hlm _ hw0) ?_; intro z hz))
       | (with_reducible refine isCC hcc ?_; first | (refine sA hcc (bits_c (l.map (offN l)) L (hLe (by assumption)) hlm _ hw0) rfl ?_; intro z hz) | (refine sR hcc (bits_c (l.map (offN l)) L (hLe (by assumption)) hlm _ hw0) rfl ?_; intro z hz))
       | (with_reducible refine Ix.map hD cells_len (by decide) hi0 (hk (by assumption)) ?_; intro x hx)
       | (with_reducible refine Asm.mk2 ?_ ?_)
       | ((fail_if_success (with_reducible first | refine hQ _ ?_ | refine Side.mk ?_ | refine isCP hcp ?_ | refine isCC hcc ?_ | refine isLP hlp ?_ | refine Ix.mk ?_ | refine SIx.mk ?_ | refine SEx.mk ?_ | refine EIx.mk ?_ | refine RIx.mk ?_ | refine LkX.mk ?_ | show False | refine hR ?_ _ ?_ ?_ ?_ ?_ ?_ | refine hR2 ?_ _ ?_ ?_ ?_ ?_ ?_)); cbv))
     · rename_i hiz z1 hz1 z2 hz2 zL hzL zm2 hzm2
       obtain ⟨g1, g2, g3, g4, g5⟩ := hgo hiz
       rw [g4] at hz
       subst hz
       refine hR (i + 1, zL, zm2) _ ⟨g1, g2, ?_, ?_⟩ g3 ⟨rfl, rfl, trivial⟩ ⟨rfl, rfl, rfl, rfl, rfl, trivial⟩ rfl
       · show ((l.take (i + 1).toNat).map (offN l)).map u64c = zL
         rw [g5, hst hx, ← hzL, ← hz2, ← hz1, offN, elo]; rfl
       · show zL.length = zm2
         rw [← hzL, ← hzm2, List.length_append]
     · rename_i hiz2 t ht
       have hR3 := htx.app (hTb4 ht) hz
       have hwW : offW l = w := by rw [offW, elo, ehi]; exact (congrArg lenI hzd).trans hw
       have e8 : IntKind.u8.wrap w = w := by rw [wrap_8]; omega
       have hby : byO w = UInt8.ofNat w.toNat := by rw [byO, e8]
       refine hQ _ ?_
       rw [hR3.e, ← hh2, offsB, hwW, elo, hby]
       simp only [List.append_assoc]
end Go.Proofs.Ytcajncmjlmpkgaa

namespace Go.Proofs.Ytcajncmjlmpkgaa
open Go Go.RowKit
set_option maxRecDepth 100000
set_option linter.unusedSimpArgs false
set_option linter.unusedVariables false
theorem rwrite_c (k a : Int) (B : List Bool) (N : List Int) (S : List ByteArray) (n1 n2 n3 : List (List PV)) (h1 : B.map boolc = n1) (h2 : N.map i64c = n2) (h3 : S.map strc = n3) (hsz : B.length ≤ 1048577) :
   PCall Try.prog 28 [.agg [.int .i64 a, .sl n1, .sl n2, .sl n3], .int .i64 k] fun r => r = [.str (outW k ⟨a, B, N, S⟩), .int .i64 (outE k ⟨a, B, N, S⟩)] := by
 by_cases hr : refuseW k ⟨a, B, N, S⟩ = true
 · rw [outW, outE, if_pos hr, if_pos hr]
   refine rwriteE_c k a B N S n1 n2 n3 h1 h2 h3 hsz ?_
   rw [refuseW, Bool.or_eq_true] at hr
   exact hr.imp id of_decide_eq_true
 · rw [outW, outE, if_neg hr, if_neg hr]
   rw [refuseW, Bool.or_eq_true] at hr
   have hb : badW k ⟨a, B, N, S⟩ = false := by
     cases h : badW k ⟨a, B, N, S⟩ with
     | true => exact absurd (.inl h) hr
     | false => rfl
   have hB : B.length ≤ 4096 := by
     rcases Nat.lt_or_ge 4096 B.length with h | h
     · exact absurd (.inr (decide_eq_true h)) hr
     · exact h
   simp only [badW, Bool.or_eq_false_iff, Bool.not_eq_false', decide_eq_false_iff_not, Bool.and_eq_false_iff] at hb
   obtain ⟨⟨⟨hg, hk1⟩, hk4⟩, hk42⟩ := hb
   have hkk : k = 1 ∨ k = 2 ∨ k = 3 ∨ k = 4 := by omega
   rcases hkk with rfl | rfl | rfl | rfl
   · exact rwrite1_c a B N S n1 n2 n3 h1 h2 h3 hg hB
   · exact rwrite2_c a B N S n1 n2 n3 h1 h2 h3 hg hB
   · exact rwrite3_c a B N S n1 n2 n3 h1 h2 h3 hg hB
   · refine rwrite4_c a B N S n1 n2 n3 h1 h2 h3 hg hB ?_
     rcases good_kind hg with h | h
     · exact h
     · rcases hk42 with h5 | h5
       · exact absurd rfl h5
       · exact absurd h h5
set_option maxHeartbeats 400000 in
theorem rpack_c (a : Int) (B : List Bool) (N : List Int) (S : List ByteArray) (n1 n2 n3 : List (List PV)) (h1 : B.map boolc = n1) (h2 : N.map i64c = n2) (h3 : S.map strc = n3) (hsz : B.length ≤ 1048577) :
   PCall Try.prog 30 [.agg [.int .i64 a, .sl n1, .sl n2, .sl n3]] fun r => r = [.str (packOut ⟨a, B, N, S⟩), .int .i64 (outE 1 ⟨a, B, N, S⟩)] := by
 obtain ⟨V, hV⟩ : ∃ V : Vec, ⟨a, B, N, S⟩ = V := ⟨_, rfl⟩
 have hw : ∀ k : Int, PCall Try.prog 28 [.agg [.int .i64 a, .sl n1, .sl n2, .sl n3], .int .i64 k] fun r => r = [.str (outW k V), .int .i64 (outE k V)] := by
   intro k; rw [← hV]; exact rwrite_c k a B N S n1 n2 n3 h1 h2 h3 hsz
 rw [hV]
 refine PCall.x (nt := 38) (res := [.tmp 2, .tmp 3]) mixed tt_ok [] Try.func30 rfl rfl rfl c30 (Nat.le_of_ble_eq_true rfl) ?_
 intro cp cc lp Q' hcp hcc hlp hQ
 repeat' (first
   | (with_reducible refine Nm.mk ?_; intro z hz)
   | (with_reducible refine IfB.mk ?_ ?_ <;> (intro h; cases h))
   | (with_reducible refine Two.l ?_; refine Asm.mk ?_ ?_; focus (decide +kernel))
   | (with_reducible refine Two.r ?_)
   | (with_reducible refine TwoT.r ?_)
   | (with_reducible refine TwoU.r ?_)
   | (with_reducible refine Asm.mk ?_ ?_; focus (first | (show (_ : Bool) = true; kernel_rfl)))
   | (with_reducible refine isCP hcp ?_; first | (refine wrP hcp (hw _) ?_; intro s e hs he))
   | (with_reducible refine isCC hcc ?_; first | (refine wrA hcc (hw _) rfl ?_; intro s e hs he))
   | (with_reducible refine Asm.mk2 ?_ ?_)
   | ((fail_if_success (with_reducible first | refine hQ _ ?_ | refine Side.mk ?_ | refine isCP hcp ?_ | refine isCC hcc ?_ | refine isLP hlp ?_ | refine Ix.mk ?_ | refine SIx.mk ?_ | refine SEx.mk ?_ | refine EIx.mk ?_ | refine RIx.mk ?_ | refine LkX.mk ?_ | show False | refine hR ?_ _ ?_ ?_ ?_ ?_ ?_ | refine hR2 ?_ _ ?_ ?_ ?_ ?_ ?_)); cbv))
 · refine hQ _ ?_
   have h0 : ¬ outE 1 V = 0 := by
     rw [he]; intro h; rw [h] at hz; cases hz
   rw [packOut, if_neg h0, he]
 · have h0 : outE 1 V = 0 := by
     rw [he]; simpa using hz
   have hp0 : packOut V = bestW V 3 := by rw [packOut, if_pos h0]
   refine loopT (ι := Int × ByteArray) mixed tt_ok hcp hcc hlp [1] (fun p => [(6, .p (.int .i64 p.1)), (4, .p (.str p.2))]) (fun _ => [.cells [.p (.int .i64 a), .p (.sl n1), .p (.sl n2), .p (.sl n3)]]) (fun p => 2 ≤ p.1 ∧ p.1 ≤ 5 ∧ bestW V (p.1 - 2).toNat = p.2) (fun p => (5 - p.1).toNat) (2, s) 1 (fun _ => rfl) ⟨by show (2 : Int) ≤ 2; decide, by show (2 : Int) ≤ 5; decide, hs⟩ ⟨rfl, rfl, trivial⟩ rfl ?_
   rintro R ⟨k, b⟩ ⟨hk2, hk5, hb⟩ hR
   replace hk2 : 2 ≤ k := hk2
   replace hk5 : k ≤ 5 := hk5
   replace hb : bestW V (k - 2).toNat = b := hb
   clear hs he
   have hgo : decide (k ≤ 4) = true → 2 ≤ k + 1 ∧ k + 1 ≤ 5 ∧ (5 - (k + 1)).toNat < (5 - k).toNat ∧ IntKind.i64.wrap (k + 1) = k + 1 ∧ bestW V (k + 1 - 2).toNat = takeW V b k := by
     intro h
     have := of_decide_eq_true h
     refine ⟨by omega, by omega, by omega, wrap_in (by omega), ?_⟩
     rw [show (k + 1 - 2).toNat = (k - 2).toNat + 1 by omega, bestW, hb, show (((k - 2).toNat : Nat) : Int) + 2 = k by omega]
   have hend : decide (k ≤ 4) = false → bestW V 3 = b := by
     intro h
     have := of_decide_eq_false h
     rw [← hb, show (k - 2).toNat = 3 by omega]
   have hyes : ∀ {s2 : ByteArray} {e2 x y : Int}, outW k V = s2 → outE k V = e2 → decide (e2 = 0) = true → (s2.size : Int) = x → (b.size : Int) = y → decide (x < y) = true → takeW V b k = s2 := by
     intro s2 e2 x y g1 g2 g3 g4 g5 g6
     have g7 := of_decide_eq_true g6
     rw [takeW, if_pos ⟨by rw [g2]; exact of_decide_eq_true g3, by rw [g1]; omega⟩, g1]
   have hno1 : ∀ {s2 : ByteArray} {x y : Int}, outW k V = s2 → (s2.size : Int) = x → (b.size : Int) = y → decide (x < y) = false → takeW V b k = b := by
     intro s2 x y g1 g4 g5 g6
     have g7 := of_decide_eq_false g6
     rw [takeW, if_neg]
     rintro ⟨_, h⟩
     rw [g1] at h; omega
   have hno2 : ∀ {e2 : Int}, outE k V = e2 → decide (e2 = 0) = false → takeW V b k = b := by
     intro e2 g2 g3
     rw [takeW, if_neg]
     rintro ⟨h, _⟩
     rw [g2] at h
     exact of_decide_eq_false g3 h
   repeat' (first
     | (with_reducible refine Nm.mk ?_; intro z hz)
     | (with_reducible refine IfB.mk ?_ ?_ <;> (intro h; cases h))
     | (with_reducible refine Two.l ?_; refine Asm.mk ?_ ?_; focus (decide +kernel))
     | (with_reducible refine Two.r ?_)
     | (with_reducible refine TwoT.r ?_)
     | (with_reducible refine TwoU.r ?_)
     | (with_reducible refine Asm.mk ?_ ?_; focus (first | (show (_ : Bool) = true; kernel_rfl)))
     | (with_reducible refine isCP hcp ?_; first | (refine wrP hcp (hw _) ?_; intro s2 e2 hs2 he2))
     | (with_reducible refine isCC hcc ?_; first | (refine wrA hcc (hw _) rfl ?_; intro s2 e2 hs2 he2))
     | (with_reducible refine Asm.mk2 ?_ ?_)
     | ((fail_if_success (with_reducible first | refine hQ _ ?_ | refine Side.mk ?_ | refine isCP hcp ?_ | refine isCC hcc ?_ | refine isLP hlp ?_ | refine Ix.mk ?_ | refine SIx.mk ?_ | refine SEx.mk ?_ | refine EIx.mk ?_ | refine RIx.mk ?_ | refine LkX.mk ?_ | show False | refine hR ?_ _ ?_ ?_ ?_ ?_ ?_ | refine hR2 ?_ _ ?_ ?_ ?_ ?_ ?_)); cbv))
   · rename_i hk4 he0 x hx y hy hxy
     obtain ⟨g1, g2, g3, g4, g5⟩ := hgo hk4
     rw [g4] at hz
     subst hz
     exact hR (k + 1, s2) _ ⟨g1, g2, g5.trans (hyes hs2 he2 he0 hx hy hxy)⟩ g3 ⟨rfl, rfl, trivial⟩ ⟨rfl, trivial⟩ rfl
   · rename_i hk4 he0 x hx y hy hxy
     obtain ⟨g1, g2, g3, g4, g5⟩ := hgo hk4
     rw [g4] at hz
     subst hz
     exact hR (k + 1, b) _ ⟨g1, g2, g5.trans (hno1 hs2 hx hy hxy)⟩ g3 ⟨rfl, rfl, trivial⟩ ⟨rfl, trivial⟩ rfl
   · rename_i hk4 he0
     obtain ⟨g1, g2, g3, g4, g5⟩ := hgo hk4
     rw [g4] at hz
     subst hz
     exact hR (k + 1, b) _ ⟨g1, g2, g5.trans (hno2 he2 he0)⟩ g3 ⟨rfl, rfl, trivial⟩ ⟨rfl, trivial⟩ rfl
   · refine hQ _ ?_
     rw [hp0, hend hz, h0]
end Go.Proofs.Ytcajncmjlmpkgaa
