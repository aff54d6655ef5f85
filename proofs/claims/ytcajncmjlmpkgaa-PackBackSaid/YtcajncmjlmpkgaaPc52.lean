/- Functions with a deferred call by the quick walk; pack; pack; Bits that are laid are read back; Numbers, values and schemes that are written are read back; What a scheme writes is read back; What From makes can be written; the shortest is as short as any; pack: Scheme, Len, At; mod; pack; tallykeep's sameRow and reads; PackBack: the law. Own work; no condition. -/
import Derived.Test.YtcajncmjlmpkgaaPc51
import Derived.Test.YtcajncmjlmpkgaaPcRa7
import Derived.Test.YtcajncmjlmpkgaaPc42
import Derived.Test.YtcajncmjlmpkgaaPc43
namespace Go.Proofs.Ytcajncmjlmpkgaa
open Go Go.RowKit
set_option maxRecDepth 100000
set_option linter.unusedSimpArgs false
set_option linter.unusedVariables false
def finD (tt : TypeId → Option TI) (res : List ResultVar) (dc : List AObj → Option (TypeId × PV) → (List AObj → Prop) → Prop) (Q : AV → List AObj → Prop) : Exit → AS → Prop
 | .normal, A => dc A.H none fun H' => need (optL (resX tt ⟨A.T, H'⟩) res) fun rs => Q (packV rs) H'
 | .ret, A => dc A.H none fun H' => need (optL (resX tt ⟨A.T, H'⟩) res) fun rs => Q (packV rs) H'
 | .panic _, A => match A.T with
   | (_, x) :: T => match x with
     | .die t x => dc A.H (some (t, x)) fun H' => need (optL (resX tt ⟨T, H'⟩) res) fun rs => Q (packV rs) H'
     | _ => False
   | [] => False
 | .exit _, _ => False
 | .goto _, _ => False
 | .outgrown, _ => False
theorem ACall.xD {P : Program} {tt : TypeId → Option TI} (hm : P.follows .mixedOrders = true) (htt : TTOk P tt) {f : FuncId} {fn : Func} {c0 c : Code} {id : Nat} {mk df : Oper} {n : Nat} {res : List ResultVar} {args : List AV} {H : List AObj} {Q : AV → List AObj → Prop} {g : FuncId} {caps0 : Array Operand} {t : Nat} (fz : List (Nat × List Nat))
   (hf : P.funcs[f]? = some fn) (hb : fn.body = some (.seq c0 (.seq (.region id #[mk, df] false) c))) (hnt : fn.ntmps = n) (hres : fn.results.toList = res) (hcal : callable P f = true) (hn : args.length ≤ n)
   (hmk : mk.op = .makeFunc (.func g) #[] caps0) (hmd : mk.dst = some t) (hmg : mk.guard = none) (ht : t < n)
   (hdf : df.op = .defer { callee := .value (.tmp t), args := #[], argTypes := #[] }) (hdd : df.dst = none) (hdg : df.guard = none) (hg : callable P g = true)
   (h : ∀ (cp : FuncId → List PV → (CR → Prop) → Prop) (cc : FuncId → List AV → List AObj → (AV → List AObj → Prop) → Prop) (lp : LP) (nd : List AV → AS → Prop), PC1 P = cp → ACall P = cc → (fun c Q A => Wp P ⟨n, []⟩ (.loop c) Q A) = lp →
     (∀ caps A, (∀ ds (cp : FuncId → List PV → (CR → Prop) → Prop) (cc : FuncId → List AV → List AObj → (AV → List AObj → Prop) → Prop) (lp : LP) (dc : List AObj → Option (TypeId × PV) → (List AObj → Prop) → Prop) (Q' : AV → List AObj → Prop), PC1 P = cp → ACall P = cc → (fun c Q A => Wp P ⟨n, ds⟩ (.loop c) Q A) = lp → (fun H d K => DRun P g caps H d K) = dc → (∀ r H', Q r H' → Q' r H') →
       xc tt fz cp cc lp ⟨n, ds⟩ c (finD tt res dc Q') ⟨(t, .fn g caps) :: A.T, A.H⟩) → nd caps A) →
     xc tt [] cp cc lp ⟨n, []⟩ c0 (ThX (fun A => need (optL (ev A.T) caps0.toList) fun caps => nd caps A) (fun _ _ => False)) ⟨mkT 0 args, H⟩) : ACall P f args H Q := by
 have key : ∀ T H', need (optL (resX tt ⟨T, H'⟩) res) (fun rs => Q (packV rs) H') → need (res.mapM (resV P ⟨T, H'⟩)) (fun rs => Q (packV rs) H') := by
   intro T H' hq
   obtain ⟨rs, h1, h2⟩ := need_iff.1 hq
   exact need_iff.2 ⟨rs, optL_imp (fun _ _ h => resX_ok htt h) _ _ h1, h2⟩
 refine ACall.bodyD hf hb hnt hres hcal hn hmk hmd hmg ht hdf hdd hdg hg ((xc_ok hm htt rfl rfl rfl c0 _ _ (h _ _ _ (fun caps A => ∀ ds, Wp P ⟨n, ds⟩ c (FinD P g caps res Q) ⟨(t, .fn g caps) :: A.T, A.H⟩) rfl rfl rfl (fun caps A hh ds => ?_))).mono fun e A' hq => ?_)
 · refine (xc_ok hm htt rfl rfl rfl c _ _ (hh ds _ _ _ _ Q rfl rfl rfl rfl (fun _ _ h => h))).mono fun e A' hq => ?_
   cases e with
   | normal => exact DRun.mono hq fun H' hk => key A'.T H' hk
   | ret => exact DRun.mono hq fun H' hk => key A'.T H' hk
   | panic ch =>
     obtain ⟨T, H'⟩ := A'
     cases T with
     | nil => exact hq.elim
     | cons y T =>
       obtain ⟨k, y⟩ := y
       cases y with
       | die t x => exact ⟨k, t, x, T, rfl, DRun.mono hq fun H' hk => key T H' hk⟩
       | _ => exact hq.elim
   | _ => exact hq.elim
 · cases e with
   | normal =>
     obtain ⟨caps, h1, h2⟩ := need_iff.1 hq
     rw [optL_eq] at h1
     exact ⟨caps, h1, h2⟩
   | _ => exact hq.elim
theorem PCall.ofA {P : Program} {f : FuncId} {args : List PV} {Q : List PV → Prop} (h : ACall P f (args.map .p) [] fun r _ => ∃ rs ps, r = packV rs ∧ rs.mapM AV.pure = some ps ∧ Q ps) : PCall P f args Q := by
 refine ⟨fun m w vals hm hv => ?_⟩
 have wr : WR ⟨w, m, fun _ => none⟩ ⟨m, fun _ => none⟩ [] w := ⟨Below.refl _ _, hm, fun _ _ _ h => .inl h, fun _ _ _ h => h, fun id x h => by simp at h, fun i j x y b h => (by cases h), fun i x b h => (by cases h), fun _ _ => rfl, fun b x f h => (by cases h), fun i x b h => (by cases h)⟩
 have rv : RVL ⟨m, fun _ => none⟩ (args.map .p) vals := ⟨by simpa using hv.1, fun i x v hx hv' => by
   rw [List.getElem?_map, Option.map_eq_some_iff] at hx
   obtain ⟨y, hy, rfl⟩ := hx
   exact .p (hv.2 i y v hy hv')⟩
 have hc := h.run ⟨w, m, fun _ => none⟩ ⟨m, fun _ => none⟩ w vals wr rv
 refine hc.mono fun e w' ⟨r, G', H', e1, e3, e4, rs, ps, e5, e6, e7⟩ => ?_
 subst e5
 obtain ⟨v, e1, e2⟩ := e1.alive (packV_alive e6)
 exact ⟨v, ps, G'.mem, e1, packV_pure e6 e2, e3.mem, e4.mem, e4.news, e4.below, e7⟩
def standP (sch kind m : Int) (r : List UInt8) : Option (List Val × List UInt8) := if sch = 1 then valsP kind m.toNat r else if sch = 2 then runsQ kind m r else if sch = 3 then wordsP kind m r else offsP m r
theorem stand54_c (sch kind m : Int) (hs : 1 ≤ sch ∧ sch ≤ 4) (r : List UInt8) (hr : r.length ≤ 100000000) (hm : 0 ≤ m ∧ m ≤ 4096) :
   ACall Try.prog 54 [.ref 0 0, .p (.int .i64 sch), .p (.int .i64 kind), .p (.int .i64 m)] [rdO r] (StQ (standP sch kind m r)) := by
 have : sch = 1 ∨ sch = 2 ∨ sch = 3 ∨ sch = 4 := by omega
 rcases this with rfl | rfl | rfl | rfl
 · exact stand1_c kind m r (by omega) hm
 · exact stand2_c kind m r hr hm
 · exact stand3_c kind m r hr hm
 · exact stand4_c kind m r hr hm
theorem standCC {cc : FuncId → List AV → List AObj → (AV → List AObj → Prop) → Prop} (hcc : ACall Try.prog = cc) (id : Nat) {sch kind m : Int} (hs : 1 ≤ sch ∧ sch ≤ 4) {r : List UInt8} (hr : r.length ≤ 100000000) (hm : 0 ≤ m ∧ m ≤ 4096) {H : List AObj} {args : List AV} {K : AV → List AObj → Prop}
   (ha : args = [.ref id 0, .p (.int .i64 sch), .p (.int .i64 kind), .p (.int .i64 m)]) (hH : nth H id = some (rdO r))
   (k : ∀ l C r', standP sch kind m r = some (l, r') → l.map Val.cells = C → K (.p (.sl C)) (setX H id (rdO r'))) (d : standP sch kind m r = none → ∀ r', K (.die 89 (.agg [])) (setX H id (rdO r'))) : cc 54 args H K := by
 subst ha
 have h := stand54_c sch kind m hs r hr hm
 cases hk : standP sch kind m r with
 | none =>
   rw [hk] at h
   subst hcc
   refine h.frame [id] (by simp [onceX, idxX]) rfl (by simp only [optL, hH]; rfl) rfl ?_
   rintro x H1 ⟨rfl, r', hr'⟩
   rw [show ([id] : List Nat).length = 1 from rfl, hr']
   exact ⟨rfl, rfl, rfl, d hk r'⟩
 | some y =>
   obtain ⟨l, r'⟩ := y
   rw [hk] at h
   refine frameT (H1 := [rdO r']) hcc [id] h (by simp [onceX, idxX]) rfl rfl ?_ rfl (k l _ r' hk rfl)
   simp only [optL, hH]; rfl
end Go.Proofs.Ytcajncmjlmpkgaa

namespace Go.Proofs.Ytcajncmjlmpkgaa
open Go Go.RowKit
set_option maxRecDepth 100000
set_option linter.unusedSimpArgs false
set_option linter.unusedVariables false
def nullB (t : List UInt8) (i : Nat) : Bool := decide (wordN t i 1 = 1)
def nullsP (n : Int) (r : List UInt8) : Option (List Bool × List UInt8) :=
 (numP 1 r).bind fun p => if p.1 = 1 then (tkP ((n * 1 + 7) / 8) p.2).map fun y => ((List.range n.toNat).map (nullB y.1), y.2) else some (List.replicate n.toNat false, p.2)
def cntF (B : List Bool) : Nat := (B.filter fun b => !b).length
def fillP : List Bool → List Val → List Val
 | [], _ => []
 | b :: B, l => if b then Val.zero :: fillP B l else l.headD Val.zero :: fillP B l.tail
def readP (s : List UInt8) : Option (Int × Int × List Val) :=
 (numP 1 s).bind fun p => (numP 1 p.2).bind fun q => (numP 4 q.2).bind fun n =>
   if (p.1 < 1 ∨ 4 < p.1) ∨ (q.1 ≠ 1 ∧ q.1 ≠ 2) ∨ 4096 < n.1 then none else
     (nullsP n.1 n.2).bind fun b => (standP p.1 q.1 (cntF b.1) b.2).map fun l => (p.1, q.1, fillP b.1 l.1)
def readV (s : List UInt8) : Vec × Int :=
 match readP s with
 | some (k, kind, all) => if (vfrom kind all).2 = 0 ∧ outE k (vfrom kind all).1 = 0 ∧ outW k (vfrom kind all).1 = toB s then ((vfrom kind all).1, 0) else (Vec.zero, 2)
 | none => (Vec.zero, 2)
theorem dieDC {dc : List AObj → Option (TypeId × PV) → (List AObj → Prop) → Prop} (hdc : (fun H d K => DRun Try.prog 51 [.ref 0 0, .ref 1 0] H d K) = dc) {c0 c1 c2 c3 c4 : AV} {T : List AObj} {K : List AObj → Prop} (k : K (.cells [.p (.int .i64 0), .full [], .full [], .full []] :: .cells [.p (.int .i64 2)] :: (T ++ [.cells []]))) : dc (.cells [c0, c1, c2, c3] :: .cells [c4] :: T) (some (89, .agg [])) K := by
 subst hdc; exact catch_die T c0 c1 c2 c3 c4 k
theorem noDC {dc : List AObj → Option (TypeId × PV) → (List AObj → Prop) → Prop} (hdc : (fun H d K => DRun Try.prog 51 [.ref 0 0, .ref 1 0] H d K) = dc) {H : List AObj} {K : List AObj → Prop} (k : K H) : dc H none K := by
 subst hdc; exact catch_no _ H rfl k
theorem standP_len {sch kind m : Int} {r r' : List UInt8} {l : List Val} (hm : 0 ≤ m) (h : standP sch kind m r = some (l, r')) : (l.length : Int) = m := by
 unfold standP at h
 split at h
 · rw [(valsP_len h).2]; omega
 · split at h
   · rw [runsQ, Option.bind_eq_some_iff] at h
     obtain ⟨p, _, h⟩ := h
     rw [Option.bind_eq_some_iff] at h
     obtain ⟨y, _, h⟩ := h
     split at h
     · rename_i e
       simp only [Option.some.injEq] at h
       rw [h] at e
       exact e
     · cases h
   · split at h
     · rw [wordsP, Option.bind_eq_some_iff] at h
       obtain ⟨p, _, h⟩ := h
       rw [Option.bind_eq_some_iff] at h
       obtain ⟨q, _, h⟩ := h
       rw [Option.bind_eq_some_iff] at h
       obtain ⟨y, _, h⟩ := h
       rw [Option.map_eq_some_iff] at h
       obtain ⟨l1, h1, h2⟩ := h
       simp only [Prod.mk.injEq] at h2
       obtain ⟨rfl, _⟩ := h2
       rw [pickP_len h1]; omega
     · rw [offsP, Option.bind_eq_some_iff] at h
       obtain ⟨p, _, h⟩ := h
       rw [Option.bind_eq_some_iff] at h
       obtain ⟨q, _, h⟩ := h
       split at h
       · cases h
       · rw [Option.map_eq_some_iff] at h
         obtain ⟨y, _, h2⟩ := h
         simp only [Prod.mk.injEq] at h2
         obtain ⟨rfl, _⟩ := h2
         rw [List.length_map, List.length_range]; omega
theorem cntF_app (A B : List Bool) : cntF (A ++ B) = cntF A + cntF B := by simp [cntF]
theorem cntF_rep (n : Nat) : cntF (List.replicate n false) = n := by simp [cntF]
theorem fillP_len : ∀ (B : List Bool) (l : List Val), (fillP B l).length = B.length
 | [], _ => rfl
 | b :: B, l => by
   rw [fillP]; split
   · simp [fillP_len B l]
   · simp [fillP_len B l.tail]
theorem fillP_app : ∀ (A B : List Bool) (l : List Val), fillP (A ++ B) l = fillP A l ++ fillP B (l.drop (cntF A))
 | [], B, l => by simp [fillP, cntF]
 | a :: A, B, l => by
   rw [List.cons_append, fillP, fillP]
   cases a with
   | true => simp [fillP_app A B l, cntF]
   | false =>
     simp only [Bool.false_eq_true, if_false, fillP_app A B l.tail, List.cons_append]
     congr 2
     simp [cntF]
theorem numP_1w {r r' : List UInt8} {v z : Int} (h : numP 1 r = some (v, r')) (h2 : IntKind.i64.wrap v = z) : z = v := by
 have := numP_1 h
 rw [← h2, wrap_in (by omega)]
theorem numP_4w {r r' : List UInt8} {v z : Int} (h : numP 4 r = some (v, r')) (h2 : IntKind.i64.wrap v = z) : z = v ∧ 0 ≤ v := by
 have := numP_4 h
 rw [← h2, wrap_in (by omega)]; omega
def nlZ (B : List Bool) (N k : Nat) : List (List PV) := (B.take k ++ List.replicate (N - k) false).map boolc
def fillZ (B : List Bool) (l : List Val) (N k : Nat) : List Val := fillP (B.take k) l ++ List.replicate (N - k) Val.zero
theorem take_snoc9 {α : Type} {l : List α} {k : Nat} {x : α} (h : l[k]? = some x) : l.take (k + 1) = l.take k ++ [x] := by
 rw [List.take_add_one, h]; rfl
theorem repl_cons {α : Type} {N k : Nat} (h : k < N) (x : α) : List.replicate (N - k) x = x :: List.replicate (N - (k + 1)) x := by
 rw [show N - k = (N - (k + 1)) + 1 by omega, List.replicate_succ]
theorem nlZ_set {B : List Bool} {N k : Nat} (hB : B.length = N) (hk : k < N) {b : Bool} (hb : B[k]? = some b) : (nlZ B N k).set k [.bool b] = nlZ B N (k + 1) := by
 rw [nlZ, nlZ, take_snoc9 hb, repl_cons hk, List.append_assoc, List.map_append, List.map_append, List.set_append_right _ _ (by rw [List.length_map, List.length_take]; omega)]
 congr 1
 rw [List.length_map, List.length_take, show k - min k B.length = 0 by omega]
 rfl
theorem nlZ_end {B : List Bool} {N : Nat} (hB : B.length = N) : nlZ B N N = B.map boolc := by
 rw [nlZ, Nat.sub_self, ← hB, List.take_length]; simp
theorem nlZ_len {B : List Bool} {N k : Nat} (hB : B.length = N) (hk : k ≤ N) : (nlZ B N k).length = N := by
 rw [nlZ, List.length_map, List.length_append, List.length_take, List.length_replicate]; omega
theorem fillZ_len {B : List Bool} {l : List Val} {N k : Nat} (hB : B.length = N) (hk : k ≤ N) : (fillZ B l N k).length = N := by
 rw [fillZ, List.length_append, fillP_len, List.length_take, List.length_replicate]; omega
theorem fillZ_null {B : List Bool} {l : List Val} {N k : Nat} (hk : k < N) (hb : B[k]? = some true) : fillZ B l N (k + 1) = fillZ B l N k := by
 rw [fillZ, fillZ, take_snoc9 hb, fillP_app, repl_cons hk, List.append_assoc]
 simp [fillP]
theorem cnt_snoc {B : List Bool} {k : Nat} {b : Bool} (hb : B[k]? = some b) : cntF (B.take (k + 1)) = cntF (B.take k) + (if b then 0 else 1) := by
 rw [take_snoc9 hb, cntF_app]; cases b <;> rfl
theorem drop_some {B : List Bool} {l : List Val} {k : Nat} (hb : B[k]? = some false) (hc : cntF B = l.length) : ∃ x r, l.drop (cntF (B.take k)) = x :: r := by
 have h1 : cntF B = cntF (B.take (k + 1)) + cntF (B.drop (k + 1)) := by rw [← cntF_app, List.take_append_drop]
 rw [cnt_snoc hb] at h1
 cases h : l.drop (cntF (B.take k)) with
 | nil => rw [List.drop_eq_nil_iff] at h; simp at h1; omega
 | cons x r => exact ⟨x, r, rfl⟩
theorem fillZ_set {B : List Bool} {l : List Val} {N k : Nat} (hB : B.length = N) (hk : k < N) (hb : B[k]? = some false) {x : Val} {r : List Val} (hx : l.drop (cntF (B.take k)) = x :: r) : fillZ B l N (k + 1) = (fillZ B l N k).set k x := by
 rw [fillZ, fillZ, take_snoc9 hb, fillP_app, hx, repl_cons hk, List.append_assoc, List.set_append_right _ _ (by rw [fillP_len, List.length_take]; omega)]
 congr 1
 rw [fillP_len, List.length_take, show k - min k B.length = 0 by omega]
 rfl
theorem drop_next {B : List Bool} {l : List Val} {k : Nat} (hb : B[k]? = some false) {x : Val} {r : List Val} (hx : l.drop (cntF (B.take k)) = x :: r) : l.drop (cntF (B.take (k + 1))) = r := by
 rw [cnt_snoc hb, show (if false = true then 0 else 1) = 1 from rfl, ← List.drop_drop, hx]; rfl
theorem drop_same {B : List Bool} {k : Nat} (hb : B[k]? = some true) : cntF (B.take (k + 1)) = cntF (B.take k) := by
 rw [cnt_snoc hb]; rfl
def nB (n : Int) (t : List UInt8) : List Bool := (List.range n.toNat).map (nullB t)
theorem nB_len (n : Int) (t : List UInt8) : (nB n t).length = n.toNat := by rw [nB, List.length_map, List.length_range]
theorem nB_get (n : Int) (t : List UInt8) {k : Nat} (h : k < n.toNat) : (nB n t)[k]? = some (nullB t k) := by
 rw [nB, List.getElem?_map, List.getElem?_range h]; rfl
end Go.Proofs.Ytcajncmjlmpkgaa

namespace Go.Proofs.Ytcajncmjlmpkgaa
open Go Go.RowKit
set_option maxRecDepth 100000
set_option linter.unusedSimpArgs false
set_option linter.unusedVariables false
theorem take4 {H : List AObj} {a b c d : AObj} (h : takeX H 4 = [a, b, c, d]) : ∃ T, H = a :: b :: c :: d :: T := by
 refine ⟨H.drop 4, ?_⟩
 rw [takeX_eq] at h
 have := (List.take_append_drop 4 H).symm
 rw [h] at this
 exact this
theorem bitsA2 {cc : FuncId → List AV → List AObj → (AV → List AObj → Prop) → Prop} (hcc : ACall Try.prog = cc) (o0 o1 o3 : AObj) {r : List UInt8} (hr : r.length ≤ 1000000000) {n w : Int} (hn : 0 ≤ n ∧ n ≤ 4096) (hw : 0 ≤ w ∧ w ≤ 64) {H : List AObj} {args : List AV} {K : AV → List AObj → Prop}
   (ha : args = [.ref 2 0, .p (.int .i64 n), .p (.int .i64 w)]) (hH : H = [o0, o1, rdO r, o3])
   (k : ∀ t r', tkP ((n * w + 7) / 8) r = some (t, r') → K (.fn 78 [.ref 4 0, .ref 5 0, .ref 6 0]) ([o0, o1, rdO r', o3, .cells [.p (.int .i64 w)], .cells [.p (.str (toB t))], .cells [.p (.int .i64 0)]]))
   (d : tkP ((n * w + 7) / 8) r = none → ∀ T, K (.die 89 (.agg [])) (o0 :: o1 :: rdO r :: o3 :: T)) : cc 53 args H K := bitsACC hcc o0 o1 o3 hr hn hw ha hH k fun h H2 h2 => by
 obtain ⟨T, rfl⟩ := take4 h2
 exact d h T
set_option maxHeartbeats 4000000 in
theorem read_a (s : List UInt8) (hs : s.length ≤ 100000000) :
   ACall Try.prog 25 [.p (.str (toB s))] [] fun r _ => ∃ rs ps, r = packV rs ∧ rs.mapM AV.pure = some ps ∧ ps = [(readV s).1.enc, .int .i64 (readV s).2] := by
 have hs9 : s.length ≤ 1000000000 := by omega
 have hl1 : ∀ {v : Int} {r1 : List UInt8}, numP 1 s = some (v, r1) → r1.length ≤ 1000000000 := fun h => Nat.le_trans (numP_len h) hs9
 have hl2 : ∀ {v w : Int} {r1 r2 : List UInt8}, numP 1 s = some (v, r1) → numP 1 r1 = some (w, r2) → r2.length ≤ 1000000000 := fun h h2 => Nat.le_trans (numP_len h2) (hl1 h)
 have hl3 : ∀ {v w n : Int} {r1 r2 r3 : List UInt8}, numP 1 s = some (v, r1) → numP 1 r1 = some (w, r2) → numP 4 r2 = some (n, r3) → r3.length ≤ 1000000000 := fun h h2 h3 => Nat.le_trans (numP_len h3) (hl2 h h2)
 have hl4 : ∀ {v w n f : Int} {r1 r2 r3 r4 : List UInt8}, numP 1 s = some (v, r1) → numP 1 r1 = some (w, r2) → numP 4 r2 = some (n, r3) → numP 1 r3 = some (f, r4) → r4.length ≤ 100000000 := fun h h2 h3 h4 => Nat.le_trans (numP_len h4) (Nat.le_trans (numP_len h3) (Nat.le_trans (numP_len h2) (Nat.le_trans (numP_len h) hs)))
 have n1 : numP 1 s = none → readP s = none := fun h => by rw [readP, h]; rfl
 have n2 : ∀ {v : Int} {r1 : List UInt8}, numP 1 s = some (v, r1) → numP 1 r1 = none → readP s = none := fun h h2 => by
   rw [readP, h]
   simp only [Option.bind_some, h2, Option.bind_none]
 have n3 : ∀ {v w : Int} {r1 r2 : List UInt8}, numP 1 s = some (v, r1) → numP 1 r1 = some (w, r2) → numP 4 r2 = none → readP s = none := fun h h2 h3 => by
   rw [readP, h]
   simp only [Option.bind_some, h2, h3, Option.bind_none]
 have n4 : ∀ {v w n z1 z2 z3 : Int} {r1 r2 r3 : List UInt8}, numP 1 s = some (v, r1) → numP 1 r1 = some (w, r2) → numP 4 r2 = some (n, r3) → IntKind.i64.wrap v = z1 → IntKind.i64.wrap w = z2 → IntKind.i64.wrap n = z3 → ((z1 < 1 ∨ 4 < z1) ∨ (z2 ≠ 1 ∧ z2 ≠ 2) ∨ 4096 < z3) → readP s = none := fun h h2 h3 g1 g2 g3 hb => by
   rw [numP_1w h g1, numP_1w h2 g2, (numP_4w h3 g3).1] at hb
   rw [readP, h]
   simp only [Option.bind_some, h2, h3, if_pos hb]
 have n5 : ∀ {v w n : Int} {r1 r2 r3 : List UInt8}, numP 1 s = some (v, r1) → numP 1 r1 = some (w, r2) → numP 4 r2 = some (n, r3) → numP 1 r3 = none → readP s = none := fun {v w n r1 r2 r3} h h2 h3 h4 => by
   rw [readP, h]
   simp only [Option.bind_some, h2, h3]
   by_cases hb : (v < 1 ∨ 4 < v) ∨ (w ≠ 1 ∧ w ≠ 2) ∨ 4096 < n
   · rw [if_pos hb]
   · rw [if_neg hb, nullsP, h4]; rfl
 have n6 : ∀ {v w n : Int} {r1 r2 r3 : List UInt8}, numP 1 s = some (v, r1) → numP 1 r1 = some (w, r2) → numP 4 r2 = some (n, r3) → nullsP n r3 = none → readP s = none := fun {v w n r1 r2 r3} h h2 h3 h4 => by
   rw [readP, h]
   simp only [Option.bind_some, h2, h3]
   by_cases hb : (v < 1 ∨ 4 < v) ∨ (w ≠ 1 ∧ w ≠ 2) ∨ 4096 < n
   · rw [if_pos hb]
   · rw [if_neg hb, h4]; rfl
 have n7 : ∀ {v w n : Int} {r1 r2 r3 r4 : List UInt8} {B : List Bool}, numP 1 s = some (v, r1) → numP 1 r1 = some (w, r2) → numP 4 r2 = some (n, r3) → nullsP n r3 = some (B, r4) → standP v w (cntF B) r4 = none → readP s = none := fun {v w n r1 r2 r3 r4 B} h h2 h3 h4 h5 => by
   rw [readP, h]
   simp only [Option.bind_some, h2, h3]
   by_cases hb : (v < 1 ∨ 4 < v) ∨ (w ≠ 1 ∧ w ≠ 2) ∨ 4096 < n
   · rw [if_pos hb]
   · rw [if_neg hb, h4]
     simp only [Option.bind_some, h5, Option.map_none]
 have n8 : ∀ {v w n : Int} {r1 r2 r3 r4 r5 : List UInt8} {B : List Bool} {l : List Val}, numP 1 s = some (v, r1) → numP 1 r1 = some (w, r2) → numP 4 r2 = some (n, r3) → ¬ ((v < 1 ∨ 4 < v) ∨ (w ≠ 1 ∧ w ≠ 2) ∨ 4096 < n) → nullsP n r3 = some (B, r4) → standP v w (cntF B) r4 = some (l, r5) → readP s = some (v, w, fillP B l) := fun {v w n r1 r2 r3 r4 r5 B l} h h2 h3 hb h4 h5 => by
   rw [readP, h]
   simp only [Option.bind_some, h2, h3, if_neg hb, h4, h5, Option.map_some]
 have hk12 : ∀ {z2 : Int}, (!decide (z2 = 1)) = true → (!decide (z2 = 2)) = true → z2 ≠ 1 ∧ z2 ≠ 2 := by
   intro z2 a b
   simp at a b
   exact ⟨a, b⟩
 have hkg : ∀ {z2 : Int}, ((!decide (z2 = 1)) = false ∨ (!decide (z2 = 2)) = false) → ¬ (z2 ≠ 1 ∧ z2 ≠ 2) := by
   intro z2 a b
   simp at a
   omega
 have nb1 : ∀ {n f : Int} {r3 r4 : List UInt8}, numP 1 r3 = some (f, r4) → decide (f = 1) = true → tkP ((n * 1 + 7) / 8) r4 = none → nullsP n r3 = none := fun h hf ht => by
   rw [nullsP, h]
   simp only [Option.bind_some, if_pos (of_decide_eq_true hf), ht, Option.map_none]
 have nb2 : ∀ {n f : Int} {r3 r4 r5 t : List UInt8}, numP 1 r3 = some (f, r4) → decide (f = 1) = true → tkP ((n * 1 + 7) / 8) r4 = some (t, r5) → nullsP n r3 = some (nB n t, r5) := fun h hf ht => by
   rw [nullsP, h]
   simp only [Option.bind_some, if_pos (of_decide_eq_true hf), ht, Option.map_some]
   rfl
 have nb0 : ∀ {n f : Int} {r3 r4 : List UInt8}, numP 1 r3 = some (f, r4) → decide (f = 1) = false → nullsP n r3 = some (List.replicate n.toNat false, r4) := fun h hf => by
   rw [nullsP, h]
   simp only [Option.bind_some, if_neg (of_decide_eq_false hf)]
 have e1 : ∀ {v w n f z3 : Int} {r1 r2 r3 r4 : List UInt8}, numP 1 s = some (v, r1) → numP 1 r1 = some (w, r2) → numP 4 r2 = some (n, r3) → numP 1 r3 = some (f, r4) → IntKind.i64.wrap n = z3 → decide (f = 1) = true → tkP ((z3 * 1 + 7) / 8) r4 = none → readP s = none := fun h h2 h3 h4 g hf ht => by
   rw [(numP_4w h3 g).1] at ht
   exact n6 h h2 h3 (nb1 h4 hf ht)
 have e0 : ∀ {v w n f z1 z2 z3 : Int} {r1 r2 r3 r4 : List UInt8}, numP 1 s = some (v, r1) → numP 1 r1 = some (w, r2) → numP 4 r2 = some (n, r3) → numP 1 r3 = some (f, r4) → IntKind.i64.wrap v = z1 → IntKind.i64.wrap w = z2 → IntKind.i64.wrap n = z3 → decide (f = 1) = false → standP z1 z2 z3 r4 = none → readP s = none := fun h h2 h3 h4 g1 g2 g3 hf ht => by
   have q := numP_4w h3 g3
   rw [numP_1w h g1, numP_1w h2 g2, q.1] at ht
   refine n7 h h2 h3 (nb0 h4 hf) ?_
   rw [cntF_rep, show ((Int.toNat _ : Nat) : Int) = _ from Int.toNat_of_nonneg (by omega)]
   exact ht
 refine ACall.xD (n := 129) (res := [.cell 2 29, .cell 3 30]) (t := 17) (g := 51) mixed tt_ok [(999996, [51, 83])] Try.func25 rfl rfl rfl c25 (Nat.le_of_ble_eq_true rfl) rfl rfl rfl (Nat.le_of_ble_eq_true rfl) rfl rfl rfl (by kernel_rfl) ?_
 intro cp cc lp nd hcp hcc hlp hnd
 have hQ : ∀ caps A, nd caps A → nd caps A := fun _ _ h => h
 repeat' (first
   | (with_reducible refine Nm.mk ?_; intro z hz)
   | (with_reducible refine IfB.mk ?_ ?_ <;> (intro h; cases h))
   | (with_reducible refine Two.l ?_; refine Asm.mk ?_ ?_; focus (decide +kernel))
   | (with_reducible refine Two.r ?_)
   | (with_reducible refine TwoT.r ?_)
   | (with_reducible refine TwoU.r ?_)
   | (with_reducible refine Asm.mk ?_ ?_; focus (first | (show (_ : Bool) = true; kernel_rfl)))
   | (with_reducible refine Asm.mk2 ?_ ?_)
   | ((fail_if_success (with_reducible first | refine hQ _ _ ?_ | refine Side.mk ?_ | refine isCP hcp ?_ | refine isCC hcc ?_ | refine isLP hlp ?_ | refine Ix.mk ?_ | refine SIx.mk ?_ | refine SEx.mk ?_ | refine EIx.mk ?_ | refine RIx.mk ?_ | refine LkX.mk ?_ | show False | refine hR ?_ _ ?_ ?_ ?_ ?_ ?_ | refine hR2 ?_ _ ?_ ?_ ?_ ?_ ?_)); cbv))
 refine hnd _ _ ?_
 clear hnd hQ hcp hcc hlp
 intro ds cp cc lp dc Q' hcp hcc hlp hdc hQ
 have hdie : readP s = none → ∀ H', Q' (packV [.agg [.p (.int .i64 0), .full [], .full [], .full []], .p (.int .i64 2)]) H' := fun h H' => hQ _ _ ⟨_, [Vec.zero.enc, .int .i64 2], rfl, rfl, by rw [readV, h]⟩
 have hms : ∀ {n z3 : Int} {r2 r3 : List UInt8}, numP 4 r2 = some (n, r3) → IntKind.i64.wrap n = z3 → decide (4096 < z3) = false → 0 ≤ z3 ∧ z3 ≤ z3 ∧ z3.toNat * 1 ≤ 140737488355328 ∧ z3.toNat ≤ maxLen := fun h h2 h3 => by
   have h4 := numP_4w h h2
   have h5 := of_decide_eq_false h3
   exact ⟨by omega, Int.le_refl _, by omega, by show _ ≤ 9223372036854775807; omega⟩
 have hms2 : ∀ {n z3 : Int} {r2 r3 : List UInt8}, numP 4 r2 = some (n, r3) → IntKind.i64.wrap n = z3 → decide (4096 < z3) = false → 0 ≤ z3 ∧ z3 ≤ z3 ∧ z3.toNat * 32 ≤ 140737488355328 ∧ z3.toNat ≤ maxLen := fun h h2 h3 => by
   have h4 := numP_4w h h2
   have h5 := of_decide_eq_false h3
   exact ⟨by omega, Int.le_refl _, by omega, by show _ ≤ 9223372036854775807; omega⟩
 have hmm : ∀ {n z3 : Int} {r2 r3 : List UInt8}, numP 4 r2 = some (n, r3) → IntKind.i64.wrap n = z3 → decide (4096 < z3) = false → 0 ≤ z3 ∧ z3 ≤ 4096 := fun h h2 h3 => by
   have h4 := numP_4w h h2
   have h5 := of_decide_eq_false h3
   omega
 have hsc : ∀ {z1 : Int}, decide (z1 < 1) = false → decide (4 < z1) = false → 1 ≤ z1 ∧ z1 ≤ 4 := fun h h2 => by
   have := of_decide_eq_false h
   have := of_decide_eq_false h2
   omega
 repeat' (first
   | (with_reducible refine Nm.mk ?_; intro z hz)
   | (with_reducible refine IfB.mk ?_ ?_ <;> (intro h; cases h))
   | (with_reducible refine Two.l ?_; refine Asm.mk ?_ ?_; focus (decide +kernel))
   | (with_reducible refine Two.r ?_)
   | (with_reducible refine TwoT.r ?_)
   | (with_reducible refine TwoU.r ?_)
   | (with_reducible refine Asm.mk ?_ ?_; focus (first | exact hms (by assumption) (by assumption) (by assumption) | exact hms2 (by assumption) (by assumption) (by assumption) | (show (_ : Bool) = true; kernel_rfl) | decide))
   | (with_reducible refine dieDC hdc ?_)
   | (with_reducible refine noDC hdc ?_)
   | (with_reducible refine isCC hcc ?_; refine numCC hcc 2 1 (by decide) rfl hs9 rfl rfl (fun v r1 hv1 => ?_) (fun hv1 => ?_))
   | (with_reducible refine isCC hcc ?_; refine numCC hcc 2 1 (by decide) rfl (hl1 (by assumption)) rfl rfl (fun w r2 hv2 => ?_) (fun hv2 => ?_))
   | (with_reducible refine isCC hcc ?_; refine numCC hcc 2 4 (by decide) rfl (hl2 (by assumption) (by assumption)) rfl rfl (fun n r3 hv3 => ?_) (fun hv3 => ?_))
   | (with_reducible refine isCC hcc ?_; refine numCC hcc 2 1 (by decide) rfl (hl3 (by assumption) (by assumption) (by assumption)) rfl rfl (fun f r4 hv4 => ?_) (fun hv4 => ?_))
   | (with_reducible refine isCC hcc ?_; refine bitsA2 hcc _ _ _ (Nat.le_trans (hl4 (by assumption) (by assumption) (by assumption) (by assumption)) (by decide)) (hmm (by assumption) (by assumption) (by assumption)) (by decide) rfl rfl (fun t r5 ht => ?_) (fun ht T2 => ?_))
   | (with_reducible refine isCC hcc ?_; refine standCC hcc 2 (hsc (by assumption) (by assumption)) (hl4 (by assumption) (by assumption) (by assumption) (by assumption)) (hmm (by assumption) (by assumption) (by assumption)) rfl rfl (fun l CL r5 hl hCL => ?_) (fun hl r5 => ?_))
   | (with_reducible refine Asm.mk2 ?_ ?_)
   | ((fail_if_success (with_reducible first | refine hQ _ _ ?_ | refine Side.mk ?_ | refine isCP hcp ?_ | refine isCC hcc ?_ | refine isLP hlp ?_ | refine Ix.mk ?_ | refine SIx.mk ?_ | refine SEx.mk ?_ | refine EIx.mk ?_ | refine RIx.mk ?_ | refine LkX.mk ?_ | show False | refine hR ?_ _ ?_ ?_ ?_ ?_ ?_ | refine hR2 ?_ _ ?_ ?_ ?_ ?_ ?_)); cbv))
 any_goals (first
   | exact hdie (n1 hv1) _
   | exact hdie (n2 hv1 hv2) _
   | exact hdie (n3 hv1 hv2 hv3) _
   | exact hdie (n5 hv1 hv2 hv3 hv4) _
   | exact hdie (e1 hv1 hv2 hv3 hv4 (by assumption) (by assumption) ht) _
   | exact hdie (e0 hv1 hv2 hv3 hv4 (by assumption) (by assumption) (by assumption) (by assumption) hl) _
   | exact hdie (n4 hv1 hv2 hv3 (by assumption) (by assumption) (by assumption) (.inl (.inl (of_decide_eq_true (by assumption))))) _
   | exact hdie (n4 hv1 hv2 hv3 (by assumption) (by assumption) (by assumption) (.inl (.inr (of_decide_eq_true (by assumption))))) _
   | exact hdie (n4 hv1 hv2 hv3 (by assumption) (by assumption) (by assumption) (.inr (.inr (of_decide_eq_true (by assumption))))) _
   | exact hdie (n4 hv1 hv2 hv3 (by assumption) (by assumption) (by assumption) (.inr (.inl (hk12 (by assumption) (by assumption))))) _)
 · rename_i z1 g1 z2 g2 z3 g3 hA hB hC hD hE N hN ZN hZ0 hF
   have q3 := numP_4w hv3 g3
   have hE4 := of_decide_eq_false hE
   have hA1 := of_decide_eq_false hA
   have hB4 := of_decide_eq_false hB
   have hz30 : 0 ≤ z3 := by omega
   have qe1 := numP_1w hv1 g1
   have qe2 := numP_1w hv2 g2
   have qe3 := q3.1
   subst qe1 qe2 qe3
   obtain rfl : z3 = z := by
     have t1 : ((z3.toNat : Nat) : Int) = z3 := Int.toNat_of_nonneg hz30
     rw [← t1, hN]; exact hz
   have htl := (tkP_len ht).1
   have hmz : 0 ≤ z3 * 1 ∧ z3 * 1 ≤ 4096 := by omega
   have ht6 : t.length ≤ 1000000 := by omega
   have ht8 : z3 ≤ 8 * (t.length : Int) := by omega
   obtain ⟨B, hB0⟩ : ∃ B, nB z3 t = B := ⟨_, rfl⟩
   have hBl : B.length = N := by rw [← hB0, nB_len, hN]
   have hBg : ∀ {k : Nat}, k < N → B[k]? = some (nullB t k) := fun h => by rw [← hB0]; exact nB_get z3 t (by omega)
   have hr5 : r5.length ≤ 100000000 := Nat.le_trans (tkP_len ht).2.2 (hl4 hv1 hv2 hv3 hv4)
   have hN0 : nlZ B N 0 = ZN := by rw [nlZ, List.take_zero, List.nil_append, Nat.sub_zero, List.map_replicate]; exact hZ0
   have hscc := hsc hA hB
   have hnb := hB0 ▸ nb2 hv4 hF ht
   have hkk : ¬ (z2 ≠ 1 ∧ z2 ≠ 2) := hkg (by first | exact .inl hC | exact .inr hD)
   have hrd : ∀ {l : List Val} {r6 : List UInt8}, standP z1 z2 (cntF B : Int) r5 = some (l, r6) → readP s = some (z1, z2, fillP B l) := fun h => by
     refine n8 hv1 hv2 hv3 (fun h => ?_) hnb h
     rcases h with (h | h) | h | h
     · omega
     · omega
     · exact hkk h
     · omega
   have hrn : standP z1 z2 (cntF B : Int) r5 = none → readP s = none := fun h => n7 hv1 hv2 hv3 hnb h
   have hcle : ∀ k, cntF (B.take k) ≤ k := fun k => Nat.le_trans (List.length_filter_le _ _) (by rw [List.length_take]; omega)
   clear hB0 hnb hkk ht htl
   clear n1 n2 n3 n4 n5 n6 n7 n8 e0 e1 nb0 nb1 nb2 hk12 hkg hl1 hl2 hl3 hl4 hms
   refine loopTz [(999996, [51, 83])] (ι := Int × Int × List (List PV)) mixed tt_ok hcp hcc hlp [0, 2, 3, 4, 5, 6, 7, 8, 10, 60] (fun p => [(61, .p (.int .i64 p.1)), (9, .p (.int .i64 p.2.1))]) (fun p => [.cells [.p (.int .i64 0), .full [], .full [], .full []], .cells [.p (.int .i64 0)], rdO r5, .vec 0 p.2.2 1, .cells [.p (.int .i64 1)], .cells [.p (.str (toB t))], .cells [.p (.int .i64 p.1)]]) (fun p => 0 ≤ p.1 ∧ p.1 ≤ z3 ∧ z3 - p.1 + cntF (B.take p.1.toNat) = p.2.1 ∧ nlZ B N p.1.toNat = p.2.2) (fun p => (z3 - p.1).toNat) (0, z3, ZN) 7 (fun _ => rfl) ⟨Int.le_refl _, hz30, by show z3 - 0 + ((cntF (B.take 0) : Nat) : Int) = z3; rw [List.take_zero]; show z3 - 0 + 0 = z3; omega, hN0⟩ ⟨rfl, rfl, trivial⟩ rfl ?_
   rintro R ⟨i, m, ZN⟩ ⟨hi0, hi1, hm, hZ⟩ hR
   replace hi0 : 0 ≤ i := hi0
   replace hi1 : i ≤ z3 := hi1
   replace hm : z3 - i + cntF (B.take i.toNat) = m := hm
   replace hZ : nlZ B N i.toNat = ZN := hZ
   have hgo : decide (i < z3) = true → 0 ≤ i + 1 ∧ i + 1 ≤ z3 ∧ (z3 - (i + 1)).toNat < (z3 - i).toNat ∧ IntKind.i64.wrap (i + 1) = i + 1 ∧ (i + 1).toNat = i.toNat + 1 ∧ i.toNat < N := by
     intro h
     have := of_decide_eq_true h
     exact ⟨by omega, by omega, by omega, wrap_in (by omega), by omega, by omega⟩
   have hend : decide (i < z3) = false → i.toNat = N := fun h => by
     have := of_decide_eq_false h
     omega
   have hZl : ZN.length = N := by rw [← hZ]; exact nlZ_len hBl (by omega)
   have hin : decide (i < z3) = true → 0 ≤ i ∧ i < N := fun h => by
     have := (hgo h).2.2.2.2.2
     omega
   have hlt1 : decide (i < z3) = true → i.toNat < ZN.length := fun h => by
     have := (hgo h).2.2.2.2.2
     omega
   have hoff : ∀ {o : Nat}, (0 + i.toNat) * 1 = o → i.toNat * 1 = o := fun h => by omega
   have hnx : decide (i < z3) = true → i + 1 ≤ 8 * (t.length : Int) := fun h => by
     have := of_decide_eq_true h
     omega
   have hset : ∀ {x : Int} {b : Bool} {L2 : List (List PV)}, decide (i < z3) = true → wordN t i (Int.toNat 1) = x → decide (x = 1) = b → ZN.set i.toNat [.bool b] = L2 → nlZ B N (i.toNat + 1) = L2 ∧ B[i.toNat]? = some b ∧ L2[i.toNat]? = some [.bool b] := fun {x b L2} h h1 h2 h3 => by
     have h4 := (hgo h).2.2.2.2.2
     have h5 : B[i.toNat]? = some b := by
       rw [hBg h4, nullB, show ((i.toNat : Nat) : Int) = i by omega, show wordN t i 1 = x from h1]; exact congrArg some h2
     refine ⟨?_, h5, ?_⟩
     · rw [← nlZ_set hBl h4 h5, hZ]; exact h3
     · rw [← h3, List.getElem?_set_self (hlt1 h)]
   have hm0 : decide (i < z3) = true → 0 ≤ m ∧ m ≤ 4096 ∧ 1 ≤ m := fun h => by
     have h4 := hcle i.toNat
     have h5 := of_decide_eq_true h
     omega
   have hmT : decide (i < z3) = true → ∀ {m2 : Int}, IntKind.i64.wrap (m - 1) = m2 → B[i.toNat]? = some true → z3 - (i + 1) + ((cntF (B.take (i + 1).toNat) : Nat) : Int) = m2 := fun h m2 h2 h3 => by
     have h4 := (hgo h).2.2.2.2.1
     have h5 := hm0 h
     rw [wrap_in (by omega)] at h2
     rw [h4, drop_same h3]; omega
   have hmF : decide (i < z3) = true → B[i.toNat]? = some false → z3 - (i + 1) + ((cntF (B.take (i + 1).toNat) : Nat) : Int) = m := fun h h3 => by
     have h4 := (hgo h).2.2.2.2.1
     rw [h4, cnt_snoc h3]
     show z3 - (i + 1) + ((cntF (B.take i.toNat) + 1 : Nat) : Int) = m
     omega
   have hZe : decide (i < z3) = false → m = cntF B ∧ ZN = B.map boolc := fun h => by
     have h4 := hend h
     have h5 := of_decide_eq_false h
     have h6 : B.take N = B := by rw [← hBl, List.take_length]
     constructor
     · rw [h4, h6] at hm; omega
     · rw [← hZ, h4]; exact nlZ_end hBl
   have hmm2 : decide (i < z3) = false → 0 ≤ m ∧ m ≤ 4096 := fun h => by
     have h4 := hcle i.toNat
     have h5 := of_decide_eq_false h
     omega
   repeat' (first
     | (with_reducible refine Nm.mk ?_; intro z hz)
     | (with_reducible refine IfB.mk ?_ ?_ <;> (intro h; cases h))
     | (with_reducible refine Two.l ?_; refine Asm.mk ?_ ?_; focus (decide +kernel))
     | (with_reducible refine Two.r ?_)
     | (with_reducible refine TwoT.r ?_)
     | (with_reducible refine TwoU.r ?_)
     | (with_reducible refine Asm.mk ?_ ?_; focus (first | exact hin (by assumption) | exact hms2 hv3 g3 hE | (show (_ : Bool) = true; kernel_rfl) | decide))
     | (with_reducible refine isCC hcc ?_; refine nextCC hcc 4 5 6 (by decide) 1 t i (by decide) hi0 (hnx (by assumption)) ht6 rfl rfl rfl rfl (fun x a' hx ha' => ?_))
     | (with_reducible refine SEx.at_ i.toNat (hoff (by assumption)) (hlt1 (by assumption)) rfl ?_; intro L2 hL2)
     | (with_reducible refine EIx.at_ i.toNat _ (hoff (by assumption)) (hset (by assumption) (by assumption) (by assumption) (by assumption)).2.2 ?_)
     | (with_reducible refine isCC hcc ?_; refine standCC hcc 2 hscc hr5 (hmm2 (by assumption)) rfl rfl (fun l CL r6 hl hCL => ?_) (fun hl r6 => ?_))
     | (with_reducible refine dieDC hdc ?_)
     | (with_reducible refine noDC hdc ?_)
     | (with_reducible refine Asm.mk2 ?_ ?_)
     | ((fail_if_success (with_reducible first | refine hQ _ _ ?_ | refine Side.mk ?_ | refine isCP hcp ?_ | refine isCC hcc ?_ | refine isLP hlp ?_ | refine Ix.mk ?_ | refine SIx.mk ?_ | refine SEx.mk ?_ | refine EIx.mk ?_ | refine RIx.mk ?_ | refine LkX.mk ?_ | show False | refine hR ?_ _ ?_ ?_ ?_ ?_ ?_ | refine hR2 ?_ _ ?_ ?_ ?_ ?_ ?_)); cbv))
   · rename_i hi o1 ho1 o2 ho2 hd m2 hm2
     obtain ⟨q1, q2, q3, q4, q5, q6⟩ := hgo hi
     obtain ⟨s1, s2, s3⟩ := hset hi hx hd hL2
     rw [q4] at hz
     subst hz ha'
     refine hR (i + 1, m2, L2) _ ⟨q1, q2, hmT hi hm2 s2, ?_⟩ q3 ⟨rfl, rfl, trivial⟩ ⟨rfl, rfl, rfl, rfl, rfl, rfl, rfl, rfl, rfl, rfl, trivial⟩ rfl
     show nlZ B N (i + 1).toNat = L2
     rw [q5]; exact s1
   · rename_i hi o1 ho1 o2 ho2 hd
     obtain ⟨q1, q2, q3, q4, q5, q6⟩ := hgo hi
     obtain ⟨s1, s2, s3⟩ := hset hi hx hd hL2
     rw [q4] at hz
     subst hz ha'
     refine hR (i + 1, m, L2) _ ⟨q1, q2, hmF hi s2, ?_⟩ q3 ⟨rfl, rfl, trivial⟩ ⟨rfl, rfl, rfl, rfl, rfl, rfl, rfl, rfl, rfl, rfl, trivial⟩ rfl
     show nlZ B N (i + 1).toNat = L2
     rw [q5]; exact s1
   · rename_i hi N2 hN2 ZF hZ2
     obtain ⟨hme, hZB⟩ := hZe hi
     have hl5 := standP_len (hmm2 hi).1 hl
     have hcl : cntF B = l.length := by
       have h6 : ((cntF B : Nat) : Int) = m := hme.symm
       omega
     have hread : readP s = some (z1, z2, fillP B l) := hrd (by rw [hme] at hl; exact hl)
     obtain rfl : z3 = z := by
       have t1 : ((z3.toNat : Nat) : Int) = z3 := Int.toNat_of_nonneg hz30
       rw [← t1, hN2]; exact hz
     obtain rfl : N2 = N := by rw [← hN, hN2]
     have hZN : B.map boolc = ZN := hZB.symm
     have hF0 : (fillZ B l N2 0).map Val.cells = ZF := by
       rw [fillZ, List.take_zero, fillP, List.nil_append, Nat.sub_zero, List.map_replicate]; exact hZ2
     clear hR hgo hend hZl hin hlt1 hoff hnx hset hm0 hZe hmm2 hmT hmF hrd hrn hcle hBg hl hme hZB hl5
     refine loopFr hlp [.tmp 13] ?_
     refine loopTz [(999996, [51, 83])] (ι := Int × List (List PV) × List (List PV)) mixed tt_ok hcp hcc hlp [0, 2, 3, 5, 6, 8, 13, 85] (fun p => [(86, .p (.int .i64 p.1)), (12, .p (.sl p.2.2))]) (fun p => [.cells [.p (.int .i64 0), .full [], .full [], .full []], .cells [.p (.int .i64 0)], rdO r6, .vec 0 ZN 1, .cells [.p (.int .i64 1)], .cells [.p (.str (toB t))], .cells [.p (.int .i64 i)], .vec 0 p.2.1 3]) (fun p => 0 ≤ p.1 ∧ p.1 ≤ z3 ∧ (fillZ B l N2 p.1.toNat).map Val.cells = p.2.1 ∧ (l.drop (cntF (B.take p.1.toNat))).map Val.cells = p.2.2) (fun p => (z3 - p.1).toNat) (0, ZF, CL) 8 (fun _ => rfl) ⟨Int.le_refl _, hz30, hF0, hCL⟩ ⟨rfl, rfl, trivial⟩ rfl ?_
     rintro R ⟨i, Z, L⟩ ⟨hi0, hi1, hZ, hL⟩ hR
     replace hi0 : 0 ≤ i := hi0
     replace hi1 : i ≤ z3 := hi1
     replace hZ : (fillZ B l N2 i.toNat).map Val.cells = Z := hZ
     replace hL : (l.drop (cntF (B.take i.toNat))).map Val.cells = L := hL
     have hgo : decide (i < z3) = true → 0 ≤ i + 1 ∧ i + 1 ≤ z3 ∧ (z3 - (i + 1)).toNat < (z3 - i).toNat ∧ IntKind.i64.wrap (i + 1) = i + 1 ∧ (i + 1).toNat = i.toNat + 1 ∧ i.toNat < N2 := by
       intro h
       have := of_decide_eq_true h
       exact ⟨by omega, by omega, by omega, wrap_in (by omega), by omega, by omega⟩
     have hend : decide (i < z3) = false → i.toNat = N2 := fun h => by
       have := of_decide_eq_false h
       omega
     obtain ⟨b, hb⟩ : ∃ b, decide (i < z3) = true → B[i.toNat]? = some b := ⟨B.getD i.toNat false, fun h => by
       have := (hgo h).2.2.2.2.2
       rw [List.getD_eq_getElem?_getD, List.getElem?_eq_getElem (by omega)]; rfl⟩
     have hoff : ∀ {o : Nat}, (0 + i.toNat) * 1 = o → i.toNat * 1 = o := fun h => by omega
     have hoff3 : ∀ {o : Nat}, (0 + i.toNat) * 3 = o → i.toNat * 3 = o := fun h => by omega
     have hNb : decide (i < z3) = true → ZN[i.toNat]? = some [.bool b] := fun h => by
       rw [← hZN, List.getElem?_map, hb h]; rfl
     have hin : decide (i < z3) = true → 0 ≤ i ∧ i < N2 := fun h => by
       have := (hgo h).2.2.2.2.2
       omega
     have hZl : Z.length = N2 := by rw [← hZ, List.length_map, fillZ_len hBl (by omega)]
     have hZs : 0 + N2 ≤ Z.length := by omega
     have hlt3 : decide (i < z3) = true → i.toNat < Z.length := fun h => by
       have := (hgo h).2.2.2.2.2
       omega
     obtain ⟨x, hx⟩ : ∃ x, decide (i < z3) = true → (!b) = true → ∃ r, l.drop (cntF (B.take i.toNat)) = x :: r := by
       cases hd : l.drop (cntF (B.take i.toNat)) with
       | nil =>
         refine ⟨Val.zero, fun h h2 => ?_⟩
         simp at h2
         have := hb h
         rw [h2] at this
         obtain ⟨y, r, e⟩ := drop_some this hcl
         rw [hd] at e; cases e
       | cons y r => exact ⟨y, fun _ _ => ⟨r, rfl⟩⟩
     have hx0 : decide (i < z3) = true → (!b) = true → (l.drop (cntF (B.take i.toNat)))[(0 : Int).toNat]? = some x := fun h h2 => by
       obtain ⟨r, hr⟩ := hx h h2
       rw [hr]; rfl
     have hLn : decide (i < z3) = true → (!b) = true → 0 < L.length := fun h h2 => by
       obtain ⟨r, hr⟩ := hx h h2
       rw [← hL, hr]; simp
     have hFc : decide (i < z3) = false → ∀ {CF : List (List PV)}, List.take N2 (List.drop 0 Z) = CF → (fillP B l).map Val.cells = CF := fun h CF h2 => by
       rw [← h2, List.drop_zero, ← hZl, List.take_length, ← hZ, hend h, fillZ, Nat.sub_self, ← hBl, List.take_length]; simp
     have hV : readV s = if (vfrom z2 (fillP B l)).2 = 0 ∧ outE z1 (vfrom z2 (fillP B l)).1 = 0 ∧ outW z1 (vfrom z2 (fillP B l)).1 = toB s then ((vfrom z2 (fillP B l)).1, 0) else (Vec.zero, 2) := by rw [readV, hread]
     have hbad : ¬ ((vfrom z2 (fillP B l)).2 = 0 ∧ outE z1 (vfrom z2 (fillP B l)).1 = 0 ∧ outW z1 (vfrom z2 (fillP B l)).1 = toB s) → ∀ H', Q' (packV [.agg [.p (.int .i64 0), .full [], .full [], .full []], .p (.int .i64 2)]) H' := fun h H' => hQ _ _ ⟨_, [Vec.zero.enc, .int .i64 2], rfl, rfl, by rw [hV, if_neg h]⟩
     have hsl : decide (i < z3) = true → (!b) = true → (0 ≤ (some (1 : Int)).getD 0 ∧ (some (1 : Int)).getD 0 ≤ (none : Option Int).getD (L.length : Int) ∧ (none : Option Int).getD (L.length : Int) ≤ (L.length : Int) ∧ (L.all fun e => e.length == 3) = true ∧ ¬ 3 = 0) := fun h h2 => by
       refine ⟨by decide, ?_, Int.le_refl _, ?_, by decide⟩
       · have := hLn h h2
         show (1 : Int) ≤ (L.length : Int)
         omega
       · rw [← hL]; exact List.all_eq_true.2 fun e he => by obtain ⟨c, _, rfl⟩ := List.mem_map.1 he; rfl
     have hFl : (fillP B l).length * 32 ≤ 140737488351232 := by rw [fillP_len]; omega
     repeat' (first
       | (with_reducible refine Nm.mk ?_; intro z hz)
       | (with_reducible refine IfB.mk ?_ ?_ <;> (intro h; cases h))
       | (with_reducible refine Two.l ?_; refine Asm.mk ?_ ?_; focus (decide +kernel))
       | (with_reducible refine Two.r ?_)
       | (with_reducible refine TwoT.r ?_)
       | (with_reducible refine TwoU.r ?_)
       | (with_reducible refine Asm.mk ?_ ?_; focus (first | exact hin (by assumption) | exact ⟨rfl, hZs⟩ | exact hsl (by assumption) (by assumption) | (show (_ : Bool) = true; kernel_rfl) | decide))
       | (with_reducible refine isCP hcp ?_; first | (refine veP hcp (vfrom_c _ _ _ (hFc (by assumption) (by assumption)) hFl) ?_; intro a n1 n2 n3 e ha h1 h2 h3 he) | (refine wrP hcp (write_c _ _ _ _ _ _ _ _ (by assumption) (by assumption) (by assumption)) ?_; intro s2 e2 hs2 he2))
       | (with_reducible refine isCC hcc ?_; first | (refine veA hcc (vfrom_c _ _ _ (hFc (by assumption) (by assumption)) hFl) rfl ?_; intro a n1 n2 n3 e ha h1 h2 h3 he) | (refine wrA hcc (write_c _ _ _ _ _ _ _ _ (by assumption) (by assumption) (by assumption)) rfl ?_; intro s2 e2 hs2 he2))
       | (with_reducible refine EIx.at_ i.toNat [.bool b] (hoff (by assumption)) (hNb (by assumption)) ?_)
       | (with_reducible refine Ix.at_ hL (fun _ => rfl) (by decide) (Int.le_refl _) (hx0 (by assumption) (by assumption)) ?_)
       | (with_reducible refine SEx.at_ i.toNat (hoff3 (by assumption)) (hlt3 (by assumption)) rfl ?_; intro L2 hL2)
       | (with_reducible refine dieDC hdc ?_)
       | (with_reducible refine noDC hdc ?_)
       | (with_reducible refine Asm.mk2 ?_ ?_)
       | ((fail_if_success (with_reducible first | refine hQ _ _ ?_ | refine Side.mk ?_ | refine isCP hcp ?_ | refine isCC hcc ?_ | refine isLP hlp ?_ | refine Ix.mk ?_ | refine SIx.mk ?_ | refine SEx.mk ?_ | refine EIx.mk ?_ | refine RIx.mk ?_ | refine LkX.mk ?_ | show False | refine hR ?_ _ ?_ ?_ ?_ ?_ ?_ | refine hR2 ?_ _ ?_ ?_ ?_ ?_ ?_)); cbv))
     · rename_i hi z1b h1b hnb zl hzl zo hzo
       obtain ⟨q1, q2, q3, q4, q5, q6⟩ := hgo hi
       rw [q4] at hz
       subst hz
       obtain ⟨rr, hrr⟩ := hx hi hnb
       have hbf := hb hi
       have hbb : b = false := by simpa using hnb
       rw [hbb] at hbf
       refine hR (i + 1, L2, zl) _ ⟨q1, q2, ?_, ?_⟩ q3 ⟨rfl, rfl, trivial⟩ ⟨rfl, rfl, rfl, rfl, rfl, rfl, rfl, rfl, trivial⟩ rfl
       · show (fillZ B l N2 (i + 1).toNat).map Val.cells = L2
         rw [q5, fillZ_set hBl q6 hbf hrr, List.map_set, hZ]
         exact hL2
       · show (l.drop (cntF (B.take (i + 1).toNat))).map Val.cells = zl
         rw [q5, drop_next hbf hrr, ← hzl, ← hL, hrr]
         show rr.map Val.cells = (((x :: rr).map Val.cells).drop 1).take (_ - 1)
         rw [List.map_cons, List.drop_succ_cons, List.drop_zero, List.take_of_length_le]
         show _ ≤ ((((x.cells :: rr.map Val.cells).length : Nat) : Int)).toNat - 1
         rw [List.length_cons]; omega
     · rename_i hi z1b h1b hnb
       obtain ⟨q1, q2, q3, q4, q5, q6⟩ := hgo hi
       rw [q4] at hz
       subst hz
       have hbf := hb hi
       have hbb : b = true := by simpa using hnb
       rw [hbb] at hbf
       refine hR (i + 1, Z, L) _ ⟨q1, q2, ?_, ?_⟩ q3 ⟨rfl, rfl, trivial⟩ ⟨rfl, rfl, rfl, rfl, rfl, rfl, rfl, rfl, trivial⟩ rfl
       · show (fillZ B l N2 (i + 1).toNat).map Val.cells = Z
         rw [q5, fillZ_null q6 hbf]; exact hZ
       · show (l.drop (cntF (B.take (i + 1).toNat))).map Val.cells = L
         rw [q5, drop_same hbf]; exact hL
     · subst ha
       exact hbad (fun h => by rw [he] at h; rw [h.1] at hz; simp at hz) _
     · subst ha
       exact hbad (fun h => by rw [show outE z1 (vfrom z2 (fillP B l)).1 = e2 from he2] at h; rw [h.2.1] at hz; simp at hz) _
     · subst ha
       exact hbad (fun h => by rw [show outW z1 (vfrom z2 (fillP B l)).1 = s2 from hs2] at h; rw [h.2.2, sbeq_eq] at hz; exact absurd hz (by rw [show (toB s) = (⟨⟨s⟩⟩ : ByteArray) from rfl]; simp)) _
     · rename_i hi zC hzC hee hee2
       subst ha
       have hc : (vfrom z2 (fillP B l)).2 = 0 ∧ outE z1 (vfrom z2 (fillP B l)).1 = 0 ∧ outW z1 (vfrom z2 (fillP B l)).1 = toB s := by
         refine ⟨?_, ?_, ?_⟩
         · rw [he]; simpa using hee
         · rw [show outE z1 (vfrom z2 (fillP B l)).1 = e2 from he2]; simpa using hee2
         · rw [show outW z1 (vfrom z2 (fillP B l)).1 = s2 from hs2]
           rw [sbeq_eq] at hz
           have h9 : s2 = (⟨⟨s⟩⟩ : ByteArray) := by simpa using hz
           exact h9
       refine hQ _ _ ⟨_, [.agg [PV.int IntKind.i64 (vfrom z2 (fillP B l)).1.kind, PV.sl n1, PV.sl n2, PV.sl n3], .int .i64 0], rfl, rfl, ?_⟩
       rw [hV, if_pos hc, Vec.enc, h1, h2, h3]
   · rename_i hi
     have hme := (hZe hz).1
     rw [hme] at hl
     exact hdie (hrn hl) _
 · rename_i z1 g1 z2 g2 z3 g3 hA hB hC hD hE N hN ZN hZ0 hF N2 hN2 ZF hZ2
   have q3 := numP_4w hv3 g3
   have hE4 := of_decide_eq_false hE
   have hA1 := of_decide_eq_false hA
   have hB4 := of_decide_eq_false hB
   have hz30 : 0 ≤ z3 := by omega
   have qe1 := numP_1w hv1 g1
   have qe2 := numP_1w hv2 g2
   have qe3 := q3.1
   subst qe1 qe2 qe3
   obtain rfl : z3 = z := by
     have t1 : ((z3.toNat : Nat) : Int) = z3 := Int.toNat_of_nonneg hz30
     rw [← t1, hN2]; exact hz
   obtain ⟨B, hB0⟩ : ∃ B, List.replicate z3.toNat false = B := ⟨_, rfl⟩
   obtain rfl : N2 = N := by rw [← hN, hN2]
   have hBl : B.length = N2 := by rw [← hB0, List.length_replicate, hN]
   have hcB : cntF B = N2 := by rw [← hB0, cntF_rep, hN]
   have hcl : cntF B = l.length := by
     have := standP_len hz30 hl
     rw [hcB]; omega
   have hZN : B.map boolc = ZN := by rw [← hB0, List.map_replicate, hN]; exact hZ0
   have hF0 : (fillZ B l N2 0).map Val.cells = ZF := by
     rw [fillZ, List.take_zero, fillP, List.nil_append, Nat.sub_zero, List.map_replicate]; exact hZ2
   have hread : readP s = some (z1, z2, fillP B l) := by
     refine n8 (r5 := r5) hv1 hv2 hv3 (fun h => ?_) (hB0 ▸ nb0 hv4 hF) ?_
     · rcases h with (h | h) | h | h
       · omega
       · omega
       · exact hkg (by first | exact .inl hC | exact .inr hD) h
       · omega
     · have h9 : standP z1 z2 ((cntF B : Nat) : Int) r4 = some (l, r5) := by
         rw [show ((cntF B : Nat) : Int) = z3 by omega]; exact hl
       exact h9
   refine loopFr hlp [.tmp 13] ?_
   refine loopTz [(999996, [51, 83])] (ι := Int × List (List PV) × List (List PV)) mixed tt_ok hcp hcc hlp [0, 2, 3, 5, 6, 8, 13, 85] (fun p => [(86, .p (.int .i64 p.1)), (12, .p (.sl p.2.2))]) (fun p => [.cells [.p (.int .i64 0), .full [], .full [], .full []], .cells [.p (.int .i64 0)], rdO r5, .vec 0 ZN 1, .vec 0 p.2.1 3]) (fun p => 0 ≤ p.1 ∧ p.1 ≤ z3 ∧ (fillZ B l N2 p.1.toNat).map Val.cells = p.2.1 ∧ (l.drop (cntF (B.take p.1.toNat))).map Val.cells = p.2.2) (fun p => (z3 - p.1).toNat) (0, ZF, CL) 5 (fun _ => rfl) ⟨Int.le_refl _, hz30, hF0, hCL⟩ ⟨rfl, rfl, trivial⟩ rfl ?_
   rintro R ⟨i, Z, L⟩ ⟨hi0, hi1, hZ, hL⟩ hR
   replace hi0 : 0 ≤ i := hi0
   replace hi1 : i ≤ z3 := hi1
   replace hZ : (fillZ B l N2 i.toNat).map Val.cells = Z := hZ
   replace hL : (l.drop (cntF (B.take i.toNat))).map Val.cells = L := hL
   have hgo : decide (i < z3) = true → 0 ≤ i + 1 ∧ i + 1 ≤ z3 ∧ (z3 - (i + 1)).toNat < (z3 - i).toNat ∧ IntKind.i64.wrap (i + 1) = i + 1 ∧ (i + 1).toNat = i.toNat + 1 ∧ i.toNat < N2 := by
     intro h
     have := of_decide_eq_true h
     exact ⟨by omega, by omega, by omega, wrap_in (by omega), by omega, by omega⟩
   have hend : decide (i < z3) = false → i.toNat = N2 := fun h => by
     have := of_decide_eq_false h
     omega
   obtain ⟨b, hb⟩ : ∃ b, decide (i < z3) = true → B[i.toNat]? = some b := ⟨B.getD i.toNat false, fun h => by
     have := (hgo h).2.2.2.2.2
     rw [List.getD_eq_getElem?_getD, List.getElem?_eq_getElem (by omega)]; rfl⟩
   have hoff : ∀ {o : Nat}, (0 + i.toNat) * 1 = o → i.toNat * 1 = o := fun h => by omega
   have hoff3 : ∀ {o : Nat}, (0 + i.toNat) * 3 = o → i.toNat * 3 = o := fun h => by omega
   have hNb : decide (i < z3) = true → ZN[i.toNat]? = some [.bool b] := fun h => by
     rw [← hZN, List.getElem?_map, hb h]; rfl
   have hin : decide (i < z3) = true → 0 ≤ i ∧ i < N2 := fun h => by
     have := (hgo h).2.2.2.2.2
     omega
   have hZl : Z.length = N2 := by rw [← hZ, List.length_map, fillZ_len hBl (by omega)]
   have hZs : 0 + N2 ≤ Z.length := by omega
   have hlt3 : decide (i < z3) = true → i.toNat < Z.length := fun h => by
     have := (hgo h).2.2.2.2.2
     omega
   obtain ⟨x, hx⟩ : ∃ x, decide (i < z3) = true → (!b) = true → ∃ r, l.drop (cntF (B.take i.toNat)) = x :: r := by
     cases hd : l.drop (cntF (B.take i.toNat)) with
     | nil =>
       refine ⟨Val.zero, fun h h2 => ?_⟩
       simp at h2
       have := hb h
       rw [h2] at this
       obtain ⟨y, r, e⟩ := drop_some this hcl
       rw [hd] at e; cases e
     | cons y r => exact ⟨y, fun _ _ => ⟨r, rfl⟩⟩
   have hx0 : decide (i < z3) = true → (!b) = true → (l.drop (cntF (B.take i.toNat)))[(0 : Int).toNat]? = some x := fun h h2 => by
     obtain ⟨r, hr⟩ := hx h h2
     rw [hr]; rfl
   have hLn : decide (i < z3) = true → (!b) = true → 0 < L.length := fun h h2 => by
     obtain ⟨r, hr⟩ := hx h h2
     rw [← hL, hr]; simp
   have hFc : decide (i < z3) = false → ∀ {CF : List (List PV)}, List.take N2 (List.drop 0 Z) = CF → (fillP B l).map Val.cells = CF := fun h CF h2 => by
     rw [← h2, List.drop_zero, ← hZl, List.take_length, ← hZ, hend h, fillZ, Nat.sub_self, ← hBl, List.take_length]; simp
   have hV : readV s = if (vfrom z2 (fillP B l)).2 = 0 ∧ outE z1 (vfrom z2 (fillP B l)).1 = 0 ∧ outW z1 (vfrom z2 (fillP B l)).1 = toB s then ((vfrom z2 (fillP B l)).1, 0) else (Vec.zero, 2) := by rw [readV, hread]
   have hbad : ¬ ((vfrom z2 (fillP B l)).2 = 0 ∧ outE z1 (vfrom z2 (fillP B l)).1 = 0 ∧ outW z1 (vfrom z2 (fillP B l)).1 = toB s) → ∀ H', Q' (packV [.agg [.p (.int .i64 0), .full [], .full [], .full []], .p (.int .i64 2)]) H' := fun h H' => hQ _ _ ⟨_, [Vec.zero.enc, .int .i64 2], rfl, rfl, by rw [hV, if_neg h]⟩
   have hsl : decide (i < z3) = true → (!b) = true → (0 ≤ (some (1 : Int)).getD 0 ∧ (some (1 : Int)).getD 0 ≤ (none : Option Int).getD (L.length : Int) ∧ (none : Option Int).getD (L.length : Int) ≤ (L.length : Int) ∧ (L.all fun e => e.length == 3) = true ∧ ¬ 3 = 0) := fun h h2 => by
     refine ⟨by decide, ?_, Int.le_refl _, ?_, by decide⟩
     · have := hLn h h2
       show (1 : Int) ≤ (L.length : Int)
       omega
     · rw [← hL]; exact List.all_eq_true.2 fun e he => by obtain ⟨c, _, rfl⟩ := List.mem_map.1 he; rfl
   have hFl : (fillP B l).length * 32 ≤ 140737488351232 := by rw [fillP_len]; omega
   repeat' (first
     | (with_reducible refine Nm.mk ?_; intro z hz)
     | (with_reducible refine IfB.mk ?_ ?_ <;> (intro h; cases h))
     | (with_reducible refine Two.l ?_; refine Asm.mk ?_ ?_; focus (decide +kernel))
     | (with_reducible refine Two.r ?_)
     | (with_reducible refine TwoT.r ?_)
     | (with_reducible refine TwoU.r ?_)
     | (with_reducible refine Asm.mk ?_ ?_; focus (first | exact hin (by assumption) | exact ⟨rfl, hZs⟩ | exact hsl (by assumption) (by assumption) | (show (_ : Bool) = true; kernel_rfl) | decide))
     | (with_reducible refine isCP hcp ?_; first | (refine veP hcp (vfrom_c _ _ _ (hFc (by assumption) (by assumption)) hFl) ?_; intro a n1 n2 n3 e ha h1 h2 h3 he) | (refine wrP hcp (write_c _ _ _ _ _ _ _ _ (by assumption) (by assumption) (by assumption)) ?_; intro s2 e2 hs2 he2))
     | (with_reducible refine isCC hcc ?_; first | (refine veA hcc (vfrom_c _ _ _ (hFc (by assumption) (by assumption)) hFl) rfl ?_; intro a n1 n2 n3 e ha h1 h2 h3 he) | (refine wrA hcc (write_c _ _ _ _ _ _ _ _ (by assumption) (by assumption) (by assumption)) rfl ?_; intro s2 e2 hs2 he2))
     | (with_reducible refine EIx.at_ i.toNat [.bool b] (hoff (by assumption)) (hNb (by assumption)) ?_)
     | (with_reducible refine Ix.at_ hL (fun _ => rfl) (by decide) (Int.le_refl _) (hx0 (by assumption) (by assumption)) ?_)
     | (with_reducible refine SEx.at_ i.toNat (hoff3 (by assumption)) (hlt3 (by assumption)) rfl ?_; intro L2 hL2)
     | (with_reducible refine dieDC hdc ?_)
     | (with_reducible refine noDC hdc ?_)
     | (with_reducible refine Asm.mk2 ?_ ?_)
     | ((fail_if_success (with_reducible first | refine hQ _ _ ?_ | refine Side.mk ?_ | refine isCP hcp ?_ | refine isCC hcc ?_ | refine isLP hlp ?_ | refine Ix.mk ?_ | refine SIx.mk ?_ | refine SEx.mk ?_ | refine EIx.mk ?_ | refine RIx.mk ?_ | refine LkX.mk ?_ | show False | refine hR ?_ _ ?_ ?_ ?_ ?_ ?_ | refine hR2 ?_ _ ?_ ?_ ?_ ?_ ?_)); cbv))
   · rename_i hi z1b h1b hnb zl hzl zo hzo
     obtain ⟨q1, q2, q3, q4, q5, q6⟩ := hgo hi
     rw [q4] at hz
     subst hz
     obtain ⟨rr, hrr⟩ := hx hi hnb
     have hbf := hb hi
     have hbb : b = false := by simpa using hnb
     rw [hbb] at hbf
     refine hR (i + 1, L2, zl) _ ⟨q1, q2, ?_, ?_⟩ q3 ⟨rfl, rfl, trivial⟩ ⟨rfl, rfl, rfl, rfl, rfl, rfl, rfl, rfl, trivial⟩ rfl
     · show (fillZ B l N2 (i + 1).toNat).map Val.cells = L2
       rw [q5, fillZ_set hBl q6 hbf hrr, List.map_set, hZ]
       exact hL2
     · show (l.drop (cntF (B.take (i + 1).toNat))).map Val.cells = zl
       rw [q5, drop_next hbf hrr, ← hzl, ← hL, hrr]
       show rr.map Val.cells = (((x :: rr).map Val.cells).drop 1).take (_ - 1)
       rw [List.map_cons, List.drop_succ_cons, List.drop_zero, List.take_of_length_le]
       show _ ≤ ((((x.cells :: rr.map Val.cells).length : Nat) : Int)).toNat - 1
       rw [List.length_cons]; omega
   · rename_i hi z1b h1b hnb
     obtain ⟨q1, q2, q3, q4, q5, q6⟩ := hgo hi
     rw [q4] at hz
     subst hz
     have hbf := hb hi
     have hbb : b = true := by simpa using hnb
     rw [hbb] at hbf
     refine hR (i + 1, Z, L) _ ⟨q1, q2, ?_, ?_⟩ q3 ⟨rfl, rfl, trivial⟩ ⟨rfl, rfl, rfl, rfl, rfl, rfl, rfl, rfl, trivial⟩ rfl
     · show (fillZ B l N2 (i + 1).toNat).map Val.cells = Z
       rw [q5, fillZ_null q6 hbf]; exact hZ
     · show (l.drop (cntF (B.take (i + 1).toNat))).map Val.cells = L
       rw [q5, drop_same hbf]; exact hL
   · subst ha
     exact hbad (fun h => by rw [he] at h; rw [h.1] at hz; simp at hz) _
   · subst ha
     exact hbad (fun h => by rw [show outE z1 (vfrom z2 (fillP B l)).1 = e2 from he2] at h; rw [h.2.1] at hz; simp at hz) _
   · subst ha
     exact hbad (fun h => by rw [show outW z1 (vfrom z2 (fillP B l)).1 = s2 from hs2] at h; rw [h.2.2, sbeq_eq] at hz; exact absurd hz (by rw [show (toB s) = (⟨⟨s⟩⟩ : ByteArray) from rfl]; simp)) _
   · rename_i hi zC hzC hee hee2
     subst ha
     have hc : (vfrom z2 (fillP B l)).2 = 0 ∧ outE z1 (vfrom z2 (fillP B l)).1 = 0 ∧ outW z1 (vfrom z2 (fillP B l)).1 = toB s := by
       refine ⟨?_, ?_, ?_⟩
       · rw [he]; simpa using hee
       · rw [show outE z1 (vfrom z2 (fillP B l)).1 = e2 from he2]; simpa using hee2
       · rw [show outW z1 (vfrom z2 (fillP B l)).1 = s2 from hs2]
         rw [sbeq_eq] at hz
         have h9 : s2 = (⟨⟨s⟩⟩ : ByteArray) := by simpa using hz
         exact h9
     refine hQ _ _ ⟨_, [.agg [PV.int IntKind.i64 (vfrom z2 (fillP B l)).1.kind, PV.sl n1, PV.sl n2, PV.sl n3], .int .i64 0], rfl, rfl, ?_⟩
     rw [hV, if_pos hc, Vec.enc, h1, h2, h3]
 · rename_i z1 g1 z2 g2 z3 g3 hA hB hC hE N hN ZN hZ0 hF
   have q3 := numP_4w hv3 g3
   have hE4 := of_decide_eq_false hE
   have hA1 := of_decide_eq_false hA
   have hB4 := of_decide_eq_false hB
   have hz30 : 0 ≤ z3 := by omega
   have qe1 := numP_1w hv1 g1
   have qe2 := numP_1w hv2 g2
   have qe3 := q3.1
   subst qe1 qe2 qe3
   obtain rfl : z3 = z := by
     have t1 : ((z3.toNat : Nat) : Int) = z3 := Int.toNat_of_nonneg hz30
     rw [← t1, hN]; exact hz
   have htl := (tkP_len ht).1
   have hmz : 0 ≤ z3 * 1 ∧ z3 * 1 ≤ 4096 := by omega
   have ht6 : t.length ≤ 1000000 := by omega
   have ht8 : z3 ≤ 8 * (t.length : Int) := by omega
   obtain ⟨B, hB0⟩ : ∃ B, nB z3 t = B := ⟨_, rfl⟩
   have hBl : B.length = N := by rw [← hB0, nB_len, hN]
   have hBg : ∀ {k : Nat}, k < N → B[k]? = some (nullB t k) := fun h => by rw [← hB0]; exact nB_get z3 t (by omega)
   have hr5 : r5.length ≤ 100000000 := Nat.le_trans (tkP_len ht).2.2 (hl4 hv1 hv2 hv3 hv4)
   have hN0 : nlZ B N 0 = ZN := by rw [nlZ, List.take_zero, List.nil_append, Nat.sub_zero, List.map_replicate]; exact hZ0
   have hscc := hsc hA hB
   have hnb := hB0 ▸ nb2 hv4 hF ht
   have hkk : ¬ (z2 ≠ 1 ∧ z2 ≠ 2) := hkg (by first | exact .inl hC | exact .inr hD)
   have hrd : ∀ {l : List Val} {r6 : List UInt8}, standP z1 z2 (cntF B : Int) r5 = some (l, r6) → readP s = some (z1, z2, fillP B l) := fun h => by
     refine n8 hv1 hv2 hv3 (fun h => ?_) hnb h
     rcases h with (h | h) | h | h
     · omega
     · omega
     · exact hkk h
     · omega
   have hrn : standP z1 z2 (cntF B : Int) r5 = none → readP s = none := fun h => n7 hv1 hv2 hv3 hnb h
   have hcle : ∀ k, cntF (B.take k) ≤ k := fun k => Nat.le_trans (List.length_filter_le _ _) (by rw [List.length_take]; omega)
   clear hB0 hnb hkk ht htl
   clear n1 n2 n3 n4 n5 n6 n7 n8 e0 e1 nb0 nb1 nb2 hk12 hkg hl1 hl2 hl3 hl4 hms
   refine loopTz [(999996, [51, 83])] (ι := Int × Int × List (List PV)) mixed tt_ok hcp hcc hlp [0, 2, 3, 4, 5, 6, 7, 8, 10, 60] (fun p => [(61, .p (.int .i64 p.1)), (9, .p (.int .i64 p.2.1))]) (fun p => [.cells [.p (.int .i64 0), .full [], .full [], .full []], .cells [.p (.int .i64 0)], rdO r5, .vec 0 p.2.2 1, .cells [.p (.int .i64 1)], .cells [.p (.str (toB t))], .cells [.p (.int .i64 p.1)]]) (fun p => 0 ≤ p.1 ∧ p.1 ≤ z3 ∧ z3 - p.1 + cntF (B.take p.1.toNat) = p.2.1 ∧ nlZ B N p.1.toNat = p.2.2) (fun p => (z3 - p.1).toNat) (0, z3, ZN) 7 (fun _ => rfl) ⟨Int.le_refl _, hz30, by show z3 - 0 + ((cntF (B.take 0) : Nat) : Int) = z3; rw [List.take_zero]; show z3 - 0 + 0 = z3; omega, hN0⟩ ⟨rfl, rfl, trivial⟩ rfl ?_
   rintro R ⟨i, m, ZN⟩ ⟨hi0, hi1, hm, hZ⟩ hR
   replace hi0 : 0 ≤ i := hi0
   replace hi1 : i ≤ z3 := hi1
   replace hm : z3 - i + cntF (B.take i.toNat) = m := hm
   replace hZ : nlZ B N i.toNat = ZN := hZ
   have hgo : decide (i < z3) = true → 0 ≤ i + 1 ∧ i + 1 ≤ z3 ∧ (z3 - (i + 1)).toNat < (z3 - i).toNat ∧ IntKind.i64.wrap (i + 1) = i + 1 ∧ (i + 1).toNat = i.toNat + 1 ∧ i.toNat < N := by
     intro h
     have := of_decide_eq_true h
     exact ⟨by omega, by omega, by omega, wrap_in (by omega), by omega, by omega⟩
   have hend : decide (i < z3) = false → i.toNat = N := fun h => by
     have := of_decide_eq_false h
     omega
   have hZl : ZN.length = N := by rw [← hZ]; exact nlZ_len hBl (by omega)
   have hin : decide (i < z3) = true → 0 ≤ i ∧ i < N := fun h => by
     have := (hgo h).2.2.2.2.2
     omega
   have hlt1 : decide (i < z3) = true → i.toNat < ZN.length := fun h => by
     have := (hgo h).2.2.2.2.2
     omega
   have hoff : ∀ {o : Nat}, (0 + i.toNat) * 1 = o → i.toNat * 1 = o := fun h => by omega
   have hnx : decide (i < z3) = true → i + 1 ≤ 8 * (t.length : Int) := fun h => by
     have := of_decide_eq_true h
     omega
   have hset : ∀ {x : Int} {b : Bool} {L2 : List (List PV)}, decide (i < z3) = true → wordN t i (Int.toNat 1) = x → decide (x = 1) = b → ZN.set i.toNat [.bool b] = L2 → nlZ B N (i.toNat + 1) = L2 ∧ B[i.toNat]? = some b ∧ L2[i.toNat]? = some [.bool b] := fun {x b L2} h h1 h2 h3 => by
     have h4 := (hgo h).2.2.2.2.2
     have h5 : B[i.toNat]? = some b := by
       rw [hBg h4, nullB, show ((i.toNat : Nat) : Int) = i by omega, show wordN t i 1 = x from h1]; exact congrArg some h2
     refine ⟨?_, h5, ?_⟩
     · rw [← nlZ_set hBl h4 h5, hZ]; exact h3
     · rw [← h3, List.getElem?_set_self (hlt1 h)]
   have hm0 : decide (i < z3) = true → 0 ≤ m ∧ m ≤ 4096 ∧ 1 ≤ m := fun h => by
     have h4 := hcle i.toNat
     have h5 := of_decide_eq_true h
     omega
   have hmT : decide (i < z3) = true → ∀ {m2 : Int}, IntKind.i64.wrap (m - 1) = m2 → B[i.toNat]? = some true → z3 - (i + 1) + ((cntF (B.take (i + 1).toNat) : Nat) : Int) = m2 := fun h m2 h2 h3 => by
     have h4 := (hgo h).2.2.2.2.1
     have h5 := hm0 h
     rw [wrap_in (by omega)] at h2
     rw [h4, drop_same h3]; omega
   have hmF : decide (i < z3) = true → B[i.toNat]? = some false → z3 - (i + 1) + ((cntF (B.take (i + 1).toNat) : Nat) : Int) = m := fun h h3 => by
     have h4 := (hgo h).2.2.2.2.1
     rw [h4, cnt_snoc h3]
     show z3 - (i + 1) + ((cntF (B.take i.toNat) + 1 : Nat) : Int) = m
     omega
   have hZe : decide (i < z3) = false → m = cntF B ∧ ZN = B.map boolc := fun h => by
     have h4 := hend h
     have h5 := of_decide_eq_false h
     have h6 : B.take N = B := by rw [← hBl, List.take_length]
     constructor
     · rw [h4, h6] at hm; omega
     · rw [← hZ, h4]; exact nlZ_end hBl
   have hmm2 : decide (i < z3) = false → 0 ≤ m ∧ m ≤ 4096 := fun h => by
     have h4 := hcle i.toNat
     have h5 := of_decide_eq_false h
     omega
   repeat' (first
     | (with_reducible refine Nm.mk ?_; intro z hz)
     | (with_reducible refine IfB.mk ?_ ?_ <;> (intro h; cases h))
     | (with_reducible refine Two.l ?_; refine Asm.mk ?_ ?_; focus (decide +kernel))
     | (with_reducible refine Two.r ?_)
     | (with_reducible refine TwoT.r ?_)
     | (with_reducible refine TwoU.r ?_)
     | (with_reducible refine Asm.mk ?_ ?_; focus (first | exact hin (by assumption) | exact hms2 hv3 g3 hE | (show (_ : Bool) = true; kernel_rfl) | decide))
     | (with_reducible refine isCC hcc ?_; refine nextCC hcc 4 5 6 (by decide) 1 t i (by decide) hi0 (hnx (by assumption)) ht6 rfl rfl rfl rfl (fun x a' hx ha' => ?_))
     | (with_reducible refine SEx.at_ i.toNat (hoff (by assumption)) (hlt1 (by assumption)) rfl ?_; intro L2 hL2)
     | (with_reducible refine EIx.at_ i.toNat _ (hoff (by assumption)) (hset (by assumption) (by assumption) (by assumption) (by assumption)).2.2 ?_)
     | (with_reducible refine isCC hcc ?_; refine standCC hcc 2 hscc hr5 (hmm2 (by assumption)) rfl rfl (fun l CL r6 hl hCL => ?_) (fun hl r6 => ?_))
     | (with_reducible refine dieDC hdc ?_)
     | (with_reducible refine noDC hdc ?_)
     | (with_reducible refine Asm.mk2 ?_ ?_)
     | ((fail_if_success (with_reducible first | refine hQ _ _ ?_ | refine Side.mk ?_ | refine isCP hcp ?_ | refine isCC hcc ?_ | refine isLP hlp ?_ | refine Ix.mk ?_ | refine SIx.mk ?_ | refine SEx.mk ?_ | refine EIx.mk ?_ | refine RIx.mk ?_ | refine LkX.mk ?_ | show False | refine hR ?_ _ ?_ ?_ ?_ ?_ ?_ | refine hR2 ?_ _ ?_ ?_ ?_ ?_ ?_)); cbv))
   · rename_i hi o1 ho1 o2 ho2 hd m2 hm2
     obtain ⟨q1, q2, q3, q4, q5, q6⟩ := hgo hi
     obtain ⟨s1, s2, s3⟩ := hset hi hx hd hL2
     rw [q4] at hz
     subst hz ha'
     refine hR (i + 1, m2, L2) _ ⟨q1, q2, hmT hi hm2 s2, ?_⟩ q3 ⟨rfl, rfl, trivial⟩ ⟨rfl, rfl, rfl, rfl, rfl, rfl, rfl, rfl, rfl, rfl, trivial⟩ rfl
     show nlZ B N (i + 1).toNat = L2
     rw [q5]; exact s1
   · rename_i hi o1 ho1 o2 ho2 hd
     obtain ⟨q1, q2, q3, q4, q5, q6⟩ := hgo hi
     obtain ⟨s1, s2, s3⟩ := hset hi hx hd hL2
     rw [q4] at hz
     subst hz ha'
     refine hR (i + 1, m, L2) _ ⟨q1, q2, hmF hi s2, ?_⟩ q3 ⟨rfl, rfl, trivial⟩ ⟨rfl, rfl, rfl, rfl, rfl, rfl, rfl, rfl, rfl, rfl, trivial⟩ rfl
     show nlZ B N (i + 1).toNat = L2
     rw [q5]; exact s1
   · rename_i hi N2 hN2 ZF hZ2
     obtain ⟨hme, hZB⟩ := hZe hi
     have hl5 := standP_len (hmm2 hi).1 hl
     have hcl : cntF B = l.length := by
       have h6 : ((cntF B : Nat) : Int) = m := hme.symm
       omega
     have hread : readP s = some (z1, z2, fillP B l) := hrd (by rw [hme] at hl; exact hl)
     obtain rfl : z3 = z := by
       have t1 : ((z3.toNat : Nat) : Int) = z3 := Int.toNat_of_nonneg hz30
       rw [← t1, hN2]; exact hz
     obtain rfl : N2 = N := by rw [← hN, hN2]
     have hZN : B.map boolc = ZN := hZB.symm
     have hF0 : (fillZ B l N2 0).map Val.cells = ZF := by
       rw [fillZ, List.take_zero, fillP, List.nil_append, Nat.sub_zero, List.map_replicate]; exact hZ2
     clear hR hgo hend hZl hin hlt1 hoff hnx hset hm0 hZe hmm2 hmT hmF hrd hrn hcle hBg hl hme hZB hl5
     refine loopFr hlp [.tmp 13] ?_
     refine loopTz [(999996, [51, 83])] (ι := Int × List (List PV) × List (List PV)) mixed tt_ok hcp hcc hlp [0, 2, 3, 5, 6, 8, 13, 85] (fun p => [(86, .p (.int .i64 p.1)), (12, .p (.sl p.2.2))]) (fun p => [.cells [.p (.int .i64 0), .full [], .full [], .full []], .cells [.p (.int .i64 0)], rdO r6, .vec 0 ZN 1, .cells [.p (.int .i64 1)], .cells [.p (.str (toB t))], .cells [.p (.int .i64 i)], .vec 0 p.2.1 3]) (fun p => 0 ≤ p.1 ∧ p.1 ≤ z3 ∧ (fillZ B l N2 p.1.toNat).map Val.cells = p.2.1 ∧ (l.drop (cntF (B.take p.1.toNat))).map Val.cells = p.2.2) (fun p => (z3 - p.1).toNat) (0, ZF, CL) 8 (fun _ => rfl) ⟨Int.le_refl _, hz30, hF0, hCL⟩ ⟨rfl, rfl, trivial⟩ rfl ?_
     rintro R ⟨i, Z, L⟩ ⟨hi0, hi1, hZ, hL⟩ hR
     replace hi0 : 0 ≤ i := hi0
     replace hi1 : i ≤ z3 := hi1
     replace hZ : (fillZ B l N2 i.toNat).map Val.cells = Z := hZ
     replace hL : (l.drop (cntF (B.take i.toNat))).map Val.cells = L := hL
     have hgo : decide (i < z3) = true → 0 ≤ i + 1 ∧ i + 1 ≤ z3 ∧ (z3 - (i + 1)).toNat < (z3 - i).toNat ∧ IntKind.i64.wrap (i + 1) = i + 1 ∧ (i + 1).toNat = i.toNat + 1 ∧ i.toNat < N2 := by
       intro h
       have := of_decide_eq_true h
       exact ⟨by omega, by omega, by omega, wrap_in (by omega), by omega, by omega⟩
     have hend : decide (i < z3) = false → i.toNat = N2 := fun h => by
       have := of_decide_eq_false h
       omega
     obtain ⟨b, hb⟩ : ∃ b, decide (i < z3) = true → B[i.toNat]? = some b := ⟨B.getD i.toNat false, fun h => by
       have := (hgo h).2.2.2.2.2
       rw [List.getD_eq_getElem?_getD, List.getElem?_eq_getElem (by omega)]; rfl⟩
     have hoff : ∀ {o : Nat}, (0 + i.toNat) * 1 = o → i.toNat * 1 = o := fun h => by omega
     have hoff3 : ∀ {o : Nat}, (0 + i.toNat) * 3 = o → i.toNat * 3 = o := fun h => by omega
     have hNb : decide (i < z3) = true → ZN[i.toNat]? = some [.bool b] := fun h => by
       rw [← hZN, List.getElem?_map, hb h]; rfl
     have hin : decide (i < z3) = true → 0 ≤ i ∧ i < N2 := fun h => by
       have := (hgo h).2.2.2.2.2
       omega
     have hZl : Z.length = N2 := by rw [← hZ, List.length_map, fillZ_len hBl (by omega)]
     have hZs : 0 + N2 ≤ Z.length := by omega
     have hlt3 : decide (i < z3) = true → i.toNat < Z.length := fun h => by
       have := (hgo h).2.2.2.2.2
       omega
     obtain ⟨x, hx⟩ : ∃ x, decide (i < z3) = true → (!b) = true → ∃ r, l.drop (cntF (B.take i.toNat)) = x :: r := by
       cases hd : l.drop (cntF (B.take i.toNat)) with
       | nil =>
         refine ⟨Val.zero, fun h h2 => ?_⟩
         simp at h2
         have := hb h
         rw [h2] at this
         obtain ⟨y, r, e⟩ := drop_some this hcl
         rw [hd] at e; cases e
       | cons y r => exact ⟨y, fun _ _ => ⟨r, rfl⟩⟩
     have hx0 : decide (i < z3) = true → (!b) = true → (l.drop (cntF (B.take i.toNat)))[(0 : Int).toNat]? = some x := fun h h2 => by
       obtain ⟨r, hr⟩ := hx h h2
       rw [hr]; rfl
     have hLn : decide (i < z3) = true → (!b) = true → 0 < L.length := fun h h2 => by
       obtain ⟨r, hr⟩ := hx h h2
       rw [← hL, hr]; simp
     have hFc : decide (i < z3) = false → ∀ {CF : List (List PV)}, List.take N2 (List.drop 0 Z) = CF → (fillP B l).map Val.cells = CF := fun h CF h2 => by
       rw [← h2, List.drop_zero, ← hZl, List.take_length, ← hZ, hend h, fillZ, Nat.sub_self, ← hBl, List.take_length]; simp
     have hV : readV s = if (vfrom z2 (fillP B l)).2 = 0 ∧ outE z1 (vfrom z2 (fillP B l)).1 = 0 ∧ outW z1 (vfrom z2 (fillP B l)).1 = toB s then ((vfrom z2 (fillP B l)).1, 0) else (Vec.zero, 2) := by rw [readV, hread]
     have hbad : ¬ ((vfrom z2 (fillP B l)).2 = 0 ∧ outE z1 (vfrom z2 (fillP B l)).1 = 0 ∧ outW z1 (vfrom z2 (fillP B l)).1 = toB s) → ∀ H', Q' (packV [.agg [.p (.int .i64 0), .full [], .full [], .full []], .p (.int .i64 2)]) H' := fun h H' => hQ _ _ ⟨_, [Vec.zero.enc, .int .i64 2], rfl, rfl, by rw [hV, if_neg h]⟩
     have hsl : decide (i < z3) = true → (!b) = true → (0 ≤ (some (1 : Int)).getD 0 ∧ (some (1 : Int)).getD 0 ≤ (none : Option Int).getD (L.length : Int) ∧ (none : Option Int).getD (L.length : Int) ≤ (L.length : Int) ∧ (L.all fun e => e.length == 3) = true ∧ ¬ 3 = 0) := fun h h2 => by
       refine ⟨by decide, ?_, Int.le_refl _, ?_, by decide⟩
       · have := hLn h h2
         show (1 : Int) ≤ (L.length : Int)
         omega
       · rw [← hL]; exact List.all_eq_true.2 fun e he => by obtain ⟨c, _, rfl⟩ := List.mem_map.1 he; rfl
     have hFl : (fillP B l).length * 32 ≤ 140737488351232 := by rw [fillP_len]; omega
     repeat' (first
       | (with_reducible refine Nm.mk ?_; intro z hz)
       | (with_reducible refine IfB.mk ?_ ?_ <;> (intro h; cases h))
       | (with_reducible refine Two.l ?_; refine Asm.mk ?_ ?_; focus (decide +kernel))
       | (with_reducible refine Two.r ?_)
       | (with_reducible refine TwoT.r ?_)
       | (with_reducible refine TwoU.r ?_)
       | (with_reducible refine Asm.mk ?_ ?_; focus (first | exact hin (by assumption) | exact ⟨rfl, hZs⟩ | exact hsl (by assumption) (by assumption) | (show (_ : Bool) = true; kernel_rfl) | decide))
       | (with_reducible refine isCP hcp ?_; first | (refine veP hcp (vfrom_c _ _ _ (hFc (by assumption) (by assumption)) hFl) ?_; intro a n1 n2 n3 e ha h1 h2 h3 he) | (refine wrP hcp (write_c _ _ _ _ _ _ _ _ (by assumption) (by assumption) (by assumption)) ?_; intro s2 e2 hs2 he2))
       | (with_reducible refine isCC hcc ?_; first | (refine veA hcc (vfrom_c _ _ _ (hFc (by assumption) (by assumption)) hFl) rfl ?_; intro a n1 n2 n3 e ha h1 h2 h3 he) | (refine wrA hcc (write_c _ _ _ _ _ _ _ _ (by assumption) (by assumption) (by assumption)) rfl ?_; intro s2 e2 hs2 he2))
       | (with_reducible refine EIx.at_ i.toNat [.bool b] (hoff (by assumption)) (hNb (by assumption)) ?_)
       | (with_reducible refine Ix.at_ hL (fun _ => rfl) (by decide) (Int.le_refl _) (hx0 (by assumption) (by assumption)) ?_)
       | (with_reducible refine SEx.at_ i.toNat (hoff3 (by assumption)) (hlt3 (by assumption)) rfl ?_; intro L2 hL2)
       | (with_reducible refine dieDC hdc ?_)
       | (with_reducible refine noDC hdc ?_)
       | (with_reducible refine Asm.mk2 ?_ ?_)
       | ((fail_if_success (with_reducible first | refine hQ _ _ ?_ | refine Side.mk ?_ | refine isCP hcp ?_ | refine isCC hcc ?_ | refine isLP hlp ?_ | refine Ix.mk ?_ | refine SIx.mk ?_ | refine SEx.mk ?_ | refine EIx.mk ?_ | refine RIx.mk ?_ | refine LkX.mk ?_ | show False | refine hR ?_ _ ?_ ?_ ?_ ?_ ?_ | refine hR2 ?_ _ ?_ ?_ ?_ ?_ ?_)); cbv))
     · rename_i hi z1b h1b hnb zl hzl zo hzo
       obtain ⟨q1, q2, q3, q4, q5, q6⟩ := hgo hi
       rw [q4] at hz
       subst hz
       obtain ⟨rr, hrr⟩ := hx hi hnb
       have hbf := hb hi
       have hbb : b = false := by simpa using hnb
       rw [hbb] at hbf
       refine hR (i + 1, L2, zl) _ ⟨q1, q2, ?_, ?_⟩ q3 ⟨rfl, rfl, trivial⟩ ⟨rfl, rfl, rfl, rfl, rfl, rfl, rfl, rfl, trivial⟩ rfl
       · show (fillZ B l N2 (i + 1).toNat).map Val.cells = L2
         rw [q5, fillZ_set hBl q6 hbf hrr, List.map_set, hZ]
         exact hL2
       · show (l.drop (cntF (B.take (i + 1).toNat))).map Val.cells = zl
         rw [q5, drop_next hbf hrr, ← hzl, ← hL, hrr]
         show rr.map Val.cells = (((x :: rr).map Val.cells).drop 1).take (_ - 1)
         rw [List.map_cons, List.drop_succ_cons, List.drop_zero, List.take_of_length_le]
         show _ ≤ ((((x.cells :: rr.map Val.cells).length : Nat) : Int)).toNat - 1
         rw [List.length_cons]; omega
     · rename_i hi z1b h1b hnb
       obtain ⟨q1, q2, q3, q4, q5, q6⟩ := hgo hi
       rw [q4] at hz
       subst hz
       have hbf := hb hi
       have hbb : b = true := by simpa using hnb
       rw [hbb] at hbf
       refine hR (i + 1, Z, L) _ ⟨q1, q2, ?_, ?_⟩ q3 ⟨rfl, rfl, trivial⟩ ⟨rfl, rfl, rfl, rfl, rfl, rfl, rfl, rfl, trivial⟩ rfl
       · show (fillZ B l N2 (i + 1).toNat).map Val.cells = Z
         rw [q5, fillZ_null q6 hbf]; exact hZ
       · show (l.drop (cntF (B.take (i + 1).toNat))).map Val.cells = L
         rw [q5, drop_same hbf]; exact hL
     · subst ha
       exact hbad (fun h => by rw [he] at h; rw [h.1] at hz; simp at hz) _
     · subst ha
       exact hbad (fun h => by rw [show outE z1 (vfrom z2 (fillP B l)).1 = e2 from he2] at h; rw [h.2.1] at hz; simp at hz) _
     · subst ha
       exact hbad (fun h => by rw [show outW z1 (vfrom z2 (fillP B l)).1 = s2 from hs2] at h; rw [h.2.2, sbeq_eq] at hz; exact absurd hz (by rw [show (toB s) = (⟨⟨s⟩⟩ : ByteArray) from rfl]; simp)) _
     · rename_i hi zC hzC hee hee2
       subst ha
       have hc : (vfrom z2 (fillP B l)).2 = 0 ∧ outE z1 (vfrom z2 (fillP B l)).1 = 0 ∧ outW z1 (vfrom z2 (fillP B l)).1 = toB s := by
         refine ⟨?_, ?_, ?_⟩
         · rw [he]; simpa using hee
         · rw [show outE z1 (vfrom z2 (fillP B l)).1 = e2 from he2]; simpa using hee2
         · rw [show outW z1 (vfrom z2 (fillP B l)).1 = s2 from hs2]
           rw [sbeq_eq] at hz
           have h9 : s2 = (⟨⟨s⟩⟩ : ByteArray) := by simpa using hz
           exact h9
       refine hQ _ _ ⟨_, [.agg [PV.int IntKind.i64 (vfrom z2 (fillP B l)).1.kind, PV.sl n1, PV.sl n2, PV.sl n3], .int .i64 0], rfl, rfl, ?_⟩
       rw [hV, if_pos hc, Vec.enc, h1, h2, h3]
   · rename_i hi
     have hme := (hZe hz).1
     rw [hme] at hl
     exact hdie (hrn hl) _
 · rename_i z1 g1 z2 g2 z3 g3 hA hB hC hE N hN ZN hZ0 hF N2 hN2 ZF hZ2
   have q3 := numP_4w hv3 g3
   have hE4 := of_decide_eq_false hE
   have hA1 := of_decide_eq_false hA
   have hB4 := of_decide_eq_false hB
   have hz30 : 0 ≤ z3 := by omega
   have qe1 := numP_1w hv1 g1
   have qe2 := numP_1w hv2 g2
   have qe3 := q3.1
   subst qe1 qe2 qe3
   obtain rfl : z3 = z := by
     have t1 : ((z3.toNat : Nat) : Int) = z3 := Int.toNat_of_nonneg hz30
     rw [← t1, hN2]; exact hz
   obtain ⟨B, hB0⟩ : ∃ B, List.replicate z3.toNat false = B := ⟨_, rfl⟩
   obtain rfl : N2 = N := by rw [← hN, hN2]
   have hBl : B.length = N2 := by rw [← hB0, List.length_replicate, hN]
   have hcB : cntF B = N2 := by rw [← hB0, cntF_rep, hN]
   have hcl : cntF B = l.length := by
     have := standP_len hz30 hl
     rw [hcB]; omega
   have hZN : B.map boolc = ZN := by rw [← hB0, List.map_replicate, hN]; exact hZ0
   have hF0 : (fillZ B l N2 0).map Val.cells = ZF := by
     rw [fillZ, List.take_zero, fillP, List.nil_append, Nat.sub_zero, List.map_replicate]; exact hZ2
   have hread : readP s = some (z1, z2, fillP B l) := by
     refine n8 (r5 := r5) hv1 hv2 hv3 (fun h => ?_) (hB0 ▸ nb0 hv4 hF) ?_
     · rcases h with (h | h) | h | h
       · omega
       · omega
       · exact hkg (by first | exact .inl hC | exact .inr hD) h
       · omega
     · have h9 : standP z1 z2 ((cntF B : Nat) : Int) r4 = some (l, r5) := by
         rw [show ((cntF B : Nat) : Int) = z3 by omega]; exact hl
       exact h9
   refine loopFr hlp [.tmp 13] ?_
   refine loopTz [(999996, [51, 83])] (ι := Int × List (List PV) × List (List PV)) mixed tt_ok hcp hcc hlp [0, 2, 3, 5, 6, 8, 13, 85] (fun p => [(86, .p (.int .i64 p.1)), (12, .p (.sl p.2.2))]) (fun p => [.cells [.p (.int .i64 0), .full [], .full [], .full []], .cells [.p (.int .i64 0)], rdO r5, .vec 0 ZN 1, .vec 0 p.2.1 3]) (fun p => 0 ≤ p.1 ∧ p.1 ≤ z3 ∧ (fillZ B l N2 p.1.toNat).map Val.cells = p.2.1 ∧ (l.drop (cntF (B.take p.1.toNat))).map Val.cells = p.2.2) (fun p => (z3 - p.1).toNat) (0, ZF, CL) 5 (fun _ => rfl) ⟨Int.le_refl _, hz30, hF0, hCL⟩ ⟨rfl, rfl, trivial⟩ rfl ?_
   rintro R ⟨i, Z, L⟩ ⟨hi0, hi1, hZ, hL⟩ hR
   replace hi0 : 0 ≤ i := hi0
   replace hi1 : i ≤ z3 := hi1
   replace hZ : (fillZ B l N2 i.toNat).map Val.cells = Z := hZ
   replace hL : (l.drop (cntF (B.take i.toNat))).map Val.cells = L := hL
   have hgo : decide (i < z3) = true → 0 ≤ i + 1 ∧ i + 1 ≤ z3 ∧ (z3 - (i + 1)).toNat < (z3 - i).toNat ∧ IntKind.i64.wrap (i + 1) = i + 1 ∧ (i + 1).toNat = i.toNat + 1 ∧ i.toNat < N2 := by
     intro h
     have := of_decide_eq_true h
     exact ⟨by omega, by omega, by omega, wrap_in (by omega), by omega, by omega⟩
   have hend : decide (i < z3) = false → i.toNat = N2 := fun h => by
     have := of_decide_eq_false h
     omega
   obtain ⟨b, hb⟩ : ∃ b, decide (i < z3) = true → B[i.toNat]? = some b := ⟨B.getD i.toNat false, fun h => by
     have := (hgo h).2.2.2.2.2
     rw [List.getD_eq_getElem?_getD, List.getElem?_eq_getElem (by omega)]; rfl⟩
   have hoff : ∀ {o : Nat}, (0 + i.toNat) * 1 = o → i.toNat * 1 = o := fun h => by omega
   have hoff3 : ∀ {o : Nat}, (0 + i.toNat) * 3 = o → i.toNat * 3 = o := fun h => by omega
   have hNb : decide (i < z3) = true → ZN[i.toNat]? = some [.bool b] := fun h => by
     rw [← hZN, List.getElem?_map, hb h]; rfl
   have hin : decide (i < z3) = true → 0 ≤ i ∧ i < N2 := fun h => by
     have := (hgo h).2.2.2.2.2
     omega
   have hZl : Z.length = N2 := by rw [← hZ, List.length_map, fillZ_len hBl (by omega)]
   have hZs : 0 + N2 ≤ Z.length := by omega
   have hlt3 : decide (i < z3) = true → i.toNat < Z.length := fun h => by
     have := (hgo h).2.2.2.2.2
     omega
   obtain ⟨x, hx⟩ : ∃ x, decide (i < z3) = true → (!b) = true → ∃ r, l.drop (cntF (B.take i.toNat)) = x :: r := by
     cases hd : l.drop (cntF (B.take i.toNat)) with
     | nil =>
       refine ⟨Val.zero, fun h h2 => ?_⟩
       simp at h2
       have := hb h
       rw [h2] at this
       obtain ⟨y, r, e⟩ := drop_some this hcl
       rw [hd] at e; cases e
     | cons y r => exact ⟨y, fun _ _ => ⟨r, rfl⟩⟩
   have hx0 : decide (i < z3) = true → (!b) = true → (l.drop (cntF (B.take i.toNat)))[(0 : Int).toNat]? = some x := fun h h2 => by
     obtain ⟨r, hr⟩ := hx h h2
     rw [hr]; rfl
   have hLn : decide (i < z3) = true → (!b) = true → 0 < L.length := fun h h2 => by
     obtain ⟨r, hr⟩ := hx h h2
     rw [← hL, hr]; simp
   have hFc : decide (i < z3) = false → ∀ {CF : List (List PV)}, List.take N2 (List.drop 0 Z) = CF → (fillP B l).map Val.cells = CF := fun h CF h2 => by
     rw [← h2, List.drop_zero, ← hZl, List.take_length, ← hZ, hend h, fillZ, Nat.sub_self, ← hBl, List.take_length]; simp
   have hV : readV s = if (vfrom z2 (fillP B l)).2 = 0 ∧ outE z1 (vfrom z2 (fillP B l)).1 = 0 ∧ outW z1 (vfrom z2 (fillP B l)).1 = toB s then ((vfrom z2 (fillP B l)).1, 0) else (Vec.zero, 2) := by rw [readV, hread]
   have hbad : ¬ ((vfrom z2 (fillP B l)).2 = 0 ∧ outE z1 (vfrom z2 (fillP B l)).1 = 0 ∧ outW z1 (vfrom z2 (fillP B l)).1 = toB s) → ∀ H', Q' (packV [.agg [.p (.int .i64 0), .full [], .full [], .full []], .p (.int .i64 2)]) H' := fun h H' => hQ _ _ ⟨_, [Vec.zero.enc, .int .i64 2], rfl, rfl, by rw [hV, if_neg h]⟩
   have hsl : decide (i < z3) = true → (!b) = true → (0 ≤ (some (1 : Int)).getD 0 ∧ (some (1 : Int)).getD 0 ≤ (none : Option Int).getD (L.length : Int) ∧ (none : Option Int).getD (L.length : Int) ≤ (L.length : Int) ∧ (L.all fun e => e.length == 3) = true ∧ ¬ 3 = 0) := fun h h2 => by
     refine ⟨by decide, ?_, Int.le_refl _, ?_, by decide⟩
     · have := hLn h h2
       show (1 : Int) ≤ (L.length : Int)
       omega
     · rw [← hL]; exact List.all_eq_true.2 fun e he => by obtain ⟨c, _, rfl⟩ := List.mem_map.1 he; rfl
   have hFl : (fillP B l).length * 32 ≤ 140737488351232 := by rw [fillP_len]; omega
   repeat' (first
     | (with_reducible refine Nm.mk ?_; intro z hz)
     | (with_reducible refine IfB.mk ?_ ?_ <;> (intro h; cases h))
     | (with_reducible refine Two.l ?_; refine Asm.mk ?_ ?_; focus (decide +kernel))
     | (with_reducible refine Two.r ?_)
     | (with_reducible refine TwoT.r ?_)
     | (with_reducible refine TwoU.r ?_)
     | (with_reducible refine Asm.mk ?_ ?_; focus (first | exact hin (by assumption) | exact ⟨rfl, hZs⟩ | exact hsl (by assumption) (by assumption) | (show (_ : Bool) = true; kernel_rfl) | decide))
     | (with_reducible refine isCP hcp ?_; first | (refine veP hcp (vfrom_c _ _ _ (hFc (by assumption) (by assumption)) hFl) ?_; intro a n1 n2 n3 e ha h1 h2 h3 he) | (refine wrP hcp (write_c _ _ _ _ _ _ _ _ (by assumption) (by assumption) (by assumption)) ?_; intro s2 e2 hs2 he2))
     | (with_reducible refine isCC hcc ?_; first | (refine veA hcc (vfrom_c _ _ _ (hFc (by assumption) (by assumption)) hFl) rfl ?_; intro a n1 n2 n3 e ha h1 h2 h3 he) | (refine wrA hcc (write_c _ _ _ _ _ _ _ _ (by assumption) (by assumption) (by assumption)) rfl ?_; intro s2 e2 hs2 he2))
     | (with_reducible refine EIx.at_ i.toNat [.bool b] (hoff (by assumption)) (hNb (by assumption)) ?_)
     | (with_reducible refine Ix.at_ hL (fun _ => rfl) (by decide) (Int.le_refl _) (hx0 (by assumption) (by assumption)) ?_)
     | (with_reducible refine SEx.at_ i.toNat (hoff3 (by assumption)) (hlt3 (by assumption)) rfl ?_; intro L2 hL2)
     | (with_reducible refine dieDC hdc ?_)
     | (with_reducible refine noDC hdc ?_)
     | (with_reducible refine Asm.mk2 ?_ ?_)
     | ((fail_if_success (with_reducible first | refine hQ _ _ ?_ | refine Side.mk ?_ | refine isCP hcp ?_ | refine isCC hcc ?_ | refine isLP hlp ?_ | refine Ix.mk ?_ | refine SIx.mk ?_ | refine SEx.mk ?_ | refine EIx.mk ?_ | refine RIx.mk ?_ | refine LkX.mk ?_ | show False | refine hR ?_ _ ?_ ?_ ?_ ?_ ?_ | refine hR2 ?_ _ ?_ ?_ ?_ ?_ ?_)); cbv))
   · rename_i hi z1b h1b hnb zl hzl zo hzo
     obtain ⟨q1, q2, q3, q4, q5, q6⟩ := hgo hi
     rw [q4] at hz
     subst hz
     obtain ⟨rr, hrr⟩ := hx hi hnb
     have hbf := hb hi
     have hbb : b = false := by simpa using hnb
     rw [hbb] at hbf
     refine hR (i + 1, L2, zl) _ ⟨q1, q2, ?_, ?_⟩ q3 ⟨rfl, rfl, trivial⟩ ⟨rfl, rfl, rfl, rfl, rfl, rfl, rfl, rfl, trivial⟩ rfl
     · show (fillZ B l N2 (i + 1).toNat).map Val.cells = L2
       rw [q5, fillZ_set hBl q6 hbf hrr, List.map_set, hZ]
       exact hL2
     · show (l.drop (cntF (B.take (i + 1).toNat))).map Val.cells = zl
       rw [q5, drop_next hbf hrr, ← hzl, ← hL, hrr]
       show rr.map Val.cells = (((x :: rr).map Val.cells).drop 1).take (_ - 1)
       rw [List.map_cons, List.drop_succ_cons, List.drop_zero, List.take_of_length_le]
       show _ ≤ ((((x.cells :: rr.map Val.cells).length : Nat) : Int)).toNat - 1
       rw [List.length_cons]; omega
   · rename_i hi z1b h1b hnb
     obtain ⟨q1, q2, q3, q4, q5, q6⟩ := hgo hi
     rw [q4] at hz
     subst hz
     have hbf := hb hi
     have hbb : b = true := by simpa using hnb
     rw [hbb] at hbf
     refine hR (i + 1, Z, L) _ ⟨q1, q2, ?_, ?_⟩ q3 ⟨rfl, rfl, trivial⟩ ⟨rfl, rfl, rfl, rfl, rfl, rfl, rfl, rfl, trivial⟩ rfl
     · show (fillZ B l N2 (i + 1).toNat).map Val.cells = Z
       rw [q5, fillZ_null q6 hbf]; exact hZ
     · show (l.drop (cntF (B.take (i + 1).toNat))).map Val.cells = L
       rw [q5, drop_same hbf]; exact hL
   · subst ha
     exact hbad (fun h => by rw [he] at h; rw [h.1] at hz; simp at hz) _
   · subst ha
     exact hbad (fun h => by rw [show outE z1 (vfrom z2 (fillP B l)).1 = e2 from he2] at h; rw [h.2.1] at hz; simp at hz) _
   · subst ha
     exact hbad (fun h => by rw [show outW z1 (vfrom z2 (fillP B l)).1 = s2 from hs2] at h; rw [h.2.2, sbeq_eq] at hz; exact absurd hz (by rw [show (toB s) = (⟨⟨s⟩⟩ : ByteArray) from rfl]; simp)) _
   · rename_i hi zC hzC hee hee2
     subst ha
     have hc : (vfrom z2 (fillP B l)).2 = 0 ∧ outE z1 (vfrom z2 (fillP B l)).1 = 0 ∧ outW z1 (vfrom z2 (fillP B l)).1 = toB s := by
       refine ⟨?_, ?_, ?_⟩
       · rw [he]; simpa using hee
       · rw [show outE z1 (vfrom z2 (fillP B l)).1 = e2 from he2]; simpa using hee2
       · rw [show outW z1 (vfrom z2 (fillP B l)).1 = s2 from hs2]
         rw [sbeq_eq] at hz
         have h9 : s2 = (⟨⟨s⟩⟩ : ByteArray) := by simpa using hz
         exact h9
     refine hQ _ _ ⟨_, [.agg [PV.int IntKind.i64 (vfrom z2 (fillP B l)).1.kind, PV.sl n1, PV.sl n2, PV.sl n3], .int .i64 0], rfl, rfl, ?_⟩
     rw [hV, if_pos hc, Vec.enc, h1, h2, h3]
theorem read_c (s : List UInt8) (hs : s.length ≤ 100000000) :
   PCall Try.prog 25 [.str (toB s)] fun r => r = [(readV s).1.enc, .int .i64 (readV s).2] := PCall.ofA (read_a s hs)
end Go.Proofs.Ytcajncmjlmpkgaa

namespace Go.Proofs.Ytcajncmjlmpkgaa
open Go Go.RowKit
set_option maxRecDepth 100000
set_option linter.unusedSimpArgs false
set_option linter.unusedVariables false
theorem u8_nat {n : Nat} (h : n < 256) : IntKind.u8.wrap (n : Int) = n := by simp [IntKind.wrap, IntKind.bits, IntKind.signed]; omega
theorem u64_nat {n : Nat} (h : n < 18446744073709551616) : IntKind.u64.wrap (n : Int) = n := by simp [IntKind.wrap, IntKind.bits, IntKind.signed]; omega
theorem fdiv_pow (x k : Nat) : (x : Int).fdiv (2 ^ k) = ((x / 2 ^ k : Nat) : Int) := by
 rw [Int.fdiv_eq_ediv_of_nonneg _ (Int.le_of_lt (Int.pow_pos (by decide))), Int.natCast_ediv, Int.natCast_pow]; rfl
theorem and_bit (w : Nat) (hw : 1 ≤ w) (x : Nat) : (BitVec.ofInt w (x : Int) &&& BitVec.ofInt w 1).toNat = x % 2 := by
 have h1 : BitVec.ofInt w (1 : Int) = BitVec.ofNat w 1 := BitVec.ofInt_natCast w 1
 rw [BitVec.ofInt_natCast, h1, BitVec.toNat_and, BitVec.toNat_ofNat, BitVec.toNat_ofNat]
 have h2 : 1 % 2 ^ w = 1 := Nat.mod_eq_of_lt (Nat.one_lt_two_pow (by omega))
 rw [h2, Nat.and_one_is_mod, Nat.mod_mod_of_dvd]
 exact Nat.dvd_of_pow_dvd hw (Nat.dvd_refl _)
theorem bit_pow_lt {b : Bool} {k n : Nat} (h : k < n) : b.toNat * 2 ^ k < 2 ^ n := by
 have := Nat.pow_lt_pow_right (a := 2) (by decide) h
 cases b
 · have := Nat.two_pow_pos n
   simp; omega
 · simpa using this
theorem bitV_eq (c : UInt8) {e k : Nat} (he : e < 8) (hk : k < 64) : bitV c (e : Int) (k : Int) = ((c.toNat.testBit e).toNat * 2 ^ k : Nat) := by
 unfold bitV
 rw [show min (e : Int).toNat IntKind.u8.bits = e from Nat.min_eq_left (by show e ≤ 8; omega), show min (k : Int).toNat IntKind.u64.bits = k from Nat.min_eq_left (by show k ≤ 64; omega), fdiv_pow, and_bit _ (by decide), ← Nat.toNat_testBit]
 have hb := Bool.toNat_le (c.toNat.testBit e)
 rw [u8_nat (by omega), u64_nat (by omega)]
 have h2 : (((c.toNat.testBit e).toNat : Nat) : Int) * 2 ^ k = (((c.toNat.testBit e).toNat * 2 ^ k : Nat) : Int) := by
   rw [Int.natCast_mul, Int.natCast_pow]; rfl
 rw [h2, u64_nat]
 exact bit_pow_lt hk
theorem bitU_eq (x : Nat) {k t : Nat} (hk : k < 64) (ht : t < 8) : bitU (x : Int) (k : Int) (t : Int) = ((x.testBit k).toNat * 2 ^ t : Nat) := by
 unfold bitU
 rw [show min (k : Int).toNat IntKind.u64.bits = k from Nat.min_eq_left (by show k ≤ 64; omega), show min (t : Int).toNat IntKind.u8.bits = t from Nat.min_eq_left (by show t ≤ 8; omega), fdiv_pow, and_bit _ (by decide), ← Nat.toNat_testBit]
 have hb := Bool.toNat_le (x.testBit k)
 rw [u64_nat (by omega), u8_nat (by omega)]
 have h2 : (((x.testBit k).toNat : Nat) : Int) * 2 ^ t = (((x.testBit k).toNat * 2 ^ t : Nat) : Int) := by
   rw [Int.natCast_mul, Int.natCast_pow]; rfl
 rw [h2, u8_nat]
 exact bit_pow_lt ht
theorem orB_toNat (c : UInt8) {m : Nat} (h : m < 256) : (orB c (m : Int)).toNat = c.toNat ||| m := by
 have hc := c.toNat_lt
 have h0 : (c.toNat ||| m) < 2 ^ 8 := Nat.or_lt_two_pow (by omega) (by omega)
 rw [orB, orU8, BitVec.ofInt_natCast, BitVec.ofInt_natCast, BitVec.toNat_or, BitVec.toNat_ofNat, BitVec.toNat_ofNat]
 rw [show c.toNat % 2 ^ IntKind.u8.bits = c.toNat from Nat.mod_eq_of_lt (by show c.toNat < 256; omega), show m % 2 ^ IntKind.u8.bits = m from Nat.mod_eq_of_lt (by show m < 256; omega), u8_nat (by omega), UInt8.toNat_ofNat', Int.toNat_natCast]
 exact Nat.mod_eq_of_lt h0
theorem orU64_eq {x k : Nat} (hx : x < 2 ^ k) (hk : k < 64) (b : Bool) : orU64 (x : Int) ((b.toNat * 2 ^ k : Nat) : Int) = ((x + b.toNat * 2 ^ k : Nat) : Int) := by
 have h1 : x < 2 ^ 64 := Nat.lt_of_lt_of_le hx (Nat.pow_le_pow_right (by decide) (by omega))
 have h2 := bit_pow_lt (b := b) hk
 have e : (x ||| b.toNat * 2 ^ k) = x + b.toNat * 2 ^ k := by
   rw [Nat.or_comm, Nat.mul_comm, ← Nat.two_pow_add_eq_or_of_lt hx, Nat.add_comm]
 have h3 : (x ||| b.toNat * 2 ^ k) < 2 ^ 64 := Nat.or_lt_two_pow h1 h2
 rw [orU64, BitVec.ofInt_natCast, BitVec.ofInt_natCast, BitVec.toNat_or, BitVec.toNat_ofNat, BitVec.toNat_ofNat]
 rw [show x % 2 ^ IntKind.u64.bits = x from Nat.mod_eq_of_lt h1, show b.toNat * 2 ^ k % 2 ^ IntKind.u64.bits = b.toNat * 2 ^ k from Nat.mod_eq_of_lt h2, u64_nat h3, e]
def bitAt (t : List UInt8) (p : Nat) : Bool := (t.getD (p / 8) 0).toNat.testBit (p % 8)
def valF (f : Nat → Bool) : Nat → Nat
 | 0 => 0
 | k + 1 => valF f k + (f k).toNat * 2 ^ k
theorem valF_lt (f : Nat → Bool) : ∀ k, valF f k < 2 ^ k
 | 0 => by simp [valF]
 | k + 1 => by
   have := valF_lt f k
   have h2 : (f k).toNat * 2 ^ k ≤ 2 ^ k := by
     cases f k <;> simp
   rw [valF, Nat.pow_succ]; omega
theorem valF_congr {f g : Nat → Bool} : ∀ {k : Nat}, (∀ j, j < k → f j = g j) → valF f k = valF g k
 | 0, _ => rfl
 | k + 1, h => by rw [valF, valF, valF_congr (fun j hj => h j (by omega)), h k (by omega)]
theorem valF_bits (x : Nat) : ∀ k, valF x.testBit k = x % 2 ^ k
 | 0 => by simp [valF, Nat.mod_one]
 | k + 1 => by rw [valF, valF_bits x k, Nat.pow_succ, Nat.mod_mul, Nat.toNat_testBit, Nat.mul_comm (2 ^ k)]
theorem wordN_val (t : List UInt8) (a : Nat) : ∀ k, k ≤ 64 → wordN t (a : Int) k = (valF (fun j => bitAt t (a + j)) k : Nat)
 | 0, _ => rfl
 | k + 1, h => by
   have e1 : (((a : Int) + (k : Nat)) / 8).toNat = (a + k) / 8 := by omega
   have e2 : ((a : Int) + (k : Nat)) % 8 = (((a + k) % 8 : Nat) : Int) := by omega
   rw [wordN, wordN_val t a k (by omega), e1, e2, bitV_eq _ (by omega) (by omega), valF]
   exact orU64_eq (valF_lt _ k) (by omega) _
structure Laid (f : Nat → Bool) (a : Nat) (b : List UInt8) : Prop where
 at_ : At8 (a : Int) b
 lo : ∀ p, p < a → bitAt b p = f p
 hi : ∀ p, a ≤ p → bitAt b p = false
theorem bitAt_grow (b : List UInt8) (a : Int) (p : Nat) : bitAt (growB b a) p = bitAt b p := by
 unfold growB
 split
 · unfold bitAt
   congr 2
   rw [List.getD_eq_getElem?_getD, List.getD_eq_getElem?_getD]
   rcases Nat.lt_trichotomy (p / 8) b.length with h | h | h
   · rw [List.getElem?_append_left h]
   · rw [h]; simp
   · rw [List.getElem?_eq_none (l := b) (by omega), List.getElem?_eq_none (by rw [List.length_append, List.length_singleton]; omega)]
 · rfl
theorem Laid.one {f : Nat → Bool} {a : Nat} {b : List UInt8} (h : Laid f a b) (x : Nat) {j : Nat} (hj : j < 64) (hf : f a = x.testBit j) : Laid f (a + 1) (lay1 b a (bitU x j ((a : Int).tmod 8))) := by
 have hl := growB_len h.at_
 have e1 : (a : Int).tmod 8 = ((a % 8 : Nat) : Int) := by rw [Int.tmod_eq_emod_of_nonneg (by omega)]; omega
 have e2 : ((a : Int) / 8).toNat = a / 8 := by omega
 rw [lay1, e1, bitU_eq x hj (by omega), e2]
 have hi : a / 8 < (growB b a).length := by omega
 have hm : (x.testBit j).toNat * 2 ^ (a % 8) < 256 := bit_pow_lt (n := 8) (by omega)
 have key : ∀ p, bitAt (setB (growB b a) (a / 8) (((x.testBit j).toNat * 2 ^ (a % 8) : Nat) : Int)) p = if p = a then f a else bitAt b p := by
   intro p
   rw [← bitAt_grow b a p]
   unfold bitAt setB
   rw [List.getD_eq_getElem?_getD, List.getElem?_set]
   by_cases hp : a / 8 = p / 8
   · rw [if_pos hp, if_pos hi, Option.getD_some, orB_toNat _ hm, Nat.testBit_or, hp]
     by_cases hpa : p = a
     · subst hpa
       have h0 : bitAt (growB b p) p = false := by rw [bitAt_grow]; exact h.hi p (Nat.le_refl _)
       unfold bitAt at h0
       rw [if_pos rfl, h0, hf, Nat.mul_comm, Nat.testBit_two_pow_mul]
       cases x.testBit j <;> simp
     · rw [if_neg hpa, Nat.mul_comm, Nat.testBit_two_pow_mul]
       have hne : a % 8 ≠ p % 8 := by omega
       have : (decide (p % 8 ≥ a % 8) && ((x.testBit j).toNat).testBit (p % 8 - a % 8)) = false := by
         rcases Nat.lt_or_ge (p % 8) (a % 8) with g | g
         · simp; omega
         · obtain ⟨d, hd⟩ : ∃ d, p % 8 - a % 8 = d + 1 := ⟨p % 8 - a % 8 - 1, by omega⟩
           rw [hd, Nat.testBit_succ]
           cases x.testBit j <;> simp
       rw [this, Bool.or_false]
   · rw [if_neg hp, if_neg (by rintro rfl; exact hp rfl), ← List.getD_eq_getElem?_getD]
 refine ⟨?_, fun p hp => ?_, fun p hp => ?_⟩
 · refine ⟨by omega, ?_⟩
   rw [setB, List.length_set]; omega
 · rw [key]
   split
   · rename_i e; rw [e]
   · exact h.lo p (by omega)
 · rw [key, if_neg (by omega)]; exact h.hi p (by omega)
theorem Laid.word {f : Nat → Bool} {a : Nat} {b : List UInt8} (h : Laid f a b) (x : Nat) : ∀ n, n ≤ 64 → (∀ j, j < n → f (a + j) = x.testBit j) → Laid f (a + n) (layN x a b n)
 | 0, _, _ => h
 | n + 1, hn, hf => by
   have h1 := Laid.word h x n (by omega) (fun j hj => hf j (by omega))
   have h2 := h1.one x (j := n) (by omega) (hf n (by omega))
   rw [layN, show ((a : Int) + (n : Nat)) = ((a + n : Nat) : Int) by omega]
   exact h2
theorem Laid.all {f : Nat → Bool} {W : Nat} (hW : W ≤ 64) : ∀ (xs : List Nat) {a : Nat} {b : List UInt8}, Laid f a b → (∀ i x j, xs[i]? = some x → j < W → f (a + W * i + j) = x.testBit j) → Laid f (a + W * xs.length) (layAll (W : Int) (xs.map fun x : Nat => (x : Int)) a b)
 | [], a, b, h, _ => by simpa [layAll] using h
 | x :: xs, a, b, h, hf => by
   have h1 := h.word x W hW (fun j hj => by
     have := hf 0 x j rfl hj
     rw [Nat.mul_zero, Nat.add_zero] at this; exact this)
   have h2 := Laid.all hW xs h1 (fun i y j hy hj => by
     have := hf (i + 1) y j hy hj
     rw [Nat.mul_add, Nat.mul_one] at this
     rw [show a + W + W * i + j = a + (W * i + W) + j by omega]; exact this)
   rw [List.map_cons, layAll, List.length_cons, Nat.mul_add, Nat.mul_one, show a + (W * xs.length + W) = a + W + W * xs.length by omega, show ((a : Int) + (W : Nat)) = ((a + W : Nat) : Int) by omega]
   exact h2
theorem div_mul_add {W i j : Nat} (hj : j < W) : (W * i + j) / W = i := by
 rw [Nat.add_comm, Nat.add_mul_div_left _ _ (by omega), Nat.div_eq_of_lt hj, Nat.zero_add]
theorem bits_back_nat {W : Nat} (hW : W ≤ 64) (xs : List Nat) {i x : Nat} (hx : xs[i]? = some x) (hl : x < 2 ^ W) : wordN (bitsB (W : Int) (xs.map fun x : Nat => (x : Int))) ((W * i : Nat) : Int) W = x := by
 have hi := (List.getElem?_eq_some_iff.1 hx).1
 let f : Nat → Bool := fun p => ((xs[p / W]?).getD 0).testBit (p % W)
 have h0 : Laid f 0 [] := ⟨⟨Int.le_refl _, rfl⟩, fun p hp => by omega, fun p _ => by simp [bitAt]⟩
 have h := Laid.all (f := f) hW xs h0 (fun i y j hy hj => by
   have e1 : (0 + W * i + j) / W = i := by rw [Nat.zero_add]; exact div_mul_add hj
   have e2 : (0 + W * i + j) % W = j := by rw [Nat.zero_add, Nat.mul_comm, Nat.mul_add_mod_of_lt hj]
   show ((xs[(0 + W * i + j) / W]?).getD 0).testBit ((0 + W * i + j) % W) = _
   rw [e1, e2, hy]; rfl)
 rw [wordN_val _ _ _ hW]
 have hb : ∀ j, j < W → bitAt (bitsB (W : Int) (xs.map fun x : Nat => (x : Int))) (W * i + j) = x.testBit j := by
   intro j hj
   have hp : W * i + j < 0 + W * xs.length := by
     have h1 : W * (i + 1) ≤ W * xs.length := Nat.mul_le_mul_left _ hi
     rw [Nat.mul_add, Nat.mul_one] at h1; omega
   have h2 := h.lo _ hp
   have e1 : (W * i + j) / W = i := div_mul_add hj
   have e2 : (W * i + j) % W = j := by rw [Nat.mul_comm, Nat.mul_add_mod_of_lt hj]
   have h3 : f (W * i + j) = x.testBit j := by
     show ((xs[(W * i + j) / W]?).getD 0).testBit ((W * i + j) % W) = _
     rw [e1, e2, hx]; rfl
   rw [← h3]; exact h2
 rw [valF_congr hb, valF_bits, Nat.mod_eq_of_lt hl]
theorem bits_back {W : Int} (h0 : 0 ≤ W) (hW : W ≤ 64) (xs : List Int) (hn : ∀ x ∈ xs, 0 ≤ x) {i : Nat} {x : Int} (hx : xs[i]? = some x) (hl : x < 2 ^ W.toNat) : wordN (bitsB W xs) (W * i) W.toNat = x := by
 obtain ⟨w, rfl⟩ := Int.eq_ofNat_of_zero_le h0
 have hx0 := hn x (List.mem_of_getElem? hx)
 obtain ⟨y, rfl⟩ := Int.eq_ofNat_of_zero_le hx0
 have e : xs = (xs.map Int.toNat).map fun x : Nat => (x : Int) := by
   rw [List.map_map]
   conv => lhs; rw [← List.map_id xs]
   exact List.map_congr_left fun z hz => by have := hn z hz; simp; omega
 have hy : (xs.map Int.toNat)[i]? = some y := by rw [List.getElem?_map, hx]; rfl
 have := bits_back_nat (W := w) (by omega) _ hy (by
   rw [Int.toNat_natCast] at hl
   exact Int.ofNat_lt.1 (by rw [Int.natCast_pow]; exact hl))
 rw [← e] at this
 exact this
end Go.Proofs.Ytcajncmjlmpkgaa

namespace Go.Proofs.Ytcajncmjlmpkgaa
open Go Go.RowKit
set_option maxRecDepth 100000
set_option linter.unusedSimpArgs false
set_option linter.unusedVariables false
theorem tkP_app (t r : List UInt8) {n : Int} (h : (t.length : Int) = n) : tkP n (t ++ r) = some (t, r) := by
 subst h
 rw [tkP_some ⟨by omega, by rw [List.length_append]; omega⟩, Int.toNat_natCast, List.take_left', List.drop_left'] <;> rfl
theorem numL_part (n : Nat) (V : Nat) (hV : V ≤ 8) (hn : n < 2 ^ (8 * V)) : ∀ m, m ≤ V → numL ((List.range m).map fun j => byteAt (n : Int) (V - 1 - j)) = ((n / 2 ^ (8 * (V - m)) : Nat) : Int)
 | 0, _ => by
   rw [Nat.sub_zero, Nat.div_eq_of_lt hn]; rfl
 | m + 1, h => by
   have ih := numL_part n V hV hn m (by omega)
   rw [List.range_succ, List.map_append, numL, List.foldl_append]
   have hlt : n / 2 ^ (8 * (V - m)) < 2 ^ (8 * m) := by
     rw [Nat.div_lt_iff_lt_mul (Nat.two_pow_pos _), ← Nat.pow_add, show 8 * m + 8 * (V - m) = 8 * V by omega]; exact hn
   have hlt2 : (2 : Nat) ^ (8 * m) ≤ 2 ^ 56 := Nat.pow_le_pow_right (by decide) (by omega)
   rw [show List.foldl stepN 0 ((List.range m).map fun j => byteAt (n : Int) (V - 1 - j)) = _ from ih]
   show stepN _ (byteAt (n : Int) (V - 1 - m)) = _
   rw [stepN_eq (Int.natCast_nonneg _) (by
     have h3 := Nat.lt_of_lt_of_le hlt hlt2
     generalize n / 2 ^ (8 * (V - m)) = q at h3
     omega), byteAt_toNat, Int.toNat_natCast]
   have e : 2 ^ (8 * (V - m)) = 2 ^ (8 * (V - (m + 1))) * 256 := by
     rw [show V - m = (V - (m + 1)) + 1 by omega, Nat.mul_add, Nat.pow_add]
   rw [e, ← Nat.div_div_eq_div_mul, show V - 1 - m = V - (m + 1) by omega]
   omega
theorem numL_byW {V : Nat} {x : Int} (hV : V ≤ 8) (h0 : 0 ≤ x) (h : x < 2 ^ (8 * V)) : numL (byW V x) = x := by
 obtain ⟨n, rfl⟩ := Int.eq_ofNat_of_zero_le h0
 have hn : n < 2 ^ (8 * V) := Int.ofNat_lt.1 (by rw [Int.natCast_pow]; exact h)
 have := numL_part n V hV hn V (Nat.le_refl _)
 rw [Nat.sub_self, Nat.mul_zero, Nat.pow_zero, Nat.div_one] at this
 exact this
theorem numP_byW {V : Nat} {x : Int} (hV : V ≤ 8) (h0 : 0 ≤ x) (h : x < 2 ^ (8 * V)) (r : List UInt8) : numP V (byW V x ++ r) = some (x, r) := by
 rw [numP, tkP_app _ _ (by rw [byW_len]; rfl), Option.map_some, numL_byW hV h0 h]
theorem numP_w2 {x : Int} (h0 : 0 ≤ x) (h : x < 65536) (r : List UInt8) : numP 2 (byW 2 x ++ r) = some (x, r) := numP_byW (V := 2) (by decide) h0 (by show _ < (2 : Int) ^ 16; omega) r
theorem numP_w4 {x : Int} (h0 : 0 ≤ x) (h : x < 4294967296) (r : List UInt8) : numP 4 (byW 4 x ++ r) = some (x, r) := numP_byW (V := 4) (by decide) h0 (by show _ < (2 : Int) ^ 32; omega) r
theorem numP_w8 {x : Int} (h0 : 0 ≤ x) (h : x < 18446744073709551616) (r : List UInt8) : numP 8 (byW 8 x ++ r) = some (x, r) := numP_byW (V := 8) (by decide) h0 (by show _ < (2 : Int) ^ 64; omega) r
theorem numP_one (c : UInt8) (r : List UInt8) : numP 1 (c :: r) = some ((c.toNat : Int), r) := by
 have := tkP_app [c] r (n := ((1 : Nat) : Int)) rfl
 rw [numP, show c :: r = [c] ++ r from rfl, this, Option.map_some]
 have e : numL [c] = (c.toNat : Int) := by
   show stepN 0 c = _
   rw [stepN_eq (Int.le_refl _) (by decide)]; omega
 rw [e]
theorem u64_of {x : Int} (h0 : 0 ≤ x) (h : x < 18446744073709551616) : u64 x = x := by
 simp [u64, IntKind.wrap, IntKind.bits, IntKind.signed]; omega
def i64in (n : Int) : Prop := -9223372036854775808 ≤ n ∧ n ≤ 9223372036854775807
theorem i64_u64 {n : Int} (h : i64in n) : IntKind.i64.wrap (u64 n) = n := by
 unfold i64in at h
 simp [u64, IntKind.wrap, IntKind.bits, IntKind.signed]; omega
def OkV (kind : Int) (v : Val) : Prop := clean v = v ∧ v.k = kind ∧ i64in v.n ∧ v.s.size ≤ 1000
theorem valP_back {kind : Int} (hk : kind = 1 ∨ kind = 2) {v : Val} (hv : OkV kind v) (r : List UInt8) : valP kind (valB v ++ r) = some (v, r) := by
 obtain ⟨h1, h2, h3, h4⟩ := hv
 rcases hk with rfl | rfl
 · rw [valP, if_pos rfl, valB, if_pos h2]
   have := u64_pos v.n
   have := u64_lt v.n
   rw [numP_w8 (by omega) (by omega), Option.map_some, i64_u64 h3]
   rw [clean, if_pos h2] at h1
   congr 2
 · have hk1 : ¬ v.k = 1 := by omega
   rw [valP, if_neg (by decide), valB, if_neg hk1, List.append_assoc]
   have e : u64 (v.s.size : Int) = v.s.size := u64_of (by omega) (by omega)
   rw [e, numP_w2 (by omega) (by omega), Option.bind_some]
   show ((tkP (IntKind.i64.wrap (v.s.size : Int)) (byts v.s ++ r)).map fun q => (str (toB q.1), q.2)) = _
   rw [wrap_in (by omega), tkP_app _ _ (by rw [byts_len]), Option.map_some, toB_byts]
   rw [clean, if_neg hk1, if_pos h2] at h1
   congr 2
theorem plainB_snoc (l : List Val) (x : Val) : plainB (l ++ [x]) = plainB l ++ valB x := by simp [plainB]
theorem snoc_of {α : Type} {l : List α} {n : Nat} (h : l.length = n + 1) : ∃ l' x, l = l' ++ [x] ∧ l'.length = n := by
 have hne : l ≠ [] := by rintro rfl; cases h
 exact ⟨l.dropLast, l.getLast hne, (List.dropLast_concat_getLast hne).symm, by rw [List.length_dropLast]; omega⟩
theorem valsP_back {kind : Int} (hk : kind = 1 ∨ kind = 2) : ∀ {n : Nat} {l : List Val}, l.length = n → (∀ v ∈ l, OkV kind v) → ∀ r, valsP kind n (plainB l ++ r) = some (l, r)
 | 0, l, h, _, r => by
   rw [List.length_eq_zero_iff.1 h]; rfl
 | n + 1, l, h, hv, r => by
   obtain ⟨l', x, rfl, hl⟩ := snoc_of h
   rw [valsP, plainB_snoc, List.append_assoc, valsP_back hk hl (fun v hm => hv v (List.mem_append_left _ hm)), Option.bind_some]
   show ((valP kind (valB x ++ r)).map fun q => (l' ++ [q.1], q.2)) = _
   rw [valP_back hk (hv x (by simp)), Option.map_some]
def expG (d : List (Nat × Val)) : List Val := (d.map fun g => List.replicate g.1 g.2).flatten
theorem ahead_take (x : Val) : ∀ l : List Val, l.take (aheadN x l) = List.replicate (aheadN x l) x
 | [] => rfl
 | y :: l => by
   rw [aheadN]; split
   · rename_i h
     rw [List.take_succ_cons, List.replicate_succ, ahead_take x l, h]
   · rfl
theorem exp_groups : ∀ (n : Nat) (l : List Val), l.length ≤ n → expG (groups l) = l
 | _, [], _ => by rw [groups]; rfl
 | n + 1, x :: l, h => by
   have ih := exp_groups n (l.drop (aheadN x l)) (by rw [List.length_drop]; simp at h; omega)
   rw [groups_cons]
   show List.replicate (aheadN x l + 1) x ++ expG (groups (l.drop (aheadN x l))) = _
   rw [ih, List.replicate_succ, ← ahead_take x l, List.cons_append, List.take_append_drop]
theorem groups_in : ∀ (n : Nat) (l : List Val), l.length ≤ n → (∀ g ∈ groups l, g.2 ∈ l) ∧ (groups l).length ≤ l.length
 | _, [], _ => by rw [groups]; exact ⟨fun g h => (by cases h), Nat.le_refl _⟩
 | n + 1, x :: l, h => by
   obtain ⟨h1, h2⟩ := groups_in n (l.drop (aheadN x l)) (by rw [List.length_drop]; simp at h; omega)
   rw [groups_cons]
   refine ⟨fun g hg => ?_, ?_⟩
   · rcases List.mem_cons.1 hg with rfl | hg
     · exact List.mem_cons_self ..
     · exact List.mem_cons_of_mem _ (List.mem_of_mem_drop (h1 g hg))
   · rw [List.length_drop] at h2
     simp only [List.length_cons]; omega
theorem exp_snoc (d : List (Nat × Val)) (g : Nat × Val) : expG (d ++ [g]) = expG d ++ List.replicate g.1 g.2 := by simp [expG]
theorem runsP_back {kind m : Int} (hk : kind = 1 ∨ kind = 2) : ∀ {n : Nat} {d : List (Nat × Val)}, d.length = n → (∀ g ∈ d, OkV kind g.2) → ((expG d).length : Int) ≤ m → m ≤ 4096 → ∀ r, runsP kind m n (groupsB d ++ r) = some (expG d, r)
 | 0, d, h, _, _, _, r => by
   rw [List.length_eq_zero_iff.1 h]; rfl
 | n + 1, d, h, hv, hm, hm2, r => by
   obtain ⟨d', g, rfl, hl⟩ := snoc_of h
   rw [exp_snoc, List.length_append, List.length_replicate] at hm
   rw [runsP, groupsB_snoc, List.append_assoc, runsP_back hk hl (fun v hm => hv v (List.mem_append_left _ hm)) (by omega) hm2, Option.bind_some, runStep, groupB, List.append_assoc]
   have e : u64 (g.1 : Int) = g.1 := u64_of (by omega) (by omega)
   show ((numP 4 (byW 4 (u64 (g.1 : Int)) ++ (valB g.2 ++ r))).bind fun p => (valP kind p.2).bind fun q => if m - (expG d').length < p.1 then none else some (expG d' ++ List.replicate p.1.toNat q.1, q.2)) = _
   rw [e, numP_w4 (by omega) (by omega), Option.bind_some]
   show ((valP kind (valB g.2 ++ r)).bind fun q => if m - (expG d').length < (g.1 : Int) then none else some (expG d' ++ List.replicate (Int.toNat (g.1 : Int)) q.1, q.2)) = _
   rw [valP_back hk (hv g (by simp)), Option.bind_some, if_neg (by omega), exp_snoc, Int.toNat_natCast]
theorem runsQ_back {kind : Int} (hk : kind = 1 ∨ kind = 2) {l : List Val} (hl : l.length ≤ 4096) (hv : ∀ v ∈ l, OkV kind v) (r : List UInt8) : runsQ kind (l.length : Int) (runsB l ++ r) = some (l, r) := by
 obtain ⟨h1, h2⟩ := groups_in _ l (Nat.le_refl _)
 have h3 := exp_groups _ l (Nat.le_refl _)
 have e : u64 ((groups l).length : Int) = (groups l).length := u64_of (by omega) (by omega)
 rw [runsQ, runsB, List.append_assoc, e, numP_w4 (by omega) (by omega), Option.bind_some]
 show ((runsP kind l.length (Int.toNat ((groups l).length : Int)) (groupsB (groups l) ++ r)).bind fun y => if (y.1.length : Int) = l.length then some y else none) = _
 rw [Int.toNat_natCast, runsP_back hk rfl (fun g hg => hv _ (h1 g hg)) (by rw [h3]; omega) (by omega), Option.bind_some, h3, if_pos rfl]
theorem lenF_lt : ∀ {f n : Nat}, n < 2 ^ f → n < 2 ^ lenF f n
 | 0, n, h => h
 | f + 1, n, h => by
   rw [lenF]; split
   · rename_i e; rw [e]; decide
   · have := lenF_lt (f := f) (n := n / 2) (by rw [Nat.pow_succ] at h; omega)
     rw [Nat.pow_succ]; omega
theorem lenI_lt {x : Int} (h0 : 0 ≤ x) (h : x < 18446744073709551616) : x < 2 ^ (lenI x).toNat := by
 obtain ⟨n, rfl⟩ := Int.eq_ofNat_of_zero_le h0
 have := lenF_lt (f := 64) (n := n) (by show n < 18446744073709551616; omega)
 rw [lenI, Int.toNat_natCast, Int.toNat_natCast]
 exact_mod_cast this
theorem placeV_lt {x : Val} {u : List Val} (h : x ∈ u) : placeV x u < u.length := (List.getElem?_eq_some_iff.1 (placeV_ok h)).1
theorem bitsB_len {W : Int} (h0 : 0 ≤ W) (xs : List Int) : ((bitsB W xs).length : Int) = (xs.length * W + 7) / 8 := by
 rw [(bitsB_at h0 xs).2, Int.mul_comm]
theorem pickP_back {u l : List Val} {w : Int} (h0 : 0 ≤ w) (h64 : w ≤ 64) (hin : ∀ v ∈ l, v ∈ u) (hu : u.length ≤ 4096) (hw : u ≠ [] → w = lenI ((u.length : Int) - 1)) : ∀ j, j ≤ l.length → pickP u w (bitsB w (l.map fun v => u64 (placeV v u))) j = some (l.take j)
 | 0, _ => by rw [List.take_zero]; rfl
 | j + 1, hj => by
   have hx : l[j]? = some l[j] := List.getElem?_eq_getElem (by omega)
   obtain ⟨x, hxe⟩ : ∃ x, l[j] = x := ⟨_, rfl⟩
   rw [hxe] at hx
   have hxu := hin x (List.mem_of_getElem? hx)
   have hp := placeV_lt hxu
   have hne : u ≠ [] := by rintro rfl; cases hxu
   have e : u64 (placeV x u : Int) = placeV x u := u64_of (by omega) (by omega)
   have hl : u64 (placeV x u : Int) < 2 ^ w.toNat := by
     rw [e]
     have := lenI_lt (x := (u.length : Int) - 1) (by omega) (by omega)
     rw [← hw hne] at this
     omega
   have := bits_back h0 h64 (l.map fun v => u64 (placeV v u)) (fun z hz => by obtain ⟨v, _, rfl⟩ := List.mem_map.1 hz; exact u64_pos _) (i := j) (x := u64 (placeV x u)) (by rw [List.getElem?_map, hx]; rfl) hl
   rw [pickP, pickP_back h0 h64 hin hu hw j (by omega), Option.bind_some, this, e, Int.toNat_natCast, placeV_ok hxu, Option.map_some, List.take_add_one, hx]; rfl
theorem wordsP_back {kind : Int} (hk : kind = 1 ∨ kind = 2) {l : List Val} (hl : l.length ≤ 4096) (hv : ∀ v ∈ l, OkV kind v) (r : List UInt8) : wordsP kind (l.length : Int) (wordsB l ++ r) = some (l, r) := by
 obtain ⟨h1, h2, h3⟩ := words_ok (l := l) (fun v h => (hv v h).1)
 have h4 := words_len l
 obtain ⟨hw0, hw1⟩ := wordsW_le (words l)
 have e : u64 ((words l).length : Int) = (words l).length := u64_of (by omega) (by omega)
 rw [wordsP, wordsB, List.append_assoc, List.append_assoc, e, numP_w2 (by omega) (by omega), Option.bind_some]
 show ((valsP kind (Int.toNat ((words l).length : Int)) (plainB (words l) ++ (bitsB (wordsW (words l)) (l.map fun v => u64 (placeV v (words l))) ++ r))).bind fun q => (tkP (((l.length : Int) * wordsW q.1 + 7) / 8) q.2).bind fun y => (pickP q.1 (wordsW q.1) y.1 (l.length : Int).toNat).map fun l => (l, y.2)) = _
 rw [Int.toNat_natCast, valsP_back hk rfl (fun v h => hv v ((h2 v).1 h)), Option.bind_some]
 show ((tkP (((l.length : Int) * wordsW (words l) + 7) / 8) (bitsB (wordsW (words l)) (l.map fun v => u64 (placeV v (words l))) ++ r)).bind fun y => (pickP (words l) (wordsW (words l)) y.1 (l.length : Int).toNat).map fun l => (l, y.2)) = _
 rw [tkP_app _ _ (by rw [bitsB_len hw0, List.length_map]), Option.bind_some, Int.toNat_natCast, pickP_back hw0 hw1 (fun v h => (h2 v).2 h) (by omega) (fun hne => by rw [wordsW, if_neg hne]) _ (Nat.le_refl _), Option.map_some, List.take_length]
theorem foldl_min_le : ∀ (l : List Val) (a : Int), l.foldl (fun a v => min a v.n) a ≤ a ∧ ∀ x ∈ l, l.foldl (fun a v => min a v.n) a ≤ x.n
 | [], a => ⟨Int.le_refl _, fun x h => (by cases h)⟩
 | y :: l, a => by
   obtain ⟨h1, h2⟩ := foldl_min_le l (min a y.n)
   refine ⟨Int.le_trans h1 (by omega), fun x hx => ?_⟩
   rcases List.mem_cons.1 hx with rfl | hx
   · exact Int.le_trans h1 (by omega)
   · exact h2 x hx
theorem foldl_max_le : ∀ (l : List Val) (a : Int), a ≤ l.foldl (fun a v => max a v.n) a ∧ ∀ x ∈ l, x.n ≤ l.foldl (fun a v => max a v.n) a
 | [], a => ⟨Int.le_refl _, fun x h => (by cases h)⟩
 | y :: l, a => by
   obtain ⟨h1, h2⟩ := foldl_max_le l (max a y.n)
   refine ⟨Int.le_trans (by omega) h1, fun x hx => ?_⟩
   rcases List.mem_cons.1 hx with rfl | hx
   · exact Int.le_trans (by omega) h1
   · exact h2 x hx
theorem foldl_min_in {P : Int → Prop} : ∀ (l : List Val) (a : Int), P a → (∀ x ∈ l, P x.n) → P (l.foldl (fun a v => min a v.n) a)
 | [], a, h, _ => h
 | y :: l, a, h, hl => foldl_min_in l _ (by show P (min a y.n); rw [Int.min_def]; split; exact h; exact hl y (by simp)) fun x hx => hl x (by simp [hx])
theorem foldl_max_in {P : Int → Prop} : ∀ (l : List Val) (a : Int), P a → (∀ x ∈ l, P x.n) → P (l.foldl (fun a v => max a v.n) a)
 | [], a, h, _ => h
 | y :: l, a, h, hl => foldl_max_in l _ (by show P (max a y.n); rw [Int.max_def]; split; exact hl y (by simp); exact h) fun x hx => hl x (by simp [hx])
theorem low_high {l : List Val} {x : Val} (hx : x ∈ l) : lowV l ≤ x.n ∧ x.n ≤ highV l := by
 cases l with
 | nil => cases hx
 | cons y l =>
   rcases List.mem_cons.1 hx with rfl | hx
   · exact ⟨(foldl_min_le l _).1, (foldl_max_le l _).1⟩
   · exact ⟨(foldl_min_le l _).2 x hx, (foldl_max_le l _).2 x hx⟩
theorem low_in {l : List Val} (h : ∀ x ∈ l, i64in x.n) : i64in (lowV l) ∧ i64in (highV l) := by
 cases l with
 | nil => exact ⟨⟨by decide, by decide⟩, ⟨by decide, by decide⟩⟩
 | cons y l => exact ⟨foldl_min_in l _ (h y (by simp)) fun x hx => h x (by simp [hx]), foldl_max_in l _ (h y (by simp)) fun x hx => h x (by simp [hx])⟩
theorem u64_diff {a b : Int} (ha : i64in a) (hb : i64in b) (h : a ≤ b) : u64 (u64 b - u64 a) = b - a := by
 unfold i64in at ha hb
 simp [u64, IntKind.wrap, IntKind.bits, IntKind.signed]; omega
theorem offsP_back {l : List Val} (hl : l.length ≤ 4096) (hv : ∀ v ∈ l, OkV 1 v) (r : List UInt8) : offsP (l.length : Int) (offsB l ++ r) = some (l, r) := by
 obtain ⟨hlo, hhi⟩ := low_in (l := l) fun x hx => (hv x hx).2.2.1
 have hp := u64_pos (lowV l)
 have hp2 := u64_lt (lowV l)
 obtain ⟨hw0, hw1⟩ := lenI_le (u64 (u64 (highV l) - u64 (lowV l)))
 rw [← offW] at hw0 hw1
 have hc : ((UInt8.ofNat (offW l).toNat).toNat : Int) = offW l := by
   rw [UInt8.toNat_ofNat']
   show (((offW l).toNat % 256 : Nat) : Int) = _
   omega
 rw [offsP, offsB, List.append_assoc, List.append_assoc, numP_w8 hp hp2, Option.bind_some]
 show ((numP 1 (UInt8.ofNat (offW l).toNat :: (bitsB (offW l) (l.map (offN l)) ++ r))).bind fun q => if 64 < IntKind.i64.wrap q.1 then none else (tkP (((l.length : Int) * IntKind.i64.wrap q.1 + 7) / 8) q.2).map fun y => ((List.range (l.length : Int).toNat).map (offV (u64 (lowV l)) (IntKind.i64.wrap q.1) y.1), y.2)) = _
 rw [numP_one, Option.bind_some, hc]
 show (if 64 < IntKind.i64.wrap (offW l) then none else (tkP (((l.length : Int) * IntKind.i64.wrap (offW l) + 7) / 8) (bitsB (offW l) (l.map (offN l)) ++ r)).map fun y => ((List.range (l.length : Int).toNat).map (offV (u64 (lowV l)) (IntKind.i64.wrap (offW l)) y.1), y.2)) = _
 rw [wrap_in (by omega), if_neg (by omega), tkP_app _ _ (by rw [bitsB_len hw0, List.length_map]), Option.map_some, Int.toNat_natCast]
 congr 2
 apply List.ext_getElem?
 intro i
 rw [List.getElem?_map]
 rcases Nat.lt_or_ge i l.length with hi | hi
 · have hx : l[i]? = some l[i] := List.getElem?_eq_getElem hi
   obtain ⟨x, hxe⟩ : ∃ x, l[i] = x := ⟨_, rfl⟩
   rw [hxe] at hx
   have hxm := List.mem_of_getElem? hx
   have hlh := low_high hxm
   obtain ⟨k1, k2, k3, k4⟩ := hv x hxm
   have e1 : offN l x = x.n - lowV l := u64_diff hlo k3 hlh.1
   have e2 : u64 (u64 (highV l) - u64 (lowV l)) = highV l - lowV l := u64_diff hlo hhi (by omega)
   unfold i64in at hlo hhi k3
   have hlt : offN l x < 2 ^ (offW l).toNat := by
     have := lenI_lt (x := highV l - lowV l) (by omega) (by omega)
     rw [e1, offW, e2]; omega
   have := bits_back hw0 hw1 (l.map (offN l)) (fun z hz => by obtain ⟨v, _, rfl⟩ := List.mem_map.1 hz; exact u64_pos _) (i := i) (x := offN l x) (by rw [List.getElem?_map, hx]; rfl) hlt
   rw [List.getElem?_range hi, hx, Option.map_some, offV, this, e1]
   have e3 : IntKind.i64.wrap (IntKind.u64.wrap (u64 (lowV l) + (x.n - lowV l))) = x.n := by
     simp [u64, IntKind.wrap, IntKind.bits, IntKind.signed]; omega
   rw [e3]
   rw [clean, if_pos k2] at k1
   exact congrArg some k1
 · rw [List.getElem?_eq_none (by rw [List.length_range]; exact hi), List.getElem?_eq_none hi]; rfl
theorem standP_back {k kind : Int} (hk : kind = 1 ∨ kind = 2) (hs : 1 ≤ k ∧ k ≤ 4) (h4 : k = 4 → kind = 1) {l : List Val} (hl : l.length ≤ 4096) (hv : ∀ v ∈ l, OkV kind v) : standP k kind (l.length : Int) (schemeB k l) = some (l, []) := by
 have hr : ∀ b : List UInt8, b = b ++ [] := fun b => (List.append_nil b).symm
 unfold standP schemeB
 by_cases h1 : k = 1
 · rw [if_pos h1, if_pos h1, Int.toNat_natCast, hr (plainB l)]; exact valsP_back hk rfl hv []
 · rw [if_neg h1, if_neg h1]
   by_cases h2 : k = 2
   · rw [if_pos h2, if_pos h2, hr (runsB l)]; exact runsQ_back hk hl hv []
   · rw [if_neg h2, if_neg h2]
     by_cases h3 : k = 3
     · rw [if_pos h3, if_pos h3, hr (wordsB l)]; exact wordsP_back hk hl hv []
     · rw [if_neg h3, if_neg h3, hr (offsB l)]
       have : kind = 1 := h4 (by omega)
       subst this
       exact offsP_back hl hv []
end Go.Proofs.Ytcajncmjlmpkgaa

namespace Go.Proofs.Ytcajncmjlmpkgaa
open Go Go.RowKit
set_option maxRecDepth 100000
set_option linter.unusedSimpArgs false
set_option linter.unusedVariables false
def bytesV (k : Int) (v : Vec) : List UInt8 := headB k v ++ schemeB k (stand (valuesM v))
def CanW (k : Int) (v : Vec) : Prop := goodV v = true ∧ (1 ≤ k ∧ k ≤ 4) ∧ (k = 4 → v.kind = 1) ∧ v.null.length ≤ 4096
theorem refuse_iff {k : Int} {v : Vec} : refuseW k v = false ↔ CanW k v := by
 unfold refuseW badW CanW
 constructor
 · intro h
   simp only [Bool.or_eq_false_iff, Bool.not_eq_false', decide_eq_false_iff_not, Bool.and_eq_false_iff] at h
   obtain ⟨⟨⟨⟨h1, h2⟩, h3⟩, h4⟩, h5⟩ := h
   refine ⟨h1, ⟨by omega, by omega⟩, fun e => ?_, by omega⟩
   rcases h4 with h4 | h4
   · exact absurd e h4
   · exact (good_kindW h1).resolve_right h4
 · rintro ⟨h1, h2, h3, h4⟩
   simp only [Bool.or_eq_false_iff, Bool.not_eq_false', decide_eq_false_iff_not, Bool.and_eq_false_iff]
   refine ⟨⟨⟨⟨h1, by omega⟩, by omega⟩, ?_⟩, by omega⟩
   by_cases e : k = 4
   · right; have := h3 e; omega
   · exact .inl e
theorem outW_can {k : Int} {v : Vec} (h : CanW k v) : outW k v = toB (bytesV k v) ∧ outE k v = 0 := by
 have := refuse_iff.2 h
 refine ⟨?_, ?_⟩
 · rw [outW, if_neg (by rw [this]; decide), bytesV]
 · rw [outE, if_neg (by rw [this]; decide)]
theorem byO_n {k : Int} (h : 0 ≤ k ∧ k < 256) : ((byO k).toNat : Int) = k := by
 have e : IntKind.u8.wrap k = k := by simp [IntKind.wrap, IntKind.bits, IntKind.signed]; omega
 rw [byO, e, UInt8.toNat_ofNat']
 omega
theorem values_null {v : Vec} {x : Val} (h : x ∈ valuesM v) (h0 : x.k = 0) : x = Val.zero := by
 unfold valuesM at h
 split at h
 · obtain ⟨i, hi, rfl⟩ := List.mem_map.1 h
   rw [atV] at h0 ⊢
   split
   · rfl
   · rename_i hb
     rw [if_neg hb] at h0
     split at h0
     · exact absurd h0 (by show ¬ (1 : Int) = 0; decide)
     · exact absurd h0 (by show ¬ (2 : Int) = 0; decide)
 · cases h
theorem values_kind {v : Vec} (hn : ∀ n ∈ v.ns, i64in n) {x : Val} (h : x ∈ valuesM v) (h0 : x.k ≠ 0) : x.k = v.kind ∧ i64in x.n := by
 unfold valuesM at h
 split at h
 · rename_i hg
   obtain ⟨i, hi, rfl⟩ := List.mem_map.1 h
   rw [atV] at h0 ⊢
   split
   · rename_i hb
     rw [if_pos hb] at h0
     exact absurd rfl h0
   · split
     · rename_i h1
       refine ⟨h1.symm, ?_⟩
       show i64in ((v.ns[i]?).getD 0)
       cases e : v.ns[i]? with
       | none => exact ⟨by decide, by decide⟩
       | some z => exact hn z (List.mem_of_getElem? e)
     · rename_i h1
       refine ⟨((good_kindW hg).resolve_left h1).symm, ?_⟩
       show i64in 0
       exact ⟨by decide, by decide⟩
 · cases h
theorem values_length {v : Vec} (hg : goodV v = true) : (valuesM v).length = v.null.length := by
 rw [valuesM, if_pos hg, List.length_map, List.length_range]
theorem stand_okv {v : Vec} (hn : ∀ n ∈ v.ns, i64in n) : ∀ x ∈ stand (valuesM v), OkV v.kind x := by
 intro x hx
 have hm := stand_mem hx
 have h0 : x.k ≠ 0 := by simpa using (List.mem_filter.1 hx).2
 obtain ⟨h1, h2⟩ := values_ok hm
 obtain ⟨h3, h4⟩ := values_kind hn hm h0
 exact ⟨h1, h3, h4, h2⟩
theorem fill_stand : ∀ P : List Val, (∀ x ∈ P, clean x = x ∧ (x.k = 0 → x = Val.zero)) → fillP (nullsOf P) (stand P) = P ∧ cntF (nullsOf P) = (stand P).length
 | [], _ => ⟨rfl, rfl⟩
 | x :: P, h => by
   obtain ⟨h1, h2⟩ := fill_stand P fun y hy => h y (by simp [hy])
   obtain ⟨h3, h4⟩ := h x (by simp)
   have e : nullsOf (x :: P) = decide (x.k = 0) :: nullsOf P := by rw [nullsOf, List.map_cons, h3]; rfl
   by_cases h0 : x.k = 0
   · have e2 : stand (x :: P) = stand P := by rw [stand, List.filter_cons, h0]; rfl
     rw [e, e2, decide_eq_true h0]
     refine ⟨?_, ?_⟩
     · rw [fillP, if_pos rfl, h1, h4 h0]
     · rw [← h2]; rfl
   · have e2 : stand (x :: P) = x :: stand P := by rw [stand, List.filter_cons, decide_eq_false h0]; rfl
     rw [e, e2, decide_eq_false h0]
     refine ⟨?_, ?_⟩
     · rw [fillP, if_neg (by decide), List.headD_cons, List.tail_cons, h1]
     · rw [List.length_cons, ← h2]; rfl
theorem nulls_none {P : List Val} (hc : ∀ x ∈ P, clean x = x) (h : (stand P).length = P.length) : nullsOf P = List.replicate P.length false := by
 have h1 : ∀ x ∈ P, (!decide (x.k = 0)) = true := by
   rw [stand] at h
   exact List.length_filter_eq_length_iff.1 h
 rw [List.eq_replicate_iff]
 refine ⟨by rw [nullsOf, List.length_map], fun b hb => ?_⟩
 obtain ⟨x, hx, rfl⟩ := List.mem_map.1 hb
 have h2 := h1 x hx
 have h3 := hc x hx
 show decide ((clean x).k = 0) = false
 rw [h3]
 simpa using h2
theorem nullsP_back {v : Vec} (hg : goodV v = true) (h : v.null.length ≤ 4096) (r : List UInt8) : nullsP ((valuesM v).length : Int) (markB v ++ r) = some (v.null, r) := by
 have hp := (good_parts hg).1
 have hl := values_length hg
 rw [nullsP, markB]
 by_cases hs : (stand (valuesM v)).length = (valuesM v).length
 · rw [if_pos hs]
   show ((numP 1 (0 :: r)).bind _) = _
   rw [numP_one, Option.bind_some]
   show (if ((0 : Nat) : Int) = 1 then _ else some (List.replicate (Int.toNat _) false, r)) = _
   rw [if_neg (by decide), Int.toNat_natCast, ← nulls_none (fun x hx => (values_ok hx).1) hs, hp]
 · rw [if_neg hs]
   show ((numP 1 (1 :: (bitsB 1 (v.null.map fun b => if b then 1 else 0) ++ r))).bind _) = _
   rw [numP_one, Option.bind_some]
   show (if ((1 : Nat) : Int) = 1 then (tkP _ (bitsB 1 (v.null.map fun b => if b then 1 else 0) ++ r)).map _ else _) = _
   rw [if_pos (show ((1 : Nat) : Int) = 1 from rfl), hl, tkP_app _ _ (by rw [bitsB_len (by decide), List.length_map]), Option.map_some, Int.toNat_natCast]
   congr 2
   apply List.ext_getElem?
   intro i
   rw [List.getElem?_map]
   rcases Nat.lt_or_ge i v.null.length with hi | hi
   · have hx : v.null[i]? = some v.null[i] := List.getElem?_eq_getElem hi
     obtain ⟨b, hb⟩ : ∃ b, v.null[i] = b := ⟨_, rfl⟩
     rw [hb] at hx
     rw [List.getElem?_range hi, hx, Option.map_some, nullB]
     have := bits_back (W := 1) (by decide) (by decide) (v.null.map fun b => if b then 1 else 0) (fun z hz => by obtain ⟨c, _, rfl⟩ := List.mem_map.1 hz; cases c <;> decide) (i := i) (x := if b then 1 else 0) (by rw [List.getElem?_map, hx]; rfl) (by cases b <;> decide)
     rw [show (1 : Int) * (i : Int) = (i : Int) by omega] at this
     show some (decide (wordN _ (i : Int) (Int.toNat 1) = 1)) = _
     rw [this]
     cases b <;> rfl
   · rw [List.getElem?_eq_none (by rw [List.length_range]; exact hi), List.getElem?_eq_none hi]; rfl
theorem readP_back {k : Int} {v : Vec} (h : CanW k v) (hn : ∀ n ∈ v.ns, i64in n) : readP (bytesV k v) = some (k, v.kind, valuesM v) := by
 obtain ⟨hg, hk, h4, hl⟩ := h
 have hkd := good_kindW hg
 have hvl := values_length hg
 have e : u64 ((valuesM v).length : Int) = (valuesM v).length := u64_of (by omega) (by omega)
 obtain ⟨f1, f2⟩ := fill_stand (valuesM v) fun x hx => ⟨(values_ok hx).1, values_null hx⟩
 rw [(good_parts hg).1] at f1 f2
 rw [bytesV, headB, readP, e, List.append_assoc, List.append_assoc]
 show ((numP 1 (byO k :: byO v.kind :: (byW 4 ((valuesM v).length : Int) ++ (markB v ++ schemeB k (stand (valuesM v)))))).bind _) = _
 rw [numP_one, byO_n (by omega), Option.bind_some]
 show ((numP 1 (byO v.kind :: (byW 4 ((valuesM v).length : Int) ++ (markB v ++ schemeB k (stand (valuesM v)))))).bind _) = _
 rw [numP_one, byO_n (by omega), Option.bind_some]
 show ((numP 4 (byW 4 ((valuesM v).length : Int) ++ (markB v ++ schemeB k (stand (valuesM v))))).bind _) = _
 rw [numP_w4 (by omega) (by omega), Option.bind_some]
 show (if (k < 1 ∨ 4 < k) ∨ (v.kind ≠ 1 ∧ v.kind ≠ 2) ∨ 4096 < ((valuesM v).length : Int) then none else
     (nullsP ((valuesM v).length : Int) (markB v ++ schemeB k (stand (valuesM v)))).bind fun b => (standP k v.kind (cntF b.1) b.2).map fun l => (k, v.kind, fillP b.1 l.1)) = _
 rw [if_neg (by omega), nullsP_back hg hl, Option.bind_some]
 show (standP k v.kind (cntF v.null) (schemeB k (stand (valuesM v)))).map _ = _
 have hsl : (stand (valuesM v)).length ≤ 4096 := Nat.le_trans (List.length_filter_le _ _) (by omega)
 rw [f2, standP_back hkd hk h4 hsl (stand_okv hn), Option.map_some]
 show some (k, v.kind, fillP v.null (stand (valuesM v))) = _
 rw [f1]
theorem vfrom_back {v : Vec} (hg : goodV v = true) : vfrom v.kind (valuesM v) = (v, 0) := by
 obtain ⟨a1, a2, a3, a4, a5⟩ := good_parts hg
 unfold vfrom
 rw [if_neg (by have := good_kindW hg; omega), if_neg (by rw [a4]; decide), if_neg (by rw [a5]; decide), a1, a2, a3]
theorem read_back {k : Int} {v : Vec} (h : CanW k v) (hn : ∀ n ∈ v.ns, i64in n) : readV (bytesV k v) = (v, 0) := by
 rw [readV, readP_back h hn]
 show (if (vfrom v.kind (valuesM v)).2 = 0 ∧ outE k (vfrom v.kind (valuesM v)).1 = 0 ∧ outW k (vfrom v.kind (valuesM v)).1 = toB (bytesV k v) then ((vfrom v.kind (valuesM v)).1, (0 : Int)) else (Vec.zero, 2)) = _
 rw [vfrom_back h.1]
 obtain ⟨h1, h2⟩ := outW_can h
 rw [if_pos ⟨rfl, h2, h1⟩]
theorem scheme_len {k : Int} {l : List Val} (hf : Few l) (hc : Clean l) : (schemeB k l).length ≤ 20000000 := by
 obtain ⟨hl, hv⟩ := hf
 obtain ⟨w1, w2, w3⟩ := words_ok hc
 have w4 := words_len l
 unfold schemeB
 split
 · have := plainB_len hv; omega
 · split
   · obtain ⟨g1, g2⟩ := groups_in l.length l (Nat.le_refl _)
     have := groupsB_len (d := groups l) fun g hg => hv _ (g1 g hg)
     rw [runsB, List.length_append, byW_len]
     omega
   · split
     · have := plainB_len (l := words l) fun v h => hv v ((w2 v).1 h)
       have := bits_le (wordsW_le (words l)) (xs := l.map fun v => u64 (placeV v (words l))) (by rw [List.length_map]; exact hl)
       rw [wordsB, List.length_append, List.length_append, byW_len]
       omega
     · have := bits_le (w := offW l) (lenI_le _) (xs := l.map (offN l)) (by rw [List.length_map]; exact hl)
       rw [offsB, List.length_append, List.length_append, byW_len]
       simp only [List.length_cons, List.length_nil]
       omega
theorem bytesV_len {k : Int} {v : Vec} (h : CanW k v) : (bytesV k v).length ≤ 30000000 := by
 obtain ⟨hg, hk, h4, hl⟩ := h
 have h1 := scheme_len (k := k) (stand_few hl) (stand_clean v)
 have h2 : (markB v).length ≤ 60000 := by
   unfold markB
   split
   · simp
   · have := bits_le (w := 1) ⟨by decide, by decide⟩ (xs := v.null.map fun b => if b then 1 else 0) (by rw [List.length_map]; exact hl)
     rw [List.length_append]
     simp only [List.length_cons, List.length_nil]
     omega
 rw [bytesV, headB, List.length_append, List.length_append, List.length_append, byW_len]
 simp only [List.length_cons, List.length_nil]
 omega
end Go.Proofs.Ytcajncmjlmpkgaa

namespace Go.Proofs.Ytcajncmjlmpkgaa
open Go Go.RowKit
set_option maxRecDepth 100000
set_option linter.unusedSimpArgs false
set_option linter.unusedVariables false
theorem outE_zero : outE 1 Vec.zero = 1 := by
 have h : badW 1 Vec.zero = true := rfl
 rw [outE, if_pos (by rw [refuseW, h]; rfl), errW, if_pos h]
theorem can_iff {k : Int} {V : Vec} : outE k V = 0 ↔ CanW k V := by
 constructor
 · intro h
   refine refuse_iff.1 ?_
   cases hr : refuseW k V with
   | false => rfl
   | true =>
     rw [outE, if_pos hr, errW] at h
     split at h <;> cases h
 · intro h; exact (outW_can h).2
theorem can1 {V : Vec} (hg : goodV V = true) (hl : V.null.length ≤ 4096) : CanW 1 V := ⟨hg, ⟨by decide, by decide⟩, fun h => (by cases h), hl⟩
theorem can_not {k : Int} {V : Vec} (h1 : CanW 1 V) (hk : 1 ≤ k ∧ k ≤ 4) (h : ¬ CanW k V) : k = 4 ∧ V.kind = 2 := by
 obtain ⟨hg, _, _, hl⟩ := h1
 by_cases e : k = 4
 · refine ⟨e, ?_⟩
   rcases good_kindW hg with h2 | h2
   · exact absurd ⟨hg, hk, fun _ => h2, hl⟩ h
   · exact h2
 · exact absurd ⟨hg, hk, fun h => absurd h e, hl⟩ h
theorem outE_big {V : Vec} (hg : goodV V = true) (hl : 4096 < V.null.length) : outE 1 V = 3 := by
 have h : badW 1 V = false := by rw [badW, hg]; rfl
 rw [outE, if_pos (by rw [refuseW, h, decide_eq_true hl]; rfl), errW, if_neg (by rw [h]; decide)]
theorem best_is {V : Vec} (h : CanW 1 V) : ∀ n, ∃ k, CanW k V ∧ bestW V n = toB (bytesV k V)
 | 0 => ⟨1, h, (outW_can h).1⟩
 | n + 1 => by
   rw [bestW, takeW]
   split
   · rename_i hc
     have := can_iff.1 hc.1
     exact ⟨_, this, (outW_can this).1⟩
   · exact best_is h n
theorem best_least {V : Vec} {k : Int} (hk : CanW k V) : ∀ n : Nat, k ≤ n + 1 → (bestW V n).size ≤ (outW k V).size
 | 0, h => by
   have e : k = 1 := by have := hk.2.1; omega
   subst e; exact Nat.le_refl _
 | n + 1, h => by
   rw [bestW, takeW]
   by_cases e : k = ((n : Int) + 2)
   · subst e
     split
     · exact Nat.le_refl _
     · rename_i hc
       have := can_iff.2 hk
       have h2 : ¬ (outW ((n : Int) + 2) V).size < (bestW V n).size := fun hh => hc ⟨this, hh⟩
       omega
   · have ih := best_least hk n (by omega)
     split
     · rename_i hc; omega
     · exact ih
theorem pack_best {V : Vec} (h : CanW 1 V) : ∃ k, CanW k V ∧ packOut V = toB (bytesV k V) := by
 rw [packOut, if_pos (can_iff.2 h)]; exact best_is h 3
theorem pack_least {V : Vec} (h : CanW 1 V) {k : Int} (hk : CanW k V) : (packOut V).size ≤ (outW k V).size := by
 rw [packOut, if_pos (can_iff.2 h)]; exact best_least hk 3 (by have := hk.2.1; omega)
theorem vfrom_bad {k : Int} {l : List Val} (h : (vfrom k l).2 ≠ 0) : (vfrom k l).1 = Vec.zero := by
 unfold vfrom at h ⊢
 split
 · rfl
 · split
   · rfl
   · split
     · rfl
     · rename_i h1 h2 h3
       rw [if_neg h1, if_neg h2, if_neg h3] at h
       exact absurd rfl h
theorem allUp_all {f : Nat → Bool} : ∀ {n : Nat}, (∀ i, i < n → f i = true) → allUp f n = true
 | 0, _ => rfl
 | n + 1, h => by rw [allUp, allUp_all fun i hi => h i (by omega), h n (by omega)]; rfl
theorem clean_zero {v : Val} (h : (clean v).k = 0) : clean v = Val.zero := by
 unfold clean at h ⊢
 split
 · rename_i h1; rw [if_pos h1] at h; cases h
 · rename_i h1
   rw [if_neg h1] at h
   split
   · rename_i h2; rw [if_pos h2] at h; cases h
   · rfl
theorem clean_n (v : Val) : (clean v).n = v.n ∨ (clean v).n = 0 := by
 unfold clean
 split
 · exact .inl rfl
 · split
   · exact .inr rfl
   · exact .inr rfl
theorem vfrom_ok {k : Int} {l : List Val} (h : (vfrom k l).2 = 0) :
   goodV (vfrom k l).1 = true ∧ (vfrom k l).1.null.length = l.length ∧ ((∀ v ∈ l, i64in v.n) → ∀ n ∈ (vfrom k l).1.ns, i64in n) := by
 unfold vfrom at h ⊢
 by_cases h1 : k ≠ 1 ∧ k ≠ 2
 · rw [if_pos h1] at h; cases h
 · rw [if_neg h1] at h ⊢
   by_cases h2 : kinds k l = false
   · rw [if_pos h2] at h; cases h
   · rw [if_neg h2] at h ⊢
     by_cases h3 : bigs l = true
     · rw [if_pos h3] at h; cases h
     · rw [if_neg h3]
       have hkd : k = 1 ∨ k = 2 := by omega
       refine ⟨?_, by show (nullsOf l).length = _; rw [nullsOf, List.length_map], ?_⟩
       · rcases hkd with rfl | rfl
         · rw [goodV, if_pos rfl]
           simp only [numsOf, textsOf, if_true, nullsOf, List.length_map, Bool.and_eq_true, decide_eq_true_eq]
           refine ⟨⟨by trivial, by trivial⟩, allUp_all fun i hi => ?_⟩
           rw [okN]
           rw [List.getElem?_map, List.getElem?_map]
           have hx := List.getElem?_eq_getElem hi
           obtain ⟨x, hxe⟩ : ∃ x, l[i] = x := ⟨_, rfl⟩
           rw [hx, hxe, Option.map_some, Option.map_some, Option.getD_some, Option.getD_some]
           by_cases h0 : (clean x).k = 0
           · rw [clean_zero h0]; rfl
           · rw [decide_eq_false h0]; rfl
         · rw [goodV, if_neg (show ¬ (2 : Int) = 1 by decide), if_pos rfl]
           simp only [numsOf, textsOf, if_neg (show ¬ (2 : Int) = 1 by decide), nullsOf, List.length_map, Bool.and_eq_true, decide_eq_true_eq]
           refine ⟨⟨by trivial, by trivial⟩, allUp_all fun i hi => ?_⟩
           rw [okS]
           rw [List.getElem?_map, List.getElem?_map]
           have hx := List.getElem?_eq_getElem hi
           have hm := List.getElem_mem hi
           obtain ⟨x, hxe⟩ : ∃ x, l[i] = x := ⟨_, rfl⟩
           rw [hxe] at hm
           rw [hx, hxe, Option.map_some, Option.map_some, Option.getD_some, Option.getD_some]
           have hb : ¬ (1000 : Int) < ((clean x).s.size : Int) := by
             have h4 : bigs l = false := by simpa using h3
             rw [bigs, List.any_eq_false] at h4
             have := h4 x hm
             simpa using this
           rw [decide_eq_false hb]
           by_cases h0 : (clean x).k = 0
           · rw [clean_zero h0]; rfl
           · rw [decide_eq_false h0]; rfl
       · intro hv n hn
         have hn : n ∈ numsOf k l := hn
         unfold numsOf at hn
         split at hn
         · obtain ⟨v, hv1, rfl⟩ := List.mem_map.1 hn
           rcases clean_n v with e | e
           · rw [e]; exact hv v hv1
           · rw [e]; exact ⟨by decide, by decide⟩
         · cases hn
theorem bytesV_head (k : Int) (V : Vec) (h : CanW k V) : (((bytesV k V).headD 0).toNat : Int) = k := by
 have : (bytesV k V).headD 0 = byO k := rfl
 rw [this, byO_n (by have := h.2.1; omega)]
theorem nullsP_length {n : Int} {r r' : List UInt8} {B : List Bool} (h : nullsP n r = some (B, r')) : B.length = n.toNat := by
 rw [nullsP, Option.bind_eq_some_iff] at h
 obtain ⟨p, _, h⟩ := h
 split at h
 · rw [Option.map_eq_some_iff] at h
   obtain ⟨y, _, h⟩ := h
   simp only [Prod.mk.injEq] at h
   rw [← h.1, List.length_map, List.length_range]
 · simp only [Option.some.injEq, Prod.mk.injEq] at h
   rw [← h.1, List.length_replicate]
theorem readP_few {s : List UInt8} {k kind : Int} {all : List Val} (h : readP s = some (k, kind, all)) : all.length ≤ 4096 := by
 rw [readP, Option.bind_eq_some_iff] at h
 obtain ⟨p, _, h⟩ := h
 rw [Option.bind_eq_some_iff] at h
 obtain ⟨q, _, h⟩ := h
 rw [Option.bind_eq_some_iff] at h
 obtain ⟨n, hn, h⟩ := h
 split at h
 · cases h
 · rename_i hc
   rw [Option.bind_eq_some_iff] at h
   obtain ⟨b, hb, h⟩ := h
   rw [Option.map_eq_some_iff] at h
   obtain ⟨y, _, h⟩ := h
   simp only [Prod.mk.injEq] at h
   obtain ⟨_, _, rfl⟩ := h
   have := nullsP_length (B := b.1) (r' := b.2) hb
   rw [fillP_len, this]
   omega
theorem vfrom_len (k : Int) (l : List Val) : (vfrom k l).1.null.length ≤ l.length := by
 unfold vfrom
 split
 · exact Nat.zero_le _
 · split
   · exact Nat.zero_le _
   · split
     · exact Nat.zero_le _
     · show (nullsOf l).length ≤ _
       rw [nullsOf, List.length_map]; exact Nat.le_refl _
theorem readV_few (s : List UInt8) : (readV s).1.null.length ≤ 4096 := by
 unfold readV
 split
 · rename_i k kind all h
   split
   · exact Nat.le_trans (vfrom_len _ _) (readP_few h)
   · exact Nat.zero_le _
 · exact Nat.zero_le _
theorem readV_pos {s : List UInt8} (h : (readV s).2 = 0) : s ≠ [] := by
 rintro rfl
 have : readP [] = none := rfl
 rw [readV, this] at h
 cases h
end Go.Proofs.Ytcajncmjlmpkgaa

namespace Go.Proofs.Ytcajncmjlmpkgaa
open Go Go.RowKit
set_option maxRecDepth 100000
set_option linter.unusedSimpArgs false
set_option linter.unusedVariables false
def schemeR (s : List UInt8) : Int := if (readV s).2 = 0 then ((s.headD 0).toNat : Int) else 0
theorem headB_get {s : List UInt8} (h : s ≠ []) {b : UInt8} (hb : (toB s)[(0 : Int).toNat]? = some b) : s.headD 0 = b := by
 cases s with
 | nil => exact absurd rfl h
 | cons x s =>
   have h1 : (toB (x :: s))[(0 : Int).toNat]? = some x := rfl
   rw [h1] at hb
   exact Option.some.inj hb
theorem pscheme_c (s : List UInt8) (hs : s.length ≤ 100000000) : PCall Try.prog 10 [.str (toB s)] fun r => r = [.int .i64 (schemeR s)] := by
 have hr := read_c s hs
 have hpos := readV_pos (s := s)
 have hsc : schemeR s = if (readV s).2 = 0 then ((s.headD 0).toNat : Int) else 0 := rfl
 have hgt : ∀ {b : UInt8}, s ≠ [] → (toB s)[(0 : Int).toNat]? = some b → s.headD 0 = b := fun h hb => headB_get h hb
 obtain ⟨V, hV⟩ : ∃ V, readV s = V := ⟨_, rfl⟩
 rw [hV] at hr hpos hsc
 have hlt : ∀ {e : Int}, V.2 = e → (!decide (e = 0)) = false → (0 : Int).toNat < (toB s).size := by
   intro e h1 h2
   have := hpos (by rw [h1]; simpa using h2)
   rw [toB_size]
   exact List.length_pos_iff.2 this
 have hw : ∀ c : UInt8, IntKind.i64.wrap (c.toNat : Int) = (c.toNat : Int) := fun c => by
   have := c.toNat_lt
   exact wrap_in (by omega)
 obtain ⟨t, ht⟩ : ∃ t, toB s = t := ⟨_, rfl⟩
 rw [ht] at hr hlt
 simp only [ht] at hgt
 rw [ht]
 refine PCall.x (nt := ⟨15, []⟩) (res := [.tmp 2]) mixed tt_ok [] Try.func10 rfl rfl rfl c10 (Nat.le_of_ble_eq_true rfl) ?_
 intro cp cc lp Q' hcp hcc hlp hQ
 repeat' (first
   | (with_reducible refine Nm.mk ?_; intro z hz)
   | (with_reducible refine IfB.mk ?_ ?_ <;> (intro h; cases h))
   | (with_reducible refine Two.l ?_; refine Asm.mk ?_ ?_; focus (decide +kernel))
   | (with_reducible refine Two.r ?_)
   | (with_reducible refine TwoT.r ?_)
   | (with_reducible refine TwoU.r ?_)
   | (with_reducible refine Asm.mk ?_ ?_; focus (first | (show (_ : Bool) = true; kernel_rfl)))
   | (with_reducible refine isCP hcp ?_; first | (refine veP hcp (hr) ?_; intro a n1 n2 n3 e ha h1 h2 h3 he))
   | (with_reducible refine isCC hcc ?_; first | (refine veA hcc (hr) rfl ?_; intro a n1 n2 n3 e ha h1 h2 h3 he))
   | (with_reducible refine SIx.at_ (Int.le_refl 0) (hlt (by assumption) (by assumption)) ?_; intro c cz hc hcz)
   | (with_reducible refine Asm.mk2 ?_ ?_)
   | ((fail_if_success (with_reducible first | refine hQ _ ?_ | refine Side.mk ?_ | refine isCP hcp ?_ | refine isCC hcc ?_ | refine isLP hlp ?_ | refine Ix.mk ?_ | refine SIx.mk ?_ | refine SEx.mk ?_ | refine EIx.mk ?_ | refine RIx.mk ?_ | refine LkX.mk ?_ | show False | refine hR ?_ _ ?_ ?_ ?_ ?_ ?_ | refine hR2 ?_ _ ?_ ?_ ?_ ?_ ?_)); cbv))
 · refine hQ _ ?_
   rw [hsc, if_neg (by rw [he]; simpa using hz)]
 · refine hQ _ ?_
   rename_i he0
   have h0 : V.2 = 0 := by rw [he]; simpa using he0
   rw [hsc, if_pos h0, hgt (hpos h0) hc, ← hz, ← hcz]
   exact congrArg (fun z => [PV.int .i64 z]) (hw c)
theorem plen_c (s : List UInt8) (hs : s.length ≤ 100000000) : PCall Try.prog 41 [.str (toB s)] fun r => r = [.int .i64 ((readV s).1.null.length : Int)] := by
 have hr := read_c s hs
 obtain ⟨V, hV⟩ : ∃ V, readV s = V := ⟨_, rfl⟩
 rw [hV] at hr ⊢
 refine PCall.x (nt := ⟨13, []⟩) (res := [.tmp 2]) mixed tt_ok [] Try.func41 rfl rfl rfl c41 (Nat.le_of_ble_eq_true rfl) ?_
 intro cp cc lp Q' hcp hcc hlp hQ
 repeat' (first
   | (with_reducible refine Nm.mk ?_; intro z hz)
   | (with_reducible refine IfB.mk ?_ ?_ <;> (intro h; cases h))
   | (with_reducible refine Two.l ?_; refine Asm.mk ?_ ?_; focus (decide +kernel))
   | (with_reducible refine Two.r ?_)
   | (with_reducible refine TwoT.r ?_)
   | (with_reducible refine TwoU.r ?_)
   | (with_reducible refine Asm.mk ?_ ?_; focus (first | kernel_rfl | decide))
   | (with_reducible refine isCP hcp ?_; first | (refine veP hcp (hr) ?_; intro a n1 n2 n3 e ha h1 h2 h3 he))
   | (with_reducible refine isCC hcc ?_; first | (refine veA hcc (hr) rfl ?_; intro a n1 n2 n3 e ha h1 h2 h3 he))
   | (with_reducible refine Asm.mk2 ?_ ?_)
   | ((fail_if_success (with_reducible first | refine hQ _ ?_ | refine Side.mk ?_ | refine isCP hcp ?_ | refine isCC hcc ?_ | refine isLP hlp ?_ | refine Ix.mk ?_ | refine SIx.mk ?_ | refine SEx.mk ?_ | refine EIx.mk ?_ | refine RIx.mk ?_ | refine LkX.mk ?_ | show False | refine hR ?_ _ ?_ ?_ ?_ ?_ ?_ | refine hR2 ?_ _ ?_ ?_ ?_ ?_ ?_)); cbv))
 refine hQ _ ?_
 rw [← hz, ← h1, List.length_map]
def modI (n m : Int) : Int := (n.tmod m + m).tmod m
theorem modI_in {n m : Int} (h : 0 < m) : 0 ≤ modI n m ∧ modI n m < m := by
 have h1 : 0 ≤ n.tmod m + m := by
   rcases Int.le_total 0 n with g | g
   · have := Int.tmod_nonneg m g; omega
   · have := Int.tmod_lt_of_pos (-n) h
     rw [Int.neg_tmod] at this; omega
 exact ⟨Int.tmod_nonneg m h1, Int.tmod_lt_of_pos _ h⟩
theorem tmod_in {n m : Int} (h : 0 < m) : -m < n.tmod m ∧ n.tmod m < m := by
 refine ⟨?_, Int.tmod_lt_of_pos _ h⟩
 have := Int.tmod_lt_of_pos (-n) h
 rw [Int.neg_tmod] at this; omega
theorem mod_c (n m : Int) (hm : 0 < m) (hm2 : m ≤ 1000000) : PCall Try.prog 42 [.int .i64 n, .int .i64 m] fun r => r = [.int .i64 (modI n m)] := by
 have h0 : ¬ m = 0 := by omega
 have h1 : IntKind.i64.wrap (n.tmod m + m) = n.tmod m + m := by
   have := tmod_in (n := n) hm
   exact wrap_in (by omega)
 refine PCall.x (nt := ⟨12, []⟩) (res := [.tmp 4]) mixed tt_ok [] Try.func42 rfl rfl rfl c42 (Nat.le_of_ble_eq_true rfl) ?_
 intro cp cc lp Q' hcp hcc hlp hQ
 repeat' (first
   | (with_reducible refine Nm.mk ?_; intro z hz)
   | (with_reducible refine IfB.mk ?_ ?_ <;> (intro h; cases h))
   | (with_reducible refine Two.l ?_; refine Asm.mk ?_ ?_; focus (decide +kernel))
   | (with_reducible refine Two.r ?_)
   | (with_reducible refine TwoT.r ?_)
   | (with_reducible refine TwoU.r ?_)
   | (with_reducible refine Asm.mk ?_ ?_; focus (first | exact h0 | (show (_ : Bool) = true; kernel_rfl)))
   | (with_reducible refine Asm.mk2 ?_ ?_)
   | ((fail_if_success (with_reducible first | refine hQ _ ?_ | refine Side.mk ?_ | refine isCP hcp ?_ | refine isCC hcc ?_ | refine isLP hlp ?_ | refine Ix.mk ?_ | refine SIx.mk ?_ | refine SEx.mk ?_ | refine EIx.mk ?_ | refine RIx.mk ?_ | refine LkX.mk ?_ | show False | refine hR ?_ _ ?_ ?_ ?_ ?_ ?_ | refine hR2 ?_ _ ?_ ?_ ?_ ?_ ?_)); cbv))
 rename_i y hy x hx
 refine hQ _ ?_
 rw [← hz, ← hx, ← hy, h1]; rfl
def atR (s : List UInt8) (i : Int) : Val × Int :=
 if (readV s).2 ≠ 0 then (Val.zero, (readV s).2) else if i < 0 ∨ ((readV s).1.null.length : Int) ≤ i then (Val.zero, 1) else (atM (readV s).1 i, 0)
theorem pat_c (s : List UInt8) (hs : s.length ≤ 100000000) (i : Int) : PCall Try.prog 43 [.str (toB s), .int .i64 i] fun r => r = [(atR s i).1.enc, .int .i64 (atR s i).2] := by
 have hr := read_c s hs
 unfold atR
 obtain ⟨V, hV⟩ : ∃ V, readV s = V := ⟨_, rfl⟩
 rw [hV] at hr ⊢
 refine PCall.x (nt := ⟨30, []⟩) (res := [.cell 4 24, .tmp 5]) mixed tt_ok [] Try.func43 rfl rfl rfl c43 (Nat.le_of_ble_eq_true rfl) ?_
 intro cp cc lp Q' hcp hcc hlp hQ
 repeat' (first
   | (with_reducible refine Nm.mk ?_; intro z hz)
   | (with_reducible refine IfB.mk ?_ ?_ <;> (intro h; cases h))
   | (with_reducible refine Two.l ?_; refine Asm.mk ?_ ?_; focus (decide +kernel))
   | (with_reducible refine Two.r ?_)
   | (with_reducible refine TwoT.r ?_)
   | (with_reducible refine TwoU.r ?_)
   | (with_reducible refine Asm.mk ?_ ?_; focus (first | kernel_rfl | decide))
   | (with_reducible refine isCP hcp ?_; first | (refine veP hcp (hr) ?_; intro a n1 n2 n3 e ha h1 h2 h3 he) | (refine vP hcp (vat_c _ _ _ _ _ _ _ (by assumption) (by assumption) (by assumption) _) ?_; intro v hv))
   | (with_reducible refine isCC hcc ?_; first | (refine veA hcc (hr) rfl ?_; intro a n1 n2 n3 e ha h1 h2 h3 he) | (refine vA hcc (vat_c _ _ _ _ _ _ _ (by assumption) (by assumption) (by assumption) _) rfl ?_; intro v hv))
   | (with_reducible refine Asm.mk2 ?_ ?_)
   | ((fail_if_success (with_reducible first | refine hQ _ ?_ | refine Side.mk ?_ | refine isCP hcp ?_ | refine isCC hcc ?_ | refine isLP hlp ?_ | refine Ix.mk ?_ | refine SIx.mk ?_ | refine SEx.mk ?_ | refine EIx.mk ?_ | refine RIx.mk ?_ | refine LkX.mk ?_ | show False | refine hR ?_ _ ?_ ?_ ?_ ?_ ?_ | refine hR2 ?_ _ ?_ ?_ ?_ ?_ ?_)); cbv))
 · have : V.2 ≠ 0 := by rw [he]; simpa using hz
   refine hQ _ ?_
   rw [if_pos this, he]; rfl
 · rename_i he0
   have h0 : V.2 = 0 := by rw [he]; simpa using he0
   refine hQ _ ?_
   rw [if_neg (fun h => h h0), if_pos (.inl (of_decide_eq_true hz))]; rfl
 · rename_i he0 hi0 hn
   have h0 : V.2 = 0 := by rw [he]; simpa using he0
   have hl : (V.1.null.length : Int) ≤ i := by
     have := of_decide_eq_true hz
     rw [← hn, ← h1, List.length_map] at this
     exact this
   refine hQ _ ?_
   rw [if_neg (fun h => h h0), if_pos (.inr hl)]; rfl
 · rename_i he0 hi0 hn
   have h0 : V.2 = 0 := by rw [he]; simpa using he0
   have hl : ¬ (V.1.null.length : Int) ≤ i := by
     have := of_decide_eq_false hz
     rw [← hn, ← h1, List.length_map] at this
     exact this
   have hi : ¬ i < 0 := of_decide_eq_false hi0
   refine hQ _ ?_
   rw [if_neg (fun h => h h0), if_neg (fun h => h.elim hi hl)]
   subst ha
   rw [show atM V.1 i = v from hv]; rfl
end Go.Proofs.Ytcajncmjlmpkgaa

namespace Go.Proofs.Ytcajncmjlmpkgaa
open Go Go.RowKit
set_option maxRecDepth 100000
set_option linter.unusedSimpArgs false
set_option linter.unusedVariables false
def findUp (op : Int) (x : Val) (l : List Val) : Nat → List Int
 | 0 => []
 | n + 1 => findUp op x l n ++ (if trueV (testV op ((l[n]?).getD Val.zero) x) = true then [(n : Int)] else [])
theorem findUp_len (op : Int) (x : Val) (l : List Val) : ∀ n, (findUp op x l n).length ≤ n
 | 0 => by simp [findUp]
 | n + 1 => by
   have := findUp_len op x l n
   simp only [findUp, List.length_append]
   split <;> simp <;> omega
def findR (s : List UInt8) (op : Int) (x : Val) : List Int × Int :=
 if (readV s).2 ≠ 0 then ([], (readV s).2) else if op < 12 ∨ 17 < op then ([], 1) else (findUp op x (valuesM (readV s).1) (valuesM (readV s).1).length, 0)
theorem pfind_c (s : List UInt8) (hs : s.length ≤ 100000000) (op k n : Int) (t : ByteArray) : PCall Try.prog 44 [.str (toB s), .int .i64 op, .agg [.int .i64 k, .int .i64 n, .str t]] fun r => r = [.sl ((findR s op ⟨k, n, t⟩).1.map i64c), .int .i64 (findR s op ⟨k, n, t⟩).2] := by
 have hr := read_c s hs
 have hfew := readV_few s
 unfold findR
 obtain ⟨⟨V, E⟩, hV⟩ : ∃ V, readV s = V := ⟨_, rfl⟩
 obtain ⟨va, vB, vN, vS⟩ := V
 rw [hV] at hr hfew ⊢
 replace hfew : vB.length ≤ 1048577 := by
   have : vB.length ≤ 4096 := hfew
   omega
 have hvl := valuesM_len ⟨va, vB, vN, vS⟩
 obtain ⟨X, hX⟩ : ∃ X : Val, ⟨k, n, t⟩ = X := ⟨_, rfl⟩
 obtain ⟨F, hF⟩ : ∃ F, valuesM ⟨va, vB, vN, vS⟩ = F := ⟨_, rfl⟩
 have hvv : ∀ {n1 n2 n3 : List (List PV)}, vB.map boolc = n1 → vN.map i64c = n2 → vS.map strc = n3 → PCall Try.prog 17 [.agg [.int .i64 va, .sl n1, .sl n2, .sl n3]] fun r => r = [.sl (F.map Val.cells)] := fun h1 h2 h3 => by
   rw [← hF]; exact vvalues_c va vB vN vS _ _ _ h1 h2 h3 hfew
 show PCall Try.prog 44 _ fun r => r = [.sl ((if E ≠ 0 then (([] : List Int), E) else if op < 12 ∨ 17 < op then ([], 1) else (findUp op ⟨k, n, t⟩ (valuesM ⟨va, vB, vN, vS⟩) (valuesM ⟨va, vB, vN, vS⟩).length, 0)).1.map i64c), .int .i64 (if E ≠ 0 then (([] : List Int), E) else if op < 12 ∨ 17 < op then ([], 1) else (findUp op ⟨k, n, t⟩ (valuesM ⟨va, vB, vN, vS⟩) (valuesM ⟨va, vB, vN, vS⟩).length, 0)).2]
 replace hvl : F.length ≤ 4096 := by
   rw [← hF]; exact Nat.le_trans hvl (by
   have : vB.length ≤ 4096 := by
     have := readV_few s
     rw [hV] at this; exact this
   exact this)
 rw [hF, hX]
 obtain ⟨ts, hts⟩ : ∃ ts, toB s = ts := ⟨_, rfl⟩
 rw [hts] at hr ⊢
 have ht : ∀ y : Val, PCall Try.prog 46 [.int .i64 op, .agg [.int .i64 y.k, .int .i64 y.n, .str y.s], .agg [.int .i64 k, .int .i64 n, .str t]] fun r => r = [(testV op y X).enc] := fun y => by
   rw [← hX]; exact test_c op y.k y.n y.s k n t
 have hzz : ∀ {z : Int} {L : List (List PV)}, F.map Val.cells = L → (L.length : Int) = z → z.toNat = F.length ∧ 0 ≤ z := by
   rintro z L rfl rfl
   rw [List.length_map]; omega
 refine PCall.x (nt := ⟨46, []⟩) (res := [.tmp 6, .tmp 7]) mixed tt_ok [] Try.func44 rfl rfl rfl c44 (Nat.le_of_ble_eq_true rfl) ?_
 intro cp cc lp Q' hcp hcc hlp hQ
 repeat' (first
   | (with_reducible refine Nm.mk ?_; intro z hz)
   | (with_reducible refine IfB.mk ?_ ?_ <;> (intro h; cases h))
   | (with_reducible refine Two.l ?_; refine Asm.mk ?_ ?_; focus (decide +kernel))
   | (with_reducible refine Two.r ?_)
   | (with_reducible refine TwoT.r ?_)
   | (with_reducible refine TwoU.r ?_)
   | (with_reducible refine Asm.mk ?_ ?_; focus (first | kernel_rfl | decide))
   | (with_reducible refine isCP hcp ?_; first | (refine veP hcp (hr) ?_; rintro _ n1 n2 n3 _ rfl h1 h2 h3 rfl) | (refine lP hcp (hvv (by assumption) (by assumption) (by assumption)) ?_; intro z hz))
   | (with_reducible refine isCC hcc ?_; first | (refine veA hcc (hr) rfl ?_; rintro _ n1 n2 n3 _ rfl h1 h2 h3 rfl) | (refine lA hcc (hvv (by assumption) (by assumption) (by assumption)) rfl ?_; intro z hz))
   | (with_reducible refine Asm.mk2 ?_ ?_)
   | ((fail_if_success (with_reducible first | refine hQ _ ?_ | refine Side.mk ?_ | refine isCP hcp ?_ | refine isCC hcc ?_ | refine isLP hlp ?_ | refine Ix.mk ?_ | refine SIx.mk ?_ | refine SEx.mk ?_ | refine EIx.mk ?_ | refine RIx.mk ?_ | refine LkX.mk ?_ | show False | refine hR ?_ _ ?_ ?_ ?_ ?_ ?_ | refine hR2 ?_ _ ?_ ?_ ?_ ?_ ?_)); cbv))
 · have : E ≠ 0 := by simpa using hz
   refine hQ _ ?_
   rw [if_pos this]; rfl
 · rename_i he0
   have h0 : E = 0 := by simpa using he0
   refine hQ _ ?_
   rw [if_neg (fun h => h h0), if_pos (.inl (of_decide_eq_true hz))]; rfl
 · rename_i he0 _
   have h0 : E = 0 := by simpa using he0
   refine hQ _ ?_
   rw [if_neg (fun h => h h0), if_pos (.inr (of_decide_eq_true hz))]; rfl
 rename_i he0 hb0 hb1 L hL
 have h0 : E = 0 := by simpa using he0
 have hfr : (if E ≠ 0 then (([] : List Int), E) else if op < 12 ∨ 17 < op then ([], 1) else (findUp op X F F.length, 0)) = (findUp op X F F.length, 0) := by
   rw [if_neg (fun h => h h0), if_neg (fun h => h.elim (of_decide_eq_false hb0) (of_decide_eq_false hb1))]
 obtain ⟨hzN, hz0⟩ := hzz hL hz
 clear hz
 refine mintT hlp 1 10 rfl ?_
 refine loopT (ι := Int × List (List PV) × Nat) mixed tt_ok hcp hcc hlp [1, 5, 28, 29] (fun p => [(10, .tok 2 p.2.1), (30, .p (.int .i64 p.1))])
   (fun p => [.cells [.p (.int .i64 k), .p (.int .i64 n), .p (.str t)], .cells [.p (.int .i64 va), .p (.sl n1), .p (.sl n2), .p (.sl n3)], .spare p.2.2 1])
   (fun p => (0 ≤ p.1 ∧ p.1 ≤ z) ∧ (findUp op X F p.1.toNat).map i64c = p.2.1 ∧ p.2.1.length = p.2.2) (fun p => (z - p.1).toNat)
   (0, [], 0) 3 (fun _ => rfl) ⟨⟨Int.le_refl _, hz0⟩, rfl, rfl⟩ ⟨rfl, rfl, trivial⟩ rfl ?_
 obtain ⟨zn, hzn⟩ : ∃ zn, z = zn := ⟨_, rfl⟩
 rw [hzn] at hzN hz0 ⊢
 clear hzn z
 rintro R ⟨i, D, m⟩ ⟨⟨hi0, hi1⟩, hl, hm⟩ hR
 replace hi0 : 0 ≤ i := hi0
 replace hi1 : i ≤ zn := hi1
 replace hl : (findUp op X F i.toNat).map i64c = D := hl
 replace hm : D.length = m := hm
 have hll : D.length ≤ i.toNat := by rw [← hl, List.length_map]; exact findUp_len op X F _
 have hok : okEs 1 D = true := by rw [← hl]; simp [okEs, i64c, PV.one]
 have hk2 : decide (i < zn) = true → i < F.length := by intro h; simp only [decide_eq_true_eq] at h; omega
 have hgo : decide (i < zn) = true → (0 ≤ i + 1 ∧ i + 1 ≤ zn) ∧ (zn - (i + 1)).toNat < (zn - i).toNat ∧ IntKind.i64.wrap (i + 1) = i + 1 ∧ (i + 1).toNat = i.toNat + 1 := by
   intro h
   have := of_decide_eq_true h
   exact ⟨⟨by omega, by omega⟩, by omega, wrap_in (by omega), by omega⟩
 have hup : ∀ {y : Val}, F[i.toNat]? = some y → (findUp op X F (i.toNat + 1)).map i64c = D ++ (if trueV (testV op y X) = true then [[.int .i64 i]] else []) := by
   intro y h
   rw [findUp, List.map_append, hl, h, Option.getD_some]
   congr 1
   split
   · simp only [List.map_cons, List.map_nil, i64c, Int.toNat_of_nonneg hi0]
   · rfl
 have hend : decide (i < zn) = false → i.toNat = F.length := by
   intro h
   have := of_decide_eq_false h
   omega
 have happ : ∀ {u : Int}, [i64c i] = [[PV.int IntKind.i64 u]] → D.length + [[PV.int IntKind.i64 u]].length ≤ maxLen := fun _ => by
   simp only [List.length_cons, List.length_nil, maxLen]; omega
 repeat' (first
   | (with_reducible refine Nm.mk ?_; intro z hz)
   | (with_reducible refine IfB.mk ?_ ?_ <;> (intro h; cases h))
   | (with_reducible refine Two.l ?_; refine Asm.mk ?_ ?_; focus (decide +kernel))
   | (with_reducible refine Two.r ?_)
   | (with_reducible refine TwoT.r ?_)
   | (with_reducible refine TwoU.r ?_)
   | (with_reducible refine Asm.mk ?_ ?_; focus (first | (refine ⟨hm.symm, rfl, hok, rfl, ?_, ?_⟩ <;> (clear hR hQ hk2; simp only [List.length_cons, List.length_nil, maxLen]; omega)) | kernel_rfl))
   | (with_reducible refine isCP hcp ?_; first | (refine vP hcp (ht _) ?_; intro v hv) | (refine bP hcp (true_c _ _ _) ?_; intro z hz))
   | (with_reducible refine isCC hcc ?_; first | (refine vA hcc (ht _) rfl ?_; intro v hv) | (refine bA hcc (true_c _ _ _) rfl ?_; intro z hz))
   | (with_reducible refine Ix.map hL cells_len (by decide) hi0 (hk2 (by assumption)) ?_; intro y hy)
   | (with_reducible refine Asm.mk2 ?_ ?_)
   | ((fail_if_success (with_reducible first | refine hQ _ ?_ | refine Side.mk ?_ | refine isCP hcp ?_ | refine isCC hcc ?_ | refine isLP hlp ?_ | refine Ix.mk ?_ | refine SIx.mk ?_ | refine SEx.mk ?_ | refine EIx.mk ?_ | refine RIx.mk ?_ | refine LkX.mk ?_ | show False | refine hR ?_ _ ?_ ?_ ?_ ?_ ?_ | refine hR2 ?_ _ ?_ ?_ ?_ ?_ ?_)); cbv))
 · rename_i hlt htr D2 hD2 m2 hm2
   obtain ⟨g1, g2, g3, g4⟩ := hgo hlt
   rw [g3] at hz
   refine hR (i + 1, D2, m2) _ ⟨g1, ?_, by show D2.length = m2; rw [← hD2, ← hm2, List.length_append]⟩ g2 ⟨rfl, hz ▸ rfl, trivial⟩ ⟨rfl, rfl, rfl, rfl, trivial⟩ rfl
   show (findUp op X F (i + 1).toNat).map i64c = D2
   rw [g4, hup hy, ← hD2, hv, if_pos htr]
 · rename_i hlt htr
   obtain ⟨g1, g2, g3, g4⟩ := hgo hlt
   rw [g3] at hz
   refine hR (i + 1, D, m) _ ⟨g1, ?_, hm⟩ g2 ⟨rfl, hz ▸ rfl, trivial⟩ ⟨rfl, rfl, rfl, rfl, trivial⟩ rfl
   show (findUp op X F (i + 1).toNat).map i64c = D
   rw [g4, hup hy, hv, if_neg (by rw [show (⟨v.k, v.n, v.s⟩ : Val) = v from rfl] at htr; rw [htr]; decide), List.append_nil]
 · refine hQ _ ?_
   rw [hfr, ← hl, hend hz]
end Go.Proofs.Ytcajncmjlmpkgaa

namespace Go.Proofs.Ytcajncmjlmpkgaa
open Go Go.RowKit
set_option maxRecDepth 100000
set_option linter.unusedSimpArgs false
set_option linter.unusedVariables false
theorem sameRowK_c (V : List Val) (L : List (List PV)) (hL : V.map Val.cells = L) : PCall Try.prog 14 [.sl L, .sl L] fun r => r = [.bool true] := by
 refine PCall.know c14 fun hkn => ?_
 have k1 : L.length ≤ maxLen := hkn (.sl L) (by simp)
 clear hkn
 rw [maxLen_eq] at k1
 have b1 : L.length = V.length := by rw [← hL]; simp
 refine PCall.x (nt := ⟨26, []⟩) (res := [.tmp 4]) mixed tt_ok [] Try.func14 rfl rfl rfl c14 (Nat.le_of_ble_eq_true rfl) ?_
 intro cp cc lp Q' hcp hcc hlp hQ
 repeat' (first
   | (with_reducible refine Nm.mk ?_; intro z hz)
   | (with_reducible refine IfB.mk ?_ ?_ <;> (intro h; cases h))
   | (with_reducible refine Two.l ?_; refine Asm.mk ?_ ?_; focus (decide +kernel))
   | (with_reducible refine Two.r ?_)
   | (with_reducible refine TwoT.r ?_)
   | (with_reducible refine TwoU.r ?_)
   | (with_reducible refine Asm.mk ?_ ?_; focus (first | kernel_rfl | decide))
   | (with_reducible refine Asm.mk2 ?_ ?_)
   | ((fail_if_success (with_reducible first | refine hQ _ ?_ | refine Side.mk ?_ | refine isCP hcp ?_ | refine isCC hcc ?_ | refine isLP hlp ?_ | refine Ix.mk ?_ | refine SIx.mk ?_ | refine SEx.mk ?_ | refine EIx.mk ?_ | refine RIx.mk ?_ | refine LkX.mk ?_ | show False | refine hR ?_ _ ?_ ?_ ?_ ?_ ?_ | refine hR2 ?_ _ ?_ ?_ ?_ ?_ ?_)); cbv))
 all_goals first
   | (exfalso; clear hcp hcc hlp hQ; subst_vars; simp_all; done)
   | skip
 all_goals (
   simp only [nc] at hz
   simp only [nc'] at hz
   refine loopK (ι := Int) mixed tt_ok hcp hcc hlp [0, 1, 12] (fun i => [(13, .p (.int .i64 i))]) (fun i => 0 ≤ i ∧ i ≤ z) (fun i => (z - i).toNat) 0 (fun _ => rfl) (by omega) ⟨rfl, trivial⟩ ?_
   intro R i hi hR
   have hi0 : 0 ≤ i := hi.1
   have hkl : decide (i < z) = true → i < V.length := by simp only [decide_eq_true_eq]; omega
   have hst : decide (i < z) = true → IntKind.i64.wrap (i + 1) = i + 1 ∧ (0 ≤ i + 1 ∧ i + 1 ≤ z) ∧ (z - (i + 1)).toNat < (z - i).toNat := by
     intro h
     simp only [decide_eq_true_eq] at h
     exact ⟨wrap_in (by omega), by omega, by omega⟩)
 repeat' (first
   | (with_reducible refine Nm.mk ?_; intro z hz)
   | (with_reducible refine IfB.mk ?_ ?_ <;> (intro h; cases h))
   | (with_reducible refine Two.l ?_; refine Asm.mk ?_ ?_; focus (decide +kernel))
   | (with_reducible refine Two.r ?_)
   | (with_reducible refine TwoT.r ?_)
   | (with_reducible refine TwoU.r ?_)
   | (with_reducible refine Asm.mk ?_ ?_; focus kernel_rfl)
   | (with_reducible refine Ix.at_ hL cells_len (by decide) hi0 (by assumption) ?_)
   | (with_reducible refine Ix.map hL cells_len (by decide) hi0 (hkl (by assumption)) ?_; intro x hx)
   | (with_reducible refine Asm.mk2 ?_ ?_)
   | ((fail_if_success (with_reducible first | refine hQ _ ?_ | refine Side.mk ?_ | refine isCP hcp ?_ | refine isCC hcc ?_ | refine isLP hlp ?_ | refine Ix.mk ?_ | refine SIx.mk ?_ | refine SEx.mk ?_ | refine EIx.mk ?_ | refine RIx.mk ?_ | refine LkX.mk ?_ | show False | refine hR ?_ _ ?_ ?_ ?_ ?_ ?_ | refine hR2 ?_ _ ?_ ?_ ?_ ?_ ?_)); cbv))
 all_goals first
   | (exfalso; simp_all [sbeq_eq, eqB, eq1]; done)
   | (obtain ⟨e1, e2, e3⟩ := hst (by assumption)
      rw [e1] at hz
      exact hR (i + 1) _ e2 e3 ⟨hz ▸ rfl, trivial⟩ ⟨rfl, rfl, rfl, trivial⟩ rfl)
   | exact hQ _ rfl
theorem find_prefix (op : Int) (x : Val) (l : List Val) {i n : Nat} (h : i ≤ n) : ∃ r, findUp op x l n = findUp op x l i ++ r := by
 induction n with
 | zero => exact ⟨[], by rw [Nat.le_zero.1 h]; simp⟩
 | succ n ih =>
   rcases Nat.lt_or_ge n i with g | g
   · exact ⟨[], by rw [show i = n + 1 by omega]; simp⟩
   · obtain ⟨r, hr⟩ := ih g
     exact ⟨r ++ (if trueV (testV op ((l[n]?).getD Val.zero) x) = true then [(n : Int)] else []), by rw [findUp, hr, List.append_assoc]⟩
theorem find_next {op : Int} {x : Val} {l : List Val} {i : Nat} {y : Val} (hi : i < l.length) (hy : l[i]? = some y) (h : trueV (testV op y x) = true) :
   (findUp op x l l.length)[(findUp op x l i).length]? = some (i : Int) := by
 obtain ⟨r, hr⟩ := find_prefix op x l (i := i + 1) (n := l.length) hi
 rw [hr, findUp, hy, Option.getD_some, if_pos h, List.append_assoc, List.getElem?_append_right (Nat.le_refl _), Nat.sub_self]
 rfl
theorem reads_c (s : List UInt8) (hs : s.length ≤ 100000000) (a : Int) (B : List Bool) (N : List Int) (S : List ByteArray) (n1 n2 n3 : List (List PV)) (h1 : B.map boolc = n1) (h2 : N.map i64c = n2) (h3 : S.map strc = n3) (hg : goodV ⟨a, B, N, S⟩ = true) (hv : readV s = (⟨a, B, N, S⟩, 0)) (i op k n : Int) (t : ByteArray) :
   PCall Try.prog 9 [.str (toB s), .agg [.int .i64 a, .sl n1, .sl n2, .sl n3], .int .i64 i, .int .i64 op, .agg [.int .i64 k, .int .i64 n, .str t]] fun r => r = [.bool true] := by
 have hfew : B.length ≤ 4096 := by
   have := readV_few s
   rw [hv] at this; exact this
 have hF0 : (valuesM ⟨a, B, N, S⟩).length = B.length := by rw [valuesM, if_pos hg, List.length_map, List.length_range]
 have hval := vvalues_c a B N S n1 n2 n3 h1 h2 h3 (by omega)
 have hread := read_c s hs
 have hlen := plen_c s hs
 have hat0 := pat_c s hs
 have hfind0 := pfind_c s hs
 have hatM : ∀ j : Nat, j < B.length → (valuesM ⟨a, B, N, S⟩)[j]? = some (atM ⟨a, B, N, S⟩ j) := fun j hj => by
   rw [valuesM, if_pos hg, List.getElem?_map, List.getElem?_range hj, atM, if_pos ⟨hg, by omega, by show (j : Int) < (B.length : Int); omega⟩]
   rfl
 unfold atR at hat0
 unfold findR at hfind0
 rw [hv] at hread hlen hat0 hfind0
 obtain ⟨ts, hts⟩ : ∃ ts, toB s = ts := ⟨_, rfl⟩
 rw [hts] at hread hlen
 simp only [hts] at hat0 hfind0
 rw [hts]
 replace hread : PCall Try.prog 25 [.str ts] fun r => r = [.agg [.int .i64 a, .sl n1, .sl n2, .sl n3], .int .i64 0] := by rw [← h1, ← h2, ← h3]; exact hread
 obtain ⟨F, hF⟩ : ∃ F, valuesM ⟨a, B, N, S⟩ = F := ⟨_, rfl⟩
 rw [hF] at hval hF0 hatM
 obtain ⟨X, hX⟩ : ∃ X : Val, ⟨k, n, t⟩ = X := ⟨_, rfl⟩
 obtain ⟨o2, ho2⟩ : ∃ o, 12 + modI op 6 = o := ⟨_, rfl⟩
 have ho3 := modI_in (n := op) (m := 6) (by decide)
 obtain ⟨m6, hm6⟩ : ∃ o, modI op 6 = o := ⟨_, rfl⟩
 rw [hm6] at ho2 ho3
 have hmod2 : PCall Try.prog 42 [.int .i64 op, .int .i64 6] fun r => r = [.int .i64 m6] := by rw [← hm6]; exact mod_c op 6 (by decide) (by decide)
 obtain ⟨P, hP⟩ : ∃ P, findUp o2 X F F.length = P := ⟨_, rfl⟩
 obtain ⟨PL, hPL⟩ : ∃ PL, P.map i64c = PL := ⟨_, rfl⟩
 have how : ∀ {z : Int}, IntKind.i64.wrap (12 + m6) = z → o2 = z := by
   rintro z rfl
   rw [wrap_in (by omega), ho2]
 have hfind : ∀ {z : Int}, IntKind.i64.wrap (12 + m6) = z → PCall Try.prog 44 [.str ts, .int .i64 z, .agg [.int .i64 k, .int .i64 n, .str t]] fun r => r = [.sl PL, .int .i64 0] := by
   intro z hz
   have hz := how hz
   have := hfind0 z k n t
   simp only [hF, hX, if_neg (show ¬ ((0 : Int) ≠ 0) from fun h => h rfl)] at this
   rw [if_neg (show ¬ (z < 12 ∨ 17 < z) by omega), ← hz, hP] at this
   rw [← hPL, ← hz]; exact this
 have htest : ∀ {z : Int}, IntKind.i64.wrap (12 + m6) = z → ∀ y : Val, PCall Try.prog 46 [.int .i64 z, .agg [.int .i64 y.k, .int .i64 y.n, .str y.s], .agg [.int .i64 k, .int .i64 n, .str t]] fun r => r = [(testV o2 y X).enc] := fun hz y => by
   rw [← hX, how hz]; exact test_c _ y.k y.n y.s k n t
 obtain ⟨kk, hkk⟩ : ∃ kk, modI i (F.length : Int) = kk := ⟨_, rfl⟩
 obtain ⟨L, hL⟩ : ∃ L, F.map Val.cells = L := ⟨_, rfl⟩
 rw [hL] at hval
 have hLl : L.length = F.length := by rw [← hL, List.length_map]
 obtain ⟨y0, hy0⟩ : ∃ y0, atM ⟨a, B, N, S⟩ kk = y0 := ⟨_, rfl⟩
 have hkin : ∀ {z : Int}, decide (0 < z) = true → (L.length : Int) = z → (0 ≤ kk ∧ kk < F.length) ∧ F[kk.toNat]? = some y0 := by
   rintro z h rfl
   have h := of_decide_eq_true h
   have h5 := modI_in (n := i) (m := (F.length : Int)) (by omega)
   rw [hkk] at h5
   refine ⟨h5, ?_⟩
   have := hatM kk.toNat (by omega)
   rw [Int.toNat_of_nonneg h5.1, hy0] at this
   exact this
 have hmod1 : ∀ {z w : Int}, decide (0 < z) = true → (L.length : Int) = z → (L.length : Int) = w → PCall Try.prog 42 [.int .i64 i, .int .i64 w] fun r => r = [.int .i64 kk] := by
   rintro z w h h5 h6
   have h := of_decide_eq_true h
   rw [← hkk, ← h6, hLl]
   exact mod_c i _ (by omega) (by omega)
 have hat : ∀ {z : Int}, decide (0 < z) = true → (L.length : Int) = z → PCall Try.prog 43 [.str ts, .int .i64 kk] fun r => r = [.agg [.int .i64 y0.k, .int .i64 y0.n, .str y0.s], .int .i64 0] := by
   intro z h h5
   obtain ⟨g1, g2⟩ := hkin h h5
   have := hat0 kk
   simp only [if_neg (show ¬ ((0 : Int) ≠ 0) from fun h => h rfl)] at this
   rw [if_neg (show ¬ (kk < 0 ∨ (B.length : Int) ≤ kk) by omega), hy0] at this
   exact this
 have hsame := sameRowK_c F L hL
 have hcnt : ∀ {z w : Int}, (B.length : Int) = w → (L.length : Int) = z → (!decide (w = z)) = false := by
   rintro z w rfl rfl
   rw [hLl, hF0]; simp
 have hzN : ∀ {z : Int}, (L.length : Int) = z → z.toNat = F.length ∧ 0 ≤ z := by
   rintro z rfl
   rw [hLl]; omega
 have hlenc : PCall Try.prog 41 [.str ts] fun r => r = [.int .i64 (B.length : Int)] := hlen
 clear hlen hat0 hfind0 hatM
 refine PCall.x (nt := ⟨119, []⟩) (res := [.tmp 10]) mixed tt_ok [] Try.func9 rfl rfl rfl c9 (Nat.le_of_ble_eq_true rfl) ?_
 intro cp cc lp Q' hcp hcc hlp hQ
 repeat' (first
   | (with_reducible refine Nm.mk ?_; intro z hz)
   | (with_reducible refine IfB.mk ?_ ?_ <;> (intro h; cases h))
   | (with_reducible refine Two.l ?_; refine Asm.mk ?_ ?_; focus (decide +kernel))
   | (with_reducible refine Two.r ?_)
   | (with_reducible refine TwoT.r ?_)
   | (with_reducible refine TwoU.r ?_)
   | (with_reducible refine Asm.mk ?_ ?_; focus kernel_rfl)
   | (with_reducible refine isCP hcp ?_; first | (refine xP hcp (hread) ?_; skip) | (refine xP hcp (hval) ?_; skip) | (refine xP hcp (hsame) ?_; skip) | (refine iP hcp (hlenc) ?_; intro z hz) | (refine xP hcp (hmod1 (by assumption) (by assumption) (by assumption)) ?_; skip) | (refine xP hcp (hat (by assumption) (by assumption)) ?_; skip) | (refine xP hcp (hmod2) ?_; skip) | (refine xP hcp (hfind (by assumption)) ?_; skip) | (refine vP hcp (htest (by assumption) _) ?_; intro v hv) | (refine bP hcp (true_c _ _ _) ?_; intro z hz))
   | (with_reducible refine isCC hcc ?_; first | (refine xA hcc (hread) rfl ?_; skip) | (refine xA hcc (hval) rfl ?_; skip) | (refine xA hcc (hsame) rfl ?_; skip) | (refine iA hcc (hlenc) rfl ?_; intro z hz) | (refine xA hcc (hmod1 (by assumption) (by assumption) (by assumption)) rfl ?_; skip) | (refine xA hcc (hat (by assumption) (by assumption)) rfl ?_; skip) | (refine xA hcc (hmod2) rfl ?_; skip) | (refine xA hcc (hfind (by assumption)) rfl ?_; skip) | (refine vA hcc (htest (by assumption) _) rfl ?_; intro v hv) | (refine bA hcc (true_c _ _ _) rfl ?_; intro z hz))
   | (with_reducible refine Ix.at_ hL cells_len (by decide) (hkin (by assumption) (by assumption)).1.1 (hkin (by assumption) (by assumption)).2 ?_)
   | (with_reducible refine Asm.mk2 ?_ ?_)
   | ((fail_if_success (with_reducible first | refine hQ _ ?_ | refine Side.mk ?_ | refine isCP hcp ?_ | refine isCC hcc ?_ | refine isLP hlp ?_ | refine Ix.mk ?_ | refine SIx.mk ?_ | refine SEx.mk ?_ | refine EIx.mk ?_ | refine RIx.mk ?_ | refine LkX.mk ?_ | show False | refine hR ?_ _ ?_ ?_ ?_ ?_ ?_ | refine hR2 ?_ _ ?_ ?_ ?_ ?_ ?_)); cbv))
 all_goals first
   | (exfalso; clear hread hval hsame hlenc hmod1 hat hmod2 hfind htest hkin how hQ hcp hcc hlp; simp_all; done)
   | (exfalso; have h9 := hcnt (by assumption) (by assumption); rename_i h8; rw [h9] at hz; cases hz)
   | (exfalso; clear hread hval hsame hlenc hmod1 hat hmod2 hfind htest hkin how hQ hcp hcc hlp; simp [sbeq_eq, eqB, eq1] at hz; done)
   | skip
 · obtain ⟨hzz, hz0⟩ := hzN hz
   have hoz := how (by assumption)
   clear hz
   obtain ⟨zn, hzn⟩ : ∃ zn, z = zn := ⟨_, rfl⟩
   rw [hzn] at hzz hz0 ⊢
   clear hzn z
   refine loopT (ι := Int × Int) mixed tt_ok hcp hcc hlp [3, 9, 12, 17, 84, 85] (fun p => [(18, .p (.int .i64 p.2)), (86, .p (.int .i64 p.1))])
     (fun p => [.cells [.p (.int .i64 a), .p (.sl n1), .p (.sl n2), .p (.sl n3)], .cells [.p (.int .i64 k), .p (.int .i64 n), .p (.str t)], .cells [.p (.int .i64 a), .p (.sl n1), .p (.sl n2), .p (.sl n3)], .cells [.p (.int .i64 y0.k), .p (.int .i64 y0.n), .p (.str y0.s)]])
     (fun p => (0 ≤ p.1 ∧ p.1 ≤ zn) ∧ ((findUp o2 X F p.1.toNat).length : Int) = p.2) (fun p => (zn - p.1).toNat)
     (0, 0) 4 (fun _ => rfl) ⟨⟨Int.le_refl _, hz0⟩, rfl⟩ ⟨rfl, rfl, trivial⟩ rfl ?_
   rintro R ⟨j, c⟩ ⟨⟨hj0, hj1⟩, hc⟩ hR
   replace hj0 : 0 ≤ j := hj0
   replace hj1 : j ≤ zn := hj1
   replace hc : ((findUp o2 X F j.toNat).length : Int) = c := hc
   have hcl := findUp_len o2 X F j.toNat
   have hk2 : decide (j < zn) = true → j < F.length := by intro h; simp only [decide_eq_true_eq] at h; omega
   have hgo : decide (j < zn) = true → (0 ≤ j + 1 ∧ j + 1 ≤ zn) ∧ (zn - (j + 1)).toNat < (zn - j).toNat ∧ IntKind.i64.wrap (j + 1) = j + 1 ∧ (j + 1).toNat = j.toNat + 1 := by
     intro h
     have := of_decide_eq_true h
     exact ⟨⟨by omega, by omega⟩, by omega, wrap_in (by omega), by omega⟩
   have hup1 : ∀ {y v : Val}, decide (j < zn) = true → F[j.toNat]? = some y → testV o2 y X = v → trueV ⟨v.k, v.n, v.s⟩ = true → ((findUp o2 X F (j + 1).toNat).length : Int) = c + 1 ∧ IntKind.i64.wrap (c + 1) = c + 1 := by
     intro y v h0 h hv ht
     have e : (j + 1).toNat = j.toNat + 1 := by omega
     rw [e, findUp, h, Option.getD_some, hv, if_pos ht, List.length_append, ← hc]
     exact ⟨by simp, wrap_in (by omega)⟩
   have hup0 : ∀ {y v : Val}, decide (j < zn) = true → F[j.toNat]? = some y → testV o2 y X = v → trueV ⟨v.k, v.n, v.s⟩ = false → ((findUp o2 X F (j + 1).toNat).length : Int) = c := by
     intro y v h0 h hv ht
     have e : (j + 1).toNat = j.toNat + 1 := by omega
     rw [e, findUp, h, Option.getD_some, hv, if_neg (by rw [show (⟨v.k, v.n, v.s⟩ : Val) = v from rfl] at ht; rw [ht]; decide), List.append_nil, ← hc]
   have hpl : ∀ {y v : Val}, decide (j < zn) = true → F[j.toNat]? = some y → testV o2 y X = v → trueV ⟨v.k, v.n, v.s⟩ = true → P[c.toNat]? = some j := by
     intro y v h0 h hv ht
     have h0 := of_decide_eq_true h0
     have := find_next (op := o2) (x := X) (l := F) (i := j.toNat) (by omega) h (by rw [hv]; exact ht)
     rw [hP] at this
     rw [← hc, Int.toNat_natCast, this, Int.toNat_of_nonneg hj0]
   have hpb : ∀ {y v : Val} {z : Int}, decide (j < zn) = true → F[j.toNat]? = some y → testV o2 y X = v → trueV ⟨v.k, v.n, v.s⟩ = true → (PL.length : Int) = z → ¬ decide (z ≤ c) = true := by
     rintro y v z h0 h hv ht rfl hh
     have h5 := (List.getElem?_eq_some_iff.1 (hpl h0 h hv ht)).1
     have hh := of_decide_eq_true hh
     rw [← hPL, List.length_map] at hh
     omega
   have hend : ∀ {z : Int}, decide (j < zn) = false → (PL.length : Int) = z → c = z := by
     rintro z h rfl
     have := of_decide_eq_false h
     rw [← hPL, List.length_map, ← hP, ← hc, show j.toNat = F.length by omega]
   have hc0 : 0 ≤ c := by omega
   repeat' (first
     | (with_reducible refine Nm.mk ?_; intro z hz)
     | (with_reducible refine IfB.mk ?_ ?_ <;> (intro h; cases h))
     | (with_reducible refine Two.l ?_; refine Asm.mk ?_ ?_; focus (decide +kernel))
     | (with_reducible refine Two.r ?_)
     | (with_reducible refine TwoT.r ?_)
     | (with_reducible refine TwoU.r ?_)
     | (with_reducible refine Asm.mk ?_ ?_; focus kernel_rfl)
     | (with_reducible refine isCP hcp ?_; first | (refine vP hcp (htest (by assumption) _) ?_; intro v hv) | (refine bP hcp (true_c _ _ _) ?_; intro z hz))
     | (with_reducible refine isCC hcc ?_; first | (refine vA hcc (htest (by assumption) _) rfl ?_; intro v hv) | (refine bA hcc (true_c _ _ _) rfl ?_; intro z hz))
     | (with_reducible refine Ix.map hL cells_len (by decide) hj0 (hk2 (by assumption)) ?_; intro y hy)
     | (with_reducible refine Ix.at_ hPL i64c_len (by decide) hc0 (hpl (by assumption) (by assumption) (by assumption) (by assumption)) ?_)
     | (with_reducible refine Asm.mk2 ?_ ?_)
     | ((fail_if_success (with_reducible first | refine hQ _ ?_ | refine Side.mk ?_ | refine isCP hcp ?_ | refine isCC hcc ?_ | refine isLP hlp ?_ | refine Ix.mk ?_ | refine SIx.mk ?_ | refine SEx.mk ?_ | refine EIx.mk ?_ | refine RIx.mk ?_ | refine LkX.mk ?_ | show False | refine hR ?_ _ ?_ ?_ ?_ ?_ ?_ | refine hR2 ?_ _ ?_ ?_ ?_ ?_ ?_)); cbv))
   · exact absurd hz (hpb (by assumption) hy hv (by assumption) (by assumption))
   · exfalso; simp at hz
   · rename_i hlt htr _ _ _ _ _ hzc
     obtain ⟨g1, g2, g3, g4⟩ := hgo hlt
     obtain ⟨g5, g6⟩ := hup1 hlt hy hv htr
     rw [g3] at hz
     rw [g6] at hzc
     subst hzc
     subst hz
     exact hR (j + 1, c + 1) _ ⟨g1, g5⟩ g2 ⟨rfl, rfl, trivial⟩ ⟨rfl, rfl, rfl, rfl, rfl, rfl, trivial⟩ rfl
   · rename_i hlt htr
     obtain ⟨g1, g2, g3, g4⟩ := hgo hlt
     have g5 := hup0 hlt hy hv htr
     rw [g3] at hz
     subst hz
     exact hR (j + 1, c) _ ⟨g1, g5⟩ g2 ⟨rfl, rfl, trivial⟩ ⟨rfl, rfl, rfl, rfl, rfl, rfl, trivial⟩ rfl
   · have := hend (by assumption) (by assumption)
     rw [decide_eq_true this] at hz
     subst hz
     exact hQ _ rfl
   · exfalso; simp at hz
 · obtain ⟨hzz, hz0⟩ := hzN hz
   have hoz := how (by assumption)
   clear hz
   obtain ⟨zn, hzn⟩ : ∃ zn, z = zn := ⟨_, rfl⟩
   rw [hzn] at hzz hz0 ⊢
   clear hzn z
   refine loopT (ι := Int × Int) mixed tt_ok hcp hcc hlp [3, 9, 12, 17, 84, 85] (fun p => [(18, .p (.int .i64 p.2)), (86, .p (.int .i64 p.1))])
     (fun p => [.cells [.p (.int .i64 a), .p (.sl n1), .p (.sl n2), .p (.sl n3)], .cells [.p (.int .i64 k), .p (.int .i64 n), .p (.str t)], .cells [.p (.int .i64 a), .p (.sl n1), .p (.sl n2), .p (.sl n3)]])
     (fun p => (0 ≤ p.1 ∧ p.1 ≤ zn) ∧ ((findUp o2 X F p.1.toNat).length : Int) = p.2) (fun p => (zn - p.1).toNat)
     (0, 0) 3 (fun _ => rfl) ⟨⟨Int.le_refl _, hz0⟩, rfl⟩ ⟨rfl, rfl, trivial⟩ rfl ?_
   rintro R ⟨j, c⟩ ⟨⟨hj0, hj1⟩, hc⟩ hR
   replace hj0 : 0 ≤ j := hj0
   replace hj1 : j ≤ zn := hj1
   replace hc : ((findUp o2 X F j.toNat).length : Int) = c := hc
   have hcl := findUp_len o2 X F j.toNat
   have hk2 : decide (j < zn) = true → j < F.length := by intro h; simp only [decide_eq_true_eq] at h; omega
   have hgo : decide (j < zn) = true → (0 ≤ j + 1 ∧ j + 1 ≤ zn) ∧ (zn - (j + 1)).toNat < (zn - j).toNat ∧ IntKind.i64.wrap (j + 1) = j + 1 ∧ (j + 1).toNat = j.toNat + 1 := by
     intro h
     have := of_decide_eq_true h
     exact ⟨⟨by omega, by omega⟩, by omega, wrap_in (by omega), by omega⟩
   have hup1 : ∀ {y v : Val}, decide (j < zn) = true → F[j.toNat]? = some y → testV o2 y X = v → trueV ⟨v.k, v.n, v.s⟩ = true → ((findUp o2 X F (j + 1).toNat).length : Int) = c + 1 ∧ IntKind.i64.wrap (c + 1) = c + 1 := by
     intro y v h0 h hv ht
     have e : (j + 1).toNat = j.toNat + 1 := by omega
     rw [e, findUp, h, Option.getD_some, hv, if_pos ht, List.length_append, ← hc]
     exact ⟨by simp, wrap_in (by omega)⟩
   have hup0 : ∀ {y v : Val}, decide (j < zn) = true → F[j.toNat]? = some y → testV o2 y X = v → trueV ⟨v.k, v.n, v.s⟩ = false → ((findUp o2 X F (j + 1).toNat).length : Int) = c := by
     intro y v h0 h hv ht
     have e : (j + 1).toNat = j.toNat + 1 := by omega
     rw [e, findUp, h, Option.getD_some, hv, if_neg (by rw [show (⟨v.k, v.n, v.s⟩ : Val) = v from rfl] at ht; rw [ht]; decide), List.append_nil, ← hc]
   have hpl : ∀ {y v : Val}, decide (j < zn) = true → F[j.toNat]? = some y → testV o2 y X = v → trueV ⟨v.k, v.n, v.s⟩ = true → P[c.toNat]? = some j := by
     intro y v h0 h hv ht
     have h0 := of_decide_eq_true h0
     have := find_next (op := o2) (x := X) (l := F) (i := j.toNat) (by omega) h (by rw [hv]; exact ht)
     rw [hP] at this
     rw [← hc, Int.toNat_natCast, this, Int.toNat_of_nonneg hj0]
   have hpb : ∀ {y v : Val} {z : Int}, decide (j < zn) = true → F[j.toNat]? = some y → testV o2 y X = v → trueV ⟨v.k, v.n, v.s⟩ = true → (PL.length : Int) = z → ¬ decide (z ≤ c) = true := by
     rintro y v z h0 h hv ht rfl hh
     have h5 := (List.getElem?_eq_some_iff.1 (hpl h0 h hv ht)).1
     have hh := of_decide_eq_true hh
     rw [← hPL, List.length_map] at hh
     omega
   have hend : ∀ {z : Int}, decide (j < zn) = false → (PL.length : Int) = z → c = z := by
     rintro z h rfl
     have := of_decide_eq_false h
     rw [← hPL, List.length_map, ← hP, ← hc, show j.toNat = F.length by omega]
   have hc0 : 0 ≤ c := by omega
   repeat' (first
     | (with_reducible refine Nm.mk ?_; intro z hz)
     | (with_reducible refine IfB.mk ?_ ?_ <;> (intro h; cases h))
     | (with_reducible refine Two.l ?_; refine Asm.mk ?_ ?_; focus (decide +kernel))
     | (with_reducible refine Two.r ?_)
     | (with_reducible refine TwoT.r ?_)
     | (with_reducible refine TwoU.r ?_)
     | (with_reducible refine Asm.mk ?_ ?_; focus kernel_rfl)
     | (with_reducible refine isCP hcp ?_; first | (refine vP hcp (htest (by assumption) _) ?_; intro v hv) | (refine bP hcp (true_c _ _ _) ?_; intro z hz))
     | (with_reducible refine isCC hcc ?_; first | (refine vA hcc (htest (by assumption) _) rfl ?_; intro v hv) | (refine bA hcc (true_c _ _ _) rfl ?_; intro z hz))
     | (with_reducible refine Ix.map hL cells_len (by decide) hj0 (hk2 (by assumption)) ?_; intro y hy)
     | (with_reducible refine Ix.at_ hPL i64c_len (by decide) hc0 (hpl (by assumption) (by assumption) (by assumption) (by assumption)) ?_)
     | (with_reducible refine Asm.mk2 ?_ ?_)
     | ((fail_if_success (with_reducible first | refine hQ _ ?_ | refine Side.mk ?_ | refine isCP hcp ?_ | refine isCC hcc ?_ | refine isLP hlp ?_ | refine Ix.mk ?_ | refine SIx.mk ?_ | refine SEx.mk ?_ | refine EIx.mk ?_ | refine RIx.mk ?_ | refine LkX.mk ?_ | show False | refine hR ?_ _ ?_ ?_ ?_ ?_ ?_ | refine hR2 ?_ _ ?_ ?_ ?_ ?_ ?_)); cbv))
   · exact absurd hz (hpb (by assumption) hy hv (by assumption) (by assumption))
   · exfalso; simp at hz
   · rename_i hlt htr _ _ _ _ _ hzc
     obtain ⟨g1, g2, g3, g4⟩ := hgo hlt
     obtain ⟨g5, g6⟩ := hup1 hlt hy hv htr
     rw [g3] at hz
     rw [g6] at hzc
     subst hzc
     subst hz
     exact hR (j + 1, c + 1) _ ⟨g1, g5⟩ g2 ⟨rfl, rfl, trivial⟩ ⟨rfl, rfl, rfl, rfl, rfl, rfl, trivial⟩ rfl
   · rename_i hlt htr
     obtain ⟨g1, g2, g3, g4⟩ := hgo hlt
     have g5 := hup0 hlt hy hv htr
     rw [g3] at hz
     subst hz
     exact hR (j + 1, c) _ ⟨g1, g5⟩ g2 ⟨rfl, rfl, trivial⟩ ⟨rfl, rfl, rfl, rfl, rfl, rfl, trivial⟩ rfl
   · have := hend (by assumption) (by assumption)
     rw [decide_eq_true this] at hz
     subst hz
     exact hQ _ rfl
   · exfalso; simp at hz
end Go.Proofs.Ytcajncmjlmpkgaa

namespace Go.Proofs.Ytcajncmjlmpkgaa
open Go Go.RowKit
set_option maxRecDepth 100000
set_option linter.unusedSimpArgs false
set_option linter.unusedVariables false
set_option maxHeartbeats 400000 in
theorem packBack_c (kind : Int) (l : List Val) (hsz : l.length * 32 ≤ 140737488351232) (hn : ∀ v ∈ l, i64in v.n) (i op xk xn : Int) (xt : ByteArray) :
   PCall Try.prog 3 [.int .i64 kind, .sl (l.map Val.cells), .int .i64 i, .int .i64 op, .agg [.int .i64 xk, .int .i64 xn, .str xt]] fun r => r = [.bool true] := by
 obtain ⟨L, hL⟩ : ∃ L, l.map Val.cells = L := ⟨_, rfl⟩
 have hLl : L.length = l.length := by rw [← hL, List.length_map]
 have hvf := vfrom_c kind l L hL hsz
 have hb1 := vfrom_bad (k := kind) (l := l)
 have hg1 := vfrom_ok (k := kind) (l := l)
 obtain ⟨⟨V, E⟩, hV⟩ : ∃ V, vfrom kind l = V := ⟨_, rfl⟩
 obtain ⟨a, B, N, S⟩ := V
 rw [hV] at hvf hb1 hg1
 obtain ⟨n1, h1⟩ : ∃ n1, B.map boolc = n1 := ⟨_, rfl⟩
 obtain ⟨n2, h2⟩ : ∃ n2, N.map i64c = n2 := ⟨_, rfl⟩
 obtain ⟨n3, h3⟩ : ∃ n3, S.map strc = n3 := ⟨_, rfl⟩
 replace hvf : PCall Try.prog 6 [.int .i64 kind, .sl L] fun r => r = [.agg [.int .i64 a, .sl n1, .sl n2, .sl n3], .int .i64 E] := by rw [← h1, ← h2, ← h3]; exact hvf
 have hw : ∀ k : Int, PCall Try.prog 7 [.agg [.int .i64 a, .sl n1, .sl n2, .sl n3], .int .i64 k] fun r => r = [.str (outW k ⟨a, B, N, S⟩), .int .i64 (outE k ⟨a, B, N, S⟩)] := fun k => write_c k a B N S n1 n2 n3 h1 h2 h3
 have hp := pack_c a B N S n1 n2 n3 h1 h2 h3
 have hrd : ∀ s : List UInt8, s.length ≤ 100000000 → goodV ⟨a, B, N, S⟩ = true → readV s = (⟨a, B, N, S⟩, 0) → PCall Try.prog 9 [.str (toB s), .agg [.int .i64 a, .sl n1, .sl n2, .sl n3], .int .i64 i, .int .i64 op, .agg [.int .i64 xk, .int .i64 xn, .str xt]] fun r => r = [.bool true] := fun s hs hg hv =>
   reads_c s hs a B N S n1 n2 n3 h1 h2 h3 hg hv i op xk xn xt
 obtain ⟨V, hVe⟩ : ∃ V : Vec, ⟨a, B, N, S⟩ = V := ⟨_, rfl⟩
 have hVk : V.kind = a := by rw [← hVe]
 rw [hVe] at hp hb1 hg1
 simp only [hVe] at hw hrd
 replace hb1 : E ≠ 0 → V = Vec.zero := hb1
 replace hg1 : E = 0 → goodV V = true ∧ V.null.length = l.length ∧ ((∀ v ∈ l, i64in v.n) → ∀ n ∈ V.ns, i64in n) := hg1
 have hcan : ∀ {k : Int}, E = 0 → CanW k V → (PCall Try.prog 10 [.str (outW k V)] fun r => r = [.int .i64 k]) ∧ PCall Try.prog 9 [.str (outW k V), .agg [.int .i64 a, .sl n1, .sl n2, .sl n3], .int .i64 i, .int .i64 op, .agg [.int .i64 xk, .int .i64 xn, .str xt]] fun r => r = [.bool true] := by
   intro k hE hc
   have hns := (hg1 hE).2.2 hn
   have hb := read_back hc hns
   have hbl := bytesV_len hc
   rw [(outW_can hc).1]
   refine ⟨?_, hrd _ (by omega) hc.1 hb⟩
   have := pscheme_c (bytesV k V) (by omega)
   rw [schemeR, hb, if_pos rfl, bytesV_head k V hc] at this
   exact this
 obtain ⟨pO, hpO⟩ : ∃ pO, packOut V = pO := ⟨_, rfl⟩
 obtain ⟨pE, hpE⟩ : ∃ pE, outE 1 V = pE := ⟨_, rfl⟩
 have hpo : ∀ {k : Int}, E = 0 → l.length ≤ 4096 → CanW k V → pO.size ≤ (outW k V).size := fun hE hl hc => by
   rw [← hpO]
   obtain ⟨g1, g2, _⟩ := hg1 hE
   exact pack_least (can1 g1 (by omega)) hc
 have hnc : ∀ {k : Int}, E = 0 → l.length ≤ 4096 → 1 ≤ k ∧ k ≤ 4 → ¬ CanW k V → k = 4 ∧ V.kind = 2 := fun hE hl hk hc => by
   obtain ⟨g1, g2, _⟩ := hg1 hE
   exact can_not (can1 g1 (by omega)) hk hc
 have hbest0 : E = 0 → l.length ≤ 4096 → pE = 0 ∧ PCall Try.prog 9 [.str pO, .agg [.int .i64 a, .sl n1, .sl n2, .sl n3], .int .i64 i, .int .i64 op, .agg [.int .i64 xk, .int .i64 xn, .str xt]] fun r => r = [.bool true] := by
   intro hE hl
   obtain ⟨g1, g2, _⟩ := hg1 hE
   have hc := can1 g1 (by omega)
   obtain ⟨k, hk, e⟩ := pack_best hc
   refine ⟨by rw [← hpE]; exact can_iff.2 hc, ?_⟩
   rw [← hpO, e, ← (outW_can hk).1]
   exact (hcan hE hk).2
 have hbig0 : E = 0 → 4096 < l.length → pE = 3 := by
   intro hE hl
   obtain ⟨g1, g2, _⟩ := hg1 hE
   rw [← hpE]; exact outE_big g1 (by omega)
 rw [hpO, hpE] at hp
 have hbad : ∀ {e : Int}, (!decide (E = 0)) = true → outE 1 V = e → decide (e = 1) = true := by
   rintro e h rfl
   rw [hb1 (by simpa using h), outE_zero]; rfl
 have hE0 : (!decide (E = 0)) = false → E = 0 := fun h => by simpa using h
 have hbig : ∀ {z : Int}, (!decide (E = 0)) = false → (L.length : Int) = z → decide (4096 < z) = true → decide (pE = 3) = true := by
   rintro z h rfl h5
   have := of_decide_eq_true h5
   exact decide_eq_true (hbig0 (hE0 h) (by omega))
 have hsm : ∀ {z : Int}, (L.length : Int) = z → decide (4096 < z) = false → l.length ≤ 4096 := by
   rintro z rfl h5
   have := of_decide_eq_false h5
   omega
 have hpe0 : ∀ {z : Int} {p : Prop}, (!decide (E = 0)) = false → (L.length : Int) = z → decide (4096 < z) = false → (!decide (pE = 0)) = true → p := by
   intro z p h h5 h6 h7
   rw [(hbest0 (hE0 h) (hsm h5 h6)).1] at h7
   cases h7
 have hbest : ∀ {z : Int}, (!decide (E = 0)) = false → (L.length : Int) = z → decide (4096 < z) = false → PCall Try.prog 9 [.str pO, .agg [.int .i64 a, .sl n1, .sl n2, .sl n3], .int .i64 i, .int .i64 op, .agg [.int .i64 xk, .int .i64 xn, .str xt]] fun r => r = [.bool true] := fun h h5 h6 => (hbest0 (hE0 h) (hsm h5 h6)).2
 have hwr := hw 1
 rw [hL]
 refine PCall.x (nt := ⟨94, []⟩) (res := [.tmp 10]) mixed tt_ok [] Try.func3 rfl rfl rfl c3 (Nat.le_of_ble_eq_true rfl) ?_
 intro cp cc lp Q' hcp hcc hlp hQ
 repeat' (first
   | (with_reducible refine Nm.mk ?_; intro z hz)
   | (with_reducible refine IfB.mk ?_ ?_ <;> (intro h; cases h))
   | (with_reducible refine Two.l ?_; refine Asm.mk ?_ ?_; focus (decide +kernel))
   | (with_reducible refine Two.r ?_)
   | (with_reducible refine TwoT.r ?_)
   | (with_reducible refine TwoU.r ?_)
   | (with_reducible refine Asm.mk ?_ ?_; focus (first | kernel_rfl | decide))
   | (with_reducible refine isCP hcp ?_; first | (refine xP hcp (hvf) ?_; skip) | (refine wrP hcp (hwr) ?_; intro s2 e2 hs2 he2) | (refine xP hcp (hp) ?_; skip) | (refine xP hcp (hbest (by assumption) (by assumption) (by assumption)) ?_; skip))
   | (with_reducible refine isCC hcc ?_; first | (refine xA hcc (hvf) rfl ?_; skip) | (refine wrA hcc (hwr) rfl ?_; intro s2 e2 hs2 he2) | (refine xA hcc (hp) rfl ?_; skip) | (refine xA hcc (hbest (by assumption) (by assumption) (by assumption)) rfl ?_; skip))
   | (with_reducible refine Asm.mk2 ?_ ?_)
   | ((fail_if_success (with_reducible first | refine hQ _ ?_ | refine Side.mk ?_ | refine isCP hcp ?_ | refine isCC hcc ?_ | refine isLP hlp ?_ | refine Ix.mk ?_ | refine SIx.mk ?_ | refine SEx.mk ?_ | refine EIx.mk ?_ | refine RIx.mk ?_ | refine LkX.mk ?_ | show False | refine hR ?_ _ ?_ ?_ ?_ ?_ ?_ | refine hR2 ?_ _ ?_ ?_ ?_ ?_ ?_)); cbv))
 · rename_i h0
   exact hQ _ (by rw [← hz, hbad h0 he2])
 · rename_i h0 _ h5 h6
   exact hQ _ (by rw [← hz, hbig h0 h5 h6])
 · rename_i h0 h5 h6
   exact hpe0 h0 h5 h6 hz
 · exact absurd hz (by decide)
 rename_i h0 h5 h6 _
 have hEz := hE0 h0
 have hl4 := hsm h5 h6
 have hc0 : ∀ {k : Int} {s2 : ByteArray} {e2 : Int}, outW k V = s2 → outE k V = e2 → (!decide (e2 = 0)) = false → CanW k V := by
   rintro k s2 e2 _ rfl h
   exact can_iff.1 (by simpa using h)
 have hsch : ∀ {k : Int} {s2 : ByteArray} {e2 : Int}, outW k V = s2 → outE k V = e2 → (!decide (e2 = 0)) = false → PCall Try.prog 10 [.str s2] fun r => r = [.int .i64 k] := fun h1 h2 h3 => by
   have := (hcan hEz (hc0 h1 h2 h3)).1
   rw [h1] at this
   exact this
 have hrs : ∀ {k : Int} {s2 : ByteArray} {e2 : Int}, outW k V = s2 → outE k V = e2 → (!decide (e2 = 0)) = false → PCall Try.prog 9 [.str s2, .agg [.int .i64 a, .sl n1, .sl n2, .sl n3], .int .i64 i, .int .i64 op, .agg [.int .i64 xk, .int .i64 xn, .str xt]] fun r => r = [.bool true] := fun h1 h2 h3 => by
   have := (hcan hEz (hc0 h1 h2 h3)).2
   rw [h1] at this
   exact this
 have hlen : ∀ {k : Int} {s2 : ByteArray} {e2 x y : Int} {p : Prop}, outW k V = s2 → outE k V = e2 → (!decide (e2 = 0)) = false → (s2.size : Int) = x → (pO.size : Int) = y → decide (x < y) = true → p := by
   rintro k s2 e2 x y p rfl h2 h3 rfl rfl h4
   have := hpo hEz hl4 (hc0 rfl h2 h3)
   have := of_decide_eq_true h4
   omega
 have hno : ∀ {k e2 : Int}, 1 ≤ k → decide (k ≤ 4) = true → outE k V = e2 → (!decide (e2 = 0)) = true → k = 4 ∧ ¬ a = 1 := by
   rintro k e2 h1 h2 rfl h3
   have h4 : ¬ CanW k V := fun h => by
     rw [can_iff.2 h] at h3; cases h3
   obtain ⟨g1, g2⟩ := hnc hEz hl4 ⟨h1, of_decide_eq_true h2⟩ h4
   exact ⟨g1, by omega⟩
 clear hcan hrd hvf hp hbest hbest0 hnc hpo hg1 hb1 hz h0 h5 h6
 refine loopT (ι := Int) mixed tt_ok hcp hcc hlp [2, 3, 9, 11, 15] (fun k => [(16, .p (.int .i64 k))]) (fun _ => [.cells [.p (.int .i64 xk), .p (.int .i64 xn), .p (.str xt)], .cells [.p (.int .i64 a), .p (.sl n1), .p (.sl n2), .p (.sl n3)]]) (fun k => 1 ≤ k ∧ k ≤ 5) (fun k => (5 - k).toNat) 1 2 (fun _ => rfl) ⟨Int.le_refl _, by decide⟩ ⟨rfl, trivial⟩ rfl ?_
 rintro R k ⟨hk1, hk5⟩ hR
 replace hk1 : 1 ≤ k := hk1
 replace hk5 : k ≤ 5 := hk5
 have hgo : decide (k ≤ 4) = true → (1 ≤ k + 1 ∧ k + 1 ≤ 5) ∧ (5 - (k + 1)).toNat < (5 - k).toNat ∧ IntKind.i64.wrap (k + 1) = k + 1 := by
   intro h
   have := of_decide_eq_true h
   exact ⟨by omega, by omega, wrap_in (by omega)⟩
 have hwk := hw k
 repeat' (first
   | (with_reducible refine Nm.mk ?_; intro z hz)
   | (with_reducible refine IfB.mk ?_ ?_ <;> (intro h; cases h))
   | (with_reducible refine Two.l ?_; refine Asm.mk ?_ ?_; focus (decide +kernel))
   | (with_reducible refine Two.r ?_)
   | (with_reducible refine TwoT.r ?_)
   | (with_reducible refine TwoU.r ?_)
   | (with_reducible refine Asm.mk ?_ ?_; focus (first | kernel_rfl | decide))
   | (with_reducible refine isCP hcp ?_; first | (refine wrP hcp (hwk) ?_; intro s2 e2 hs2 he2) | (refine xP hcp (hsch hs2 he2 (by assumption)) ?_; skip) | (refine xP hcp (hrs hs2 he2 (by assumption)) ?_; skip))
   | (with_reducible refine isCC hcc ?_; first | (refine wrA hcc (hwk) rfl ?_; intro s2 e2 hs2 he2) | (refine xA hcc (hsch hs2 he2 (by assumption)) rfl ?_; skip) | (refine xA hcc (hrs hs2 he2 (by assumption)) rfl ?_; skip))
   | (with_reducible refine Asm.mk2 ?_ ?_)
   | ((fail_if_success (with_reducible first | refine hQ _ ?_ | refine Side.mk ?_ | refine isCP hcp ?_ | refine isCC hcc ?_ | refine isLP hlp ?_ | refine Ix.mk ?_ | refine SIx.mk ?_ | refine SEx.mk ?_ | refine EIx.mk ?_ | refine RIx.mk ?_ | refine LkX.mk ?_ | show False | refine hR ?_ _ ?_ ?_ ?_ ?_ ?_ | refine hR2 ?_ _ ?_ ?_ ?_ ?_ ?_)); cbv))
 · have := (hno hk1 (by assumption) he2 (by assumption)).1
   rw [decide_eq_true this] at hz
   cases hz
 · exact absurd (of_decide_eq_true hz) (hno hk1 (by assumption) he2 (by assumption)).2
 · obtain ⟨g1, g2, g3⟩ := hgo (by assumption)
   rw [g3] at hz
   subst hz
   exact hR (k + 1) _ g1 g2 ⟨rfl, trivial⟩ ⟨rfl, rfl, rfl, rfl, rfl, trivial⟩ rfl
 · exact hlen hs2 he2 (by assumption) (by assumption) (by assumption) hz
 · exfalso; simp at hz
 · exact absurd hz (by decide)
 · obtain ⟨g1, g2, g3⟩ := hgo (by assumption)
   rw [g3] at hz
   subst hz
   exact hR (k + 1) _ g1 g2 ⟨rfl, trivial⟩ ⟨rfl, rfl, rfl, rfl, rfl, trivial⟩ rfl
 · exact hQ _ rfl
theorem packBack_law {k0 k1 k2 k3 k4 : Nat} {x0 x1 x2 x3 x4 : PV} (f0 : FitsA Try.prog k0 3 x0) (f1 : FitsA Try.prog k1 22 x1) (f2 : FitsA Try.prog k2 3 x2) (f3 : FitsA Try.prog k3 3 x3) (f4 : FitsA Try.prog k4 24 x4) : PCall Try.prog 3 [x0, x1, x2, x3, x4] fun r => r = [.bool true] := by
 obtain ⟨a, rfl, _⟩ := fits3 f0
 obtain ⟨l, rfl, h1, h2⟩ := fits29 f1
 obtain ⟨b, rfl, _⟩ := fits3 f2
 obtain ⟨c, rfl, _⟩ := fits3 f3
 obtain ⟨k, m, s, rfl, _⟩ := fits25 f4
 refine packBack_c a l h1 (fun v hv => ?_) b c k m s
 have := (h2 v hv).2.1
 simp only [Lit.wf, Bool.and_eq_true, decide_eq_true_eq] at this
 exact this
end Go.Proofs.Ytcajncmjlmpkgaa
