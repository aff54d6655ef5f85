/- Values without a heap ('PV', 'AV'), how they stand to the model's values and worlds, and that this only grows. Own work; no condition. -/
import Derived.WalkKit
import Derived.Deep.LoopGhost
namespace Go.Proofs.Ytcajncmjlmpkgaa
open Go Go.RowKit
inductive PV where
 | bool (b : Bool)
 | int (k : IntKind) (n : Int)
 | str (s : ByteArray)
 | nilp
 | ip (cs : List PV)
 | sl (es : List (List PV))
 | agg (cs : List PV)
 | nilf
 | nili
 | nilm
 | fn (f : FuncId) (caps : List PV)
 deriving Inhabited
abbrev Mem := Nat → Nat → Option Value
inductive RP (m : Mem) : PV → Value → Prop
 | bool (b : Bool) : RP m (.bool b) (.bool b)
 | int (k : IntKind) (n : Int) : RP m (.int k n) (.int k n)
 | str (s : ByteArray) : RP m (.str s) (.string s)
 | nilp : RP m .nilp (.pointer none)
 | ip (cs : List PV) (b o : Nat) (vs : Nat → Value) (hm : ∀ i, i < cs.length → m b (o + i) = some (vs i)) (hr : ∀ i c, cs[i]? = some c → RP m c (vs i)) :
     RP m (.ip cs) (.pointer (some ⟨b, o, none⟩))
 | sl0 (a : Option Addr) (cap : Nat) (hc : cap ≤ maxLen) : RP m (.sl []) (.slice a 0 cap)
 | sl (es : List (List PV)) (size b o len cap : Nat) (vs : Nat → Nat → Value) (hlen : es.length = len) (hcap : len ≤ cap) (hmax : cap ≤ maxLen)
     (hsz : ∀ e, e ∈ es → e.length = size) (hm : ∀ i e j, es[i]? = some e → j < e.length → m b (o + i * size + j) = some (vs i j))
     (hr : ∀ i e j c, es[i]? = some e → e[j]? = some c → RP m c (vs i j)) : RP m (.sl es) (.slice (some ⟨b, o, none⟩) len cap)
 | agg (cs : List PV) (vs : Array Value) (hl : vs.size = cs.length) (hr : ∀ (i : Nat) c v, cs[i]? = some c → vs[i]? = some v → RP m c v) : RP m (.agg cs) (.agg vs)
 | nilf : RP m .nilf .nilFunc
 | nili : RP m .nili .nilIface
 | nilm : RP m .nilm (.map none)
 | fn (f : FuncId) (caps : List PV) (vs : Array Value) (hl : vs.size = caps.length) (hr : ∀ (i : Nat) c v, caps[i]? = some c → vs[i]? = some v → RP m c v) : RP m (.fn f caps) (.func (.func f) #[] vs)
theorem RP.mono {m m' : Mem} (h : ∀ b o v, m b o = some v → m' b o = some v) {x : PV} {v : Value} (r : RP m x v) : RP m' x v := by
 induction r with
 | bool b => exact .bool b
 | int k n => exact .int k n
 | str s => exact .str s
 | nilp => exact .nilp
 | ip cs b o vs hm hr ih => exact .ip cs b o vs (fun i hi => h _ _ _ (hm i hi)) ih
 | sl0 a cap hc => exact .sl0 a cap hc
 | sl es size b o len cap vs hlen hcap hmax hsz hm hr ih => exact .sl es size b o len cap vs hlen hcap hmax hsz (fun i e j hi hj => h _ _ _ (hm i e j hi hj)) ih
 | agg cs vs hl hr ih => exact .agg cs vs hl ih
 | nilf => exact .nilf
 | nili => exact .nili
 | nilm => exact .nilm
 | fn f caps vs hl hr ih => exact .fn f caps vs hl ih
inductive AV where
 | p (x : PV)
 | ref (id off : Nat)
 | tok (id : Nat) (es : List (List PV))
 | ms (id n : Nat)
 | fn (f : FuncId) (caps : List AV)
 | full (es : List (List PV))
 | agg (cs : List AV)
 | tup (vs : List AV)
 | un
 | vec (id g size lo n : Nat)
 | vref (id g off : Nat)
 | rvec (id g n : Nat)
 | rref (id g i : Nat)
 | rtok (id k i : Nat) (l : List (List PV))
 | nils (n : Nat)
 | mp (id : Nat)
 | ifc (t : Nat) (x : PV)
 | die (t : Nat) (x : PV)
 deriving Inhabited
inductive GO where
 | box (b : Nat)
 | tok (c : Nat) (u : Value) (own : Option Nat)
 | fam (c : Nat) (u : Value) (own : Option Nat) (k : Nat) (cv : Nat → Value) (sub : Nat → Option Nat)
def GO.has : GO → Nat → Prop
 | .box b, x => b = x
 | .tok _ _ o, x => o = some x
 | .fam _ _ o _ _ s, x => o = some x ∨ ∃ i, s i = some x
def subV (u : Value) (size lo n : Nat) (v : Value) : Prop :=
 ∃ a cap a', u = .slice a cap cap ∧ cap ≤ maxLen ∧ lo + n ≤ cap ∧ v = .slice a' n (cap - lo) ∧ (lo < cap → ∃ b, a = some ⟨b, 0, none⟩ ∧ a' = some ⟨b, lo * size, none⟩)
def refV (u : Value) (off : Nat) (v : Value) : Prop := ∃ b cap, u = .slice (some ⟨b, 0, none⟩) cap cap ∧ v = .pointer (some ⟨b, off, none⟩)
structure Ghost where
 mem : Mem
 obj : Nat → Option GO
inductive RV (G : Ghost) : AV → Value → Prop
 | p {x : PV} {v : Value} (h : RP G.mem x v) : RV G (.p x) v
 | ref {id b : Nat} (off : Nat) (h : G.obj id = some (.box b)) : RV G (.ref id off) (.pointer (some ⟨b, off, none⟩))
 | tok {id c : Nat} {es : List (List PV)} {u v : Value} {own : Option Nat} (h : RP G.mem (.sl es) v) (ho : G.obj id = some (.tok c u own)) (hle : es.length ≤ c) (he : c = es.length → v = u) : RV G (.tok id es) v
 | ms {id b n cap : Nat} (h : G.obj id = some (.box b)) (hn : cap ≤ maxLen) (hc : n ≤ cap) : RV G (.ms id n) (.slice (some ⟨b, 0, none⟩) n cap)
 | fn {f : FuncId} {caps : List AV} {vs : Array Value} (hl : vs.size = caps.length) (hr : ∀ (i : Nat) c v, caps[i]? = some c → vs[i]? = some v → RV G c v) : RV G (.fn f caps) (.func (.func f) #[] vs)
 | full {es : List (List PV)} {a : Option Addr} {n : Nat} (h : RP G.mem (.sl es) (.slice a n n)) : RV G (.full es) (.slice a n n)
 | agg {cs : List AV} {vs : Array Value} (hl : vs.size = cs.length) (hr : ∀ (i : Nat) c v, cs[i]? = some c → vs[i]? = some v → RV G c v) : RV G (.agg cs) (.agg vs)
 | tup {cs : List AV} {vs : Array Value} (hl : vs.size = cs.length) (hr : ∀ (i : Nat) c v, cs[i]? = some c → vs[i]? = some v → RV G c v) : RV G (.tup cs) (.tuple vs)
 | un (v : Value) : RV G .un v
 | vec {id g size lo n c : Nat} {u v : Value} {own : Option Nat} (ho : G.obj id = some (.tok c u own)) (hg : g ≤ c) (hs : ∃ a k, v = .slice a n k ∧ n ≤ k) (hv : c = g → subV u size lo n v) : RV G (.vec id g size lo n) v
 | vref {id g off c : Nat} {u v : Value} {own : Option Nat} (ho : G.obj id = some (.tok c u own)) (hg : g ≤ c) (hs : ∃ a, v = .pointer (some a)) (hv : c = g → refV u off v) : RV G (.vref id g off) v
 | rvec {id g n c k : Nat} {u v : Value} {own : Option Nat} {cv : Nat → Value} {sub : Nat → Option Nat} (ho : G.obj id = some (.fam c u own k cv sub)) (hg : g ≤ c) (hs : ∃ a k, v = .slice a n k) (hv : c = g → subV u 1 0 n v) : RV G (.rvec id g n) v
 | rref {id g i c k : Nat} {u v : Value} {own : Option Nat} {cv : Nat → Value} {sub : Nat → Option Nat} (ho : G.obj id = some (.fam c u own k cv sub)) (hg : g ≤ c) (hs : ∃ a, v = .pointer (some a)) (hv : c = g → refV u i v) : RV G (.rref id g i) v
 | rtok {id k i c k' : Nat} {u v : Value} {l : List (List PV)} {own : Option Nat} {cv : Nat → Value} {sub : Nat → Option Nat} (hp : RP G.mem (.sl l) v) (ho : G.obj id = some (.fam c u own k' cv sub)) (hk : k ≤ k') (hv : k' = k → cv i = v) : RV G (.rtok id k i l) v
 | nils {n : Nat} {v : Value} (h : ∃ b, v = .slice (some ⟨b, 0, none⟩) n n ∧ n ≤ maxLen ∧ ∀ i, i < n → G.mem b i = some (.slice none 0 0)) : RV G (.nils n) v
 | mp {id b : Nat} (h : G.obj id = some (.box b)) : RV G (.mp id) (.map (some b))
 | ifc {t : Nat} {x : PV} {v : Value} (h : RP G.mem x v) : RV G (.ifc t x) (.iface t v)
structure GExt (G G' : Ghost) : Prop where
 mem : ∀ b o v, G.mem b o = some v → G'.mem b o = some v
 box : ∀ id b, G.obj id = some (.box b) → G'.obj id = some (.box b)
 tok : ∀ id c u o, G.obj id = some (.tok c u o) → ∃ c' u' o', G'.obj id = some (.tok c' u' o') ∧ c ≤ c' ∧ (c' = c → u' = u)
 fam : ∀ id c u o k cv s, G.obj id = some (.fam c u o k cv s) → ∃ c' u' o' k' cv' s', G'.obj id = some (.fam c' u' o' k' cv' s') ∧ c ≤ c' ∧ (c' = c → u' = u) ∧ k ≤ k' ∧ (k' = k → cv' = cv)
theorem GExt.refl (G : Ghost) : GExt G G := ⟨fun _ _ _ h => h, fun _ _ h => h, fun _ c u o h => ⟨c, u, o, h, Nat.le_refl _, fun _ => rfl⟩, fun _ c u o k cv s h => ⟨c, u, o, k, cv, s, h, Nat.le_refl _, fun _ => rfl, Nat.le_refl _, fun _ => rfl⟩⟩
theorem GExt.trans {a b c : Ghost} (h : GExt a b) (k : GExt b c) : GExt a c :=
 ⟨fun x o v hx => k.mem x o v (h.mem x o v hx), fun i x hx => k.box i x (h.box i x hx), fun i n u o hx => by
   obtain ⟨n1, u1, o1, h1, hle, he⟩ := h.tok i n u o hx
   obtain ⟨n2, u2, o2, h2, hle2, he2⟩ := k.tok i n1 u1 o1 h1
   exact ⟨n2, u2, o2, h2, by omega, fun e => by rw [he2 (by omega), he (by omega)]⟩, fun i n u o q cv s hx => by
   obtain ⟨n1, u1, o1, q1, cv1, s1, h1, hle, he, hq, hcv⟩ := h.fam i n u o q cv s hx
   obtain ⟨n2, u2, o2, q2, cv2, s2, h2, hle2, he2, hq2, hcv2⟩ := k.fam i n1 u1 o1 q1 cv1 s1 h1
   exact ⟨n2, u2, o2, q2, cv2, s2, h2, by omega, fun e => by rw [he2 (by omega), he (by omega)], by omega, fun e => by rw [hcv2 (by omega), hcv (by omega)]⟩⟩
theorem RV.mono {G G' : Ghost} (h : GExt G G') {x : AV} {v : Value} (r : RV G x v) : RV G' x v := by
 induction r with
 | p hp => exact .p (hp.mono h.mem)
 | ref off ho => exact .ref off (h.box _ _ ho)
 | tok hp ho hle he =>
   obtain ⟨c', u', o', h1, h2, h3⟩ := h.tok _ _ _ _ ho
   exact .tok (hp.mono h.mem) h1 (by omega) (fun e => by rw [h3 (by omega)]; exact he (by omega))
 | ms ho hn hc => exact .ms (h.box _ _ ho) hn hc
 | fn hl hr ih => exact .fn hl ih
 | full hp => exact .full (hp.mono h.mem)
 | agg hl hr ih => exact .agg hl ih
 | tup hl hr ih => exact .tup hl ih
 | un v => exact .un v
 | vec ho hg hs hv =>
   obtain ⟨c', u', o', h1, h2, h3⟩ := h.tok _ _ _ _ ho
   exact .vec h1 (by omega) hs (fun e => by rw [h3 (by omega)]; exact hv (by omega))
 | vref ho hg hs hv =>
   obtain ⟨c', u', o', h1, h2, h3⟩ := h.tok _ _ _ _ ho
   exact .vref h1 (by omega) hs (fun e => by rw [h3 (by omega)]; exact hv (by omega))
 | rvec ho hg hs hv =>
   obtain ⟨c', u', o', k', cv', s', h1, h2, h3, _⟩ := h.fam _ _ _ _ _ _ _ ho
   exact .rvec h1 (by omega) hs (fun e => by rw [h3 (by omega)]; exact hv (by omega))
 | rref ho hg hs hv =>
   obtain ⟨c', u', o', k', cv', s', h1, h2, h3, _⟩ := h.fam _ _ _ _ _ _ _ ho
   exact .rref h1 (by omega) hs (fun e => by rw [h3 (by omega)]; exact hv (by omega))
 | rtok hp ho hk hv =>
   obtain ⟨c', u', o', k', cv', s', h1, h2, h3, h4, h5⟩ := h.fam _ _ _ _ _ _ _ ho
   exact .rtok (hp.mono h.mem) h1 (by omega) (fun e => by rw [h5 (by omega)]; exact hv (by omega))
 | nils hn => obtain ⟨b, h1, h2, h3⟩ := hn; exact .nils ⟨b, h1, h2, fun i hi => h.mem _ _ _ (h3 i hi)⟩
 | mp ho => exact .mp (h.box _ _ ho)
 | ifc hp => exact .ifc (hp.mono h.mem)
def AV.dead : AV → Bool
 | .die _ _ => true
 | _ => false
theorem RV.alive {G : Ghost} {x : AV} {v : Value} (r : RV G x v) : x.dead = false := by cases r <;> rfl
def dieE (t : TypeId) (v : Value) : List PanicEntry := [{ v := .iface t v, recovered := false }]
inductive Ends (G : Ghost) : AV → Ending → Prop
 | ret {r : AV} {v : Value} (h : RV G r v) : Ends G r (.returned v)
 | die {t : TypeId} {x : PV} {v : Value} (h : RP G.mem x v) : Ends G (.die t x) (.panicked (dieE t v))
theorem Ends.alive {G : Ghost} {r : AV} {e : Ending} (h : Ends G r e) (hd : r.dead = false) : ∃ v, e = .returned v ∧ RV G r v := by
 cases h with
 | ret hr => exact ⟨_, rfl, hr⟩
 | die hp => cases hd
theorem Ends.mono {G G' : Ghost} (h : GExt G G') {r : AV} {e : Ending} (k : Ends G r e) : Ends G' r e := by
 cases k with
 | ret hr => exact .ret (hr.mono h)
 | die hp => exact .die (hp.mono h.mem)
inductive AObj where
 | cells (cs : List AV)
 | spare (n size : Nat)
 | gone
 | elts (es : List (List PV)) (size : Nat)
 | vec (g : Nat) (es : List (List PV)) (size : Nat)
 | rvec (g k : Nat) (ls : List (List (List PV))) (size : Nat)
 | rhole (g k : Nat) (ls : List (List (List PV))) (size i : Nat)
 | map (es : List (PV × PV))
structure AS where
 T : List (Nat × AV)
 H : List AObj
def elC (es : List (List PV)) (k : Nat) : List AV := es.flatten.map AV.p ++ List.replicate k .un
theorem elC_get {es : List (List PV)} {k i : Nat} {c : AV} (h : (elC es k)[i]? = some c) : (∃ y, c = .p y) ∨ c = .un := by
 unfold elC at h
 rcases List.mem_append.1 (List.mem_of_getElem? h) with g | g
 · obtain ⟨y, _, rfl⟩ := List.mem_map.1 g; exact .inl ⟨y, rfl⟩
 · exact .inr (List.mem_replicate.1 g).2
def RowR (G : Ghost) (w : World) (a : Option Addr) (n cap size : Nat) (own : Option Nat) (cell : Nat → Value → Prop) : Prop :=
 n ≤ cap ∧ cap ≤ maxLen ∧ ((own = none ∧ cap = 0) ∨ ∃ b arr t, own = some b ∧ a = some ⟨b, 0, none⟩ ∧ w.heap[b]? = some (.cells arr t (0, 0)) ∧ arr.size = cap * size ∧ (∀ (i : Nat) v, arr[i]? = some v → cell i v) ∧ ∀ o, G.mem b o = none)
def OwnR (G : Ghost) (w : World) (l : List (List PV)) (size : Nat) (own : Option Nat) (v : Value) : Prop :=
 RP G.mem (.sl l) v ∧ ((own = none ∧ ∃ a, v = .slice a l.length l.length) ∨
   ∃ b arr t cap, own = some b ∧ v = .slice (some ⟨b, 0, none⟩) l.length cap ∧ w.heap[b]? = some (.cells arr t (0, 0)) ∧ l.length ≤ cap ∧ cap ≤ maxLen ∧ arr.size = cap * size ∧ ∀ o, l.length * size ≤ o → G.mem b o = none)
def FamR (G : Ghost) (w : World) (id g k : Nat) (ls : List (List (List PV))) (size : Nat) (h : Option Nat) : Prop :=
 ∃ a cap own cv sub, G.obj id = some (.fam g (.slice a cap cap) own k cv sub) ∧
   RowR G w a ls.length cap 1 own (fun i v => i < ls.length → h ≠ some i → v = cv i) ∧ (∀ i l, ls[i]? = some l → OwnR G w l size (sub i) (cv i)) ∧
   (∀ i j b, sub i = some b → sub j = some b → i = j) ∧ (∀ i b, sub i = some b → own ≠ some b) ∧ (∀ i, ls.length ≤ i → sub i = none)
def ObjR (G : Ghost) (w : World) (id : Nat) : AObj → Prop
 | .cells cs => ∃ b arr t, G.obj id = some (.box b) ∧ w.heap[b]? = some (.cells arr t (0, 0)) ∧ arr.size = cs.length ∧
     (∀ (i : Nat) c v, cs[i]? = some c → arr[i]? = some v → RV G c v) ∧ ∀ o, G.mem b o = none
 | .spare n size => ∃ u own, G.obj id = some (.tok n u own) ∧ ((own = none ∧ ∃ a, u = .slice a n n) ∨
     ∃ b arr t cap, own = some b ∧ u = .slice (some ⟨b, 0, none⟩) n cap ∧ w.heap[b]? = some (.cells arr t (0, 0)) ∧ n ≤ cap ∧ cap ≤ maxLen ∧ arr.size = cap * size ∧ ∀ o, n * size ≤ o → G.mem b o = none)
 | .gone => True
 | .elts es size => (∀ e, e ∈ es → e.length = size) ∧ ∃ k b arr t, G.obj id = some (.box b) ∧ w.heap[b]? = some (.cells arr t (0, 0)) ∧ arr.size = (elC es k).length ∧
     (∀ (i : Nat) c v, (elC es k)[i]? = some c → arr[i]? = some v → RV G c v) ∧ ∀ o, G.mem b o = none
 | .vec g es size => (∀ e, e ∈ es → e.length = size) ∧ ∃ a cap own, G.obj id = some (.tok g (.slice a cap cap) own) ∧ RowR G w a es.length cap size own (fun i v => ∀ c, es.flatten[i]? = some c → RP G.mem c v)
 | .rvec g k ls size => FamR G w id g k ls size none
 | .rhole g k ls size i => FamR G w id g k ls size (some i)
 | .map es => ∃ b ms clk, G.obj id = some (.box b) ∧ w.heap[b]? = some (.map ms clk) ∧ ms.size = es.length ∧
     (∀ (i : Nat) e x, es[i]? = some e → ms[i]? = some x → RP G.mem e.1 x.key ∧ RP G.mem e.2 x.val) ∧ ∀ o, G.mem b o = none
structure Base where
 w : World
 m : Mem
 pr : Nat → Option (Obj × (Nat → Option Value))
structure WR (B : Base) (G : Ghost) (H : List AObj) (w : World) : Prop where
 below : Below B.w.heap.size B.w w
 mem : ∀ b o v, G.mem b o = some v → w.cell? ⟨b, o, none⟩ = some v
 news : ∀ b o v, G.mem b o = some v → B.m b o = some v ∨ B.w.heap.size ≤ b
 olds : ∀ b o v, B.m b o = some v → G.mem b o = some v
 objs : ∀ id x, H[id]? = some x → ObjR G w id x
 sep : ∀ i j x y b, G.obj i = some x → G.obj j = some y → x.has b → y.has b → i = j
 fresh : ∀ i x b, G.obj i = some x → x.has b → B.w.heap.size ≤ b ∧ b < w.heap.size
 dom : ∀ id, H.length ≤ id → G.obj id = none
 keep : ∀ b x f, B.pr b = some (x, f) → w.heap[b]? = some x ∧ G.mem b = f
 apart : ∀ i x b, G.obj i = some x → x.has b → B.pr b = none
def look (l : List (Nat × AV)) (t : Nat) : Option AV :=
 match l with
 | [] => none
 | (k, x) :: r => if k = t then some x else look r t
structure NT where
 n : Nat
 d : List Deferred
instance : Coe NT Nat := ⟨NT.n⟩
structure TR (nt : NT) (G : Ghost) (T : List (Nat × AV)) (a : Act) : Prop where
 size : a.tmps.size = nt.n
 defers : a.defers = nt.d
 slots : ∀ t x, look T t = some x → ∃ v, a.tmps[t]? = some v ∧ RV G x v
theorem TR.mono {nt : NT} {G G' : Ghost} {T : List (Nat × AV)} {a : Act} (h : TR nt G T a) (e : GExt G G') : TR nt G' T a :=
 ⟨h.size, h.defers, fun t x hx => let ⟨v, h1, h2⟩ := h.slots t x hx; ⟨v, h1, h2.mono e⟩⟩
def putT (T : List (Nat × AV)) : Option Nat → AV → List (Nat × AV)
 | none, _ => T
 | some d, x => (d, x) :: T
theorem TR.put {nt : NT} {G : Ghost} {T : List (Nat × AV)} {a : Act} (h : TR nt G T a) (d : Option Nat) (x : AV) (v : Value) (hd : ∀ t, d = some t → t < nt) (r : RV G x v) : TR nt G (putT T d x) (a.put d v) := by
 cases d with
 | none => exact h
 | some d =>
   have hlt := hd d rfl
   refine ⟨by simpa [Act.put] using h.size, by simpa [Act.put] using h.defers, fun t y hy => ?_⟩
   simp only [putT, look] at hy
   by_cases e : d = t
   · subst e
     simp only [if_true, Option.some.injEq] at hy
     subst hy
     exact ⟨v, by simp [Act.put, h.size, hlt], r⟩
   · simp only [e, if_false] at hy
     obtain ⟨u, h1, h2⟩ := h.slots t y hy
     exact ⟨u, by simp [Act.put, e, h1], h2⟩
theorem cell?_lt {w : World} {a : Addr} {v : Value} (h : w.cell? a = some v) : a.block < w.heap.size := World.block_lt_of_cell? w a h
theorem cell?_alloc {w : World} {o : Obj} {a : Addr} {v : Value} (h : w.cell? a = some v) : (w.alloc o).cell? a = some v := by
 rw [← h]; exact World.cell?_of_block (Below.heap_alloc w o a.block (cell?_lt h))
theorem heap_lt {w : World} {b : Nat} {o : Obj} (h : w.heap[b]? = some o) : b < w.heap.size := by
 rcases Nat.lt_or_ge b w.heap.size with g | g
 · exact g
 · simp [Array.getElem?_eq_none g] at h
theorem WR.pr_lt {B : Base} {G : Ghost} {H : List AObj} {w : World} (h : WR B G H w) {b : Nat} {y : Obj × (Nat → Option Value)} (hb : B.pr b = some y) : b < w.heap.size := heap_lt (h.keep b y.1 y.2 hb).1
theorem WR.pr_new {B : Base} {G : Ghost} {H : List AObj} {w : World} (h : WR B G H w) : B.pr w.heap.size = none := by
 cases hb : B.pr w.heap.size with
 | none => rfl
 | some y => exact absurd (h.pr_lt hb) (Nat.lt_irrefl _)
theorem RowR.keep {G G' : Ghost} {w w' : World} {a : Option Addr} {n cap size : Nat} {own : Option Nat} {cell cell' : Nat → Value → Prop} (h : RowR G w a n cap size own cell) (hb : ∀ b, own = some b → w'.heap[b]? = w.heap[b]?) (hm : ∀ b o, own = some b → G'.mem b o = G.mem b o) (hc : ∀ i v, cell i v → cell' i v) : RowR G' w' a n cap size own cell' := by
 obtain ⟨h1, h2, h3⟩ := h
 refine ⟨h1, h2, ?_⟩
 rcases h3 with h3 | ⟨b, arr, t, rfl, k1, k2, k3, k4, k5⟩
 · exact .inl h3
 · exact .inr ⟨b, arr, t, rfl, k1, by rw [hb b rfl]; exact k2, k3, fun i v hv => hc i v (k4 i v hv), fun o => by rw [hm b o rfl]; exact k5 o⟩
theorem OwnR.keep {G G' : Ghost} {w w' : World} {l : List (List PV)} {size : Nat} {own : Option Nat} {v : Value} (h : OwnR G w l size own v) (e : ∀ b o v, G.mem b o = some v → G'.mem b o = some v) (hb : ∀ b, own = some b → w'.heap[b]? = w.heap[b]?) (hm : ∀ b o, own = some b → G'.mem b o = G.mem b o) : OwnR G' w' l size own v := by
 obtain ⟨h1, h2⟩ := h
 refine ⟨h1.mono e, ?_⟩
 rcases h2 with h2 | ⟨b, arr, t, cap, rfl, h2, h3, h4, h5, h6, h7⟩
 · exact .inl h2
 · exact .inr ⟨b, arr, t, cap, rfl, h2, by rw [hb b rfl]; exact h3, h4, h5, h6, fun o ho => by rw [hm b o rfl]; exact h7 o ho⟩
theorem FamR.keep {G G' : Ghost} {w w' : World} {id g k : Nat} {ls : List (List (List PV))} {size : Nat} {hl : Option Nat} (h : FamR G w id g k ls size hl) (e : GExt G G')
   (ho : G'.obj id = G.obj id) (hb : ∀ g b, G.obj id = some g → g.has b → w'.heap[b]? = w.heap[b]?) (hm : ∀ g b o, G.obj id = some g → g.has b → G'.mem b o = G.mem b o) : FamR G' w' id g k ls size hl := by
 obtain ⟨a, cap, own, cv, sub, h1, h2, h3, h4⟩ := h
 refine ⟨a, cap, own, cv, sub, by rw [ho]; exact h1, h2.keep (fun b hb' => hb _ b h1 (.inl hb')) (fun b o hb' => hm _ b o h1 (.inl hb')) (fun i v hv => hv), fun i l hl => (h3 i l hl).keep e.mem (fun b hb' => hb _ b h1 (.inr ⟨i, hb'⟩)) (fun b o hb' => hm _ b o h1 (.inr ⟨i, hb'⟩)), h4⟩
theorem ObjR.keep {G G' : Ghost} {w w' : World} {id : Nat} {x : AObj} (h : ObjR G w id x) (e : GExt G G')
   (ho : G'.obj id = G.obj id) (hb : ∀ g b, G.obj id = some g → g.has b → w'.heap[b]? = w.heap[b]?) (hm : ∀ g b o, G.obj id = some g → g.has b → G'.mem b o = G.mem b o) : ObjR G' w' id x := by
 cases x with
 | cells cs =>
   obtain ⟨b, arr, t, h1, h2, h3, h4, h5⟩ := h
   exact ⟨b, arr, t, by rw [ho]; exact h1, by rw [hb _ b h1 rfl]; exact h2, h3, fun i c v hc hv => (h4 i c v hc hv).mono e, fun o => by rw [hm _ b o h1 rfl]; exact h5 o⟩
 | spare n size =>
   obtain ⟨u, own, h1, h2⟩ := h
   refine ⟨u, own, by rw [ho]; exact h1, ?_⟩
   rcases h2 with h2 | ⟨b, arr, t, cap, rfl, h2, h3, h4, h5, h6, h7⟩
   · exact .inl h2
   · exact .inr ⟨b, arr, t, cap, rfl, h2, by rw [hb _ b h1 rfl]; exact h3, h4, h5, h6, fun o ho' => by rw [hm _ b o h1 rfl]; exact h7 o ho'⟩
 | gone => trivial
 | elts es size =>
   obtain ⟨h0, k, b, arr, t, h1, h2, h3, h4, h5⟩ := h
   exact ⟨h0, k, b, arr, t, by rw [ho]; exact h1, by rw [hb _ b h1 rfl]; exact h2, h3, fun i c v hc hv => (h4 i c v hc hv).mono e, fun o => by rw [hm _ b o h1 rfl]; exact h5 o⟩
 | vec g es size =>
   obtain ⟨h0, a, cap, own, h1, h2⟩ := h
   exact ⟨h0, a, cap, own, by rw [ho]; exact h1, h2.keep (fun b hb' => hb _ b h1 hb') (fun b o hb' => hm _ b o h1 hb') (fun i v hv c hc => (hv c hc).mono e.mem)⟩
 | rvec g k ls size => exact FamR.keep h e ho hb hm
 | rhole g k ls size i => exact FamR.keep h e ho hb hm
 | map es =>
   obtain ⟨b, ms, clk, h1, h2, h3, h4, h5⟩ := h
   exact ⟨b, ms, clk, by rw [ho]; exact h1, by rw [hb _ b h1 rfl]; exact h2, h3, fun i y x hy hx => ⟨(h4 i y x hy hx).1.mono e.mem, (h4 i y x hy hx).2.mono e.mem⟩, fun o => by rw [hm _ b o h1 rfl]; exact h5 o⟩
theorem WR.newMem {B : Base} {G : Ghost} {H : List AObj} {w : World} (h : WR B G H w) (arr : Array Value) (t : TypeId) :
   WR B { G with mem := fun b o => if b = w.heap.size then arr[o]? else G.mem b o } H (w.alloc (.cells arr t)) ∧
   GExt G { G with mem := fun b o => if b = w.heap.size then arr[o]? else G.mem b o } := by
 have hmem : ∀ b o v, G.mem b o = some v → b < w.heap.size := fun b o v hv => cell?_lt (h.mem b o v hv)
 have hext : GExt G { G with mem := fun b o => if b = w.heap.size then arr[o]? else G.mem b o } :=
   ⟨fun b o v hv => by have := hmem b o v hv; simp only; rw [if_neg (by omega)]; exact hv, fun _ _ h => h, fun _ c u o h => ⟨c, u, o, h, Nat.le_refl _, fun _ => rfl⟩, fun _ c u o k cv s h => ⟨c, u, o, k, cv, s, h, Nat.le_refl _, fun _ => rfl, Nat.le_refl _, fun _ => rfl⟩⟩
 have hle := h.below.size
 refine ⟨⟨h.below.alloc hle _, fun b o v hv => ?_, fun b o v hv => ?_, fun b o v hv => ?_, fun id x hx => ?_, h.sep, fun i x b hi hb => ?_, h.dom, fun b x f hb => ?_, h.apart⟩, hext⟩
 · simp only at hv
   split at hv
   · rename_i e; subst e
     rw [World.cell?_alloc_at _ _ _ _ rfl]; exact hv
   · exact cell?_alloc (h.mem b o v hv)
 · simp only at hv
   split at hv
   · rename_i e; subst e; exact .inr hle
   · exact h.news b o v hv
 · exact hext.mem b o v (h.olds b o v hv)
 · refine (h.objs id x hx).keep hext rfl (fun g b hg hb => ?_) (fun g b o hg hb => ?_)
   · exact Below.heap_alloc w _ b (h.fresh id g b hg hb).2
   · have := (h.fresh id g b hg hb).2
     simp only; rw [if_neg (by omega)]
 · have := h.fresh i x b hi hb
   exact ⟨this.1, by simp; omega⟩
 · have hlt := h.pr_lt hb
   obtain ⟨h1, h2⟩ := h.keep b x f hb
   refine ⟨by rw [Below.heap_alloc w _ b hlt]; exact h1, ?_⟩
   rw [← h2]; funext o
   simp only; rw [if_neg (by omega)]
theorem WR.newBox {B : Base} {G : Ghost} {H : List AObj} {w : World} (h : WR B G H w) (arr : Array Value) (t : TypeId) (cs : List AV) (hl : arr.size = cs.length)
   (hr : ∀ (i : Nat) c v, cs[i]? = some c → arr[i]? = some v → RV G c v) :
   WR B { G with obj := fun i => if i = H.length then some (.box w.heap.size) else G.obj i } (H ++ [.cells cs]) (w.alloc (.cells arr t)) ∧
   GExt G { G with obj := fun i => if i = H.length then some (.box w.heap.size) else G.obj i } := by
 have hdom := h.dom H.length (Nat.le_refl _)
 have hne : ∀ i x, G.obj i = some x → i ≠ H.length := fun i x hx e => by subst e; rw [hdom] at hx; cases hx
 have hext : GExt G { G with obj := fun i => if i = H.length then some (.box w.heap.size) else G.obj i } :=
   ⟨fun _ _ _ h => h, fun id b hb => by simp only; rw [if_neg (hne _ _ hb)]; exact hb,
     fun id c u o hc => ⟨c, u, o, by simp only; rw [if_neg (hne _ _ hc)]; exact hc, Nat.le_refl _, fun _ => rfl⟩, fun id c u o k cv s hc => ⟨c, u, o, k, cv, s, by simp only; rw [if_neg (hne _ _ hc)]; exact hc, Nat.le_refl _, fun _ => rfl, Nat.le_refl _, fun _ => rfl⟩⟩
 have hle := h.below.size
 refine ⟨⟨h.below.alloc hle _, fun b o v hv => cell?_alloc (h.mem b o v hv), h.news, h.olds, fun id x hx => ?_, fun i j x y b hi hj hx hy => ?_, fun i x b hi hb => ?_, fun id hid => ?_, fun b x f hb => ?_, fun i x b hi hb => ?_⟩, hext⟩
 · rcases Nat.lt_or_ge id H.length with hlt | hge
   · rw [List.getElem?_append_left hlt] at hx
     refine (h.objs id x hx).keep hext (by simp only; rw [if_neg (by omega)]) (fun g b hg hb => ?_) (fun _ _ _ _ _ => rfl)
     exact Below.heap_alloc w _ b (h.fresh id g b hg hb).2
   · rw [List.getElem?_append_right hge] at hx
     have e : id = H.length := by
       rcases Nat.eq_or_lt_of_le hge with e | e
       · exact e.symm
       · have : id - H.length = (id - H.length - 1) + 1 := by omega
         rw [this] at hx; simp at hx
     subst e
     simp at hx
     subst hx
     refine ⟨w.heap.size, arr, t, by simp, heap_alloc_new w _, hl, fun i c v hc hv => (hr i c v hc hv).mono hext, fun o => ?_⟩
     cases hv : G.mem w.heap.size o with
     | none => rfl
     | some v => have := cell?_lt (h.mem _ _ _ hv); simp at this
 · simp only at hi hj
   split at hi <;> split at hj
   · omega
   · simp at hi; subst hi; simp [GO.has] at hx; subst hx
     have := (h.fresh j y _ hj hy).2; omega
   · simp at hj; subst hj; simp [GO.has] at hy; subst hy
     have := (h.fresh i x _ hi hx).2; omega
   · exact h.sep i j x y b hi hj hx hy
 · simp only at hi
   split at hi
   · simp at hi; subst hi; simp [GO.has] at hb; subst hb
     exact ⟨hle, by simp⟩
   · have := h.fresh i x b hi hb
     exact ⟨this.1, by simp; omega⟩
 · simp at hid
   simp only; rw [if_neg (by omega)]; exact h.dom id (by omega)
 · obtain ⟨h1, h2⟩ := h.keep b x f hb
   exact ⟨by rw [Below.heap_alloc w _ b (h.pr_lt hb)]; exact h1, h2⟩
 · simp only at hi
   split at hi
   · simp at hi; subst hi; simp [GO.has] at hb; subst hb
     exact h.pr_new
   · exact h.apart i x b hi hb
end Go.Proofs.Ytcajncmjlmpkgaa
