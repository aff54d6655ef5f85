/- append: the operation. Own work; no condition. -/
import Derived.Test.YtaaocppaepnhbaaAbs9
namespace Go.Proofs.Ytaaocppaepnhbaa
open Go Go.RowKit

/-- The elements that are appended. -/
def srcV (tk : TK) (x : AV) : Option (List (List PV)) :=
  match tk with
  | .slice _ _ _ => elemsV x
  | .str => match x with
    | .p (.str s) => some (s.data.toList.map fun c => [.int .u8 c.toNat])
    | _ => none
  | _ => none

theorem srcV_ok {P : Program} {B : Base} {G : Ghost} {H : List AObj} {w : World} (wr : WR B G H w) {tk : TK} {x : AV} {v : Value} (r : RV G x v) {size : Nat} {xs : List (List PV)} (h : srcV tk x = some xs) (hok : okEs size xs = true) :
    ∃ news, Src P w size xs.length v news ∧ Flat G.mem size xs news := by
  unfold srcV at h
  split at h <;> try (cases h; done)
  · have rp := elemsV_ok r h
    obtain ⟨a, cap, rfl⟩ := rp.slice_len
    obtain ⟨_, _, _, vs, f, hk⟩ := rp.flat hok
    exact ⟨vs, ⟨by simp [Builtin.lenOf], firstCells_ok w wr.mem f.len hk, firstCells_ok w.drew wr.mem f.len hk⟩, f⟩
  · split at h <;> try (cases h; done)
    rename_i s
    simp only [Option.some.injEq] at h; subst h
    have e := p_str r
    subst e
    have hlen : s.data.toList.length = s.size := by rw [Array.length_toList]; rfl
    have hcells : ∀ w' : World, (Builtin.firstCells size s.size (.string s)).run P w' = .ok (s.data.toList.map fun c => Value.int .u8 c.toNat).toArray w' := by
      intro w'
      have : (s.extract 0 s.size) = s := by simp
      simp only [Builtin.firstCells, this, Sem.run_pure]
      congr 1
      apply Array.ext'; simp
    refine ⟨s.data.toList.map fun c => Value.int .u8 c.toNat, ⟨by rw [List.length_map, hlen]; rfl, ?_, ?_⟩, ⟨?_, ?_, ?_⟩⟩
    · rw [List.length_map, hlen]; exact hcells w
    · rw [List.length_map, hlen]; exact hcells w.drew
    · rcases hl : s.data.toList with _ | ⟨c, cs⟩
      · simp
      · have := (okEs_mem hok (e := [.int .u8 c.toNat]) (by rw [hl]; simp)).1
        simp at this; simp [← this]
    · intro i e j c hi hj
      rw [List.getElem?_map, Option.map_eq_some_iff] at hi
      obtain ⟨b, hb, rfl⟩ := hi
      have hs : (1 : Nat) = size := (okEs_mem hok (e := [.int .u8 b.toNat]) (List.mem_map.2 ⟨b, List.mem_of_getElem? hb, rfl⟩)).1
      cases j with
      | zero =>
        simp at hj; subst hj; subst hs
        exact ⟨_, by simp [hb], .int _ _⟩
      | succ j => simp at hj
    · intro v hv
      obtain ⟨c, _, rfl⟩ := List.mem_map.1 hv
      rfl

theorem okInt_of_str {P : Program} {t : TypeId} {ti : TI} (k : tinfo P t = some ti) {xs : List (List PV)} {x : AV} (h : srcV ti.kind x = some xs) : ∃ d, P.underlying t = some d ∧ ∀ q, d ≠ .int q := by
  obtain ⟨i, d, z, k⟩ := tinfo_ok k
  refine ⟨d, k.und, fun q e => ?_⟩
  subst e
  have := k.kind
  simp only [tkind] at this
  rw [← this] at h
  simp [srcV] at h

theorem append_grow {P : Program} {B : Base} {G : Ghost} {H H' : List AObj} {w : World} (wr : WR B G H w) {t xt ty e es eb : Nat} {ti ei : TI} (kt : tinfo P t = some ti) (kk : ti.kind = .slice e es eb) (hx : ∃ d, P.underlying xt = some d ∧ ∀ q, d ≠ .int q) (ke : tinfo P e = some ei)
    {a : Option Addr} {cap id : Nat} {l xs : List (List PV)} {xv : Value} (rl : RP G.mem (.sl l) (.slice a l.length cap)) {news : List Value} (src : Src P w es xs.length xv news) (fx : Flat G.mem es xs news)
    (okl : okEs es l = true) (okx : okEs es xs = true) (hmax : l.length + xs.length ≤ maxLen) (hb : (l.length + xs.length) * eb ≤ 140737488355328) (hgt : cap < l.length + xs.length)
    (hup : Upd H H' id (.spare (l.length + xs.length) es)) (hold : ∀ u, Older G id (l.length + xs.length) u) :
    ∃ v w' G', (Builtin.append_ #[t, xt] ty #[.slice a l.length cap, xv]).run P w = .ok v w' ∧ GExt G G' ∧ WR B G' H' w' ∧ RV G' (.tok id (l ++ xs)) v ∧ ∃ c u o m, G' = G.tok id c u o m := by
  obtain ⟨i, d, z, k⟩ := tinfo_ok kt
  obtain ⟨i', d', z', k'⟩ := tinfo_ok ke
  have hd := k.kind
  rw [kk] at hd
  cases d <;> simp only [tkind, reduceCtorEq, TK.slice.injEq] at hd
  rename_i et
  obtain ⟨he, hes, heb⟩ := hd
  subst he
  have hsize : i'.size = es := by rw [← hes]; simp [Program.cellsOf, k'.info]
  have hbytes : i'.bytes = eb := by rw [← heb]; simp [Program.bytesOf, k'.info]
  obtain ⟨_, _, _, olds, fl, hk⟩ := rl.flat okl
  have ho := firstCells_ok (P := P) w.drew wr.mem fl.len hk (len := l.length) (cap := cap)
  have hrun := run_append_grow' w t xt ty et i' z' k.und hx k'.info k'.zero (hsize ▸ src) (hsize ▸ ho) hgt (by simp only [maxLen] at hmax; omega) (by rw [hbytes]; exact growslice_fits hgt hb)
  have hge := grownCap_ge w (l.length + xs.length) cap et
  have hcm := grownCap_le_maxLen w (l.length + xs.length) cap et hmax
  have hzs : z'.cells.size = es := by rw [k'.zero_rv (G := G) |>.1, k'.zl, ← k'.size, hsize]
  have hasz : (olds ++ (news ++ (Builtin.zeroCells z'.cells (grownCap w (l.length + xs.length) cap et - (l.length + xs.length))).toList)).toArray.size = grownCap w (l.length + xs.length) cap et * es := by
    simp only [List.size_toArray, List.length_append, Array.length_toList, size_zeroCells, hzs, fl.len, fx.len, ← Nat.add_mul]
    congr 1; omega
  have wr' := wr.drew
  have g := wr'.tokGrow hup et (hold _) hge hcm hasz
  refine ⟨_, _, _, hrun, g.2, g.1, ?_, _, _, _, _, rfl⟩
  have fa := (fl.append fx).mono g.2.mem
  refine .tok (own := some w.heap.size) (RP.ofFlat fa (by rw [okEs_append, okl, okx]; rfl) (by simp) hge hcm (fun k v hv => ?_)) (Ghost.tok_obj _ _ _ _ _ _) (by rw [List.length_append]; exact Nat.le_refl _) (fun _ => rfl)
  have hlt := (List.getElem?_eq_some_iff.1 hv).1
  simp only [List.length_append, fl.len, fx.len, ← Nat.add_mul] at hlt
  simp only [Ghost.tok]
  rw [if_pos (by rfl), if_pos hlt]
  rw [List.getElem?_toArray, ← List.append_assoc, List.getElem?_append_left (by simp [fl.len, fx.len, ← Nat.add_mul]; exact hlt)]
  exact hv

theorem append_same {P : Program} {B : Base} {G : Ghost} {H H' : List AObj} {w : World} (wr : WR B G H w) {t xt ty e es eb : Nat} {ti ei : TI} (kt : tinfo P t = some ti) (kk : ti.kind = .slice e es eb) (hx : ∃ d, P.underlying xt = some d ∧ ∀ q, d ≠ .int q) (ke : tinfo P e = some ei)
    {a : Option Addr} {id : Nat} {l : List (List PV)} {xv : Value} (rl : RP G.mem (.sl l) (.slice a l.length l.length)) {news : List Value} (src : Src P w es 0 xv news) (fx : Flat G.mem es [] news)
    (hup : Upd H H' id (.spare l.length es)) (hold : Older G id l.length (.slice a l.length l.length)) :
    ∃ v w' G', (Builtin.append_ #[t, xt] ty #[.slice a l.length l.length, xv]).run P w = .ok v w' ∧ GExt G G' ∧ WR B G' H' w' ∧ RV G' (.tok id l) v ∧ ∃ c u o m, G' = G.tok id c u o m := by
  obtain ⟨i, d, z, k⟩ := tinfo_ok kt
  obtain ⟨i', d', z', k'⟩ := tinfo_ok ke
  have hd := k.kind
  rw [kk] at hd
  cases d <;> simp only [tkind, reduceCtorEq, TK.slice.injEq] at hd
  rename_i et
  obtain ⟨he, hes, heb⟩ := hd
  subst he
  have hsize : i'.size = es := by rw [← hes]; simp [Program.cellsOf, k'.info]
  subst hsize
  have hn : news = [] := List.eq_nil_of_length_eq_zero (by simpa using fx.len)
  subst hn
  have hrun := run_append_same w t xt ty et i' k.und hx k'.info (a := a) (n := l.length) src
  have g := wr.tokSame hup hold
  exact ⟨_, _, _, hrun, g.2, g.1, .tok (own := none) (rl.mono g.2.mem) (Ghost.tok_obj _ _ _ _ _ _) (Nat.le_refl _) (fun _ => rfl), _, _, _, _, rfl⟩

theorem append_room {P : Program} {B : Base} {G : Ghost} {H H' : List AObj} {w : World} (wr : WR B G H w) {t xt ty e es eb : Nat} {ti ei : TI} (kt : tinfo P t = some ti) (kk : ti.kind = .slice e es eb) (hx : ∃ d, P.underlying xt = some d ∧ ∀ q, d ≠ .int q) (ke : tinfo P e = some ei)
    {cap id b : Nat} {l xs : List (List PV)} {xv : Value} {old : Array Value} {u : Value} (rl : RP G.mem (.sl l) (.slice (some ⟨b, 0, none⟩) l.length cap)) {news : List Value} (src : Src P w es xs.length xv news) (fx : Flat G.mem es xs news)
    (okl : okEs es l = true) (okx : okEs es xs = true) (hroom : l.length + xs.length ≤ cap) (hmax : cap ≤ maxLen)
    (hup : Upd H H' id (.spare (l.length + xs.length) es)) (hobj : G.obj id = some (.tok l.length u (some b))) (hu : u = .slice (some ⟨b, 0, none⟩) l.length cap)
    (bt : TypeId) (hh : w.heap[b]? = some (.cells old bt (0, 0))) (hosz : old.size = cap * es) (hno : ∀ o, l.length * es ≤ o → G.mem b o = none) :
    ∃ v w' G', (Builtin.append_ #[t, xt] ty #[.slice (some ⟨b, 0, none⟩) l.length cap, xv]).run P w = .ok v w' ∧ GExt G G' ∧ WR B G' H' w' ∧ RV G' (.tok id (l ++ xs)) v ∧ ∃ c u o m, G' = G.tok id c u o m := by
  obtain ⟨i, d, z, k⟩ := tinfo_ok kt
  obtain ⟨i', d', z', k'⟩ := tinfo_ok ke
  have hd := k.kind
  rw [kk] at hd
  cases d <;> simp only [tkind, reduceCtorEq, TK.slice.injEq] at hd
  rename_i et
  obtain ⟨he, hes, heb⟩ := hd
  subst he
  have hsize : i'.size = es := by rw [← hes]; simp [Program.cellsOf, k'.info]
  subst hsize
  obtain ⟨_, _, _, olds, fl, hk⟩ := rl.flat okl
  have hle : (l.length + xs.length) * i'.size ≤ cap * i'.size := Nat.mul_le_mul_right _ hroom
  have hfit : l.length * i'.size + news.length ≤ old.size := by rw [fx.len, ← Nat.add_mul, hosz]; exact hle
  have hrun := run_append_room' w t xt ty et i' k.und hx k'.info hh src fx.one hroom hfit
  have g := wr.tokRoom hup (arr := (splice old.toList (l.length * i'.size) news).toArray) hobj hh hu (Nat.le_add_right _ _) hroom hmax
    (by rw [List.size_toArray, splice_length _ _ _ (by simpa using hfit), Array.length_toList]; exact hosz) hno
    (fun o ho => by rw [List.getElem?_toArray, splice_get _ _ _ (by simpa using hfit), if_neg (by omega)]; simp)
  refine ⟨_, _, _, hrun, g.2, g.1, ?_, _, _, _, _, rfl⟩
  have fa := (fl.append fx).mono g.2.mem
  refine .tok (own := some b) (RP.ofFlat fa (by rw [okEs_append, okl, okx]; rfl) (by simp) hroom hmax (fun k v hv => ?_)) (Ghost.tok_obj _ _ _ _ _ _) (by rw [List.length_append]; exact Nat.le_refl _) (fun _ => rfl)
  simp only [Ghost.tok]
  rcases Nat.lt_or_ge k olds.length with g1 | g1
  · rw [List.getElem?_append_left g1] at hv
    obtain ⟨b', o', e1, e2⟩ := hk k v hv
    simp only [Option.some.injEq, Addr.mk.injEq] at e1
    obtain ⟨rfl, rfl, _⟩ := e1
    rw [if_neg (by rw [fl.len] at g1; omega)]
    simpa using e2
  · have hlt := (List.getElem?_eq_some_iff.1 hv).1
    simp only [List.length_append, fl.len, fx.len] at hlt
    rw [fl.len] at g1
    rw [if_pos ⟨by first | rfl | trivial, g1⟩, if_pos (by rw [Nat.add_mul]; omega)]
    rw [List.getElem?_toArray, splice_get _ _ _ (by simpa using hfit), if_pos (by rw [fx.len]; omega), ← hv, List.getElem?_append_right (by rw [fl.len]; exact g1), fl.len]

end Go.Proofs.Ytaaocppaepnhbaa
