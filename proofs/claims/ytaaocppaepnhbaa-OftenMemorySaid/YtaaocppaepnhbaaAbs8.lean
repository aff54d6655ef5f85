/- append: the rows of cells behind lists; the three ways that append takes; how the relation goes on. Own work; no condition. -/
import Derived.Test.YtaaocppaepnhbaaAbs7
namespace Go.Proofs.Ytaaocppaepnhbaa
open Go Go.RowKit

/-- Elements of a given size, each cell by itself. -/
def okEs (size : Nat) (es : List (List PV)) : Bool := es.all fun e => e.length == size && e.all PV.one

theorem okEs_mem {size : Nat} {es : List (List PV)} (h : okEs size es = true) {e : List PV} (he : e ∈ es) : e.length = size ∧ ∀ c, c ∈ e → c.one = true := by
  have := List.all_eq_true.1 h e he
  simp only [Bool.and_eq_true, beq_iff_eq, List.all_eq_true] at this
  exact this

theorem okEs_append {size : Nat} {a b : List (List PV)} : okEs size (a ++ b) = (okEs size a && okEs size b) := by simp [okEs]

/-- The cells of a list, one behind the other. -/
structure Flat (m : Mem) (size : Nat) (es : List (List PV)) (vs : List Value) : Prop where
  len : vs.length = es.length * size
  get : ∀ (i : Nat) e j c, es[i]? = some e → e[j]? = some c → ∃ v, vs[i * size + j]? = some v ∧ RP m c v
  one : ∀ v, v ∈ vs → v.oneCell' = true

theorem RP.one {m : Mem} {x : PV} {v : Value} (r : RP m x v) (h : x.one = true) : v.oneCell' = true := by
  cases r <;> first | rfl | simp [PV.one] at h

theorem RP.flat {m : Mem} {size : Nat} {es : List (List PV)} {a : Option Addr} {n cap : Nat} (h : RP m (.sl es) (.slice a n cap)) (hok : okEs size es = true) :
    n = es.length ∧ n ≤ cap ∧ cap ≤ maxLen ∧ ∃ vs, Flat m size es vs ∧ (∀ (k : Nat) v, vs[k]? = some v → ∃ b o, a = some ⟨b, o, none⟩ ∧ m b (o + k) = some v) := by
  cases h with
  | sl0 a cap hc => exact ⟨rfl, Nat.zero_le _, hc, [], ⟨by simp, fun i e j c hi => by simp at hi, fun v hv => by simp at hv⟩, fun k v hv => by simp at hv⟩
  | sl _ sz b o len cap vs hlen hcap hmax hsz hm hr =>
    subst hlen
    refine ⟨rfl, hcap, hmax, ?_⟩
    by_cases hz : es = []
    · subst hz
      exact ⟨[], ⟨by simp, fun i e j c hi => by simp at hi, fun v hv => by simp at hv⟩, fun k v hv => by simp at hv⟩
    · obtain ⟨e0, he0⟩ := List.exists_mem_of_ne_nil es hz
      have hs : sz = size := by rw [← hsz e0 he0, (okEs_mem hok he0).1]
      subst hs
      have key : ∀ k, k < es.length * sz → ∃ i e j c, es[i]? = some e ∧ e[j]? = some c ∧ k = i * sz + j ∧ k / sz = i ∧ k % sz = j := by
        intro k hk
        have hpos : 0 < sz := by
          rcases Nat.eq_zero_or_pos sz with g | g
          · subst g; simp at hk
          · exact g
        have h1 : k / sz < es.length := (Nat.div_lt_iff_lt_mul hpos).2 hk
        have h2 := Nat.mod_lt k hpos
        have h3 : (es[k / sz]).length = sz := hsz _ (List.getElem_mem h1)
        exact ⟨k / sz, es[k / sz], k % sz, (es[k / sz])[k % sz]'(by omega), List.getElem?_eq_getElem _, List.getElem?_eq_getElem _, by rw [Nat.mul_comm]; exact (Nat.div_add_mod k sz).symm, rfl, rfl⟩
      have uniq : ∀ i e j c, es[i]? = some e → e[j]? = some c → (i * sz + j) < es.length * sz ∧ (i * sz + j) / sz = i ∧ (i * sz + j) % sz = j := by
        intro i e j c hi hj
        have h1 : i < es.length := (List.getElem?_eq_some_iff.1 hi).1
        have h2 : j < sz := by
          have := (List.getElem?_eq_some_iff.1 hj).1
          rw [hsz e (List.mem_of_getElem? hi)] at this; exact this
        refine ⟨?_, ?_, ?_⟩
        · have : (i + 1) * sz ≤ es.length * sz := Nat.mul_le_mul_right _ h1
          rw [Nat.add_mul] at this; omega
        · rw [Nat.mul_comm, Nat.mul_add_div (by omega), Nat.div_eq_of_lt h2]; omega
        · rw [Nat.mul_comm, Nat.mul_add_mod, Nat.mod_eq_of_lt h2]
      refine ⟨(List.range (es.length * sz)).map fun k => vs (k / sz) (k % sz), ⟨by simp, ?_, ?_⟩, ?_⟩
      · intro i e j c hi hj
        obtain ⟨u1, u2, u3⟩ := uniq i e j c hi hj
        exact ⟨vs i j, by simp [u1, u2, u3], hr i e j c hi hj⟩
      · intro v hv
        obtain ⟨k, hk, rfl⟩ := List.mem_map.1 hv
        obtain ⟨i, e, j, c, hi, hj, _, h1, h2⟩ := key k (by simpa using hk)
        simp only [h1, h2]
        exact (hr i e j c hi hj).one ((okEs_mem hok (List.mem_of_getElem? hi)).2 c (List.mem_of_getElem? hj))
      · intro k v hv
        rw [List.getElem?_map, Option.map_eq_some_iff] at hv
        obtain ⟨k', hk', rfl⟩ := hv
        rw [List.getElem?_eq_some_iff] at hk'
        obtain ⟨hlt, hk'⟩ := hk'
        simp at hlt hk'; subst hk'
        obtain ⟨i, e, j, c, hi, hj, hk, h1, h2⟩ := key k hlt
        refine ⟨b, o, rfl, ?_⟩
        simp only [h1, h2]
        rw [hk, ← Nat.add_assoc]
        exact hm i e j hi (List.getElem?_eq_some_iff.1 hj).1

/-- A list whose cells lie at the head of a block. -/
theorem RP.ofFlat {m : Mem} {size : Nat} {es : List (List PV)} {vs : List Value} {b len cap : Nat} (f : Flat m size es vs) (hok : okEs size es = true) (hlen : es.length = len) (hcap : len ≤ cap) (hmax : cap ≤ maxLen)
    (hm : ∀ (k : Nat) v, vs[k]? = some v → m b k = some v) : RP m (.sl es) (.slice (some ⟨b, 0, none⟩) len cap) := by
  refine .sl es size b 0 len cap (fun i j => (m b (i * size + j)).getD undef) hlen hcap hmax (fun e he => (okEs_mem hok he).1) (fun i e j hi hj => ?_) (fun i e j c hi hj => ?_)
  · obtain ⟨v, h1, _⟩ := f.get i e j _ hi (List.getElem?_eq_getElem hj)
    have := hm _ v h1
    simp [this]
  · obtain ⟨v, h1, h2⟩ := f.get i e j c hi hj
    have := hm _ v h1
    simp [this]; exact h2

theorem Flat.append {m : Mem} {size : Nat} {a b : List (List PV)} {u v : List Value} (hu : Flat m size a u) (hv : Flat m size b v) : Flat m size (a ++ b) (u ++ v) := by
  refine ⟨by simp [hu.len, hv.len, Nat.add_mul], fun i e j c hi hj => ?_, fun x hx => ?_⟩
  · rcases Nat.lt_or_ge i a.length with g | g
    · rw [List.getElem?_append_left g] at hi
      obtain ⟨x, h1, h2⟩ := hu.get i e j c hi hj
      exact ⟨x, by rw [List.getElem?_append_left (List.getElem?_eq_some_iff.1 h1).1]; exact h1, h2⟩
    · rw [List.getElem?_append_right g] at hi
      obtain ⟨x, h1, h2⟩ := hv.get _ e j c hi hj
      refine ⟨x, ?_, h2⟩
      have e1 : i * size = a.length * size + (i - a.length) * size := by rw [← Nat.add_mul]; congr 1; omega
      rw [List.getElem?_append_right (by rw [hu.len]; omega), hu.len, ← h1]
      congr 1; omega
  · rcases List.mem_append.1 hx with h | h
    · exact hu.one x h
    · exact hv.one x h

theorem Flat.mono {m m' : Mem} {size : Nat} {es : List (List PV)} {vs : List Value} (f : Flat m size es vs) (h : ∀ b o v, m b o = some v → m' b o = some v) : Flat m' size es vs :=
  ⟨f.len, fun i e j c hi hj => let ⟨v, h1, h2⟩ := f.get i e j c hi hj; ⟨v, h1, h2.mono h⟩, f.one⟩

/-- What is appended: how many, and their cells. -/
structure Src (P : Program) (w : World) (size n : Nat) (x : Value) (news : List Value) : Prop where
  cnt : (Builtin.lenOf x).run P w = .ok n w
  cells : (Builtin.firstCells size n x).run P w = .ok news.toArray w
  cells' : (Builtin.firstCells size n x).run P w.drew = .ok news.toArray w.drew

theorem firstCells_ok {P : Program} (w : World) {m : Mem} (hm : ∀ b o v, m b o = some v → w.cell? ⟨b, o, none⟩ = some v) {size n cap len : Nat} {a : Option Addr} {vs : List Value} (hl : vs.length = n * size)
    (h : ∀ (k : Nat) v, vs[k]? = some v → ∃ b o, a = some ⟨b, o, none⟩ ∧ m b (o + k) = some v) : (Builtin.firstCells size n (.slice a len cap)).run P w = .ok vs.toArray w := by
  cases a with
  | none =>
    have : vs = [] := by
      cases vs with
      | nil => rfl
      | cons v r => obtain ⟨_, _, e, _⟩ := h 0 v rfl; cases e
    subst this
    simp [Builtin.firstCells]
  | some ad =>
    refine run_firstCells_some w size n ad len cap vs hl (fun j v hv => ?_)
    obtain ⟨b, o, e, hb⟩ := h j v hv
    simp only [Option.some.injEq] at e; subst e
    rw [Addr.add_lit]; exact hm b (o + j) v hb

section
variable {P : Program} (w : World) (t xt ty e : TypeId) (i : TypeInfo) (z : Value) (ht : P.underlying t = some (.slice e)) (hx : ∃ d, P.underlying xt = some d ∧ ∀ k, d ≠ .int k) (hi : P.info? e = some i) (hz : i.zero = some z)
include ht hx hi

theorem run_append_room' {g n cap bt : Nat} {cur : Array Value} (hg : w.heap[g]? = some (.cells cur bt (0, 0))) {x : Value} {m : Nat} {news : List Value} (s : Src P w i.size m x news) (h1 : ∀ u ∈ news, u.oneCell' = true)
    (hroom : n + m ≤ cap) (hfit : n * i.size + news.length ≤ cur.size) :
    (Builtin.append_ #[t, xt] ty #[.slice (some ⟨g, 0, none⟩) n cap, x]).run P w = .ok (.slice (some ⟨g, 0, none⟩) (n + m) cap) (w.setRow g (splice cur.toList (n * i.size) news).toArray) := by
  obtain ⟨d, hd, hne⟩ := hx
  have hst := run_storeCells_at P g (n * i.size) bt news 0 cur w hg (by simpa using hfit) h1
  simp only [Nat.add_zero] at hst
  simp [Builtin.append_, run_underlying ht, run_underlying hd, sizeOf, typeInfo, hi, s.cnt, hroom, s.cells, Addr.add_lit, hst, splice]

theorem run_append_same {a : Option Addr} {n : Nat} {x : Value} (s : Src P w i.size 0 x []) :
    (Builtin.append_ #[t, xt] ty #[.slice a n n, x]).run P w = .ok (.slice a n n) w := by
  obtain ⟨d, hd, hne⟩ := hx
  cases a <;> simp [Builtin.append_, run_underlying ht, run_underlying hd, sizeOf, typeInfo, hi, s.cnt, s.cells, storeCells]

include hz
theorem run_append_grow' {a : Option Addr} {n cap : Nat} {x : Value} {m : Nat} {news olds : List Value} (s : Src P w i.size m x news) (ho : (Builtin.firstCells i.size n (.slice a n cap)).run P w.drew = .ok olds.toArray w.drew)
    (hg : cap < n + m) (h63 : ((n + m : Nat) : Int) ≤ 9223372036854775807) (hfit : Builtin.nextslicecap (n + m) cap * i.bytes ≤ 281474976710656) :
    (Builtin.append_ #[t, xt] ty #[.slice a n cap, x]).run P w = .ok (.slice (some ⟨w.heap.size, 0, none⟩) (n + m) (grownCap w (n + m) cap e))
        (w.drew.alloc (.cells (olds ++ (news ++ (Builtin.zeroCells z.cells (grownCap w (n + m) cap e - (n + m))).toList)).toArray e)) := by
  obtain ⟨d, hd, hne⟩ := hx
  have hn : ¬ (n + m ≤ cap) := by omega
  have h63' : ¬ (9223372036854775807 < ((n : Int) + (m : Int))) := by omega
  have h48' : ¬ (281474976710656 < Builtin.nextslicecap (n + m) cap * i.bytes) := by omega
  simp [Builtin.append_, run_underlying ht, run_underlying hd, sizeOf, typeInfo, zeroValue, hi, hz, s.cnt, hn, h63', h48', Question.forced, s.cells', ho, newRow, grownCap]
  congr 2
  apply Array.ext'
  simp
end

end Go.Proofs.Ytaaocppaepnhbaa
