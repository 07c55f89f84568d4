/- A logic over the machine in which memory that came in is read as plain values, and memory that the call made is a small list of named objects: the words, and what keeps holding when the world goes on. No law of the program is proved here. -/
import Derived.Calls
import Derived.Laws.AppendOwn
set_option linter.all false
namespace Go.Proofs.Ytbbjmfkmjjinnaa.V
open Go

/-- A value as the proof sees it. 'sc': the very value; 'im': a slice of memory that never changes, with its cells; 'ip': a pointer into such memory, with the cells from there on; 'id': a slice of an object of the call's own, from its beginning; 'ix': one from further on, whose room behind isn't told; 'ad': a pointer into one; 'gv': what is so where a Bool holds. -/
inductive PV where
  | dead
  | sc (v : Value)
  | im (nz : Bool) (len : Nat) (cells : List PV)
  | ip (cells : List PV)
  | id (i len : Nat)
  | ix (i off len : Nat)
  | ad (i off : Nat)
  | ag (cells : List PV)
  | tu (vs : List PV)
  | fn (f : Fn) (a b : List PV)
  | ifc (t : TypeId) (v : PV)
  | gv (g : Bool) (v : PV)

instance : Inhabited PV := ⟨.dead⟩

/-- An object of the call's own: the block's element type; is it a slice (then it may have spare cells behind); an element's cells; the cells. -/
structure GObj where
  ty : TypeId
  sl : Bool
  sz : Nat
  cells : List PV

abbrev Heap := List (Option GObj)
abbrev Env := List (Nat × PV)

def look : Env → Nat → PV
  | [], _ => .dead
  | (k, p) :: e, j => if j = k then p else look e j

/-- A world, the blocks that stay as they are, where the objects lie (block, capacity), how many there are. -/
structure Cx where
  w : World
  S : Nat → Prop
  β : Nat → Nat × Nat
  n : Nat

/-- The same, without objects: what lies in memory that stays leads to none. -/
def Cx.z (c : Cx) : Cx := { c with n := 0 }

inductive Rel : Cx → Value → PV → Prop
  | dead {c : Cx} (v : Value) : Rel c v .dead
  | sc {c : Cx} (v : Value) : Rel c v (.sc v)
  | im {c : Cx} (A : Option Addr) (ad : Addr) (len cap : Nat) (nz : Bool) (cells : List PV) (us : Nat → Value)
      (hA : 0 < len → A = some ad ∧ c.S ad.block) (hz : nz = true → A.isSome = true) (hl : len ≤ cap) (h0 : len = 0 → cells = [])
      (hc : ∀ j, j < cells.length → c.w.cell? (ad.add j) = some (us j) ∧ (us j).oneCell' = true)
      (hr : ∀ j, j < cells.length → Rel c.z (us j) (cells.getD j .dead)) : Rel c (.slice A len cap) (.im nz len cells)
  | ip {c : Cx} (ad : Addr) (cells : List PV) (us : Nat → Value) (hS : cells ≠ [] → c.S ad.block)
      (hc : ∀ j, j < cells.length → c.w.cell? (ad.add j) = some (us j) ∧ (us j).oneCell' = true)
      (hr : ∀ j, j < cells.length → Rel c.z (us j) (cells.getD j .dead)) : Rel c (.pointer (some ad)) (.ip cells)
  | id {c : Cx} (i len : Nat) (hi : i < c.n) (hl : len ≤ (c.β i).2) : Rel c (.slice (some ⟨(c.β i).1, 0, none⟩) len (c.β i).2) (.id i len)
  | ix {c : Cx} (A : Option Addr) (i off len cap : Nat) (hi : i < c.n) (hl : len ≤ cap) (hA : 0 < len → A = some ⟨(c.β i).1, off, none⟩) (hs : A.isSome = true) : Rel c (.slice A len cap) (.ix i off len)
  | ad {c : Cx} (i off : Nat) (hi : i < c.n) : Rel c (.pointer (some ⟨(c.β i).1, off, none⟩)) (.ad i off)
  | ag {c : Cx} (l : List Value) (ps : List PV) (hl : l.length = ps.length) (hr : ∀ j, j < ps.length → Rel c (l.getD j undef) (ps.getD j .dead)) : Rel c (.agg l.toArray) (.ag ps)
  | tu {c : Cx} (l : List Value) (ps : List PV) (hl : l.length = ps.length) (hr : ∀ j, j < ps.length → Rel c (l.getD j undef) (ps.getD j .dead)) : Rel c (.tuple l.toArray) (.tu ps)
  | fn {c : Cx} (f : Fn) (l m : List Value) (ps qs : List PV) (hl : l.length = ps.length) (hr : ∀ j, j < ps.length → Rel c (l.getD j undef) (ps.getD j .dead))
      (hm : m.length = qs.length) (hq : ∀ j, j < qs.length → Rel c (m.getD j undef) (qs.getD j .dead)) : Rel c (.func f l.toArray m.toArray) (.fn f ps qs)
  | ifc {c : Cx} (t : TypeId) (v : Value) (p : PV) (h : Rel c v p) : Rel c (.iface t v) (.ifc t p)
  | gvf {c : Cx} (p : PV) : Rel c undef (.gv false p)
  | gvt {c : Cx} (v : Value) (p : PV) (h : Rel c v p) : Rel c v (.gv true p)

def RelL (c : Cx) (l : List Value) (ps : List PV) : Prop := l.length = ps.length ∧ ∀ j, j < ps.length → Rel c (l.getD j undef) (ps.getD j .dead)

/-- The one context goes on into the other: what stays, stayed; objects are where they were. -/
structure Cx.Le (c c' : Cx) : Prop where
  S : ∀ b, c.S b → c'.S b
  h : ∀ b, c.S b → c'.w.heap[b]? = c.w.heap[b]?
  β : ∀ i, i < c.n → c'.β i = c.β i
  n : c.n ≤ c'.n

theorem Cx.Le.refl (c : Cx) : c.Le c := ⟨fun _ h => h, fun _ _ => rfl, fun _ _ => rfl, Nat.le_refl _⟩
theorem Cx.Le.trans {a b c : Cx} (h : a.Le b) (k : b.Le c) : a.Le c :=
  ⟨fun x hx => k.S x (h.S x hx), fun x hx => (k.h x (h.S x hx)).trans (h.h x hx), fun i hi => (k.β i (Nat.lt_of_lt_of_le hi h.n)).trans (h.β i hi), Nat.le_trans h.n k.n⟩

theorem add_block (a : Addr) (j : Nat) : (a.add j).block = a.block := by unfold Addr.add; split <;> rfl

theorem Cx.Le.cell {c c' : Cx} (h : c.Le c') {a : Addr} (hS : c.S a.block) (j : Nat) : c'.w.cell? (a.add j) = c.w.cell? (a.add j) := by
  have := h.h a.block hS
  simp only [World.cell?, add_block, this]

theorem Cx.Le.z {c c' : Cx} (h : c.Le c') : c.z.Le c'.z := ⟨h.S, h.h, fun i hi => by simp [Cx.z] at hi, Nat.le_refl _⟩

theorem Rel.mono {c c' : Cx} (h : c.Le c') {v : Value} {p : PV} (r : Rel c v p) : Rel c' v p := by
  induction r generalizing c' with
  | dead v => exact .dead v
  | sc v => exact .sc v
  | im A ad len cap nz cells us hA hz hl h0 hc hr ih =>
    refine .im A ad len cap nz cells us (fun hp => ⟨(hA hp).1, h.S _ (hA hp).2⟩) hz hl h0 (fun j hj => ?_) (fun j hj => ih j hj h.z)
    have hlen : 0 < len := by
      rcases Nat.eq_zero_or_pos len with h | h
      · rw [h0 h] at hj; simp at hj
      · exact h
    rw [h.cell (hA hlen).2]
    exact hc j hj
  | ip ad cells us hS hc hr ih =>
    refine .ip ad cells us (fun hp => h.S _ (hS hp)) (fun j hj => ?_) (fun j hj => ih j hj h.z)
    have hne : cells ≠ [] := by intro e; rw [e] at hj; simp at hj
    rw [h.cell (hS hne)]
    exact hc j hj
  | id i len hi hl =>
    have := h.β i hi
    rw [← this]
    exact .id i len (Nat.lt_of_lt_of_le hi h.n) (by rw [this]; exact hl)
  | ix A i off len cap hi hl hA hs => exact .ix A i off len cap (Nat.lt_of_lt_of_le hi h.n) hl (fun h0 => by rw [h.β i hi]; exact hA h0) hs
  | ad i off hi =>
    rw [← h.β i hi]
    exact .ad i off (Nat.lt_of_lt_of_le hi h.n)
  | ag l ps hl hr ih => exact .ag l ps hl (fun j hj => ih j hj h)
  | tu l ps hl hr ih => exact .tu l ps hl (fun j hj => ih j hj h)
  | fn f l m ps qs hl hr hm hq ih1 ih2 => exact .fn f l m ps qs hl (fun j hj => ih1 j hj h) hm (fun j hj => ih2 j hj h)
  | ifc t v p _ ih => exact .ifc t v p (ih h)
  | gvf p => exact .gvf p
  | gvt v p _ ih => exact .gvt v p (ih h)

theorem Cx.z_le (c : Cx) : c.z.Le c := ⟨fun _ h => h, fun _ _ => rfl, fun i hi => by simp [Cx.z] at hi, Nat.zero_le _⟩
theorem Rel.up {c : Cx} {v : Value} {p : PV} (h : Rel c.z v p) : Rel c v p := h.mono c.z_le

theorem RelL.mono {c c' : Cx} (h : c.Le c') {l : List Value} {ps : List PV} (r : RelL c l ps) : RelL c' l ps := ⟨r.1, fun j hj => (r.2 j hj).mono h⟩

/-- An object lies where it should. -/
def ObjOk (c : Cx) (i : Nat) (o : GObj) : Prop :=
  ∃ cur : Array Value, c.w.heap[(c.β i).1]? = some (.cells cur o.ty (0, 0)) ∧ o.cells.length ≤ cur.size ∧
    (o.sl = true → cur.size = (c.β i).2 * o.sz ∧ (c.β i).2 ≤ maxLen ∧ 0 < o.sz) ∧ (o.sl = false → cur.size = o.cells.length) ∧
    ∀ j, j < o.cells.length → (cur.getD j undef).oneCell' = true ∧ Rel c (cur.getD j undef) (o.cells.getD j .dead)

structure HeapOk (c : Cx) (H : Heap) : Prop where
  n : c.n = H.length
  blk : ∀ i o, H[i]? = some (some o) → ObjOk c i o
  inj : ∀ i j o o', H[i]? = some (some o) → H[j]? = some (some o') → (c.β i).1 = (c.β j).1 → i = j
  nS : ∀ i o, H[i]? = some (some o) → ¬ c.S (c.β i).1
  lt : ∀ b, c.S b → b < c.w.heap.size

theorem ObjOk.lt {c : Cx} {i : Nat} {o : GObj} (h : ObjOk c i o) : (c.β i).1 < c.w.heap.size := by
  obtain ⟨cur, hb, _⟩ := h
  exact (Array.getElem?_eq_some_iff.1 hb).1

theorem ObjOk.move {c c' : Cx} (h : c.Le c') {i : Nat} {o : GObj} (hi : i < c.n) (hb : c'.w.heap[(c.β i).1]? = c.w.heap[(c.β i).1]?) (k : ObjOk c i o) : ObjOk c' i o := by
  obtain ⟨cur, h1, h2, h3, h4, h5⟩ := k
  refine ⟨cur, ?_, h2, ?_, h4, fun j hj => ⟨(h5 j hj).1, (h5 j hj).2.mono h⟩⟩
  · rw [h.β i hi, hb]; exact h1
  · rw [h.β i hi]; exact h3

/-- What a call may turn of the world that it began in: blocks of O, no other. -/
structure Out (w0 : World) (O : Nat → Prop) (w : World) : Prop where
  os : w.os = w0.os
  tape : w.tape = w0.tape
  output : w.output = w0.output
  size : w0.heap.size ≤ w.heap.size
  block : ∀ b, b < w0.heap.size → ¬ O b → w.heap[b]? = w0.heap[b]?

theorem Out.refl (w : World) (O : Nat → Prop) : Out w O w := ⟨rfl, rfl, rfl, Nat.le_refl _, fun _ _ _ => rfl⟩

structure Amb where
  w0 : World
  O : Nat → Prop
  S0 : Nat → Prop
  n0 : Nat
  β0 : Nat → Nat × Nat

structure SimC (m : Amb) (N : Nat) (env : Env) (H : Heap) (a : Act) (c : Cx) : Prop where
  hp : HeapOk c H
  n0 : m.n0 ≤ H.length
  b0 : ∀ i, i < m.n0 → c.β i = m.β0 i
  s0 : ∀ b, m.S0 b → c.S b
  s1 : ∀ b, c.S b → m.S0 b ∨ m.O b ∨ m.w0.heap.size ≤ b
  place : ∀ i o, H[i]? = some (some o) → m.O (c.β i).1 ∨ m.w0.heap.size ≤ (c.β i).1
  out : Out m.w0 m.O c.w
  env : ∀ k, Rel c (a.tmps.getD k undef) (look env k)
  sz : a.tmps.size = N
  df : a.defers = []

def Sim (m : Amb) (N : Nat) (env : Env) (H : Heap) (a : Act) (w : World) : Prop := ∃ S β, SimC m N env H a ⟨w, S, β, H.length⟩

theorem SimC.sim {m : Amb} {N : Nat} {env : Env} {H : Heap} {a : Act} {c : Cx} (h : SimC m N env H a c) : Sim m N env H a c.w := by
  refine ⟨c.S, c.β, ?_⟩
  have hn := h.hp.n
  have : (⟨c.w, c.S, c.β, H.length⟩ : Cx) = c := by cases c; simp_all
  rw [this]; exact h

theorem tmps_set (t : Array Value) (d k : Nat) (v : Value) (hd : d < t.size) : (t.setIfInBounds d v).getD k undef = if k = d then v else t.getD k undef := by
  simp only [Array.getD_eq_getD_getElem?, Array.getElem?_setIfInBounds]
  by_cases h : k = d
  · subst h; simp [hd]
  · rw [if_neg (fun e => h e.symm), if_neg h]

/-- A slot is written. -/
theorem SimC.put {m : Amb} {N : Nat} {env : Env} {H : Heap} {a : Act} {c : Cx} (h : SimC m N env H a c) {d : Nat} {v : Value} {p : PV} (hd : d < N) (hv : Rel c v p) :
    SimC m N ((d, p) :: env) H (a.put (some d) v) c := by
  refine ⟨h.hp, h.n0, h.b0, h.s0, h.s1, h.place, h.out, fun k => ?_, ?_, h.df⟩
  · simp only [Act.put, look]
    rw [tmps_set _ _ _ _ (by rw [h.sz]; exact hd)]
    split
    · exact hv
    · exact h.env k
  · simp [Act.put, h.sz]

theorem Out.drew {w0 : World} {O : Nat → Prop} {w : World} (h : Out w0 O w) (k : Nat) : Out w0 O { w with drawn := k } := ⟨h.os, h.tape, h.output, h.size, h.block⟩

theorem Cx.Le.drew (c : Cx) (k : Nat) : c.Le { c with w := { c.w with drawn := k } } := ⟨fun _ h => h, fun _ _ => rfl, fun _ _ => rfl, Nat.le_refl _⟩

/-- The world goes on, no object is touched. -/
theorem HeapOk.move {c c' : Cx} {H : Heap} (hp : HeapOk c H) (h : c.Le c') (hn : c'.n = c.n) (hb : ∀ i o, H[i]? = some (some o) → c'.w.heap[(c.β i).1]? = c.w.heap[(c.β i).1]?)
    (hS : ∀ b, c'.S b → c.S b) (hs : c.w.heap.size ≤ c'.w.heap.size) : HeapOk c' H := by
  have hlt : ∀ {i o}, H[i]? = some (some o) → i < c.n := fun h => by rw [hp.n]; exact (List.getElem?_eq_some_iff.1 h).1
  refine ⟨hn.trans hp.n, fun i o ho => (hp.blk i o ho).move h (hlt ho) (hb i o ho), fun i j o o' ho ho' e => ?_, fun i o ho k => ?_, fun b hb' => Nat.lt_of_lt_of_le (hp.lt b (hS b hb')) hs⟩
  · rw [h.β i (hlt ho), h.β j (hlt ho')] at e
    exact hp.inj i j o o' ho ho' e
  · rw [h.β i (hlt ho)] at k
    exact hp.nS i o ho (hS _ k)

theorem SimC.drew {m : Amb} {N : Nat} {env : Env} {H : Heap} {a : Act} {c : Cx} (h : SimC m N env H a c) (k : Nat) : SimC m N env H a { c with w := { c.w with drawn := k } } :=
  ⟨h.hp.move (.drew c k) rfl (fun _ _ _ => rfl) (fun _ h => h) (Nat.le_refl _), h.n0, h.b0, h.s0, h.s1, h.place, h.out.drew k, fun j => (h.env j).mono (.drew c k), h.sz, h.df⟩

end Go.Proofs.Ytbbjmfkmjjinnaa.V
