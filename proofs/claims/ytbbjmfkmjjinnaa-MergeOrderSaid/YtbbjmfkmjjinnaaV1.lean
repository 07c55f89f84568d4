/- The logic's steps on memory: a new object, an object's cells written, an object given up, an object that stays for good. No law of the program is proved here. -/
import Derived.Test.YtbbjmfkmjjinnaaV0
set_option linter.all false
namespace Go.Proofs.Ytbbjmfkmjjinnaa.V
open Go

theorem SimC.step {m : Amb} {N : Nat} {env : Env} {H H' : Heap} {a : Act} {c c' : Cx} (h : SimC m N env H a c) (le : c.Le c') (hp : HeapOk c' H') (hn : H.length ≤ H'.length)
    (s1 : ∀ b, c'.S b → m.S0 b ∨ m.O b ∨ m.w0.heap.size ≤ b) (place : ∀ i o, H'[i]? = some (some o) → m.O (c'.β i).1 ∨ m.w0.heap.size ≤ (c'.β i).1)
    (out : Out m.w0 m.O c'.w) : SimC m N env H' a c' := by
  refine ⟨hp, Nat.le_trans h.n0 hn, fun i hi => ?_, fun b hb => le.S b (h.s0 b hb), s1, place, out, fun k => (h.env k).mono le, h.sz, h.df⟩
  rw [le.β i (by rw [h.hp.n]; exact Nat.lt_of_lt_of_le hi h.n0)]
  exact h.b0 i hi

def Cx.alloc (c : Cx) (cur : Array Value) (ty : TypeId) (cap : Nat) : Cx := ⟨c.w.alloc (.cells cur ty), c.S, fun i => if i = c.n then (c.w.heap.size, cap) else c.β i, c.n + 1⟩

theorem HeapOk.le_alloc {c : Cx} {H : Heap} (hp : HeapOk c H) (cur : Array Value) (ty : TypeId) (cap : Nat) : c.Le (c.alloc cur ty cap) :=
  ⟨fun _ h => h, fun b hb => heap_alloc_old _ _ _ (hp.lt b hb), fun i hi => by simp [Cx.alloc, Nat.ne_of_lt hi], by simp [Cx.alloc]⟩

theorem getElem?_snoc {α : Type} {l : List α} {x y : α} {i : Nat} (h : (l ++ [x])[i]? = some y) : l[i]? = some y ∨ (i = l.length ∧ y = x) := by
  rcases Nat.lt_trichotomy i l.length with hi | hi | hi
  · rw [List.getElem?_append_left hi] at h; exact .inl h
  · subst hi; simp at h; exact .inr ⟨rfl, h.symm⟩
  · rw [List.getElem?_eq_none (by simp; omega)] at h; cases h

theorem HeapOk.alloc {c : Cx} {H : Heap} (hp : HeapOk c H) (cur : Array Value) (cap : Nat) (o : GObj) (h1 : o.cells.length ≤ cur.size)
    (h2 : o.sl = true → cur.size = cap * o.sz ∧ cap ≤ maxLen ∧ 0 < o.sz) (h3 : o.sl = false → cur.size = o.cells.length)
    (h4 : ∀ j, j < o.cells.length → (cur.getD j undef).oneCell' = true ∧ Rel c (cur.getD j undef) (o.cells.getD j .dead)) : HeapOk (c.alloc cur o.ty cap) (H ++ [some o]) := by
  have le := hp.le_alloc cur o.ty cap
  have hlt : ∀ {i o}, H[i]? = some (some o) → i < c.n := fun h => by rw [hp.n]; exact (List.getElem?_eq_some_iff.1 h).1
  have hb : ∀ {i o}, H[i]? = some (some o) → (c.β i).1 < c.w.heap.size := fun h => (hp.blk _ _ h).lt
  have hβ : ∀ {i o}, H[i]? = some (some o) → (c.alloc cur o.ty cap).β i = c.β i := fun h => by simp [Cx.alloc, Nat.ne_of_lt (hlt h)]
  have hβ' : ∀ {i o} (t : TypeId), H[i]? = some (some o) → (c.alloc cur t cap).β i = c.β i := fun t h => by simp [Cx.alloc, Nat.ne_of_lt (hlt h)]
  have hN : (c.alloc cur o.ty cap).β H.length = (c.w.heap.size, cap) := by simp [Cx.alloc, hp.n]
  refine ⟨by simp [Cx.alloc, hp.n], fun i p hip => ?_, fun i j p q hip hjq e => ?_, fun i p hip => ?_, fun b hb' => ?_⟩
  · rcases getElem?_snoc hip with h | ⟨rfl, h⟩
    · exact (hp.blk i p h).move le (hlt h) (heap_alloc_old _ _ _ (hb h))
    · cases h
      refine ⟨cur, ?_, h1, fun hs => ?_, h3, fun j hj => ⟨(h4 j hj).1, (h4 j hj).2.mono le⟩⟩
      · rw [hN]; exact heap_alloc_new _ _
      · rw [hN]; exact h2 hs
  · rcases getElem?_snoc hip with h | ⟨rfl, h⟩ <;> rcases getElem?_snoc hjq with k | ⟨rfl, k⟩
    · rw [hβ' _ h, hβ' _ k] at e; exact hp.inj i j p q h k e
    · rw [hβ' _ h, hN] at e; have := hb h; simp at e; omega
    · rw [hβ' _ k, hN] at e; have := hb k; simp at e; omega
    · rfl
  · rcases getElem?_snoc hip with h | ⟨rfl, h⟩
    · rw [hβ' _ h]; exact hp.nS i p h
    · rw [hN]; intro hs; have := hp.lt _ hs; simp at this
  · have := hp.lt b hb'; simp [Cx.alloc]; omega

theorem Out.alloc {w0 : World} {O : Nat → Prop} {w : World} (h : Out w0 O w) (o : Obj) : Out w0 O (w.alloc o) :=
  ⟨h.os, h.tape, h.output, by simp; have := h.size; omega, fun b hb hO => by rw [heap_alloc_old _ _ _ (Nat.lt_of_lt_of_le hb h.size)]; exact h.block b hb hO⟩

theorem SimC.alloc {m : Amb} {N : Nat} {env : Env} {H : Heap} {a : Act} {c : Cx} (h : SimC m N env H a c) (cur : Array Value) (cap : Nat) (o : GObj) (h1 : o.cells.length ≤ cur.size)
    (h2 : o.sl = true → cur.size = cap * o.sz ∧ cap ≤ maxLen ∧ 0 < o.sz) (h3 : o.sl = false → cur.size = o.cells.length)
    (h4 : ∀ j, j < o.cells.length → (cur.getD j undef).oneCell' = true ∧ Rel c (cur.getD j undef) (o.cells.getD j .dead)) : SimC m N env (H ++ [some o]) a (c.alloc cur o.ty cap) := by
  have hlt : ∀ {i o}, H[i]? = some (some o) → i < c.n := fun k => by rw [h.hp.n]; exact (List.getElem?_eq_some_iff.1 k).1
  refine h.step (h.hp.le_alloc _ _ _) (h.hp.alloc cur cap o h1 h2 h3 h4) (by simp) (fun b hb => h.s1 b hb) (fun i p hip => ?_) (h.out.alloc _)
  rcases getElem?_snoc hip with k | ⟨rfl, k⟩
  · simp only [Cx.alloc, if_neg (Nat.ne_of_lt (hlt k))]; exact h.place i p k
  · simp only [Cx.alloc, h.hp.n, if_true]; exact .inr h.out.size

def Cx.row (c : Cx) (b : Nat) (cur : Array Value) : Cx := { c with w := c.w.setRow b cur }

theorem HeapOk.le_row {c : Cx} {H : Heap} (hp : HeapOk c H) {i : Nat} {o : GObj} (ho : H[i]? = some (some o)) (cur : Array Value) : c.Le (c.row (c.β i).1 cur) :=
  ⟨fun _ h => h, fun b hb => setRow_other _ _ _ _ (fun e => hp.nS i o ho (by rw [← e]; exact hb)), fun _ _ => rfl, Nat.le_refl _⟩

theorem getElem?_set_cases {α : Type} {l : List α} {x y : α} {i j : Nat} (h : (l.set i x)[j]? = some y) : (j = i ∧ y = x) ∨ (j ≠ i ∧ l[j]? = some y) := by
  rw [List.getElem?_set] at h
  by_cases e : i = j
  · subst e
    rw [if_pos rfl] at h
    split at h
    · exact .inl ⟨rfl, (Option.some.inj h).symm⟩
    · cases h
  · rw [if_neg e] at h; exact .inr ⟨fun k => e k.symm, h⟩

theorem HeapOk.row {c : Cx} {H : Heap} (hp : HeapOk c H) {i : Nat} {o o' : GObj} (ho : H[i]? = some (some o)) (cur : Array Value) (ht : o'.ty = o.ty) (h1 : o'.cells.length ≤ cur.size)
    (h2 : o'.sl = true → cur.size = (c.β i).2 * o'.sz ∧ (c.β i).2 ≤ maxLen ∧ 0 < o'.sz) (h3 : o'.sl = false → cur.size = o'.cells.length)
    (h4 : ∀ j, j < o'.cells.length → (cur.getD j undef).oneCell' = true ∧ Rel c (cur.getD j undef) (o'.cells.getD j .dead)) : HeapOk (c.row (c.β i).1 cur) (H.set i (some o')) := by
  have le := hp.le_row ho cur
  have hlt : ∀ {i o}, H[i]? = some (some o) → i < c.n := fun h => by rw [hp.n]; exact (List.getElem?_eq_some_iff.1 h).1
  obtain ⟨old, hold, _⟩ := hp.blk i o ho
  refine ⟨by simp [Cx.row, hp.n], fun j p hjp => ?_, fun j k p q hjp hkq e => ?_, fun j p hjp => ?_, fun b hb => by simpa [Cx.row] using hp.lt b hb⟩
  · rcases getElem?_set_cases hjp with ⟨rfl, h⟩ | ⟨hne, h⟩
    · cases h
      exact ⟨cur, by rw [ht]; exact setRow_heap _ _ old cur _ _ hold, h1, h2, h3, fun j hj => ⟨(h4 j hj).1, (h4 j hj).2.mono le⟩⟩
    · exact (hp.blk j p h).move le (hlt h) (setRow_other _ _ _ _ (fun e => hne (hp.inj j i p o h ho e)))
  · rcases getElem?_set_cases hjp with ⟨rfl, h⟩ | ⟨hne, h⟩ <;> rcases getElem?_set_cases hkq with ⟨rfl, k'⟩ | ⟨hne', k'⟩
    · rfl
    · exact hp.inj _ _ o q ho k' e
    · exact hp.inj _ _ p o h ho e
    · exact hp.inj _ _ p q h k' e
  · rcases getElem?_set_cases hjp with ⟨rfl, h⟩ | ⟨hne, h⟩
    · exact hp.nS j o ho
    · exact hp.nS j p h

theorem Out.row {w0 : World} {O : Nat → Prop} {w : World} (h : Out w0 O w) (b : Nat) (cur : Array Value) (hb : O b ∨ w0.heap.size ≤ b) : Out w0 O (w.setRow b cur) :=
  ⟨h.os, h.tape, h.output, by simpa using h.size, fun k hk hO => by rw [setRow_other _ _ _ _ (fun e => by subst e; rcases hb with hb | hb; exact hO hb; omega)]; exact h.block k hk hO⟩

theorem SimC.row {m : Amb} {N : Nat} {env : Env} {H : Heap} {a : Act} {c : Cx} (h : SimC m N env H a c) {i : Nat} {o o' : GObj} (ho : H[i]? = some (some o)) (cur : Array Value) (ht : o'.ty = o.ty)
    (h1 : o'.cells.length ≤ cur.size) (h2 : o'.sl = true → cur.size = (c.β i).2 * o'.sz ∧ (c.β i).2 ≤ maxLen ∧ 0 < o'.sz) (h3 : o'.sl = false → cur.size = o'.cells.length)
    (h4 : ∀ j, j < o'.cells.length → (cur.getD j undef).oneCell' = true ∧ Rel c (cur.getD j undef) (o'.cells.getD j .dead)) : SimC m N env (H.set i (some o')) a (c.row (c.β i).1 cur) := by
  refine h.step (h.hp.le_row ho cur) (h.hp.row ho cur ht h1 h2 h3 h4) (by simp) (fun b hb => h.s1 b hb) (fun j p hjp => ?_) (h.out.row _ _ (h.place i o ho))
  rcases getElem?_set_cases hjp with ⟨rfl, k⟩ | ⟨hne, k⟩
  · exact h.place j o ho
  · exact h.place j p k

/-- An object is given up. -/
theorem HeapOk.kill {c : Cx} {H : Heap} (hp : HeapOk c H) (i : Nat) : HeapOk c (H.set i none) := by
  have g : ∀ {j p}, (H.set i none)[j]? = some (some p) → H[j]? = some (some p) := fun {j p} h => by
    rcases getElem?_set_cases h with ⟨_, k⟩ | ⟨_, k⟩
    · cases k
    · exact k
  exact ⟨by simp [hp.n], fun j p h => hp.blk j p (g h), fun j k p q h h' e => hp.inj j k p q (g h) (g h') e, fun j p h => hp.nS j p (g h), hp.lt⟩

theorem SimC.kill {m : Amb} {N : Nat} {env : Env} {H : Heap} {a : Act} {c : Cx} (h : SimC m N env H a c) (i : Nat) : SimC m N env (H.set i none) a c := by
  have g : ∀ {j p}, (H.set i none)[j]? = some (some p) → H[j]? = some (some p) := fun {j p} h => by
    rcases getElem?_set_cases h with ⟨_, k⟩ | ⟨_, k⟩
    · cases k
    · exact k
  exact h.step (.refl c) (h.hp.kill i) (by simp) h.s1 (fun j p k => h.place j p (g k)) h.out

/-- An object's block, written anew, as another object. -/
def Cx.anew (c : Cx) (i : Nat) (cur : Array Value) : Cx := ⟨c.w.setRow (c.β i).1 cur, c.S, fun j => if j = c.n then c.β i else c.β j, c.n + 1⟩

theorem HeapOk.le_anew {c : Cx} {H : Heap} (hp : HeapOk c H) {i : Nat} {o : GObj} (ho : H[i]? = some (some o)) (cur : Array Value) : c.Le (c.anew i cur) :=
  ⟨fun _ h => h, fun b hb => setRow_other _ _ _ _ (fun e => hp.nS i o ho (by rw [← e]; exact hb)), fun j hj => by simp [Cx.anew, Nat.ne_of_lt hj], by simp [Cx.anew]⟩

theorem HeapOk.anew {c : Cx} {H : Heap} (hp : HeapOk c H) {i : Nat} {o o' : GObj} (ho : H[i]? = some (some o)) (cur : Array Value) (ht : o'.ty = o.ty) (h1 : o'.cells.length ≤ cur.size)
    (h2 : o'.sl = true → cur.size = (c.β i).2 * o'.sz ∧ (c.β i).2 ≤ maxLen ∧ 0 < o'.sz) (h3 : o'.sl = false → cur.size = o'.cells.length)
    (h4 : ∀ j, j < o'.cells.length → (cur.getD j undef).oneCell' = true ∧ Rel c (cur.getD j undef) (o'.cells.getD j .dead)) : HeapOk (c.anew i cur) (H.set i none ++ [some o']) := by
  have le := hp.le_anew ho cur
  have hlt : ∀ {i o}, H[i]? = some (some o) → i < c.n := fun h => by rw [hp.n]; exact (List.getElem?_eq_some_iff.1 h).1
  obtain ⟨old, hold, _⟩ := hp.blk i o ho
  have g : ∀ {j p}, (H.set i none)[j]? = some (some p) → j ≠ i ∧ H[j]? = some (some p) := fun {j p} h => by
    rcases getElem?_set_cases h with ⟨_, k⟩ | ⟨n, k⟩
    · cases k
    · exact ⟨n, k⟩
  have hβ : ∀ {j p}, H[j]? = some (some p) → (c.anew i cur).β j = c.β j := fun h => by simp [Cx.anew, Nat.ne_of_lt (hlt h)]
  have hN : (c.anew i cur).β (H.set i none).length = c.β i := by simp [Cx.anew, hp.n]
  refine ⟨by simp [Cx.anew, hp.n], fun j p hjp => ?_, fun j k p q hjp hkq e => ?_, fun j p hjp => ?_, fun b hb => by simpa [Cx.anew] using hp.lt b hb⟩
  · rcases getElem?_snoc hjp with h | ⟨rfl, h⟩
    · obtain ⟨hne, h⟩ := g h
      exact (hp.blk j p h).move le (hlt h) (setRow_other _ _ _ _ (fun e => hne (hp.inj j i p o h ho e)))
    · cases h
      refine ⟨cur, ?_, h1, fun hs => by rw [hN]; exact h2 hs, h3, fun j hj => ⟨(h4 j hj).1, (h4 j hj).2.mono le⟩⟩
      rw [hN, ht]; exact setRow_heap _ _ old cur _ _ hold
  · rcases getElem?_snoc hjp with h | ⟨rfl, h⟩ <;> rcases getElem?_snoc hkq with k' | ⟨rfl, k'⟩
    · rw [hβ (g h).2, hβ (g k').2] at e; exact hp.inj j k p q (g h).2 (g k').2 e
    · rw [hβ (g h).2, hN] at e; exact absurd (hp.inj j i p o (g h).2 ho e) (g h).1
    · rw [hβ (g k').2, hN] at e; exact absurd (hp.inj i k o q ho (g k').2 e).symm (g k').1
    · rfl
  · rcases getElem?_snoc hjp with h | ⟨rfl, h⟩
    · rw [hβ (g h).2]; exact hp.nS j p (g h).2
    · rw [hN]; exact hp.nS i o ho

theorem SimC.anew {m : Amb} {N : Nat} {env : Env} {H : Heap} {a : Act} {c : Cx} (h : SimC m N env H a c) {i : Nat} {o o' : GObj} (ho : H[i]? = some (some o)) (cur : Array Value) (ht : o'.ty = o.ty)
    (h1 : o'.cells.length ≤ cur.size) (h2 : o'.sl = true → cur.size = (c.β i).2 * o'.sz ∧ (c.β i).2 ≤ maxLen ∧ 0 < o'.sz) (h3 : o'.sl = false → cur.size = o'.cells.length)
    (h4 : ∀ j, j < o'.cells.length → (cur.getD j undef).oneCell' = true ∧ Rel c (cur.getD j undef) (o'.cells.getD j .dead)) : SimC m N env (H.set i none ++ [some o']) a (c.anew i cur) := by
  have hlt : ∀ {i o}, H[i]? = some (some o) → i < c.n := fun k => by rw [h.hp.n]; exact (List.getElem?_eq_some_iff.1 k).1
  have g : ∀ {j p}, (H.set i none)[j]? = some (some p) → H[j]? = some (some p) := fun {j p} h => by
    rcases getElem?_set_cases h with ⟨_, k⟩ | ⟨n, k⟩
    · cases k
    · exact k
  refine h.step (h.hp.le_anew ho cur) (h.hp.anew ho cur ht h1 h2 h3 h4) (by simp) (fun b hb => h.s1 b hb) (fun j p hjp => ?_) (h.out.row _ _ (h.place i o ho))
  rcases getElem?_snoc hjp with k | ⟨rfl, k⟩
  · simp only [Cx.anew, if_neg (Nat.ne_of_lt (hlt (g k)))]; exact h.place j p (g k)
  · simp only [Cx.anew, List.length_set, h.hp.n, if_true]; exact h.place i o ho

end Go.Proofs.Ytbbjmfkmjjinnaa.V
