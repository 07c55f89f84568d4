/- The logic's contracts of functions: what a function's body gives; what a call of it does. No law of the program is proved here. -/
import Derived.Test.YtbbjmfkmjjinnaaVA
set_option linter.all false
namespace Go.Proofs.Ytbbjmfkmjjinnaa.V
open Go

/-! ### objects by other numbers -/
mutual
def ren (σ : Nat → Option Nat) : PV → PV
  | .id i n => match σ i with | some k => .id k n | none => .dead
  | .ix i o n => match σ i with | some k => .ix k o n | none => .dead
  | .ad i o => match σ i with | some k => .ad k o | none => .dead
  | .ag ps => .ag (renL σ ps)
  | .tu ps => .tu (renL σ ps)
  | .fn f a b => .fn f (renL σ a) (renL σ b)
  | .ifc t p => .ifc t (ren σ p)
  | .gv g p => .gv g (ren σ p)
  | .dead => .dead
  | .sc v => .sc v
  | .im nz n cells => .im nz n cells
  | .ip cells => .ip cells
def renL (σ : Nat → Option Nat) : List PV → List PV
  | [] => []
  | p :: ps => ren σ p :: renL σ ps
end

theorem renL_eq (σ : Nat → Option Nat) : ∀ l, renL σ l = l.map (ren σ)
  | [] => rfl
  | p :: l => by simp [renL, renL_eq σ l]
theorem renL_length (σ : Nat → Option Nat) (l : List PV) : (renL σ l).length = l.length := by simp [renL_eq]
theorem renL_getD (σ : Nat → Option Nat) (l : List PV) (j : Nat) : (renL σ l).getD j .dead = ren σ (l.getD j .dead) := by
  rw [renL_eq]
  simp only [List.getD_eq_getElem?_getD, List.getElem?_map]
  cases l[j]? <;> simp [ren]

structure Cx.Ren (c c' : Cx) (σ : Nat → Option Nat) : Prop where
  w : ∀ b, c.S b → c'.w.heap[b]? = c.w.heap[b]?
  S : ∀ b, c.S b → c'.S b
  m : ∀ i k, i < c.n → σ i = some k → k < c'.n ∧ c'.β k = c.β i

theorem Cx.Ren.z {c c' : Cx} {σ : Nat → Option Nat} (h : c.Ren c' σ) : c.z.Le c'.z := ⟨h.S, h.w, fun i hi => by simp [Cx.z] at hi, Nat.le_refl _⟩

theorem Cx.Ren.cell {c c' : Cx} {σ : Nat → Option Nat} (h : c.Ren c' σ) {a : Addr} (hS : c.S a.block) (j : Nat) : c'.w.cell? (a.add j) = c.w.cell? (a.add j) := by
  have := h.w a.block hS
  simp only [World.cell?, add_block, this]

theorem Rel.ren {c c' : Cx} {σ : Nat → Option Nat} (h : c.Ren c' σ) {v : Value} {p : PV} (r : Rel c v p) : Rel c' v (ren σ p) := by
  induction r generalizing c' with
  | dead v => exact .dead v
  | sc v => exact .sc v
  | im A ad len cap nz cells us hA hz hl h0 hc hr ih =>
    refine .im A ad len cap nz cells us (fun hp => ⟨(hA hp).1, h.S _ (hA hp).2⟩) hz hl h0 (fun j hj => ?_) (fun j hj => (hr j hj).mono h.z)
    have hlen : 0 < len := by
      rcases Nat.eq_zero_or_pos len with h | h
      · rw [h0 h] at hj; simp at hj
      · exact h
    rw [h.cell (hA hlen).2]
    exact hc j hj
  | ip ad cells us hS hc hr ih =>
    refine .ip ad cells us (fun hp => h.S _ (hS hp)) (fun j hj => ?_) (fun j hj => (hr j hj).mono h.z)
    have hne : cells ≠ [] := by intro e; rw [e] at hj; simp at hj
    rw [h.cell (hS hne)]
    exact hc j hj
  | @id c i len hi hl =>
    simp only [V.ren]
    cases e : σ i with
    | none => exact .dead _
    | some k =>
      obtain ⟨h1, h2⟩ := h.m i k hi e
      have := Rel.id (c := c') k len h1 (by rw [h2]; exact hl)
      rwa [h2] at this
  | @ix c A i off len cap hi hl hA hs =>
    simp only [V.ren]
    cases e : σ i with
    | none => exact .dead _
    | some k =>
      obtain ⟨h1, h2⟩ := h.m i k hi e
      exact .ix A k off len cap h1 hl (fun h0 => by rw [h2]; exact hA h0) hs
  | @ad c i off hi =>
    simp only [V.ren]
    cases e : σ i with
    | none => exact .dead _
    | some k =>
      obtain ⟨h1, h2⟩ := h.m i k hi e
      have := Rel.ad (c := c') k off h1
      rwa [h2] at this
  | ag l ps hl hr ih => exact .ag l _ (by rw [renL_length]; exact hl) (fun j hj => by rw [renL_getD]; exact ih j (by rwa [renL_length] at hj) h)
  | tu l ps hl hr ih => exact .tu l _ (by rw [renL_length]; exact hl) (fun j hj => by rw [renL_getD]; exact ih j (by rwa [renL_length] at hj) h)
  | fn f l m ps qs hl hr hm hq ih1 ih2 => exact .fn f l m _ _ (by rw [renL_length]; exact hl) (fun j hj => by rw [renL_getD]; exact ih1 j (by rwa [renL_length] at hj) h) (by rw [renL_length]; exact hm) (fun j hj => by rw [renL_getD]; exact ih2 j (by rwa [renL_length] at hj) h)
  | ifc t v p _ ih => exact .ifc t v _ (ih h)
  | gvf p => exact .gvf _
  | gvt v p _ ih => exact .gvt v _ (ih h)

def GObj.ren (σ : Nat → Option Nat) (o : GObj) : GObj := { o with cells := renL σ o.cells }

theorem ObjOk.ren {c c' : Cx} {σ : Nat → Option Nat} (h : c.Ren c' σ) {i k : Nat} {o : GObj} (ho : ObjOk c i o) (hb : c'.β k = c.β i) (hw : c'.w.heap[(c.β i).1]? = c.w.heap[(c.β i).1]?) : ObjOk c' k (o.ren σ) := by
  obtain ⟨cur, h1, h2, h3, h4, h5⟩ := ho
  refine ⟨cur, by rw [hb, hw]; exact h1, by simpa [GObj.ren, renL_length] using h2, by rw [hb]; exact h3, by simpa [GObj.ren, renL_length] using h4, fun j hj => ?_⟩
  simp only [GObj.ren, renL_length] at hj
  refine ⟨(h5 j hj).1, ?_⟩
  simp only [GObj.ren]
  rw [renL_getD]
  exact (h5 j hj).2.ren h

/-- Where a number stands in a list. -/
def idx : List Nat → Nat → Option Nat
  | [], _ => none
  | s :: l, i => if i = s then some 0 else (idx l i).map (· + 1)

theorem idx_some : ∀ {l : List Nat} {i k : Nat}, idx l i = some k → l[k]? = some i
  | s :: l, i, k, h => by
    simp only [idx] at h
    split at h
    · rename_i e; cases h; rw [e]; rfl
    · cases hq : idx l i with
      | none => rw [hq] at h; cases h
      | some q => rw [hq] at h; cases h; simpa using idx_some hq
theorem idx_lt {l : List Nat} {i k : Nat} (h : idx l i = some k) : k < l.length := (List.getElem?_eq_some_iff.1 (idx_some h)).1
theorem idx_none : ∀ {l : List Nat} {i : Nat}, idx l i = none → i ∉ l
  | [], _, _ => by simp
  | s :: l, i, h => by
    simp only [idx] at h
    split at h
    · cases h
    · rename_i e
      cases hq : idx l i with
      | none => intro hm; rcases List.mem_cons.1 hm with rfl | hm; exact e rfl; exact idx_none hq hm
      | some q => rw [hq] at h; cases h
theorem idx_of_nodup : ∀ {l : List Nat}, l.Nodup → ∀ {k i : Nat}, l[k]? = some i → idx l i = some k
  | [], _, k, i, h => by simp at h
  | s :: l, hn, k, i, h => by
    rw [List.nodup_cons] at hn
    cases k with
    | zero => simp at h; subst h; simp [idx]
    | succ k =>
      simp at h
      have := idx_of_nodup hn.2 h
      have hne : i ≠ s := fun e => hn.1 (by rw [← e]; exact List.mem_of_getElem? h)
      simp [idx, hne, this]

def renH (src : List Nat) (H : Heap) : Heap := src.map fun i => (H.getD i none).map (GObj.ren (idx src))

theorem renH_some {src : List Nat} {H : Heap} {k : Nat} {o : GObj} (h : (renH src H)[k]? = some (some o)) : ∃ i o', src[k]? = some i ∧ H[i]? = some (some o') ∧ o = o'.ren (idx src) := by
  simp only [renH, List.getElem?_map] at h
  cases hs : src[k]? with
  | none => rw [hs] at h; cases h
  | some i =>
    rw [hs] at h
    simp only [Option.map_some, Option.some.injEq] at h
    cases hH : H[i]? with
    | none => simp [List.getD_eq_getElem?_getD, hH] at h
    | some x =>
      cases x with
      | none => simp [List.getD_eq_getElem?_getD, hH] at h
      | some o' => simp [List.getD_eq_getElem?_getD, hH] at h; exact ⟨i, o', rfl, hH, h.symm⟩

def Cx.pick (c : Cx) (src : List Nat) : Cx := ⟨c.w, c.S, fun k => c.β (src.getD k 0), src.length⟩

theorem Cx.pick_ren (c : Cx) (src : List Nat) : c.Ren (c.pick src) (idx src) := ⟨fun _ _ => rfl, fun _ h => h, fun i k _ h => ⟨idx_lt h, by simp [Cx.pick, List.getD_eq_getElem?_getD, idx_some h]⟩⟩

theorem HeapOk.pick {c : Cx} {H : Heap} (hp : HeapOk c H) {src : List Nat} (hn : src.Nodup) : HeapOk (c.pick src) (renH src H) := by
  have hb : ∀ {k i}, src[k]? = some i → (c.pick src).β k = c.β i := fun h => by simp [Cx.pick, List.getD_eq_getElem?_getD, h]
  refine ⟨by simp [Cx.pick, renH], fun k o ho => ?_, fun k l o o' ho ho' e => ?_, fun k o ho => ?_, fun b hb => hp.lt b hb⟩
  · obtain ⟨i, o1, h1, h2, rfl⟩ := renH_some ho
    exact (hp.blk i o1 h2).ren (c.pick_ren src) (hb h1) rfl
  · obtain ⟨i, o1, h1, h2, rfl⟩ := renH_some ho
    obtain ⟨j, o2, h3, h4, rfl⟩ := renH_some ho'
    rw [hb h1, hb h3] at e
    have := hp.inj i j o1 o2 h2 h4 e
    subst this
    have e1 := idx_of_nodup hn h1
    have e2 := idx_of_nodup hn h3
    rw [e1] at e2
    exact Option.some.inj e2
  · obtain ⟨i, o1, h1, h2, rfl⟩ := renH_some ho
    rw [hb h1]
    exact hp.nS i o1 h2

def renE (σ : Nat → Option Nat) (env : Env) : Env := env.map fun x => (x.1, ren σ x.2)
theorem look_renE (σ : Nat → Option Nat) : ∀ (env : Env) (j : Nat), look (renE σ env) j = ren σ (look env j)
  | [], j => by simp [renE, look, ren]
  | (k, p) :: env, j => by
    have := look_renE σ env j
    simp only [renE, List.map_cons, look] at this ⊢
    split
    · rfl
    · exact this

theorem SimC.pick {m : Amb} {N : Nat} {env : Env} {H : Heap} {a : Act} {c : Cx} (s : SimC m N env H a c) {src : List Nat} (hn : src.Nodup) (h0 : src.take m.n0 = List.range m.n0) : SimC m N (renE (idx src) env) (renH src H) a (c.pick src) := by
  have hlen : m.n0 ≤ src.length := by
    have := congrArg List.length h0
    simp at this
    omega
  refine ⟨s.hp.pick hn, by simpa [renH] using hlen, fun i hi => ?_, s.s0, s.s1, fun k o ho => ?_, s.out, fun j => ?_, s.sz, s.df⟩
  · have : src[i]? = some i := by
      have := congrArg (·[i]?) h0
      simp only [List.getElem?_take, if_pos hi] at this
      rw [this]; simp [hi]
    rw [← s.b0 i hi]
    simp [Cx.pick, List.getD_eq_getElem?_getD, this]
  · obtain ⟨i, o1, h1, h2, rfl⟩ := renH_some ho
    have : (c.pick src).β k = c.β i := by simp [Cx.pick, List.getD_eq_getElem?_getD, h1]
    rw [this]
    exact s.place i o1 h2
  · rw [look_renE]
    exact (s.env j).ren (c.pick_ren src)

/-- The objects by other numbers, some given up. -/
theorem W_ren {P : Program} {N n0 : Nat} {k : List KI} {Q : Env → Heap → Prop} {env : Env} {H : Heap} (src : List Nat) (hn : src.Nodup) (h0 : src.take n0 = List.range n0) (h : W P N n0 k Q (renE (idx src) env) (renH src H)) : W P N n0 k Q env H := by
  intro m a w hm s
  obtain ⟨S, β, sc⟩ := s
  exact h m a w hm (sc.pick hn (by rw [hm]; exact h0)).sim

/-! ### contracts -/
def Owned (c : Cx) (H0 : Heap) (b : Nat) : Prop := ∃ i o, H0[i]? = some (some o) ∧ (c.β i).1 = b

/-- Called with such arguments, beside such objects, the function hands back r, and leaves the objects H1. -/
def GC (P : Program) (f : FuncId) (args : List PV) (H0 : Heap) (r : PV) (H1 : Heap) : Prop :=
  ∀ (c : Cx) (vs : Array Value), HeapOk c H0 → RelL c vs.toList args →
    Calls P f vs c.w fun e w' => ∃ v S' β', e = .returned v ∧ H0.length ≤ H1.length ∧ HeapOk ⟨w', S', β', H1.length⟩ H1 ∧ Rel ⟨w', S', β', H1.length⟩ v r ∧
      (∀ i, i < H0.length → β' i = c.β i) ∧ (∀ b, c.S b → S' b) ∧ (∀ b, S' b → c.S b ∨ Owned c H0 b ∨ c.w.heap.size ≤ b) ∧
      (∀ i o, H1[i]? = some (some o) → Owned c H0 (β' i).1 ∨ c.w.heap.size ≤ (β' i).1) ∧ Out c.w (Owned c H0) w'

def argE : Nat → List PV → Env
  | _, [] => []
  | k, p :: ps => (k, p) :: argE (k + 1) ps

theorem look_argE : ∀ (ps : List PV) (k j : Nat), look (argE k ps) j = if k ≤ j then ps.getD (j - k) .dead else .dead
  | [], k, j => by simp [argE, look]
  | p :: ps, k, j => by
    simp only [argE, look, look_argE ps (k + 1) j]
    by_cases h : j = k
    · subst h; simp
    · rw [if_neg h]
      by_cases h1 : k ≤ j
      · rw [if_pos (by omega), if_pos h1, show j - k = (j - (k + 1)) + 1 by omega]; simp
      · rw [if_neg (by omega), if_neg h1]

def resP (P : Program) (env : Env) (H : Heap) : List ResultVar → Option (Prop × List PV)
  | [] => some (True, [])
  | .tmp t :: l => (resP P env H l).map fun r => (r.1, unT (look env t) :: r.2)
  | .cell a t :: l => match loadP (td P t) H (unT (look env a)), resP P env H l with
    | some (ok, p), some (ok', ps) => some (ok ∧ ok', p :: ps)
    | _, _ => none

def one : List PV → PV
  | [p] => p
  | ps => .tu ps

theorem asAddr_load {P : Program} {t : TypeId} {v u : Value} {w : World} (h : (Instr.loadAt t v).run P w = .ok u w) : ((do loadVar t (← asAddr v) : Sem Value)).run P w = .ok u w := by
  cases v with
  | pointer A =>
    cases A with
    | none => simp [Instr.loadAt, Instr.sureAddr] at h
    | some a => simpa [Instr.loadAt, Instr.sureAddr, asAddr] using h
  | _ => simp [Instr.loadAt, Instr.sureAddr] at h

def resV (tmps : Array Value) : ResultVar → Sem Value
  | .tmp t => pure (tmps.getD t undef)
  | .cell a t => do loadVar t (← asAddr (tmps.getD a undef))

theorem results_eq (fn : Func) (tmps : Array Value) : results fn tmps = (do
    let vs ← fn.results.mapM (resV tmps)
    pure (if h : vs.size = 1 then vs[0] else .tuple vs)) := by
  unfold results
  congr 1

theorem resV_cell {P : Program} {t : TypeId} {v u : Value} {w : World} (h : (Instr.loadAt t v).run P w = .ok u w) : ((asAddr v).run P w).andThen (fun a w' => (loadVar t a).run P w') = .ok u w := by
  have := asAddr_load h
  simpa only [Sem.run_bind] using this

theorem res_ok {P : Program} {m : Amb} {N : Nat} {env : Env} {H : Heap} {a : Act} {c : Cx} (s : SimC m N env H a c) : ∀ {l : List ResultVar} {ps : List PV} {ok : Prop}, resP P env H l = some (ok, ps) → ok →
    ∃ vs : List Value, (l.mapM (resV a.tmps)).run P c.w = .ok vs c.w ∧ RelL c vs ps
  | [], ps, ok, h, _ => by cases h; exact ⟨[], rfl, rfl, fun j hj => by simp at hj⟩
  | .tmp t :: l, ps, ok, h, ho => by
    simp only [resP] at h
    cases hq : resP P env H l with
    | none => rw [hq] at h; cases h
    | some q =>
      obtain ⟨ok1, ps1⟩ := q
      rw [hq] at h; cases h
      obtain ⟨vs, h1, h2⟩ := res_ok s hq ho
      refine ⟨a.tmps.getD t undef :: vs, by simp only [List.mapM_cons, resV, Sem.run_bind, Sem.run_pure, Result.andThen_ok, h1], by simp [h2.1], fun j hj => ?_⟩
      cases j with
      | zero => simpa using (s.env t).unT
      | succ j => simpa using h2.2 j (by simpa using hj)
  | .cell x t :: l, ps, ok, h, ho => by
    simp only [resP] at h
    split at h
    · rename_i ok1 p ok2 ps2 e1 e2
      cases h
      obtain ⟨vs, h1, h2⟩ := res_ok s e2 ho.2
      obtain ⟨u, h3, h4⟩ := load_ok (P := P) s.hp e1 ho.1 (s.env x).unT
      refine ⟨u :: vs, by simp only [List.mapM_cons, resV, Sem.run_bind, resV_cell h3, Sem.run_pure, Result.andThen_ok, h1], by simp [h2.1], fun j hj => ?_⟩
      cases j with
      | zero => simpa using h4
      | succ j => simpa using h2.2 j (by simpa using hj)
    · cases h

/-- What a function's end must show. src: which objects are left, and in which order (first those that were handed in). -/
def Ret (P : Program) (rv : List ResultVar) (n0 : Nat) (r : PV) (H1 : Heap) (env : Env) (H : Heap) : Prop :=
  ∃ (src : List Nat) (ok : Prop) (ps : List PV), resP P env H rv = some (ok, ps) ∧ ok ∧ src.Nodup ∧ src.take n0 = List.range n0 ∧ ren (idx src) (one ps) = r ∧ renH src H = H1

theorem one_ok {c : Cx} {vs : List Value} {ps : List PV} (h : RelL c vs ps) : Rel c (if hs : vs.toArray.size = 1 then vs.toArray[0] else .tuple vs.toArray) (one ps) := by
  obtain ⟨h1, h2⟩ := h
  match vs, ps, h1 with
  | [v], [p], _ => simpa [one] using h2 0 (by simp)
  | [], [], _ => exact .tu [] [] rfl (fun j hj => by simp at hj)
  | v :: v' :: vs, p :: p' :: ps, h1 => simpa [one] using Rel.tu (v :: v' :: vs) (p :: p' :: ps) h1 h2

theorem results_ok {P : Program} {fn : Func} {m : Amb} {N : Nat} {env : Env} {H : Heap} {a : Act} {c : Cx} (s : SimC m N env H a c) {ps : List PV} {ok : Prop} (h : resP P env H fn.results.toList = some (ok, ps)) (ho : ok) :
    ∃ v, (results fn a.tmps).run P c.w = .ok v c.w ∧ Rel c v (one ps) := by
  obtain ⟨vs, h1, h2⟩ := res_ok s h ho
  refine ⟨_, ?_, one_ok h2⟩
  rw [results_eq, Array.mapM_eq_mapM_toList]
  simp [h1]

end Go.Proofs.Ytbbjmfkmjjinnaa.V
