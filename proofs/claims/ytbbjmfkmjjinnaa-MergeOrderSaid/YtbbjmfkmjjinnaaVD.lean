/- The logic's calls: at the caller; memory given up for staying. No law of the program is proved here. -/
import Derived.Test.YtbbjmfkmjjinnaaVC
set_option linter.all false
namespace Go.Proofs.Ytbbjmfkmjjinnaa.V
open Go

def bk (n : Nat) (rs : List Nat) (H1 : Heap) : List (Option GObj) := H1.map (Option.map (GObj.ren (back n rs)))

theorem bk_some {n : Nat} {rs : List Nat} {H1 : Heap} {k : Nat} {o : GObj} (h : (bk n rs H1)[k]? = some (some o)) : ∃ o', H1[k]? = some (some o') ∧ o = o'.ren (back n rs) := by
  simp only [bk, List.getElem?_map] at h
  cases hH : H1[k]? with
  | none => rw [hH] at h; cases h
  | some x => cases x with
    | none => rw [hH] at h; cases h
    | some o' => rw [hH] at h; simp at h; exact ⟨o', rfl, h.symm⟩

/-- The caller goes on after a call. -/
theorem SimC.called {m : Amb} {N : Nat} {env : Env} {H : Heap} {a : Act} {c : Cx} (s : SimC m N env H a c) {vw : Bool} {rs : List Nat} (hn : rs.Nodup) (hl : ∀ i, i ∈ rs → i < H.length)
    {H1 : Heap} {r : PV} {v : Value} {w' : World} {S' : Nat → Prop} {β' : Nat → Nat × Nat} (hflat : vw = true → flatB r = true ∧ H1.all flatOB = true)
    (hlen : (subH vw H rs).length ≤ H1.length) (hp : HeapOk ⟨w', S', β', H1.length⟩ H1) (hr : Rel ⟨w', S', β', H1.length⟩ v r) (hb : ∀ i, i < (subH vw H rs).length → β' i = (c.callee vw H rs).β i)
    (hS : ∀ b, (c.callee vw H rs).S b → S' b) (hS1 : ∀ b, S' b → (c.callee vw H rs).S b ∨ Owned (c.callee vw H rs) (subH vw H rs) b ∨ c.w.heap.size ≤ b)
    (hpl : ∀ i o, H1[i]? = some (some o) → Owned (c.callee vw H rs) (subH vw H rs) (β' i).1 ∨ c.w.heap.size ≤ (β' i).1) (ho : Out c.w (Owned (c.callee vw H rs) (subH vw H rs)) w') :
    ∃ c', c'.w = w' ∧ SimC m N env (mergeH H rs (bk H.length rs H1)) a c' ∧ Rel c' v (ren (back H.length rs) r) := by
  have hsl : (subH vw H rs).length = rs.length := by simp [subH]
  rw [hsl] at hlen hb
  have hown : ∀ b, Owned (c.callee vw H rs) (subH vw H rs) b → ∃ i o, i ∈ rs ∧ H[i]? = some (some o) ∧ (c.β i).1 = b := by
    rintro b ⟨k, o, h1, h2⟩
    obtain ⟨i, o1, h3, h4, rfl⟩ := subH_some h1
    refine ⟨i, o1, List.mem_of_getElem? h3, h4, ?_⟩
    rw [← h2]; simp [Cx.callee, List.getD_eq_getElem?_getD, h3]
  let S2 : Nat → Prop := fun b => c.S b ∨ (S' b ∧ (Owned (c.callee vw H rs) (subH vw H rs) b ∨ c.w.heap.size ≤ b))
  let β2 : Nat → Nat × Nat := fun i => if i < H.length then c.β i else β' (rs.length + (i - H.length))
  have hnS : ∀ b, c.S b → ¬ Owned (c.callee vw H rs) (subH vw H rs) b := fun b hb ho => by
    obtain ⟨i, o, _, h2, rfl⟩ := hown b ho
    exact s.hp.nS i o h2 hb
  -- what the callee's words come to, in S2
  have hcs : ∀ b, c.S b → S' b := fun b hb => hS b (.inl hb)
  have key : HeapOk ⟨w', S2, β', H1.length⟩ H1 ∧ Rel ⟨w', S2, β', H1.length⟩ v r := by
    have hS2 : ∀ b, S2 b → S' b := fun b hb => hb.elim (hcs b) (·.1)
    cases hv : vw with
    | true =>
      obtain ⟨f1, f2⟩ := hflat hv
      exact ⟨hp.flat f2 hS2, hr.flat f1⟩
    | false =>
      have e : S' = S2 := funext fun b => propext ⟨fun h => by
        rcases hS1 b h with h1 | h1 | h1
        · rcases h1 with h1 | ⟨h1, _⟩
          · exact .inl h1
          · rw [hv] at h1; cases h1
        · exact .inr ⟨h, .inl h1⟩
        · exact .inr ⟨h, .inr h1⟩, hS2 b⟩
      rw [← e]; exact ⟨hp, hr⟩
  obtain ⟨hp2, hr2⟩ := key
  let c2 : Cx := ⟨w', S2, β2, (mergeH H rs (bk H.length rs H1)).length⟩
  have hmlen : (mergeH H rs (bk H.length rs H1)).length = H.length + (H1.length - rs.length) := by simp [mergeH, setAll_length, bk]
  have hβ : ∀ i k, i < H1.length → back H.length rs i = some k → k < c2.n ∧ c2.β k = β' i := by
    intro i k hi hk
    unfold back at hk
    split at hk
    · rename_i h
      have h1 := hl k (List.mem_of_getElem? hk)
      refine ⟨by show k < (mergeH H rs (bk H.length rs H1)).length; omega, ?_⟩
      show β2 k = β' i
      simp only [β2, if_pos h1]
      rw [hb i h]
      simp [Cx.callee, List.getD_eq_getElem?_getD, hk]
    · rename_i h
      cases hk
      refine ⟨by show _ < (mergeH H rs (bk H.length rs H1)).length; omega, ?_⟩
      show β2 _ = β' i
      simp only [β2, if_neg (show ¬ H.length + (i - rs.length) < H.length by omega)]
      congr 1; omega
  have hren : Cx.Ren ⟨w', S2, β', H1.length⟩ c2 (back H.length rs) := ⟨fun _ _ => rfl, fun _ h => h, hβ⟩
  have hle : c.Le c2 := ⟨fun b hb => .inl hb, fun b hb => ho.block b (s.hp.lt b hb) (hnS b hb), fun i hi => by show β2 i = c.β i; rw [s.hp.n] at hi; simp only [β2, if_pos hi], by show c.n ≤ (mergeH H rs (bk H.length rs H1)).length; rw [s.hp.n]; omega⟩
  -- every object of the merged heap: of the callee's, or the caller's own
  have split : ∀ j o, (mergeH H rs (bk H.length rs H1))[j]? = some (some o) → (∃ k o', H1[k]? = some (some o') ∧ o = o'.ren (back H.length rs) ∧ back H.length rs k = some j ∧ c2.β j = β' k) ∨ (j ∉ rs ∧ H[j]? = some (some o) ∧ j < H.length ∧ c2.β j = c.β j) := by
    intro j o h
    have hbl : (bk H.length rs H1).length = H1.length := by simp [bk]
    rcases mergeH_get hn (by rw [hbl]; exact hlen) h with ⟨k, h1, h2⟩ | ⟨h1, h2⟩ | ⟨h1, h2⟩
    · obtain ⟨o', h3, h4⟩ := bk_some h2
      have hk : back H.length rs k = some j := by unfold back; rw [if_pos (List.getElem?_eq_some_iff.1 h1).1]; exact h1
      exact .inl ⟨k, o', h3, h4, hk, (hβ k j (List.getElem?_eq_some_iff.1 h3).1 hk).2⟩
    · have hj := (List.getElem?_eq_some_iff.1 h2).1
      exact .inr ⟨h1, h2, hj, by show β2 j = c.β j; simp only [β2, if_pos hj]⟩
    · obtain ⟨o', h3, h4⟩ := bk_some h2
      have hk : back H.length rs (rs.length + (j - H.length)) = some j := by simp [back]; omega
      exact .inl ⟨_, o', h3, h4, hk, (hβ _ j (List.getElem?_eq_some_iff.1 h3).1 hk).2⟩
  have notown : ∀ j o, j ∉ rs → H[j]? = some (some o) → ¬ Owned (c.callee vw H rs) (subH vw H rs) (c.β j).1 := fun j o hj h ho => by
    obtain ⟨i, o1, h1, h2, h3⟩ := hown _ ho
    have := s.hp.inj i j o1 o h2 h h3
    subst this
    exact hj h1
  have hheap : HeapOk c2 (mergeH H rs (bk H.length rs H1)) := by
    refine ⟨rfl, fun j o h => ?_, fun i j o o' h h' e => ?_, fun j o h hs => ?_, fun b hb => ?_⟩
    · rcases split j o h with ⟨k, o', h1, rfl, hk, hb2⟩ | ⟨h1, h2, hj, hb2⟩
      · exact (hp2.blk k o' h1).ren hren hb2 rfl
      · exact (s.hp.blk j o h2).move hle (by rw [s.hp.n]; exact hj) (ho.block _ (s.hp.blk j o h2).lt (notown j o h1 h2))
    · rcases split i o h with ⟨k, o1, h1, rfl, hk, hb2⟩ | ⟨h1, h2, hj, hb2⟩ <;> rcases split j o' h' with ⟨k', o1', h1', rfl, hk', hb2'⟩ | ⟨h1', h2', hj', hb2'⟩
      · rw [hb2, hb2'] at e
        have := hp2.inj k k' o1 o1' h1 h1' e
        subst this
        rw [hk] at hk'
        exact Option.some.inj hk'
      · rw [hb2, hb2'] at e
        rcases hpl k o1 h1 with h3 | h3
        · rw [e] at h3; exact absurd h3 (notown j o' h1' h2')
        · have := (s.hp.blk j o' h2').lt
          rw [e] at h3; omega
      · rw [hb2, hb2'] at e
        rcases hpl k' o1' h1' with h3 | h3
        · rw [← e] at h3; exact absurd h3 (notown i o h1 h2)
        · have := (s.hp.blk i o h2).lt
          rw [← e] at h3; omega
      · rw [hb2, hb2'] at e
        exact s.hp.inj i j o o' h2 h2' e
    · rcases split j o h with ⟨k, o1, h1, rfl, hk, hb2⟩ | ⟨h1, h2, hj, hb2⟩
      · rw [hb2] at hs
        exact hp2.nS k o1 h1 hs
      · rw [hb2] at hs
        rcases hs with hs | ⟨_, hs | hs⟩
        · exact s.hp.nS j o h2 hs
        · exact notown j o h1 h2 hs
        · have := (s.hp.blk j o h2).lt; omega
    · exact hp2.lt b hb
  have hplace : ∀ b, Owned (c.callee vw H rs) (subH vw H rs) b → m.O b ∨ m.w0.heap.size ≤ b := fun b hb => by
    obtain ⟨i, o1, _, h2, rfl⟩ := hown _ hb
    exact s.place i o1 h2
  refine ⟨c2, rfl, ⟨hheap, ?_, fun i hi => ?_, fun b hb => .inl (s.s0 b hb), fun b hb => ?_, fun j o h => ?_, ?_, fun k => (s.env k).mono hle, s.sz, s.df⟩, hr2.ren hren⟩
  · rw [hmlen]; have := s.n0; omega
  · have h1 : i < H.length := Nat.lt_of_lt_of_le hi s.n0
    show β2 i = _
    simp only [β2, if_pos h1]; exact s.b0 i hi
  · rcases hb with hb | ⟨_, hb | hb⟩
    · exact s.s1 b hb
    · exact .inr (hplace b hb)
    · exact .inr (.inr (Nat.le_trans s.out.size hb))
  · rcases split j o h with ⟨k, o1, h1, rfl, hk, hb2⟩ | ⟨h1, h2, hj, hb2⟩
    · rw [hb2]
      rcases hpl k o1 h1 with h3 | h3
      · exact hplace _ h3
      · exact .inr (Nat.le_trans s.out.size h3)
    · rw [hb2]; exact s.place j o h2
  · refine ⟨ho.os.trans s.out.os, ho.tape.trans s.out.tape, ho.output.trans s.out.output, Nat.le_trans s.out.size ho.size, fun b hb hO => ?_⟩
    refine (ho.block b (Nat.lt_of_lt_of_le hb s.out.size) fun hown' => ?_).trans (s.out.block b hb hO)
    rcases hplace b hown' with h | h
    · exact hO h
    · omega

section
variable {P : Program} {N n0 : Nat} {k : List KI} {Q : Env → Heap → Prop} {env : Env} {H : Heap} {ds : List (Option Tmp)}

def Enters (P : Program) (N : Nat) (o : Oper) (env : Env) (H : Heap) (f : FuncId) (ps : List PV) : Prop :=
  ∀ m a c, SimC m N env H a c → ∃ vs : Array Value, (execOp a.eval o).run P c.w = .ok (.enter f vs) c.w ∧ RelL c vs.toList ps

/-- A call. vw: may the callee look at what it isn't handed (as at memory that stays)? rs: which objects it is handed. -/
theorem W_enter {o : Oper} {l : List Oper} {f : FuncId} {ps : List PV} (vw : Bool) (rs : List Nat) {r : PV} {H1 : Heap} (he : Enters P N o env H f ps) (hg : o.guard = none) (hd : dstB N o = true)
    (hn : rs.Nodup) (hl : ∀ i, i ∈ rs → i < H.length) (hf : vw = true → flatB r = true ∧ H1.all flatOB = true) (hc : GC P f (toCL vw H rs ps) (subH vw H rs) r H1)
    (hk : W P N n0 (.ops ds l :: k) Q (putE o.dst (ren (back H.length rs) r) env) (mergeH H rs (bk H.length rs H1))) : W P N n0 (.ops ds (o :: l) :: k) Q env H := by
  intro m a w hm s
  obtain ⟨S, β, sc⟩ := s
  show wpL P ds _ (o :: l) a w
  have hw : Region.wanted o (yieldedL ds a.tmps) = true := by simp [Region.wanted, hg]
  simp only [wpL, hw, if_true]
  obtain ⟨vs, hrun, hvs⟩ := he m a _ sc
  unfold Oper.wp
  rw [show (execOp a.eval o).run P w = .ok (.enter f vs) w from hrun, Oper.upon_enter]
  have hs := sees_callee (⟨w, S, β, H.length⟩ : Cx) vw H rs
  refine (hc _ vs (sc.hp.callee vw hn) (toCL_ok hs sc.hp hvs)).mono ?_
  rintro e w' ⟨v, S', β', rfl, h1, h2, h3, h4, h5, h6, h7, h8⟩
  obtain ⟨c', rfl, s', hr'⟩ := sc.called (vw := vw) hn hl hf h1 h2 h3 h4 h5 h6 h7 h8
  exact hk m _ _ hm (s'.putE hd hr').sim

structure Callable (P : Program) (f : FuncId) : Prop where
  h : ∃ fn c, P.funcs[f]? = some fn ∧ (fn.name == "runtime.NumGoroutine") = false ∧ fn.body = some c

theorem Callable.run {f : FuncId} (h : Callable P f) (args : Array Value) (w : World) : (callFunc f args).run P w = .ok (.enter f args) w := by
  obtain ⟨fn, c, hf, hn, hb⟩ := h.h
  have h1 : fn.name ≠ "runtime.NumGoroutine" := by simpa using hn
  simp [callFunc, hf, h1, hb]

theorem evalS_ok {m : Amb} {a : Act} {c : Cx} (s : SimC m N env H a c) (x : Operand) : Rel c (a.eval x) (evalS env x) := (s.eval x).unT

theorem evalL_ok {m : Amb} {a : Act} {c : Cx} (s : SimC m N env H a c) (xs : Array Operand) : RelL c (xs.map a.eval).toList (xs.toList.map (evalS env)) := by
  refine ⟨by simp, fun j hj => ?_⟩
  simp only [List.length_map] at hj
  have := evalS_ok s (xs.toList[j]'(by simpa using hj))
  simp only [Array.toList_map, List.getD_eq_getElem?_getD, List.getElem?_map, List.getElem?_eq_getElem hj]
  simpa using this

theorem RelL.append {c : Cx} {l l' : List Value} {ps ps' : List PV} (h : RelL c l ps) (h' : RelL c l' ps') : RelL c (l ++ l') (ps ++ ps') := by
  refine ⟨by simp [h.1, h'.1], fun j hj => ?_⟩
  simp only [List.getD_eq_getElem?_getD]
  by_cases hjl : j < ps.length
  · have := h.2 j hjl
    rw [List.getElem?_append_left (by rw [h.1]; exact hjl), List.getElem?_append_left hjl]
    simpa [List.getD_eq_getElem?_getD] using this
  · have := h'.2 (j - ps.length) (by simp at hj; omega)
    rw [List.getElem?_append_right (by rw [h.1]; omega), List.getElem?_append_right (by omega), h.1]
    simpa [List.getD_eq_getElem?_getD] using this

/-- A call of a named function. -/
theorem enters_func {o : Oper} {f : FuncId} {xs : Array Operand} {ats : Array TypeId} (ho : o.op = .call { callee := .value (.func f), args := xs, argTypes := ats }) (hc : Callable P f) : Enters P N o env H f (xs.toList.map (evalS env)) := by
  intro m a c s
  refine ⟨xs.map a.eval, ?_, evalL_ok s xs⟩
  have : execOp a.eval o = callFunc f (#[] ++ xs.map a.eval ++ #[]) := by simp only [execOp, ho]; rfl
  rw [this, hc.run]; simp

/-- A call of a function value. -/
theorem enters_value {o : Oper} {x : Operand} {f : FuncId} {ps qs : List PV} {xs : Array Operand} {ats : Array TypeId} (ho : o.op = .call { callee := .value x, args := xs, argTypes := ats }) (hx : evalS env x = .fn (.func f) ps qs) (hc : Callable P f) :
    Enters P N o env H f (ps ++ xs.toList.map (evalS env) ++ qs) := by
  intro m a c s
  have hr := evalS_ok s x
  rw [hx] at hr
  generalize hv : a.eval x = v at hr
  cases hr with
  | fn _ l l' _ _ h1 h2 h3 h4 =>
    refine ⟨l.toArray ++ xs.map a.eval ++ l'.toArray, ?_, ?_⟩
    · have : execOp a.eval o = callFunc f (l.toArray ++ xs.map a.eval ++ l'.toArray) := by
        simp only [execOp, ho, resolve, hv, Deferred.ofValue]; rfl
      rw [this, hc.run]
    · have e : (l.toArray ++ xs.map a.eval ++ l'.toArray).toList = l ++ (xs.map a.eval).toList ++ l' := by simp
      rw [e]
      exact (RelL.append ⟨h1, h2⟩ (evalL_ok s xs)).append ⟨h3, h4⟩

/-- What an interface's method is, on such a receiver. -/
def Method (P : Program) (t : TypeId) (name : String) (f : FuncId) (g : PV → Option PV) : Prop :=
  ∀ c v p p' w, Rel c v p → g p = some p' → ∃ v', (method (P.types.size + Made.depth) t v name).run P w = .ok (f, v') w ∧ Rel c v' p'

theorem invoke_method (recv : Value) (name : String) (args cap : Array Value) : invoke (.fn (.method name) cap) (#[recv] ++ args) = callMethod recv name args := by
  have h : (#[recv] ++ args)[0]? = some recv := by
    rw [Array.getElem?_append_left (by simp)]; rfl
  have e : (#[recv] ++ args).extract 1 (#[recv] ++ args).size = args := by
    apply Array.ext'
    simp [List.take_of_length_le]
  simp only [invoke, h, e]

theorem enters_invoke {o : Oper} {x : Operand} {name : String} {t : TypeId} {f : FuncId} {g : PV → Option PV} {p p' : PV} {xs : Array Operand} {ats : Array TypeId} (ho : o.op = .call { callee := .invoke x name, args := xs, argTypes := ats }) (hx : evalS env x = .ifc t p)
    (hm : Method P t name f g) (hp : g p = some p') (hc : Callable P f) : Enters P N o env H f (p' :: xs.toList.map (evalS env)) := by
  intro m a c s
  have hr := evalS_ok s x
  rw [hx] at hr
  generalize hv : a.eval x = v at hr
  cases hr with
  | ifc _ u _ h =>
    obtain ⟨v', h1, h2⟩ := hm c u p p' c.w h hp
    refine ⟨#[v'] ++ xs.map a.eval, ?_, ?_⟩
    · have hop : execOp a.eval o = (do let d ← resolve a.eval { callee := .invoke x name, args := xs, argTypes := ats } o.type; invoke d.target d.args) := by simp only [execOp, ho]
      rw [hop]
      simp only [resolve, hv, Sem.run_bind, Sem.run_pure, Result.andThen_ok, invoke_method, callMethod, run_program, h1, hc.run]
    · have e : (#[v'] ++ xs.map a.eval).toList = v' :: (xs.map a.eval).toList := by simp
      rw [e]
      exact RelL.append (l := [v']) (ps := [p']) ⟨rfl, fun j hj => by
        have : j = 0 := by simp at hj; omega
        subst this; exact h2⟩ (evalL_ok s xs)

/-! ### an object is given up: from here on it stays as it is -/
mutual
def zB : PV → Bool
  | .id _ _ => false
  | .ix _ _ _ => false
  | .ad _ _ => false
  | .ag ps => zLB ps
  | .tu ps => zLB ps
  | .fn _ a b => zLB a && zLB b
  | .ifc _ p => zB p
  | .gv _ p => zB p
  | .dead => true
  | .sc _ => true
  | .im _ _ _ => true
  | .ip _ => true
def zLB : List PV → Bool
  | [] => true
  | p :: ps => zB p && zLB ps
end
theorem zLB_all : ∀ l, zLB l = l.all zB
  | [] => rfl
  | p :: l => by simp [zLB, zLB_all l]
theorem zLB_getD {l : List PV} (h : zLB l = true) (j : Nat) : zB (l.getD j .dead) = true := by
  rw [zLB_all, List.all_eq_true] at h
  rw [List.getD_eq_getElem?_getD]
  cases e : l[j]? with
  | none => rfl
  | some p => exact h p (List.mem_of_getElem? e)

theorem Rel.toZ {c : Cx} {v : Value} {p : PV} (r : Rel c v p) (hf : zB p = true) : Rel c.z v p := by
  induction r with
  | dead v => exact .dead v
  | sc v => exact .sc v
  | im A ad len cap nz cells us hA hz hl h0 hc hr ih => exact .im A ad len cap nz cells us hA hz hl h0 hc hr
  | ip ad cells us hS hc hr ih => exact .ip ad cells us hS hc hr
  | id => cases hf
  | ix => cases hf
  | ad => cases hf
  | ag l ps hl hr ih => exact .ag l ps hl (fun j hj => ih j hj (zLB_getD hf j))
  | tu l ps hl hr ih => exact .tu l ps hl (fun j hj => ih j hj (zLB_getD hf j))
  | fn f l m ps qs hl hr hm hq ih1 ih2 =>
    simp only [zB, Bool.and_eq_true] at hf
    exact .fn f l m ps qs hl (fun j hj => ih1 j hj (zLB_getD hf.1 j)) hm (fun j hj => ih2 j hj (zLB_getD hf.2 j))
  | ifc t v p _ ih => exact .ifc t v p (ih hf)
  | gvf p => exact .gvf p
  | gvt v p _ ih => exact .gvt v p (ih hf)

mutual
def frz (i sz : Nat) (cells : List PV) : PV → PV
  | .id j n => if j = i then .im true n (cells.take (n * sz)) else .id j n
  | .ix j o n => if j = i then .im true n ((cells.drop o).take (n * sz)) else .ix j o n
  | .ad j off => if j = i then .ip (cells.drop off) else .ad j off
  | .ag ps => .ag (frzL i sz cells ps)
  | .tu ps => .tu (frzL i sz cells ps)
  | .fn f a b => .fn f (frzL i sz cells a) (frzL i sz cells b)
  | .ifc t p => .ifc t (frz i sz cells p)
  | .gv g p => .gv g (frz i sz cells p)
  | .dead => .dead
  | .sc v => .sc v
  | .im nz n cells => .im nz n cells
  | .ip cells => .ip cells
def frzL (i sz : Nat) (cells : List PV) : List PV → List PV
  | [] => []
  | p :: ps => frz i sz cells p :: frzL i sz cells ps
end
theorem frzL_eq (i sz : Nat) (cells : List PV) : ∀ l, frzL i sz cells l = l.map (frz i sz cells)
  | [] => rfl
  | p :: l => by simp [frzL, frzL_eq i sz cells l]
theorem frzL_length (i sz : Nat) (cells l : List PV) : (frzL i sz cells l).length = l.length := by simp [frzL_eq]
theorem frzL_getD (i sz : Nat) (cells l : List PV) (j : Nat) : (frzL i sz cells l).getD j .dead = frz i sz cells (l.getD j .dead) := by
  rw [frzL_eq]; exact map_getD rfl l j

def Cx.frz (c : Cx) (i : Nat) : Cx := { c with S := fun b => c.S b ∨ b = (c.β i).1 }
theorem Cx.le_frz (c : Cx) (i : Nat) : c.Le (c.frz i) := ⟨fun _ h => .inl h, fun _ _ => rfl, fun _ _ => rfl, Nat.le_refl _⟩

theorem ObjOk.cells {c : Cx} {i off : Nat} {o : GObj} (h : ObjOk c i o) (hz : zLB o.cells = true) (k : Nat) (hk : off + k < o.cells.length) :
    (c.w.cell? ((⟨(c.β i).1, off, none⟩ : Addr).add k) = some ((c.w.cell? ((⟨(c.β i).1, off, none⟩ : Addr).add k)).getD undef) ∧ ((c.w.cell? ((⟨(c.β i).1, off, none⟩ : Addr).add k)).getD undef).oneCell' = true) ∧
      Rel c.z ((c.w.cell? ((⟨(c.β i).1, off, none⟩ : Addr).add k)).getD undef) (o.cells.getD (off + k) .dead) := by
  obtain ⟨u, k1, k2, k3⟩ := h.cell hk
  simp only [addr_add, k1, Option.getD_some]
  exact ⟨⟨trivial, k2⟩, k3.toZ (zLB_getD hz _)⟩

theorem Rel.frz {c c0 : Cx} {i : Nat} {o : GObj} (h : ObjOk c0 i o) (hz : zLB o.cells = true) (hc : c0 = c) {v : Value} {p : PV} (r : Rel c v p) : Rel (c.frz i) v (V.frz i o.sz o.cells p) := by
  induction r with
  | dead v => exact .dead v
  | sc v => exact .sc v
  | @im c A ad len cap nz cells us hA hz' hl h0 hc' hr ih => exact (Rel.im A ad len cap nz cells us hA hz' hl h0 hc' hr).mono (c.le_frz i)
  | @ip c ad cells us hS hc' hr ih => exact (Rel.ip ad cells us hS hc' hr).mono (c.le_frz i)
  | @id c j len hj hl =>
    subst hc
    simp only [V.frz]
    split
    · rename_i e; subst e
      have key := h.cells (off := 0) hz
      refine .im _ ⟨(c0.β j).1, 0, none⟩ _ _ _ _ (fun k => (c0.w.cell? ((⟨(c0.β j).1, 0, none⟩ : Addr).add k)).getD undef) (fun _ => ⟨rfl, .inr rfl⟩) (fun _ => rfl) hl (fun e => by rw [e]; simp) (fun k hk => ?_) (fun k hk => ?_)
      · exact (key k (by simp at hk; omega)).1
      · rw [getD_take (by simp at hk; omega)]
        have := (key k (by simp at hk; omega)).2
        rw [Nat.zero_add] at this
        exact this.mono (c0.le_frz j).z
    · exact .id j len hj hl
  | @ix c A j off len cap hj hl hA hs =>
    subst hc
    simp only [V.frz]
    split
    · rename_i e; subst e
      have key := h.cells (off := off) hz
      refine .im A ⟨(c0.β j).1, off, none⟩ _ _ _ _ (fun k => (c0.w.cell? ((⟨(c0.β j).1, off, none⟩ : Addr).add k)).getD undef) (fun h0 => ⟨hA h0, .inr rfl⟩) (fun _ => hs) hl (fun e => by rw [e]; simp) (fun k hk => ?_) (fun k hk => ?_)
      · exact (key k (by simp at hk; omega)).1
      · rw [getD_take (by simp at hk; omega), getD_drop]
        exact (key k (by simp at hk; omega)).2.mono (c0.le_frz j).z
    · exact .ix A j off len cap hj hl hA hs
  | @ad c j off hj =>
    subst hc
    simp only [V.frz]
    split
    · rename_i e; subst e
      have key := h.cells (off := off) hz
      refine .ip ⟨(c0.β j).1, off, none⟩ _ (fun k => (c0.w.cell? ((⟨(c0.β j).1, off, none⟩ : Addr).add k)).getD undef) (fun _ => .inr rfl) (fun k hk => ?_) (fun k hk => ?_)
      · exact (key k (by simp at hk; omega)).1
      · rw [getD_drop]
        exact (key k (by simp at hk; omega)).2.mono (c0.le_frz j).z
    · exact .ad j off hj
  | ag l ps hl hr ih => exact .ag l _ (by rw [frzL_length]; exact hl) (fun j hj => by rw [frzL_getD]; exact ih j (by rwa [frzL_length] at hj) hc)
  | tu l ps hl hr ih => exact .tu l _ (by rw [frzL_length]; exact hl) (fun j hj => by rw [frzL_getD]; exact ih j (by rwa [frzL_length] at hj) hc)
  | fn f l m ps qs hl hr hm hq ih1 ih2 => exact .fn f l m _ _ (by rw [frzL_length]; exact hl) (fun j hj => by rw [frzL_getD]; exact ih1 j (by rwa [frzL_length] at hj) hc) (by rw [frzL_length]; exact hm) (fun j hj => by rw [frzL_getD]; exact ih2 j (by rwa [frzL_length] at hj) hc)
  | ifc t v p _ ih => exact .ifc t v _ (ih hc)
  | gvf p => exact .gvf _
  | gvt v p _ ih => exact .gvt v _ (ih hc)

def GObj.frz (i sz : Nat) (cells : List PV) (o : GObj) : GObj := { o with cells := frzL i sz cells o.cells }
def frzH (i : Nat) (o : GObj) (H : Heap) : Heap := (H.set i none).map (Option.map (GObj.frz i o.sz o.cells))
def frzE (i : Nat) (o : GObj) (env : Env) : Env := env.map fun x => (x.1, frz i o.sz o.cells x.2)
theorem look_frzE (i : Nat) (o : GObj) : ∀ (env : Env) (j : Nat), look (frzE i o env) j = frz i o.sz o.cells (look env j)
  | [], j => by simp [frzE, look, frz]
  | (k, p) :: env, j => by
    have := look_frzE i o env j
    simp only [frzE, List.map_cons, look] at this ⊢
    split
    · rfl
    · exact this

theorem frzH_some {i j : Nat} {o o' : GObj} {H : Heap} (h : (frzH i o H)[j]? = some (some o')) : ∃ o1, j ≠ i ∧ H[j]? = some (some o1) ∧ o' = o1.frz i o.sz o.cells := by
  simp only [frzH, List.getElem?_map] at h
  cases hs : (H.set i none)[j]? with
  | none => rw [hs] at h; cases h
  | some x =>
    rw [hs] at h
    cases x with
    | none => simp at h
    | some o1 =>
      simp at h
      rcases getElem?_set_cases hs with ⟨rfl, h1⟩ | ⟨h1, h2⟩
      · cases h1
      · exact ⟨o1, h1, h2, h.symm⟩

theorem SimC.frz {m : Amb} {a : Act} {c : Cx} (s : SimC m N env H a c) {i : Nat} {o : GObj} (hi : H[i]? = some (some o)) (hz : zLB o.cells = true) : SimC m N (frzE i o env) (frzH i o H) a (c.frz i) := by
  have hob := s.hp.blk i o hi
  refine ⟨⟨by simp [Cx.frz, frzH, s.hp.n], fun j o' h => ?_, fun j k o1 o2 h1 h2 e => ?_, fun j o' h hs => ?_, fun b hb => ?_⟩, by simpa [frzH] using s.n0, s.b0, fun b hb => .inl (s.s0 b hb), fun b hb => ?_, fun j o' h => ?_, s.out, fun j => ?_, s.sz, s.df⟩
  · obtain ⟨o1, h1, h2, rfl⟩ := frzH_some h
    obtain ⟨cur, k1, k2, k3, k4, k5⟩ := s.hp.blk j o1 h2
    refine ⟨cur, k1, by simpa [GObj.frz, frzL_length] using k2, k3, by simpa [GObj.frz, frzL_length] using k4, fun l hl => ?_⟩
    simp only [GObj.frz, frzL_length] at hl
    refine ⟨(k5 l hl).1, ?_⟩
    simp only [GObj.frz]
    rw [frzL_getD]
    exact (k5 l hl).2.frz hob hz rfl
  · obtain ⟨o3, h3, h4, rfl⟩ := frzH_some h1
    obtain ⟨o5, h5, h6, rfl⟩ := frzH_some h2
    exact s.hp.inj j k o3 o5 h4 h6 e
  · obtain ⟨o1, h1, h2, rfl⟩ := frzH_some h
    rcases hs with hs | hs
    · exact s.hp.nS j o1 h2 hs
    · exact h1 (s.hp.inj j i o1 o h2 hi hs)
  · rcases hb with hb | rfl
    · exact s.hp.lt b hb
    · exact hob.lt
  · rcases hb with hb | rfl
    · exact s.s1 b hb
    · exact .inr (s.place i o hi)
  · obtain ⟨o1, h1, h2, rfl⟩ := frzH_some h
    exact s.place j o1 h2
  · rw [look_frzE]
    exact (s.env j).frz hob hz rfl

theorem W_freeze (i : Nat) {o : GObj} (hi : H[i]? = some (some o)) (hz : zLB o.cells = true) (h : W P N n0 k Q (frzE i o env) (frzH i o H)) : W P N n0 k Q env H := by
  intro m a w hm s
  obtain ⟨S, β, sc⟩ := s
  exact h m a w hm (sc.frz hi hz).sim

end
end Go.Proofs.Ytbbjmfkmjjinnaa.V
