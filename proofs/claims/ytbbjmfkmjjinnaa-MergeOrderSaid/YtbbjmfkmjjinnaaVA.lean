/- The logic's stretches of operations: one after the other, with guards. No law of the program is proved here. -/
import Derived.Test.YtbbjmfkmjjinnaaV9
set_option linter.all false
namespace Go.Proofs.Ytbbjmfkmjjinnaa.V
open Go

/-- What a value under a guard is, where the guard is known. -/
def unT : PV → PV
  | .gv g p => bif g then p else .dead
  | p => p

theorem Rel.unT {c : Cx} {v : Value} {p : PV} (h : Rel c v p) : Rel c v (unT p) := by
  cases h with
  | gvf p => exact .dead _
  | gvt v p h => exact h
  | dead v => exact .dead v
  | sc v => exact .sc v
  | im A ad len cap nz cells us hA hz hl h0 hc hr => exact .im A ad len cap nz cells us hA hz hl h0 hc hr
  | ip ad cells us hS hc hr => exact .ip ad cells us hS hc hr
  | id i len hi hl => exact .id i len hi hl
  | ix A i off len cap hi hl hA hs => exact .ix A i off len cap hi hl hA hs
  | ad i off hi => exact .ad i off hi
  | ag l ps hl hr => exact .ag l ps hl hr
  | tu l ps hl hr => exact .tu l ps hl hr
  | fn f l m ps qs hl hr hm hq => exact .fn f l m ps qs hl hr hm hq
  | ifc t v p h => exact .ifc t v p h

def evalS (env : Env) (x : Operand) : PV := unT (evalO env x)

def quietB : Op → Bool
  | .move _ | .assign _ | .build .. | .load .. | .nilCheck _ | .binOp .. | .unOp .. | .convert .. | .makeInterface .. | .makeFunc .. | .slice .. | .fieldAddr .. | .field .. | .indexAddr .. | .index .. | .extract .. => true
  | .call c => match c.callee with
    | .builtin .len | .builtin .min | .builtin .max => true
    | _ => false
  | _ => false

theorem quiet_ok {P : Program} {op : Op} {ev : Operand → PV} {H H' : Heap} {ok : Prop} {p : PV} (hq : quietB op = true) (h : opP P op ev H = some (ok, p, H')) : H' = H := by
  cases op with
  | move x => cases h; rfl
  | assign x => cases h; rfl
  | makeFunc f a b => cases h; rfl
  | makeInterface t x =>
    simp only [opP] at h
    split at h
    · cases h; rfl
    · cases h
  | slice t x lo hi mx =>
    cases mx with
    | none => exact (keepH_some h).2
    | some _ => cases h
  | call cl =>
    obtain ⟨callee, args, ats⟩ := cl
    simp only [quietB] at hq
    split at hq
    · simp only [opP] at h
      split at h <;> first | exact (keepH_some h).2 | (rename_i hb _ _ ; cases hb) | cases h | (rename_i hb _; cases hb)
    · simp only [opP] at h
      split at h <;> first | exact (keepH_some h).2 | (rename_i hb _ _ ; cases hb) | cases h | (rename_i hb _; cases hb)
    · simp only [opP] at h
      split at h <;> first | exact (keepH_some h).2 | (rename_i hb _ _ ; cases hb) | cases h | (rename_i hb _; cases hb)
    · cases hq
  | _ => first | exact (keepH_some h).2 | cases hq

def effG (ds : List (Option Tmp)) (env : Env) (j : Nat) (w : Bool) : Option Bool :=
  match ds[j]? with
  | some (some d) => match look env d with
    | .sc (.bool b) => some (b == w)
    | .gv g (.sc (.bool b)) => some (g && (b == w))
    | _ => none
  | _ => none

def okG (g : Bool) : List PV → Prop
  | [] => True
  | p :: l => (g = true → holdP p = true) ∧ okG g l

theorem okG_mem {g : Bool} : ∀ {l : List PV}, okG g l → g = true → ∀ p, p ∈ l → holdP p = true
  | _ :: _, h, hg, p, hp => by
    cases hp with
    | head => exact h.1 hg
    | tail _ hp => exact okG_mem h.2 hg p hp

def dstB (N : Nat) (o : Oper) : Bool :=
  match o.dst with
  | some d => decide (d < N)
  | none => true

def stepO (P : Program) (N : Nat) (ds : List (Option Tmp)) (o : Oper) (env : Env) (H : Heap) : Option (Prop × PV × Heap) :=
  if dstB N o then
    match o.guard with
    | none => match o.op with
      | .pick c a b => keepH H (pickP (evalS env c) (evalO env a) (evalO env b))
      | op => opP P op (evalS env) H
    | some (j, w) => match effG ds env j w with
      | some g => if quietB o.op then (opP P o.op (fun x => stripP (evalO env x)) H).map fun r => ((g = true → r.1 ∧ okG g (o.op.operands.toList.map (evalO env))), .gv g r.2.1, H) else none
      | none => none
  else none

def putE (d : Option Tmp) (p : PV) (env : Env) : Env :=
  match d with
  | some d => (d, p) :: env
  | none => env

theorem SimC.putE {m : Amb} {N : Nat} {env : Env} {H : Heap} {a : Act} {c : Cx} (h : SimC m N env H a c) {o : Oper} (hd : dstB N o = true) {v : Value} {p : PV} (hv : Rel c v p) : SimC m N (putE o.dst p env) H (a.put o.dst v) c := by
  unfold dstB at hd
  cases e : o.dst with
  | none => exact h
  | some d =>
    rw [e] at hd
    exact h.put (by simpa using hd) hv

theorem effG_ok {ds : List (Option Tmp)} {m : Amb} {N : Nat} {env : Env} {H : Heap} {a : Act} {c : Cx} (s : SimC m N env H a c) {j : Nat} {w g : Bool} (h : effG ds env j w = some g) : (yieldedL ds a.tmps j == some w) = g := by
  unfold effG at h
  split at h
  · rename_i d hd
    have hr := s.env d
    have hget : ∀ v, v ≠ undef → a.tmps.getD d undef = v → a.tmps[d]? = some v := fun v hv e => by
      rw [Array.getD_eq_getD_getElem?] at e
      cases hq : a.tmps[d]? with
      | none => rw [hq] at e; exact absurd e.symm hv
      | some u => rw [hq] at e; simp at e; rw [e]
    have hy : ∀ b, a.tmps.getD d undef = .bool b → yieldedL ds a.tmps j = some b := fun b e => by
      simp [yieldedL, hd, hget (.bool b) (by simp [undef]) e]
    split at h
    · rename_i b hl
      cases h
      rw [hl] at hr
      rw [hy b hr.sc_inv]
      cases b <;> cases w <;> rfl
    · rename_i g' b hl
      cases h
      rw [hl] at hr
      generalize hv : a.tmps.getD d undef = v at hr
      cases hr with
      | gvf p =>
        have : yieldedL ds a.tmps j = none := by
          unfold yieldedL
          rw [Array.getD_eq_getD_getElem?] at hv
          simp only [hd, Option.bind_some]
          cases hq : a.tmps[d]? with
          | none => rfl
          | some u => rw [hq] at hv; simp at hv; rw [hv]; rfl
        rw [this]; rfl
      | gvt _ p h' =>
        rw [hy b (hv.trans h'.sc_inv)]
        cases b <;> cases w <;> rfl
    · cases h
  · cases h

section
variable {P : Program} {N n0 : Nat} {k : List KI} {Q : Env → Heap → Prop} {env : Env} {H : Heap} {ds : List (Option Tmp)}

theorem W_step {o : Oper} {l : List Oper} {ok : Prop} {p : PV} {H' : Heap} (h : stepO P N ds o env H = some (ok, p, H')) (ho : ok) (hk : W P N n0 (.ops ds l :: k) Q (putE o.dst p env) H') :
    W P N n0 (.ops ds (o :: l) :: k) Q env H := by
  intro m a w hn s
  obtain ⟨S, β, sc⟩ := s
  unfold stepO at h
  split at h
  · rename_i hd
    show wpL P ds _ (o :: l) a w
    have fin : ∀ v c', Rel c' v p → SimC m N env H' a c' → (sem P (fun a w => ∃ env' H', Sim m N env' H' a w ∧ Q env' H') (fun I a w => ∃ env' H', Sim m N env' H' a w ∧ I env' H') (.ops ds l :: k)).1 (a.put o.dst v) c'.w := fun v c' hv s' => hk m _ _ hn (s'.putE hd hv).sim
    split at h
    · rename_i hg
      have hw : Region.wanted o (yieldedL ds a.tmps) = true := by simp [Region.wanted, hg]
      simp only [wpL, hw, if_true]
      have key : ∃ v c', (∃ r, (execOp a.eval o).run P w = .ok r c'.w ∧ (r = .value v ∨ (r = .skip ∧ v = undef))) ∧ Rel c' v p ∧ SimC m N env H' a c' := by
        split at h
        · rename_i x y z hop
          obtain ⟨h1, rfl⟩ := keepH_some h
          have hx := (sc.eval x).unT
          cases hxx : evalS env x with
          | sc v =>
            have hxx' : Go.Proofs.Ytbbjmfkmjjinnaa.V.unT (evalO env x) = .sc v := hxx
            rw [hxx'] at hx
            rw [hxx] at h1
            cases v with
            | bool b =>
              have he : a.eval x = .bool b := hx.sc_inv
              refine ⟨_, _, ⟨_, ?_, .inl rfl⟩, pick_ok (c := .dead) h1 ho (sc.eval y) (sc.eval z), sc⟩
              simp [execOp, hop, he, asBool]
            | _ => simp [pickP] at h1
          | _ => rw [hxx] at h1; simp [pickP] at h1
        · exact op_ok h ho m N env a _ sc (fun x _ => (sc.eval x).unT)
      obtain ⟨v, c', ⟨r, hr, hv⟩, hrel, s'⟩ := key
      have := fin v c' hrel s'
      unfold Oper.wp
      rcases hv with rfl | ⟨rfl, rfl⟩
      · rw [hr]; exact this
      · rw [hr]; exact this
    · rename_i j wnt hg
      split at h
      · rename_i g he
        split at h
        · rename_i hq
          cases hop : opP P o.op (fun x => stripP (evalO env x)) H with
          | none => rw [hop] at h; cases h
          | some q =>
            obtain ⟨ok1, p1, H1⟩ := q
            rw [hop] at h
            cases h
            have hH := quiet_ok hq hop
            subst hH
            have hw : Region.wanted o (yieldedL ds a.tmps) = g := by
              simp only [Region.wanted, hg]
              exact effG_ok sc he
            simp only [wpL, hw]
            cases g with
            | true =>
              obtain ⟨ho1, ho2⟩ := ho rfl
              simp only [if_true]
              obtain ⟨v, c', ⟨r, hr, hv⟩, hrel, s'⟩ := op_ok hop ho1 m N env a _ sc (fun x hx => (sc.eval x).strip (okG_mem ho2 rfl _ (List.mem_map.2 ⟨x, hx, rfl⟩)))
              have := fin v c' (.gvt v p1 hrel) s'
              unfold Oper.wp
              rcases hv with rfl | ⟨rfl, rfl⟩
              · rw [hr]; exact this
              · rw [hr]; exact this
            | false => exact fin undef _ (.gvf p1) sc
        · cases h
      · cases h
  · cases h

structure RR where
  ok : Prop
  rest : List Oper
  env : Env
  H : Heap

def evalR (P : Program) (N : Nat) (ds : List (Option Tmp)) : List Oper → Env → Heap → RR
  | [], env, H => ⟨True, [], env, H⟩
  | o :: l, env, H => match stepO P N ds o env H with
    | some (ok, p, H') => ⟨ok ∧ (evalR P N ds l (putE o.dst p env) H').ok, (evalR P N ds l (putE o.dst p env) H').rest, (evalR P N ds l (putE o.dst p env) H').env, (evalR P N ds l (putE o.dst p env) H').H⟩
    | none => ⟨True, o :: l, env, H⟩

theorem W_run : ∀ {l : List Oper} {env : Env} {H : Heap}, (evalR P N ds l env H).ok → W P N n0 (.ops ds (evalR P N ds l env H).rest :: k) Q (evalR P N ds l env H).env (evalR P N ds l env H).H → W P N n0 (.ops ds l :: k) Q env H
  | [], _, _, _, h => h
  | o :: l, env, H, ho, h => by
    unfold evalR at ho h
    cases hs : stepO P N ds o env H with
    | none => rw [hs] at h; exact h
    | some q =>
      obtain ⟨ok, p, H'⟩ := q
      rw [hs] at ho h
      exact W_step hs ho.1 (W_run ho.2 h)

/-- A guarded operation that does more than compute: both ways. -/
theorem W_guard {o : Oper} {l : List Oper} {j : Nat} {w g : Bool} (hg : o.guard = some (j, w)) (he : effG ds env j w = some g) (hd : dstB N o = true)
    (ht : g = true → W P N n0 (.ops ds ({ o with guard := none } :: l) :: k) Q env H) (hf : g = false → W P N n0 (.ops ds l :: k) Q (putE o.dst .dead env) H) : W P N n0 (.ops ds (o :: l) :: k) Q env H := by
  intro m a wd hn s
  have s0 := s
  obtain ⟨S, β, sc⟩ := s
  have hw : Region.wanted o (yieldedL ds a.tmps) = g := by
    simp only [Region.wanted, hg]
    exact effG_ok sc he
  show wpL P ds _ (o :: l) a wd
  cases g with
  | true =>
    simp only [wpL, hw, if_true]
    have := ht rfl m a wd hn s0
    exact this
  | false =>
    simp only [wpL, hw]
    exact hf rfl m _ _ hn (sc.putE hd (.dead _)).sim

end
end Go.Proofs.Ytbbjmfkmjjinnaa.V
