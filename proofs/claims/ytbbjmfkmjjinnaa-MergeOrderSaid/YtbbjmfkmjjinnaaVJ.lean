/- The logic run on values that are all known: code, calls. No law of the program is proved here. -/
import Derived.Test.YtbbjmfkmjjinnaaVI
set_option linter.all false
namespace Go.Proofs.Ytbbjmfkmjjinnaa.V
open Go

/-! ### whom a call enters -/
def methB (P : Program) (H : Heap) (t : TypeId) (name : String) (p : PV) : Option (FuncId × PV) :=
  match P.info? t with
  | some i => match i.methods.find? (·.name == name) with
    | some m => if m.path.isEmpty then match m.func with
      | some (f, true) => match P.underlying t with
        | some (.pointer _) => some (f, p)
        | _ => none
      | some (f, false) => match P.underlying t with
        | some (.pointer e) => match loadP (td P e) H p with
          | some (_, p') => if (loadB (td P e) H p).isSome then some (f, p') else none
          | none => none
        | some _ => some (f, p)
        | none => none
      | none => none
      else none
    | none => none
  | none => none

theorem loadB_some {d : TD} {H : Heap} {x p' : PV} {ok : Prop} (h : (loadB d H x).isSome = true) (hl : loadP d H x = some (ok, p')) : ok := by
  cases hb : loadB d H x with
  | none => rw [hb] at h; cases h
  | some q =>
    obtain ⟨ok', k1, k2⟩ := loadB_ok hb
    rw [hl] at k1
    cases k1
    exact k2

theorem load_ptr {P : Program} {e : TypeId} {v u : Value} {w : World} (h : (Instr.loadAt e v).run P w = .ok u w) : ∃ a, v = .pointer (some a) ∧ (loadVar e a).run P w = .ok u w := by
  cases v with
  | pointer A =>
    cases A with
    | none => simp [Instr.loadAt, Instr.sureAddr] at h
    | some a => exact ⟨a, rfl, by simpa [Instr.loadAt, Instr.sureAddr] using h⟩
  | _ => simp [Instr.loadAt, Instr.sureAddr] at h

theorem run_nilchk (P : Program) (ts : Array TypeId) (t : TypeId) (a : Addr) (s m : ByteArray) (w : World) : (Builtin.ssaWrapNilChk_ ts t #[.pointer (some a), .string s, .string m]).run P w = .ok (.pointer (some a)) w := rfl

theorem methB_ok {P : Program} {H : Heap} {t : TypeId} {name : String} {p p' : PV} {f : FuncId} (h : methB P H t name p = some (f, p')) {c : Cx} (hp : HeapOk c H) {v : Value} (hv : Rel c v p) :
    ∃ v', (method (P.types.size + Made.depth) t v name).run P c.w = .ok (f, v') c.w ∧ Rel c v' p' := by
  unfold methB at h
  split at h
  · rename_i i hi
    split at h
    · rename_i m hm
      split at h
      · rename_i hpath
        have hpl : m.path.toList = [] := by simpa using hpath
        have hfuel : ∃ k, P.types.size + Made.depth = k + 1 := by
          refine ⟨P.types.size + Made.depth - 1, ?_⟩
          have : 0 < Made.depth := by decide
          omega
        obtain ⟨k, hk⟩ := hfuel
        have hti : (typeInfo t).run P c.w = .ok i c.w := by simp [typeInfo, hi]
        split at h
        · rename_i hf
          split at h
          · rename_i e hu
            cases h
            refine ⟨v, ?_, hv⟩
            rw [hk]
            have hun : (underlying t).run P c.w = .ok (.pointer e) c.w := by simp [underlying, hu]
            simp only [method, Sem.run_bind, hti, Result.andThen_ok, hm, hpl, follow, Sem.run_pure, hf, receiverAt, hun, Place.get]
          · cases h
        · rename_i hf
          split at h
          · rename_i e hu
            have hun : (underlying t).run P c.w = .ok (.pointer e) c.w := by simp [underlying, hu]
            split at h
            · rename_i ok q hl
              split at h
              · rename_i hb
                cases h
                obtain ⟨u, h1, h2⟩ := load_ok (P := P) hp hl (loadB_some hb hl) hv
                obtain ⟨a, rfl, h3⟩ := load_ptr h1
                refine ⟨u, ?_, h2⟩
                rw [hk]
                simp only [method, Sem.run_bind, hti, Result.andThen_ok, hm, hpl, follow, Sem.run_pure, hf, receiverAt, hun, Place.get, hpath, if_true, strVal, run_nilchk, asAddr, h3]
              · cases h
            · cases h
          · rename_i d hne hu
            cases h
            refine ⟨v, ?_, hv⟩
            rw [hk]
            have hun : (underlying t).run P c.w = .ok d c.w := by simp [underlying, hu]
            simp only [method, Sem.run_bind, hti, Result.andThen_ok, hm, hpl, follow, Sem.run_pure, hf, receiverAt, hun]
            cases d <;> first | (simp only [Place.get, Sem.run_pure, Result.andThen_ok]; done) | exact absurd rfl (hne _)
          · cases h
        · cases h
      · cases h
    · cases h
  · cases h

def targetB (P : Program) (o : Oper) (env : Env) (H : Heap) : Option (FuncId × List PV) :=
  match o.op with
  | .call c => match c.callee with
    | .value (.func f) => some (f, c.args.toList.map (evalS env))
    | .value x => match evalS env x with
      | .fn (.func f) ps qs => some (f, ps ++ c.args.toList.map (evalS env) ++ qs)
      | .sc (.func (.func f) A B) => some (f, A.toList.map .sc ++ c.args.toList.map (evalS env) ++ B.toList.map .sc)
      | _ => none
    | .invoke x name => match evalS env x with
      | .ifc t p => match methB P H t name p with
        | some (f, p') => some (f, p' :: c.args.toList.map (evalS env))
        | none => none
      | _ => none
    | .builtin _ => none
  | _ => none

def callB (P : Program) (f : FuncId) : Bool :=
  match P.funcs[f]? with
  | some fn => !(fn.name == "runtime.NumGoroutine") && fn.body.isSome
  | none => false

theorem callB_ok {P : Program} {f : FuncId} (h : callB P f = true) : Callable P f := by
  unfold callB at h
  split at h
  · rename_i fn hf
    simp only [Bool.and_eq_true, Bool.not_eq_true'] at h
    obtain ⟨c, hc⟩ := Option.isSome_iff_exists.1 h.2
    exact ⟨fn, c, hf, h.1, hc⟩
  · cases h

section
variable {P : Program} {N n0 : Nat} {ds : List (Option Tmp)}

theorem targetB_ok {o : Oper} {env : Env} {H : Heap} {f : FuncId} {ps : List PV} (h : targetB P o env H = some (f, ps)) (hc : Callable P f) : EntersL P N ds o env H f ps := by
  obtain ⟨dst, op, ty, pos, after, guard⟩ := o
  unfold targetB at h
  simp only at h
  split at h
  · rename_i cl
    obtain ⟨callee, xs, ats⟩ := cl
    simp only at h
    split at h
    · cases h
      exact entersL_func rfl hc
    · rename_i x hnf
      split at h
      · rename_i g ps' qs hx
        cases h
        intro m E a c s hl
        have hr := (eval_looks (ds := ds) s hl x (by simp [Op.operands, Call.operands])).unT
        rw [show Go.Proofs.Ytbbjmfkmjjinnaa.V.unT (evalO env x) = evalS env x from rfl, hx] at hr
        generalize hv : a.eval x = v at hr
        cases hr with
        | fn _ l l' _ _ h1 h2 h3 h4 =>
          refine ⟨l.toArray ++ xs.map a.eval ++ l'.toArray, ?_, ?_⟩
          · have : execOp a.eval ⟨dst, .call { callee := .value x, args := xs, argTypes := ats }, ty, pos, after, guard⟩ = callFunc f (l.toArray ++ xs.map a.eval ++ l'.toArray) := by
              simp only [execOp, resolve, hv, Deferred.ofValue]; rfl
            rw [this, hc.run]
          · have e : (l.toArray ++ xs.map a.eval ++ l'.toArray).toList = l ++ (xs.map a.eval).toList ++ l' := by simp
            rw [e]
            exact (RelL.append ⟨h1, h2⟩ (evalL_looks s hl xs (fun y hy => by simp only [Op.operands, Call.operands]; simp; exact Or.inr (by simpa using hy)))).append ⟨h3, h4⟩
      · rename_i g A B hx
        cases h
        intro m E a c s hl
        have hr := (eval_looks (ds := ds) s hl x (by simp [Op.operands, Call.operands])).unT
        rw [show Go.Proofs.Ytbbjmfkmjjinnaa.V.unT (evalO env x) = evalS env x from rfl, hx] at hr
        have hv := hr.sc_inv
        refine ⟨A ++ xs.map a.eval ++ B, ?_, ?_⟩
        · have : execOp a.eval ⟨dst, .call { callee := .value x, args := xs, argTypes := ats }, ty, pos, after, guard⟩ = callFunc f (A ++ xs.map a.eval ++ B) := by
            simp only [execOp, resolve, hv, Deferred.ofValue]; rfl
          rw [this, hc.run]
        · have e : (A ++ xs.map a.eval ++ B).toList = A.toList ++ (xs.map a.eval).toList ++ B.toList := by simp
          rw [e]
          exact (RelL.append (relL_sc c A.toList) (evalL_looks s hl xs (fun y hy => by simp only [Op.operands, Call.operands]; simp; exact Or.inr (by simpa using hy)))).append (relL_sc c B.toList)
      · cases h
    · rename_i x name
      split at h
      · rename_i t p hx
        split at h
        · rename_i g p' hm
          cases h
          intro m E a c s hl
          have hr := (eval_looks (ds := ds) s hl x (by simp [Op.operands, Call.operands])).unT
          rw [show Go.Proofs.Ytbbjmfkmjjinnaa.V.unT (evalO env x) = evalS env x from rfl, hx] at hr
          generalize hv : a.eval x = v at hr
          cases hr with
          | ifc _ u _ h =>
            obtain ⟨v', h1, h2⟩ := methB_ok hm s.hp h
            refine ⟨#[v'] ++ xs.map a.eval, ?_, ?_⟩
            · have hop : execOp a.eval ⟨dst, .call { callee := .invoke x name, args := xs, argTypes := ats }, ty, pos, after, guard⟩ = (do let d ← resolve a.eval { callee := .invoke x name, args := xs, argTypes := ats } ty; invoke d.target d.args) := by simp only [execOp]
              rw [hop]
              simp only [resolve, hv, Sem.run_bind, Sem.run_pure, Result.andThen_ok, invoke_method, callMethod, run_program, h1, hc.run]
            · have e : (#[v'] ++ xs.map a.eval).toList = v' :: (xs.map a.eval).toList := by simp
              rw [e]
              exact RelL.append (l := [v']) (ps := [p']) (relL_one h2) (evalL_looks s hl xs (fun y hy => by simp only [Op.operands, Call.operands]; simp; exact Or.inr (by simpa using hy)))
        · cases h
      · cases h
    · cases h
  · cases h

end

/-! ### which objects a value leads to -/
mutual
def idsP : PV → List Nat
  | .id i _ => [i]
  | .ix i _ _ => [i]
  | .ad i _ => [i]
  | .ag ps => idsL ps
  | .tu ps => idsL ps
  | .fn _ a b => idsL a ++ idsL b
  | .ifc _ p => idsP p
  | .gv _ p => idsP p
  | .dead => []
  | .sc _ => []
  | .im _ _ _ => []
  | .ip _ => []
def idsL : List PV → List Nat
  | [] => []
  | p :: ps => idsP p ++ idsL ps
end

def memB (i : Nat) : List Nat → Bool
  | [] => false
  | j :: l => Nat.beq i j || memB i l

/-- All that is led to. -/
def reach (H : Heap) : Nat → List Nat → List Nat → List Nat
  | 0, _, seen => seen
  | _ + 1, [], seen => seen
  | f + 1, i :: l, seen => bif memB i seen then reach H f l seen else match H[i]? with
    | some (some o) => reach H f (idsL o.cells ++ l) (seen ++ [i])
    | _ => reach H f l (seen ++ [i])

def nodupB : List Nat → Bool
  | [] => true
  | i :: l => !memB i l && nodupB l
theorem memB_ok {i : Nat} : ∀ {l : List Nat}, memB i l = false → i ∉ l
  | [], _ => by simp
  | j :: l, h => by
    simp only [memB, Bool.or_eq_false_iff] at h
    intro hm
    rcases List.mem_cons.1 hm with e | hm
    · subst e; have := h.1; rw [Nat.beq_refl] at this; cases this
    · exact memB_ok h.2 hm
theorem nodupB_ok : ∀ {l : List Nat}, nodupB l = true → l.Nodup
  | [], _ => by simp
  | i :: l, h => by
    simp only [nodupB, Bool.and_eq_true, Bool.not_eq_true'] at h
    exact List.nodup_cons.2 ⟨memB_ok h.1, nodupB_ok h.2⟩

/-! ### one operation -/
noncomputable def lookB (e : Env) (j : Nat) : PV := List.rec (motive := fun _ => PV) .dead (fun x _ ih => Bool.rec ih x.2 (Nat.beq j x.1)) e
theorem lookB_eq (e : Env) (j : Nat) : lookB e j = look e j := by
  induction e with
  | nil => rfl
  | cons x e ih =>
    obtain ⟨k, p⟩ := x
    show Bool.rec (lookB e j) p (Nat.beq j k) = look ((k, p) :: e) j
    rw [ih]
    simp only [look]
    by_cases h : j = k
    · subst h; simp [Nat.beq_refl]
    · have : Nat.beq j k = false := by
        cases hb : Nat.beq j k with
        | false => rfl
        | true => exact absurd (Nat.eq_of_beq_eq_true hb) h
      rw [this, if_neg h]

noncomputable def putC (d : Nat) (p : PV) (e : Env) : Env := List.rec (motive := fun _ => Env) [(d, p)] (fun x l ih => Bool.rec (x :: ih) ((d, p) :: l) (Nat.beq d x.1)) e
theorem look_putC (d : Nat) (p : PV) (e : Env) (t : Nat) : look (putC d p e) t = if t = d then p else look e t := by
  induction e with
  | nil => simp [putC, look]
  | cons x e ih =>
    obtain ⟨k, q⟩ := x
    show look (Bool.rec ((k, q) :: putC d p e) ((d, p) :: e) (Nat.beq d k)) t = _
    by_cases h : d = k
    · subst h
      rw [Nat.beq_refl]
      simp only [look]
      split <;> rfl
    · have : Nat.beq d k = false := by
        cases hb : Nat.beq d k with
        | false => rfl
        | true => exact absurd (Nat.eq_of_beq_eq_true hb) h
      rw [this]
      simp only [look, ih]
      by_cases h1 : t = k
      · subst h1; simp only [if_true]; rw [if_neg (fun e => h e.symm)]
      · simp only [if_neg h1]

/-- What an operand holds. -/
noncomputable def evalI (env : Env) (x : Operand) : PV := match x with
  | .tmp t => unT (lookB env t)
  | .const v => .sc v
  | x => evalS env x
theorem evalI_eq : evalI = evalS := by
  funext env x
  cases x with
  | tmp t => simp only [evalI, lookB_eq]; rfl
  | _ => rfl

noncomputable def putEC (d : Option Tmp) (p : PV) (env : Env) : Env := match d with | some d => putC d p env | none => env
theorem look_putEC (d : Option Tmp) (p : PV) (env : Env) (t : Nat) : look (putEC d p env) t = look (putE d p env) t := by
  cases d with
  | none => rfl
  | some d => simp only [putEC, putE, look, look_putC]

abbrev CallI := FuncId → List PV → Heap → Option (PV × Heap)

/-- What a call comes to. -/
def callI (P : Program) (call : CallI) (f : FuncId) (ps : List PV) (H : Heap) : Option (PV × Heap) :=
  let rs := reach H (H.length * 64 + 4096) (idsL ps) []
  if callB P f && nodupB rs && rs.all (fun i => Nat.blt i H.length) then
    match call f (toCL false H rs ps) (subH false H rs) with
    | some (r, H1) => some (ren (back H.length rs) r, mergeH H rs (bk H.length rs H1))
    | none => none
  else none

/-- An operation whose guard holds. -/
def opI (P : Program) (call : CallI) (o : Oper) (env : Env) (H : Heap) : Option (PV × Heap) :=
  match o.op with
  | .pick c a b => match evalS env c with
    | .sc (.bool true) => some (evalS env a, H)
    | .sc (.bool false) => some (evalS env b, H)
    | _ => none
  | op => match targetB P o env H with
    | some (f, ps) => callI P call f ps H
    | none => opB P op (evalS env) H

/-- The same, quicker. -/
noncomputable def opJ (P : Program) (call : CallI) (o : Oper) (env : Env) (H : Heap) : Option (PV × Heap) :=
  match o.op with
  | .pick c a b => match evalI env c with
    | .sc (.bool true) => some (evalI env a, H)
    | .sc (.bool false) => some (evalI env b, H)
    | _ => none
  | .call c => match c.callee with
    | .value (.func f) => callI P call f (c.args.toList.map (evalI env)) H
    | .builtin _ => opB P o.op (evalI env) H
    | _ => opI P call o env H
  | op => opB P op (evalI env) H

theorem opJ_eq (P : Program) (call : CallI) (o : Oper) (env : Env) (H : Heap) : opJ P call o env H = opI P call o env H := by
  obtain ⟨dst, op, ty, pos, after, guard⟩ := o
  unfold opJ
  rw [evalI_eq]
  cases op with
  | call c =>
    obtain ⟨callee, args, ats⟩ := c
    cases callee with
    | value x => cases x <;> rfl
    | builtin b => rfl
    | invoke x n => rfl
  | _ => rfl

/-- An operation. -/
noncomputable def stepI (P : Program) (N : Nat) (ds : List (Option Tmp)) (call : CallI) (o : Oper) (env : Env) (H : Heap) : Option (PV × Heap) :=
  if dstB N o then match o.guard with
    | none => opJ P call o env H
    | some (j, w) => match effG ds env j w with
      | some true => opJ P call o env H
      | some false => some (.gv false (.sc (.bool true)), H)
      | none => none
  else none

def CallOk (P : Program) (call : CallI) : Prop := ∀ f args H0 r H1, call f args H0 = some (r, H1) → GC P f args H0 r H1

section
variable {P : Program} {N n0 : Nat} {ds : List (Option Tmp)} {call : CallI}

theorem exec_pick {o : Oper} {env : Env} {H : Heap} {c x y : Operand} {b : Bool} (ho : o.op = .pick c x y) (hg : o.guard = none) (hd : dstB N o = true) (hc : evalS env c = .sc (.bool b)) : Exec P N n0 ds o env H (evalS env (bif b then x else y)) H := by
  intro m E a w K hn s hl hk
  obtain ⟨S, β, sc⟩ := s
  obtain ⟨m1, m2, m3⟩ := pick_mem o ho
  have hx := (eval_looks (ds := ds) sc hl c m1).unT
  rw [show Go.Proofs.Ytbbjmfkmjjinnaa.V.unT (evalO env c) = evalS env c from rfl, hc] at hx
  have he : a.eval c = .bool b := hx.sc_inv
  have hr := (eval_looks (ds := ds) sc hl (bif b then x else y) (by cases b <;> assumption)).unT
  unfold stepK
  have hw : Region.wanted o (yieldedL ds a.tmps) = true := by simp [Region.wanted, hg]
  simp only [hw, if_true]
  unfold Oper.wp
  have : (execOp a.eval o).run P w = .ok (.value (a.eval (bif b then x else y))) w := by
    simp [execOp, ho, he, asBool]
    cases b <;> rfl
  rw [this]
  exact hk _ _ (sc.putE hd hr).sim

theorem exec_opB {o : Oper} {env : Env} {H H' : Heap} {p : PV} (hg : o.guard = none) (hd : dstB N o = true) (hnp : ∀ c x y, o.op ≠ .pick c x y) (h : opB P o.op (evalS env) H = some (p, H')) : Exec P N n0 ds o env H p H' := by
  obtain ⟨ok, k1, k2⟩ := opB_ok h
  refine exec_step (ok := ok) ?_ k2
  unfold stepO
  rw [if_pos hd]
  simp only [hg]
  exact k1

theorem opI_ok (hc : CallOk P call) {o : Oper} {env : Env} {H H' : Heap} {p : PV} (hg : o.guard = none) (hd : dstB N o = true) (h : opI P call o env H = some (p, H')) : Exec P N n0 ds o env H p H' := by
  unfold opI at h
  split at h
  · rename_i c x y ho
    split at h
    · rename_i hb; cases h; exact exec_pick ho hg hd hb
    · rename_i hb; cases h; exact exec_pick ho hg hd hb
    · cases h
  · rename_i hnp
    split at h
    · rename_i f ps ht
      unfold callI at h
      simp only at h
      split at h
      · rename_i hcond
        simp only [Bool.and_eq_true, List.all_eq_true] at hcond
        split at h
        · rename_i r H1 hcall
          cases h
          refine exec_enter false _ (targetB_ok ht (callB_ok hcond.1.1)) hg hd (nodupB_ok hcond.1.2) (fun i hi => ?_) (fun h => by cases h) (hc _ _ _ _ _ hcall)
          have := hcond.2 i hi
          exact Nat.le_of_ble_eq_true this
        · cases h
      · cases h
    · exact exec_opB hg hd (fun c x y he => hnp c x y he) h

theorem exec_skipG {o : Oper} {env : Env} {H : Heap} {j : Nat} {w : Bool} (hg : o.guard = some (j, w)) (he : effG ds env j w = some false) (hd : dstB N o = true) (q : PV) : Exec P N n0 ds o env H (.gv false q) H := by
  intro m E a wd K hn s hl hk
  obtain ⟨S, β, sc⟩ := s
  have hw : Region.wanted o (yieldedL ds a.tmps) = false := by
    simp only [Region.wanted, hg]
    exact effG_ok sc (by rw [effG_looks hl hg]; exact he)
  unfold stepK
  simp only [hw]
  exact hk _ _ (sc.putE hd (.gvf q)).sim

theorem opI_guard {o : Oper} {env : Env} {H : Heap} (g : Option (Nat × Bool)) : opI P call { o with guard := g } env H = opI P call o env H := rfl

theorem stepI_ok (hc : CallOk P call) {o : Oper} {env : Env} {H H' : Heap} {p : PV} (h : stepI P N ds call o env H = some (p, H')) : Exec P N n0 ds o env H p H' ∧ dstB N o = true := by
  unfold stepI at h
  split at h
  · rename_i hd
    refine ⟨?_, hd⟩
    split at h
    · rename_i hg
      rw [opJ_eq] at h
      exact opI_ok hc hg hd h
    · rename_i j w hg
      split at h
      · rename_i he
        rw [opJ_eq] at h
        exact exec_guard hg he (opI_ok hc (o := { o with guard := none }) rfl hd h)
      · rename_i he
        cases h
        exact exec_skipG hg he hd _
      · cases h
  · cases h

theorem W_exec {k : List KI} {Q : Env → Heap → Prop} {o : Oper} {l : List Oper} {env : Env} {H H' : Heap} {p : PV} (he : Exec P N n0 ds o env H p H') (hk : W P N n0 (.ops ds l :: k) Q (putE o.dst p env) H') : W P N n0 (.ops ds (o :: l) :: k) Q env H := by
  intro m a w hm s
  have := he m env a w _ hm s (fun _ _ => rfl) (fun a' w' s' => hk m a' w' hm s')
  exact this

theorem W_byEnv {k : List KI} {Q : Env → Heap → Prop} {env env' : Env} {H : Heap} (he : ∀ t, look env t = look env' t) (h : W P N n0 k Q env' H) : W P N n0 k Q env H :=
  fun m a w hm s => h m a w hm (s.byEnv he)

end

noncomputable def runI (P : Program) (N : Nat) (ds : List (Option Tmp)) (call : CallI) (l : List Oper) : Env → Heap → Option (Env × Heap) :=
  List.rec (motive := fun _ => Env → Heap → Option (Env × Heap)) (fun env H => some (env, H)) (fun o _ ih env H => match stepI P N ds call o env H with
    | some (p, H') => ih (putEC o.dst p env) H'
    | none => none) l

theorem runI_ok {P : Program} {N n0 : Nat} {ds : List (Option Tmp)} {call : CallI} (hc : CallOk P call) {k : List KI} {Q : Env → Heap → Prop} : ∀ {l : List Oper} {env env' : Env} {H H' : Heap}, runI P N ds call l env H = some (env', H') → W P N n0 k Q env' H' → W P N n0 (.ops ds l :: k) Q env H
  | [], _, _, _, _, h, hk => by cases h; exact W_done hk
  | o :: l, env, env', H, H', h, hk => by
    have h : (match stepI P N ds call o env H with
      | some (p, H') => runI P N ds call l (putEC o.dst p env) H'
      | none => none) = some (env', H') := h
    split at h
    · rename_i p H2 hs
      exact W_exec (stepI_ok hc hs).1 (W_byEnv (fun t => (look_putEC _ _ _ t).symm) (runI_ok hc h hk))
    · cases h

end Go.Proofs.Ytbbjmfkmjjinnaa.V
