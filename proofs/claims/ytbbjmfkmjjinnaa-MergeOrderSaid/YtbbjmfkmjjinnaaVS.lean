/- The logic's code in short form, done: straight stretches in one go, loops by a ghost state, calls by contracts. No law of the program is proved here. -/
import Derived.Test.YtbbjmfkmjjinnaaVR
set_option linter.all false
namespace Go.Proofs.Ytbbjmfkmjjinnaa.V
open Go

inductive CC where
  | skip | ret | bad
  | exit (id : Nat)
  | seq (a b : CC)
  | block (id : Nat) (c : CC)
  | cond (x : Operand) (a b : CC)
  | loop (c : CC)
  | reg (m : Bool) (l : List CO)

/-- Of a region whose order is drawn: may calls make memory between a read and where it stands; in which order it is done. -/
abbrev Hints := List (Nat × Bool × List Nat)
def hintOf : Hints → Nat → Bool × List Nat
  | [], _ => (false, [])
  | (k, h) :: l, i => if i = k then h else hintOf l i

def pickL (l : List Oper) : List Nat → List Oper
  | [] => []
  | i :: π => l.getD i default :: pickL l π

def compR (hs : Hints) (id : Nat) (arr : List Oper) : CC :=
  match hintOf hs id with
  | (m, []) => .reg m (arr.map (compO (arr.map (·.dst))))
  | (m, π) => .reg m ((pickL arr π).map (compO (arr.map (·.dst))))

def compC (hs : Hints) : Code → CC
  | .skip => .skip
  | .label _ => .skip
  | .ret => .ret
  | .exit id => .exit id
  | .seq a b => .seq (compC hs a) (compC hs b)
  | .block id c => .block id (compC hs c)
  | .cond x a b => .cond x (compC hs a) (compC hs b)
  | .loop c => .loop (compC hs c)
  | .region id arr d => if d then compR hs id arr.toList else .reg false (arr.toList.map (compO (arr.toList.map (·.dst))))
  | _ => .bad

def chkR (P : Program) (N : Nat) (hs : Hints) (id : Nat) (arr : Array Oper) : Bool :=
  P.follows .mixedOrders && arr.toList.all (chkO N (arr.toList.map (·.dst))) &&
  match hintOf hs id with
  | (m, []) => drawM m arr.toList (masks [] arr.toList)
  | (m, π) => permB arr π && drawM m (permO arr π).toList (masks [] (permO arr π).toList)

def chkC (P : Program) (N : Nat) (hs : Hints) : Code → Bool
  | .seq a b => chkC P N hs a && chkC P N hs b
  | .block _ c => chkC P N hs c
  | .cond _ a b => chkC P N hs a && chkC P N hs b
  | .loop c => chkC P N hs c
  | .region id arr d => if d then chkR P N hs id arr else arr.toList.all (chkO N (arr.toList.map (·.dst)))
  | _ => true

section
variable {P : Program} {N n0 : Nat}

theorem pickL_eq (l : List Oper) : ∀ π, pickL l π = π.map fun i => l.getD i default
  | [] => rfl
  | i :: π => by simp [pickL, pickL_eq l π]

theorem W_regD {k : List KI} {Q : Env → Heap → Prop} {K : Env → Heap → Prop} (hK : ∀ env H, K env H → W P N n0 k Q env H) {hs : Hints} {id : Nat} {arr : Array Oper} (hc : chkR P N hs id arr = true) {env : Env} {H : Heap} {m : Bool} {l : List CO} (he : compR hs id arr.toList = .reg m l) (h : Run P N n0 m K l env H) :
    W P N n0 (.code (.region id arr true) :: k) Q env H := by
  unfold chkR at hc
  simp only [Bool.and_eq_true] at hc
  obtain ⟨⟨hm, hall⟩, hc⟩ := hc
  unfold compR at he
  refine W_any hm ?_
  split at hc
  · rename_i m' hh
    rw [hh] at he
    cases he
    exact DW_start (run_draw hK hc hall (fun d hd => by cases hd) h)
  · rename_i m' π hne hh
    rw [hh] at he
    simp only [Bool.and_eq_true] at hc
    have hπ := permB_ok hc.1
    have hcomp : CC.reg m' ((pickL arr.toList π).map (compO (arr.toList.map (·.dst)))) = CC.reg m l := by
      rw [← he]
      cases π with
      | nil => exact (hne rfl).elim
      | cons i π => rfl
    cases hcomp
    refine WA_perm hπ (DW_start ?_)
    have hmem : ∀ o, o ∈ pickL arr.toList π → o ∈ arr.toList := fun o ho => by
      rw [pickL_eq] at ho
      obtain ⟨i, hi, rfl⟩ := List.mem_map.1 ho
      have := hπ.lt i hi
      rw [List.getD_eq_getElem?_getD, List.getElem?_eq_getElem (by simpa using this)]
      exact List.getElem_mem _
    have hperm : (permO arr π).toList = (pickL arr.toList π).map (remap π) := by
      simp [permO, pickL_eq, Array.getD_eq_getD_getElem?, List.getD_eq_getElem?_getD]
    have hcc : ∀ o, o ∈ pickL arr.toList π → chkO N ((permO arr π).toList.map (·.dst)) (remap π o) = true ∧ compO ((permO arr π).toList.map (·.dst)) (remap π o) = compO (arr.toList.map (·.dst)) o := fun o ho =>
      chkO_remap hπ (hπ.gd o (hmem o ho)) (List.all_eq_true.1 hall o (hmem o ho))
    refine run_draw hK hc.2 ?_ (fun d hd => by cases hd) ?_
    · rw [hperm, List.all_map, List.all_eq_true]
      rw [← hperm]
      exact fun o ho => (hcc o ho).1
    · have : (permO arr π).toList.map (compO ((permO arr π).toList.map (·.dst))) = (pickL arr.toList π).map (compO (arr.toList.map (·.dst))) := by
        conv => lhs; rw [hperm]
        rw [List.map_map]
        refine List.map_congr_left fun o ho => ?_
        rw [← hperm]
        exact (hcc o ho).2
      rw [this]; exact h

/-! ### what is left of a function, in short form -/
inductive CI where
  | code (c : CC)
  | blk (id : Nat)
  | inv (I : Env → Heap → Prop)

inductive KOk (P : Program) (N : Nat) : List CI → List KI → Prop
  | nil : KOk P N [] []
  | code {hs : Hints} {raw : Code} {k : List CI} {k' : List KI} : chkC P N hs raw = true → KOk P N k k' → KOk P N (.code (compC hs raw) :: k) (.code raw :: k')
  | blk {id : Nat} {k : List CI} {k' : List KI} : KOk P N k k' → KOk P N (.blk id :: k) (.blk id :: k')
  | inv {I : Env → Heap → Prop} {k : List CI} {k' : List KI} : KOk P N k k' → KOk P N (.inv I :: k) (.inv I :: k')

def WC (P : Program) (N n0 : Nat) (k : List CI) (Q : Env → Heap → Prop) (env : Env) (H : Heap) : Prop := ∀ k', KOk P N k k' → W P N n0 k' Q env H

variable {k : List CI} {Q : Env → Heap → Prop} {env env' : Env} {H H' : Heap}

theorem WC_conv (h : Conv n0 env H env' H') (hk : WC P N n0 k Q env' H') : WC P N n0 k Q env H := fun k' hk' => W_conv h (hk k' hk')

theorem KOk.code_inv {c : CC} {k : List CI} {k' : List KI} (h : KOk P N (.code c :: k) k') : ∃ hs raw k2, k' = .code raw :: k2 ∧ chkC P N hs raw = true ∧ compC hs raw = c ∧ KOk P N k k2 := by
  cases h with
  | code h1 h2 => exact ⟨_, _, _, rfl, h1, rfl, h2⟩

def dropC (id : Nat) : List CI → Option (List CI)
  | .blk id' :: k => if id = id' then some k else dropC id k
  | _ :: k => dropC id k
  | [] => none

theorem dropC_ok {id : Nat} : ∀ {k : List CI} {k1 : List KI} {k2 : List CI}, KOk P N k k1 → dropC id k = some k2 → ∃ k3, dropTo id k1 = some k3 ∧ KOk P N k2 k3
  | _, _, _, .nil, h => by cases h
  | _, _, _, .code _ hk, h => by simp only [dropC] at h; simp only [dropTo]; exact dropC_ok hk h
  | _, _, _, .inv hk, h => by simp only [dropC] at h; simp only [dropTo]; exact dropC_ok hk h
  | _, _, _, .blk (id := id') (k := k) (k' := k') hk, h => by
    simp only [dropC] at h
    simp only [dropTo]
    split at h
    · rename_i e; cases h; rw [if_pos e]; exact ⟨_, rfl, hk⟩
    · rename_i e; rw [if_neg e]; exact dropC_ok hk h

/-- What must be shown on the way. -/
structure Side (p : Prop) : Prop where
  h : p
theorem side_true : Side True = True := propext ⟨fun _ => trivial, fun _ => ⟨trivial⟩⟩

def evalC (P : Program) (N n0 : Nat) (m : Bool) (K : Env → Heap → Prop) : List CO → Env → Heap → Prop
  | [], env, H => K env H
  | c :: l, env, H => match stepC P c env H with
    | some (ok, p, H') => Side ok ∧ evalC P N n0 m K l (putE c.d p env) H'
    | none => Run P N n0 m K (c :: l) env H

theorem evalC_ok {m : Bool} {K : Env → Heap → Prop} : ∀ {l : List CO} {env : Env} {H : Heap}, evalC P N n0 m K l env H → Run P N n0 m K l env H
  | [], _, _, h => .nil h
  | c :: l, env, H, h => by
    unfold evalC at h
    cases hs : stepC P c env H with
    | none => rw [hs] at h; exact h
    | some q =>
      obtain ⟨ok, p, H'⟩ := q
      rw [hs] at h
      exact .cons (execC_step hs h.1.h) (evalC_ok h.2)

def exeC (P : Program) (N n0 : Nat) : Nat → List CI → (Env → Heap → Prop) → Env → Heap → Prop
  | _, [], Q, env, H => Q env H
  | 0, k, Q, env, H => WC P N n0 k Q env H
  | f + 1, .code c :: k, Q, env, H => match c with
    | .skip => exeC P N n0 f k Q env H
    | .ret => Q env H
    | .exit id => match dropC id k with
      | some k' => exeC P N n0 f k' Q env H
      | none => False
    | .seq a b => exeC P N n0 f (.code a :: .code b :: k) Q env H
    | .block id c => exeC P N n0 f (.code c :: .blk id :: k) Q env H
    | .cond x a b => match evalS env x with
      | .sc (.bool b') => (b' = true → WC P N n0 (.code a :: k) Q env H) ∧ (b' = false → WC P N n0 (.code b :: k) Q env H)
      | _ => False
    | .loop c => WC P N n0 (.code (.loop c) :: k) Q env H
    | .reg m l => evalC P N n0 m (fun env H => exeC P N n0 f k Q env H) l env H
    | .bad => False
  | f + 1, .blk _ :: k, Q, env, H => exeC P N n0 f k Q env H
  | _ + 1, .inv I :: _, _, env, H => I env H

theorem compC_reg {hs : Hints} {raw : Code} {m : Bool} {l : List CO} (h : compC hs raw = .reg m l) : ∃ id arr d, raw = .region id arr d ∧ (d = true → compR hs id arr.toList = .reg m l) ∧ (d = false → l = arr.toList.map (compO (arr.toList.map (·.dst)))) := by
  cases raw with
  | region id arr d =>
    refine ⟨id, arr, d, rfl, fun e => ?_, fun e => ?_⟩
    · subst e; exact h
    · subst e; cases h; rfl
  | _ => first | cases h | (simp only [compC] at h; cases h)

theorem exeC_ok : ∀ {f : Nat} {k : List CI} {env : Env} {H : Heap}, exeC P N n0 f k Q env H → WC P N n0 k Q env H
  | 0, [], _, _, h => fun k' hk => by cases hk; exact W_nil h
  | _ + 1, [], _, _, h => fun k' hk => by cases hk; exact W_nil h
  | 0, _ :: _, _, _, h => h
  | f + 1, .blk _ :: k, _, _, h => fun k' hk => by cases hk with | blk hk1 => exact W_blk (exeC_ok (show exeC P N n0 f k Q _ _ from h) _ hk1)
  | f + 1, .inv I :: k, _, _, h => fun k' hk => by cases hk with | inv hk => exact W_inv h
  | f + 1, .code c :: k, env, H, h => fun k' hk0 => by
    obtain ⟨hs, raw, k2, rfl, hc, rfl, hk⟩ := hk0.code_inv
    clear hk0
    cases raw with
    | skip => exact W_skip (exeC_ok (show exeC P N n0 f k Q env H from h) _ hk)
    | label l => exact W_label (exeC_ok (show exeC P N n0 f k Q env H from h) _ hk)
    | ret => exact W_ret h
    | exit id =>
      unfold exeC at h
      simp only [compC] at h
      cases hd : dropC id k with
      | none => rw [hd] at h; exact h.elim
      | some k3 =>
        rw [hd] at h
        obtain ⟨k4, h4, h5⟩ := dropC_ok hk hd
        exact W_exit h4 (exeC_ok h _ h5)
    | seq a b =>
      simp only [chkC, Bool.and_eq_true] at hc
      exact W_seq (exeC_ok (k := .code (compC hs a) :: .code (compC hs b) :: k) h _ (.code hc.1 (.code hc.2 hk)))
    | block id c => exact W_block (exeC_ok (k := .code (compC hs c) :: .blk id :: k) h _ (.code (by simpa [chkC] using hc) (.blk hk)))
    | cond x a b =>
      simp only [chkC, Bool.and_eq_true] at hc
      unfold exeC at h
      simp only [compC] at h
      split at h
      · rename_i b' hb
        exact W_condS hb (fun e => h.1 e _ (.code hc.1 hk)) (fun e => h.2 e _ (.code hc.2 hk))
      · exact h.elim
    | loop c =>
      exact h _ (.code hc hk)
    | region id arr d =>
      unfold exeC at h
      cases d with
      | true =>
        have hc' : chkR P N hs id arr = true := by simpa [chkC] using hc
        cases hr : compC hs (.region id arr true) with
        | reg m l =>
          rw [hr] at h
          have he : compR hs id arr.toList = .reg m l := by simpa [compC] using hr
          exact W_regD (fun env H hK => exeC_ok hK _ hk) hc' he (evalC_ok h)
        | _ =>
          exfalso
          simp only [compC, if_true, compR] at hr
          split at hr <;> cases hr
      | false =>
        have hc' : arr.toList.all (chkO N (arr.toList.map (·.dst))) = true := by simpa [chkC] using hc
        have h' : evalC P N n0 false (fun env H => exeC P N n0 f k Q env H) (arr.toList.map (compO (arr.toList.map (·.dst)))) env H := h
        exact W_region (run_ops (fun env H hK => exeC_ok hK _ hk) hc' (evalC_ok h'))
    | _ => exact (show False from h).elim

theorem WC_loop {σ : Type} {body : CC} (E : σ → Env) (F : σ → Heap) (C : σ → Prop) (μ : σ → Nat) (s : σ) (h0 : Conv n0 env H (E s) (F s)) (hc : C s)
    (hr : ∀ s, C s → WC P N n0 (.code body :: .inv (fun env' H' => ∃ s', Conv n0 env' H' (E s') (F s') ∧ C s' ∧ μ s' < μ s) :: k) Q (E s) (F s)) : WC P N n0 (.code (.loop body) :: k) Q env H := fun k' hk0 => by
  obtain ⟨hs, raw, k2, rfl, hcc, he, hk⟩ := hk0.code_inv
  clear hk0
  cases raw with
  | loop b =>
    cases he
    exact W_loopV E F C μ s h0 hc fun s hs' => hr s hs' _ (.code (by simpa [chkC] using hcc) (.inv hk))
  | region id arr d =>
    exfalso
    cases d
    · cases he
    · simp only [compC, if_true, compR] at he
      split at he <;> cases he
  | _ => cases he

/-- A function's contract, out of its code in short form. -/
theorem GC_fn {f : FuncId} {fn : Func} {code : Code} {args : List PV} {H0 H1 : Heap} {r : PV} (hs : Hints) (hf : P.funcs[f]? = some fn) (hb : fn.body = some code) (hargs : Nat.ble args.length fn.ntmps = true) (hc : chkC P fn.ntmps hs code = true)
    (h : WC P fn.ntmps H0.length [.code (compC hs code)] (RetV P fn.results.toList H0.length r H1) (argE 0 args) H0) : GC P f args H0 r H1 :=
  GC_bodyV hf hb (Nat.le_of_ble_eq_true hargs) (h _ (.code hc .nil))

/-- A result without objects; nothing is left. -/
theorem RetV.p {rv : List ResultVar} {ok : Prop} {ps : List PV} {r : PV} (h : resP P env H rv = some (ok, ps)) (ho : ok) (hr : LeP (V.ren (idx []) (one ps)) r) : RetV P rv 0 r [] env H := RetV.of [] h ho List.nodup_nil rfl hr trivial
/-- Likewise, where objects were handed in: they stay as told. -/
theorem RetV.o {rv : List ResultVar} {ok : Prop} {ps : List PV} {r : PV} {H1 : Heap} (src : List Nat) (h : resP P env H rv = some (ok, ps)) (ho : ok) (hn : nodupB src = true) (h0 : src.take n0 = List.range n0) (hr : LeP (V.ren (idx src) (one ps)) r) (hH : LeH (renH src H) H1) : RetV P rv n0 r H1 env H := RetV.of src h ho (nodupB_ok hn) h0 hr hH

theorem loadP_whole {d : TD} {i : Nat} {o : GObj} (h2 : H[i]? = some (some o)) (hk : d.k.known = true) (hg : d.k.agg = true) (hs : d.size = o.cells.length) : loadP d H (.ad i 0) = some (0 + d.size ≤ o.cells.length, .ag o.cells) := by
  simp only [loadP, h2, hk, hg, if_true, List.drop_zero, hs, List.take_length]
/-- A struct's variable as the result. -/
theorem RetV.c {a t i : Nat} {o : GObj} {r : PV} {H1 : Heap} (src : List Nat) (h1 : unT (look env a) = .ad i 0) (h2 : H[i]? = some (some o)) (hk : (td P t).k.known = true) (hg : (td P t).k.agg = true) (hs : (td P t).size = o.cells.length)
    (hn : nodupB src = true) (h0 : src.take n0 = List.range n0) (hr : LeP (V.ren (idx src) (.ag o.cells)) r) (hH : LeH (renH src H) H1) : RetV P [.cell a t] n0 r H1 env H :=
  RetV.of src (ok := 0 + (td P t).size ≤ o.cells.length ∧ True) (ps := [.ag o.cells]) (by simp only [resP, h1, loadP_whole h2 hk hg hs]) ⟨by omega, trivial⟩ (nodupB_ok hn) h0 hr hH
/-- Likewise, and one more. -/
theorem RetV.ct {a t i u : Nat} {o : GObj} {r : PV} {H1 : Heap} (src : List Nat) (h1 : unT (look env a) = .ad i 0) (h2 : H[i]? = some (some o)) (hk : (td P t).k.known = true) (hg : (td P t).k.agg = true) (hs : (td P t).size = o.cells.length)
    (hn : nodupB src = true) (h0 : src.take n0 = List.range n0) (hr : LeP (V.ren (idx src) (.tu [.ag o.cells, unT (look env u)])) r) (hH : LeH (renH src H) H1) : RetV P [.cell a t, .tmp u] n0 r H1 env H :=
  RetV.of src (ok := 0 + (td P t).size ≤ o.cells.length ∧ True) (ps := [.ag o.cells, unT (look env u)]) (by simp only [resP, h1, loadP_whole h2 hk hg hs, Option.map_some]) ⟨by omega, trivial⟩ (nodupB_ok hn) h0 hr hH

/-! ### calls -/
def targetC (P : Program) (op : Op) (env : Env) (H : Heap) : Option (FuncId × List PV) := targetB P ⟨none, op, 0, "", #[], none⟩ env H
theorem targetC_eq (o : Oper) (env : Env) (H : Heap) : targetB P o env H = targetC P o.op env H := rfl

theorem targetC_call {op : Op} {env : Env} {H : Heap} {f : FuncId} {ps : List PV} (h : targetC P op env H = some (f, ps)) : ∃ cl, op = .call cl ∧ ∀ b, cl.callee ≠ .builtin b := by
  unfold targetC targetB at h
  simp only at h
  cases op with
  | call cl =>
    refine ⟨cl, rfl, fun b e => ?_⟩
    simp only [e] at h
    cases h
  | _ => cases h

theorem comp_guard {ds : List (Option Tmp)} {o : Oper} {c : CO} (hc : chkO N ds o = true) (e : compO ds o = c) : (c.g = none → o.guard = none) ∧ ∀ d w, c.g = some (d, w) → ∃ j, o.guard = some (j, w) ∧ ds[j]? = some (some d) := by
  subst e
  simp only [chkO, Bool.and_eq_true] at hc
  cases hg : o.guard with
  | none => simp [compO, hg]
  | some g =>
    obtain ⟨j, w⟩ := g
    rw [hg] at hc
    simp only at hc
    obtain ⟨_, h2⟩ := hc
    split at h2
    · rename_i d' hd
      refine ⟨fun h => by simp [compO, hg] at h, fun d w' h => ?_⟩
      simp only [compO, hg, slotOf, hd, Option.some.injEq, Prod.mk.injEq] at h
      exact ⟨j, by simp [h.2], by rw [hd, h.1]⟩
    · cases h2

/-- A call, unguarded: objects rs are handed in. vw: the callee may look at the others. -/
theorem Run.call {m : Bool} {K : Env → Heap → Prop} {c : CO} {l : List CO} {f : FuncId} {ps args : List PV} {r r' : PV} {H0 H1 H2 : Heap} (vw : Bool) (rs : List Nat) (hg : c.g = none) (ht : targetC P c.op env H = some (f, ps)) (hcl : callB P f = true)
    (hn : nodupB rs = true) (hl : rs.all (fun i => Nat.blt i H.length) = true) (hv : vw = true → flatB r = true ∧ H1.all flatOB = true) (hcon : GC P f args H0 r H1) (ha : toCL vw H rs ps = args) (hH : subH vw H rs = H0)
    (hr' : V.ren (back H.length rs) r = r') (hH2 : mergeH H rs (bk H.length rs H1) = H2) (hm : m = true → ∃ X, H2 = H ++ X) (hk : Run P N n0 m K l (putE c.d r' env) H2) : Run P N n0 m K (c :: l) env H := by
  refine .cons (execC_call (targetC_call ht) (fun ds o hc e => ?_) hm) hk
  subst e
  have hgo := (comp_guard hc rfl).1 hg
  have hd : dstB N o = true := by simp only [chkO, Bool.and_eq_true] at hc; exact hc.1
  have := exec_enter (n0 := n0) (ds := ds) vw rs (targetB_ok (o := o) (by rw [targetC_eq]; exact ht) (callB_ok hcl)) hgo hd (nodupB_ok hn) (fun i hi => by simpa [Nat.blt_eq] using List.all_eq_true.1 hl i hi) hv (by rw [ha, hH]; exact hcon)
  rw [hr', hH2] at this
  exact this

/-- A call, in general; what it leaves is reckoned behind it. -/
theorem Run.callS {m : Bool} {K : Env → Heap → Prop} {c : CO} {l : List CO} {f : FuncId} {ps args : List PV} {r : PV} {H0 H1 : Heap} (vw : Bool) (rs : List Nat) (hg : c.g = none) (ht : targetC P c.op env H = some (f, ps)) (hcl : callB P f = true)
    (hn : nodupB rs = true) (hl : rs.all (fun i => Nat.blt i H.length) = true) (hv : vw = true → flatB r = true ∧ H1.all flatOB = true) (hcon : GC P f args H0 r H1) (ha : toCL vw H rs ps = args) (hH : subH vw H rs = H0)
    (hm : m = true → ∃ X, mergeH H rs (bk H.length rs H1) = H ++ X) (hk : Run P N n0 m K l (putE c.d (V.ren (back H.length rs) r) env) (mergeH H rs (bk H.length rs H1))) : Run P N n0 m K (c :: l) env H :=
  Run.call vw rs hg ht hcl hn hl hv hcon ha hH rfl rfl hm hk

/-- A call of plain values, that gives one, and leaves nothing. -/
theorem Run.callP {m : Bool} {K : Env → Heap → Prop} {c : CO} {l : List CO} {f : FuncId} {ps args : List PV} {r : PV} (hg : c.g = none) (ht : targetC P c.op env H = some (f, ps)) (hcl : callB P f = true)
    (hcon : GC P f args [] r []) (ha : ps = args) (hza : zLB args = true) (hz : zB r = true) (hk : Run P N n0 m K l (putE c.d r env) H) : Run P N n0 m K (c :: l) env H := by
  refine Run.call (H0 := []) (H1 := []) (H2 := H) false [] hg ht hcl rfl rfl (fun h => by cases h) hcon (by rw [ha]; exact toCL_closed _ _ _ hza) rfl (ren_closed _ hz) ?_ (fun _ => ⟨[], by simp⟩) hk
  simp [mergeH, setAll, bk]

/-- Likewise, where the callee looks at the caller's own objects. -/
theorem Run.callL {m : Bool} {K : Env → Heap → Prop} {c : CO} {l : List CO} {f : FuncId} {ps args : List PV} {r : PV} (hg : c.g = none) (ht : targetC P c.op env H = some (f, ps)) (hcl : callB P f = true)
    (hcon : GC P f args [] r []) (ha : toCL true H [] ps = args) (hz : zB r = true) (hf : flatB r = true) (hk : Run P N n0 m K l (putE c.d r env) H) : Run P N n0 m K (c :: l) env H := by
  refine Run.call (H0 := []) (H1 := []) (H2 := H) true [] hg ht hcl rfl rfl (fun _ => ⟨hf, rfl⟩) hcon ha rfl (ren_closed _ hz) ?_ (fun _ => ⟨[], by simp⟩) hk
  simp [mergeH, setAll, bk]

theorem unT_hold {g : Bool} {p : PV} (hg : g = true) (h : g = true → holdP p = true) : unT p = stripP p := by
  cases p with
  | gv g' q => have := h hg; simp only [holdP] at this; subst this; rfl
  | _ => rfl

/-- A call under a guard, of plain values. -/
theorem Run.callG {m : Bool} {K : Env → Heap → Prop} {c : CO} {l : List CO} {f : FuncId} {ps args : List PV} {r : PV} {d : Nat} {w g : Bool} (hg : c.g = some (d, w)) (he : effC env d w = some g) (hop : ∃ cl, c.op = .call cl ∧ ∀ b, cl.callee ≠ .builtin b)
    (ht : g = true → targetC P c.op env H = some (f, ps)) (hcl : callB P f = true) (hcon : g = true → GC P f args [] r []) (ha : g = true → ps = args) (hza : g = true → zLB args = true) (hz : zB r = true) (hk : Run P N n0 m K l (putE c.d (.gv g r) env) H) : Run P N n0 m K (c :: l) env H := by
  refine .cons (execC_call hop (fun ds o hc e => ?_) (fun _ => ⟨[], by simp⟩)) hk
  subst e
  obtain ⟨j, h1, h2⟩ := (comp_guard hc rfl).2 d w hg
  have hd : dstB N o = true := by simp only [chkO, Bool.and_eq_true] at hc; exact hc.1
  have heg : effG ds env j w = some g := by rw [effG_C h2]; exact he
  cases g with
  | false => exact exec_skipG h1 heg hd r
  | true =>
    have := exec_enter (n0 := n0) (ds := ds) (o := { o with guard := none }) false [] (targetB_ok (o := { o with guard := none }) (by rw [targetC_eq]; exact ht rfl) (callB_ok hcl)) rfl hd (by simp) (by simp) (fun h => by cases h) (r := r) (H1 := []) (by rw [ha rfl, toCL_closed _ _ _ (hza rfl)]; exact hcon rfl)
    rw [ren_closed _ hz] at this
    simp only [mergeH, setAll, bk, List.map_nil, List.drop_nil, List.append_nil] at this
    refine exec_guard h1 heg ?_
    intro m' E a w' K' hm' s hl hk'
    exact this m' E a w' K' hm' s hl (fun a' w'' s' => hk' a' w'' (by
      obtain ⟨S, β, sc⟩ := s'
      refine ⟨S, β, sc.hp, sc.n0, sc.b0, sc.s0, sc.s1, sc.place, sc.out, fun t => ?_, sc.sz, sc.df⟩
      have := sc.env t
      rw [put_match] at this ⊢
      split
      · rename_i e; rw [if_pos e] at this; exact .gvt _ _ this
      · rename_i e; rw [if_neg e] at this; exact this))

/-- A call of a named function under a guard, of plain values. -/
theorem Run.callF {m : Bool} {K : Env → Heap → Prop} {c : CO} {l : List CO} {f : FuncId} {xs : Array Operand} {ats : Array TypeId} {args : List PV} {r : PV} {d : Nat} {w g : Bool} (hg : c.g = some (d, w)) (hop : c.op = .call { callee := .value (.func f), args := xs, argTypes := ats }) (he : effC env d w = some g)
    (hcl : callB P f = true) (hok : okG g (xs.toList.map (evalO env))) (hcon : g = true → GC P f args [] r []) (ha : xs.toList.map (fun x => stripP (evalO env x)) = args) (hza : zLB args = true) (hz : zB r = true) (hk : Run P N n0 m K l (putE c.d (.gv g r) env) H) : Run P N n0 m K (c :: l) env H := by
  refine Run.callG (f := f) (ps := xs.toList.map (evalS env)) hg he ⟨_, hop, fun b h => by cases h⟩ (fun _ => by rw [hop]; rfl) hcl hcon (fun hgt => ?_) (fun _ => hza) hz hk
  rw [← ha]
  refine List.map_congr_left fun x hx => ?_
  exact unT_hold hgt (okG_mem hok hgt _ (List.mem_map.2 ⟨x, hx, rfl⟩) |> fun h _ => h)

/-- A call under a guard that holds. -/
theorem Run.callT {m : Bool} {K : Env → Heap → Prop} {c : CO} {l : List CO} {f : FuncId} {ps args : List PV} {r : PV} {d : Nat} {w : Bool} (hg : c.g = some (d, w)) (he : effC env d w = some true) (ht : targetC P c.op env H = some (f, ps)) (hcl : callB P f = true)
    (hcon : GC P f args [] r []) (ha : ps = args) (hza : zLB args = true) (hz : zB r = true) (hk : Run P N n0 m K l (putE c.d (.gv true r) env) H) : Run P N n0 m K (c :: l) env H :=
  Run.callG hg he (targetC_call ht) (fun _ => ht) hcl (fun _ => hcon) (fun _ => ha) (fun _ => hza) hz hk

/-- A guard that holds falls away. -/
theorem Run.ung {m : Bool} {K : Env → Heap → Prop} {c : CO} {l : List CO} {d : Nat} {w : Bool} (hg : c.g = some (d, w)) (he : effC env d w = some true) (hk : Run P N n0 m K (⟨c.d, none, c.op⟩ :: l) env H) : Run P N n0 m K (c :: l) env H := by
  have key : ∀ ds (o : Oper), chkO N ds o = true → compO ds o = c → chkO N ds { o with guard := none } = true ∧ compO ds { o with guard := none } = ⟨c.d, none, c.op⟩ ∧ ∃ j, o.guard = some (j, w) ∧ effG ds env j w = some true := fun ds o hc e => by
    obtain ⟨j, h1, h2⟩ := (comp_guard hc e).2 d w hg
    subst e
    have hd : dstB N o = true := by simp only [chkO, Bool.and_eq_true] at hc; exact hc.1
    exact ⟨by simp only [chkO, Bool.and_true]; exact hd, rfl, j, h1, by rw [effG_C h2]; exact he⟩
  cases hk with
  | cons h1 h2 =>
    refine .cons ⟨fun ds o hc e => ?_, fun o ho => h1.q o ho, fun ds o hc e he' hh H2 => ?_, fun ds o hc e he' X => ?_, h1.r⟩ h2
    · obtain ⟨k1, k2, j, k3, k4⟩ := key ds o hc e
      exact exec_guard k3 k4 (h1.h ds _ k1 k2)
    · obtain ⟨k1, k2, j, k3, k4⟩ := key ds o hc e
      exact exec_guard k3 k4 (h1.f ds _ k1 k2 he' hh H2)
    · obtain ⟨k1, k2, j, k3, k4⟩ := key ds o hc e
      exact exec_guard k3 k4 (h1.x ds _ k1 k2 he' X)

theorem Run.on {m : Bool} {K : Env → Heap → Prop} {l : List CO} (h : evalC P N n0 m K l env H) : Run P N n0 m K l env H := evalC_ok h

/-- Within a region: the view changes. -/
theorem Run.skipG (q : PV) {m : Bool} {K : Env → Heap → Prop} {c : CO} {l : List CO} {d : Nat} {w : Bool} (hg : c.g = some (d, w)) (he : effC env d w = some false) (hop : ∃ cl, c.op = .call cl ∧ ∀ b, cl.callee ≠ .builtin b) (hk : Run P N n0 m K l (putE c.d (.gv false q) env) H) : Run P N n0 m K (c :: l) env H := by
  refine .cons (execC_call hop (fun ds o hc e => ?_) (fun _ => ⟨[], by simp⟩)) hk
  subst e
  obtain ⟨j, h1, h2⟩ := (comp_guard hc rfl).2 d w hg
  have hd : dstB N o = true := by simp only [chkO, Bool.and_eq_true] at hc; exact hc.1
  exact exec_skipG h1 (by rw [effG_C h2]; exact he) hd q

end
end Go.Proofs.Ytbbjmfkmjjinnaa.V
