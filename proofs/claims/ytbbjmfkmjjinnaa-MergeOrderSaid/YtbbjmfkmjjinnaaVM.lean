/- The logic's changes of view (numbers, frozen objects, less known), loops and returns up to them, calls in one step. No law of the program is proved here. -/
import Derived.Test.YtbbjmfkmjjinnaaVG
import Derived.Test.YtbbjmfkmjjinnaaVJ
set_option linter.all false
namespace Go.Proofs.Ytbbjmfkmjjinnaa.V
open Go

/-! ### less known -/
def LeP (p q : PV) : Prop := ∀ c v, Rel c v p → Rel c v q
theorem LeP.refl (p : PV) : LeP p p := fun _ _ h => h
theorem LeP.of_eq {p q : PV} (h : p = q) : LeP p q := by subst h; exact .refl p
theorem LeP.trans {p q r : PV} (h : LeP p q) (k : LeP q r) : LeP p r := fun c v x => k c v (h c v x)
theorem LeP.dead (p : PV) : LeP p .dead := fun _ v _ => .dead v
theorem LeP.im (nz : Bool) (n : Nat) (cs : List PV) : LeP (.im nz n cs) (.im false n cs) := fun c v h => by
  cases h with
  | im A ad len cap nz cells us hA hz hl h0 hc hr => exact .im A ad _ cap false _ us hA (fun h => by cases h) hl h0 hc hr
theorem LeP.im' {nz : Bool} {n m : Nat} {cs ds : List PV} (h : n = m) (k : cs = ds) : LeP (.im nz n cs) (.im false m ds) := by subst h k; exact .im nz n cs
theorem LeP.nil : LeP (.sc (.slice none 0 0)) (.im false 0 []) := fun c v h => by
  cases h
  exact .im none ⟨0, 0, none⟩ 0 0 false [] (fun _ => undef) (fun h => by omega) (fun h => by cases h) (Nat.le_refl _) (fun _ => rfl) (fun j hj => by simp at hj) (fun j hj => by simp at hj)
theorem LeP.nil' {m : Nat} {ds : List PV} (h : m = 0) (k : ds = []) : LeP (.sc (.slice none 0 0)) (.im false m ds) := by subst h k; exact .nil

def LeL (l l' : List PV) : Prop := l.length = l'.length ∧ ∀ j, LeP (l.getD j .dead) (l'.getD j .dead)
theorem LeL.refl (l : List PV) : LeL l l := ⟨rfl, fun _ => .refl _⟩
theorem LeL.of_eq {p q : List PV} (h : p = q) : LeL p q := by subst h; exact .refl p
theorem LeL.nil : LeL [] [] := .refl _
theorem LeL.cons {p q : PV} {l l' : List PV} (h : LeP p q) (k : LeL l l') : LeL (p :: l) (q :: l') := ⟨by simp [k.1], fun j => by
  cases j with
  | zero => exact h
  | succ j => simpa using k.2 j⟩
theorem LeL.append {a b c d : List PV} (h : LeL a b) (k : LeL c d) : LeL (a ++ c) (b ++ d) := by
  refine ⟨by simp [h.1, k.1], fun j => ?_⟩
  simp only [List.getD_eq_getElem?_getD, List.getElem?_append]
  have h1 := h.1
  by_cases hj : j < a.length
  · rw [if_pos hj, if_pos (by omega)]; simpa [List.getD_eq_getElem?_getD] using h.2 j
  · rw [if_neg hj, if_neg (by omega), h1]; simpa [List.getD_eq_getElem?_getD] using k.2 (j - b.length)
theorem LeL.map {α : Type} {f g : α → PV} : ∀ {l : List α}, (∀ x, x ∈ l → LeP (f x) (g x)) → LeL (l.map f) (l.map g)
  | [], _ => .nil
  | x :: l, h => .cons (h x (by simp)) (LeL.map fun y hy => h y (by simp [hy]))
theorem LeP.ag {l l' : List PV} (h : LeL l l') : LeP (.ag l) (.ag l') := fun c v r => by
  cases r with
  | ag vs _ hl hr => exact .ag vs _ (by rw [hl, h.1]) (fun j hj => h.2 j _ _ (hr j (by rw [h.1]; exact hj)))
theorem LeP.tu {l l' : List PV} (h : LeL l l') : LeP (.tu l) (.tu l') := fun c v r => by
  cases r with
  | tu vs _ hl hr => exact .tu vs _ (by rw [hl, h.1]) (fun j hj => h.2 j _ _ (hr j (by rw [h.1]; exact hj)))
theorem LeP.ifc {t : TypeId} {p q : PV} (h : LeP p q) : LeP (.ifc t p) (.ifc t q) := fun c v r => by
  cases r with
  | ifc _ u _ k => exact .ifc t u q (h _ _ k)
theorem LeP.imL {nz : Bool} {n : Nat} {cs ds : List PV} (h : LeL cs ds) : LeP (.im nz n cs) (.im nz n ds) := fun c v r => by
  cases r with
  | im A ad _ cap _ _ us hA hz hl h0 hc hr =>
    exact .im A ad _ cap _ _ us hA hz hl (fun e => by have := h0 e; subst this; have := h.1; exact List.eq_nil_of_length_eq_zero (by simpa using this.symm)) (fun j hj => hc j (by rw [h.1]; exact hj)) (fun j hj => h.2 j _ _ (hr j (by rw [h.1]; exact hj)))
theorem LeP.imF {nz : Bool} {n m : Nat} {cs ds : List PV} (hn : n = m) (h : LeL cs ds) : LeP (.im nz n cs) (.im false m ds) := by subst hn; exact (LeP.imL h).trans (.im _ _ _)

def LeO : Option GObj → Option GObj → Prop
  | _, none => True
  | some o, some o' => o'.ty = o.ty ∧ o'.sl = o.sl ∧ o'.sz = o.sz ∧ LeL o.cells o'.cells
  | none, some _ => False
def LeH : Heap → Heap → Prop
  | [], [] => True
  | x :: l, y :: l' => LeO x y ∧ LeH l l'
  | _, _ => False
def LeEnv (f : Nat → PV) : Env → Prop
  | [] => True
  | x :: l => LeP (f x.1) x.2 ∧ LeEnv f l

theorem LeO.refl (o : Option GObj) : LeO o o := by cases o <;> simp [LeO, LeL.refl]
theorem LeO.none (o : Option GObj) : LeO o none := by cases o <;> exact trivial
theorem LeO.some {t : TypeId} {sl : Bool} {sz : Nat} {cs ds : List PV} (h : LeL cs ds) : LeO (some ⟨t, sl, sz, cs⟩) (some ⟨t, sl, sz, ds⟩) := ⟨rfl, rfl, rfl, h⟩
theorem LeH.refl : ∀ (H : Heap), LeH H H
  | [] => trivial
  | x :: l => ⟨.refl x, LeH.refl l⟩
theorem LeH.of_eq {H H' : Heap} (h : H = H') : LeH H H' := by subst h; exact .refl H
theorem LeH.length : ∀ {H H' : Heap}, LeH H H' → H.length = H'.length
  | [], [], _ => rfl
  | _ :: _, _ :: _, h => by simp [LeH.length h.2]
theorem LeH.get : ∀ {H H' : Heap}, LeH H H' → ∀ {i : Nat} {o' : GObj}, H'[i]? = some (some o') → ∃ o, H[i]? = some (some o) ∧ o'.ty = o.ty ∧ o'.sl = o.sl ∧ o'.sz = o.sz ∧ LeL o.cells o'.cells
  | x :: l, y :: l', h, 0, o', e => by
    simp at e; subst e
    cases x with
    | none => exact h.1.elim
    | some o => exact ⟨o, rfl, h.1⟩
  | x :: l, y :: l', h, i + 1, o', e => by simpa using LeH.get h.2 (i := i) (by simpa using e)
  | [], [], h, i, o', e => by simp at e
theorem LeEnv.look {f : Nat → PV} : ∀ {E : Env}, LeEnv f E → ∀ j, LeP (f j) (look E j)
  | [], _, j => .dead _
  | (k, p) :: E, h, j => by
    simp only [V.look]
    split
    · rename_i e; subst e; exact h.1
    · exact LeEnv.look h.2 j

theorem HeapOk.less {c : Cx} {H H' : Heap} (hp : HeapOk c H) (h : LeH H H') : HeapOk c H' := by
  refine ⟨by rw [hp.n, h.length], fun i o ho => ?_, fun i j o o' ho ho' e => ?_, fun i o ho => ?_, hp.lt⟩
  · obtain ⟨o1, h1, h2, h3, h4, h5, h6⟩ := h.get ho
    obtain ⟨cur, k1, k2, k3, k4, k5⟩ := hp.blk i o1 h1
    refine ⟨cur, by rw [h2]; exact k1, by rw [← h5]; exact k2, by rw [h3, h4]; exact k3, by rw [h3, ← h5]; exact k4, fun j hj => ?_⟩
    obtain ⟨a, b⟩ := k5 j (by rw [h5]; exact hj)
    exact ⟨a, h6 j _ _ b⟩
  · obtain ⟨o1, h1, _⟩ := h.get ho
    obtain ⟨o2, h2, _⟩ := h.get ho'
    exact hp.inj i j o1 o2 h1 h2 e
  · obtain ⟨o1, h1, _⟩ := h.get ho
    exact hp.nS i o1 h1

/-! ### the same state, seen otherwise -/
def Conv (n0 : Nat) (env : Env) (H : Heap) (env' : Env) (H' : Heap) : Prop := ∀ m N a w, m.n0 = n0 → Sim m N env H a w → Sim m N env' H' a w

section
variable {P : Program} {N n0 : Nat} {k : List KI} {Q : Env → Heap → Prop} {env env' env'' : Env} {H H' H'' : Heap}

theorem Conv.refl (n0 : Nat) (env : Env) (H : Heap) : Conv n0 env H env H := fun _ _ _ _ _ s => s
theorem Conv.trans (h : Conv n0 env H env' H') (k : Conv n0 env' H' env'' H'') : Conv n0 env H env'' H'' := fun m N a w e s => k m N a w e (h m N a w e s)
theorem W_conv (h : Conv n0 env H env' H') (hk : W P N n0 k Q env' H') : W P N n0 k Q env H := fun m a w e s => hk m a w e (h m N a w e s)
theorem Conv.ren (src : List Nat) (hn : src.Nodup) (h0 : src.take n0 = List.range n0) : Conv n0 env H (renE (idx src) env) (renH src H) := fun m N a w e s => by
  obtain ⟨S, β, sc⟩ := s
  exact (sc.pick hn (by rw [e]; exact h0)).sim
theorem Conv.frz (i : Nat) {o : GObj} (hi : H[i]? = some (some o)) (hz : zLB o.cells = true) : Conv n0 env H (frzE i o env) (frzH i o H) := fun m N a w e s => by
  obtain ⟨S, β, sc⟩ := s
  exact (sc.frz hi hz).sim
theorem Conv.less (he : LeEnv (look env) env') (hH : LeH H H') : Conv n0 env H env' H' := fun m N a w e s => by
  obtain ⟨S, β, sc⟩ := s
  have hl := hH.length
  refine ⟨S, β, ?_⟩
  rw [← hl]
  exact ⟨sc.hp.less hH, by rw [← hl]; exact sc.n0, sc.b0, sc.s0, sc.s1, fun i o ho => by
    obtain ⟨o1, h1, _⟩ := hH.get ho
    exact sc.place i o1 h1, sc.out, fun j => he.look j _ _ (sc.env j), sc.sz, sc.df⟩
theorem LeEnv.comp {f g : Nat → PV} : ∀ {E : Env}, LeEnv f E → (∀ j, f j = g j) → LeEnv g E
  | [], _, _ => trivial
  | x :: l, h, e => ⟨by rw [← e]; exact h.1, LeEnv.comp h.2 e⟩
/-- Objects by other numbers, then less known. -/
theorem Conv.to (src : List Nat) (hn : src.Nodup) (h0 : src.take n0 = List.range n0) (he : LeEnv (fun j => V.ren (idx src) (look env j)) env') (hH : LeH (renH src H) H') : Conv n0 env H env' H' :=
  (Conv.ren src hn h0).trans (.less (he.comp fun j => (look_renE _ env j).symm) hH)

/-- A loop, by a ghost state, up to the view. -/
theorem W_loopV {σ : Type} {body : Code} (E : σ → Env) (F : σ → Heap) (C : σ → Prop) (μ : σ → Nat) (s : σ) (h0 : Conv n0 env H (E s) (F s)) (hc : C s)
    (hr : ∀ s, C s → W P N n0 (.code body :: .inv (fun env' H' => ∃ s', Conv n0 env' H' (E s') (F s') ∧ C s' ∧ μ s' < μ s) :: k) Q (E s) (F s)) : W P N n0 (.code (.loop body) :: k) Q env H := by
  refine W_conv h0 (W_loop (fun n env H => ∃ s, n = μ s ∧ env = E s ∧ H = F s ∧ C s) (μ s) ⟨s, rfl, rfl, rfl, hc⟩ ?_)
  rintro n env H ⟨s, rfl, rfl, rfl, hc⟩
  intro m a w hm sm
  refine wp_mono (hr s hc m a w hm sm) fun e a w h => ?_
  cases e with
  | normal =>
    obtain ⟨env', H', sm', s', h1, h2, h3⟩ := h
    exact ⟨E s', F s', h1 m N a w hm sm', μ s', h3, s', rfl, rfl, rfl, h2⟩
  | _ => exact h

def RetV (P : Program) (rv : List ResultVar) (n0 : Nat) (r : PV) (H1 : Heap) (env : Env) (H : Heap) : Prop :=
  ∃ env' H', Conv n0 env H env' H' ∧ ∃ (src : List Nat) (ok : Prop) (ps : List PV), resP P env' H' rv = some (ok, ps) ∧ ok ∧ src.Nodup ∧ src.take n0 = List.range n0 ∧ LeP (V.ren (idx src) (one ps)) r ∧ LeH (renH src H') H1

theorem RetV.conv {rv : List ResultVar} {r : PV} {H1 : Heap} (h : Conv n0 env H env' H') (hk : RetV P rv n0 r H1 env' H') : RetV P rv n0 r H1 env H := by
  obtain ⟨e, h2, h3, h4⟩ := hk
  exact ⟨e, h2, h.trans h3, h4⟩
theorem RetV.of {rv : List ResultVar} {r : PV} {H1 : Heap} (src : List Nat) {ok : Prop} {ps : List PV} (h : resP P env H rv = some (ok, ps)) (ho : ok) (hn : src.Nodup) (h0 : src.take n0 = List.range n0) (hr : LeP (V.ren (idx src) (one ps)) r) (hH : LeH (renH src H) H1) : RetV P rv n0 r H1 env H :=
  ⟨env, H, .refl _ _ _, src, ok, ps, h, ho, hn, h0, hr, hH⟩

theorem GC_bodyV {f : FuncId} {fn : Func} {code : Code} {args : List PV} {H0 H1 : Heap} {r : PV} (hf : P.funcs[f]? = some fn) (hb : fn.body = some code) (hargs : args.length ≤ fn.ntmps)
    (h : W P fn.ntmps H0.length [.code code] (RetV P fn.results.toList H0.length r H1) (argE 0 args) H0) : GC P f args H0 r H1 := by
  intro c vs hp hr
  refine calls_of_wp hf hb ?_
  have hlen : vs.size = args.length := by have := hr.1; simpa using this
  have s : SimC ⟨c.w, Owned c H0, c.S, H0.length, c.β⟩ fn.ntmps (argE 0 args) H0 { tmps := vs ++ Array.replicate (fn.ntmps - vs.size) undef, defers := [] } c := by
    refine ⟨hp, Nat.le_refl _, fun _ _ => rfl, fun _ h => h, fun _ h => .inl h, fun i o ho => .inl ⟨i, o, ho, rfl⟩, Out.refl _ _, fun k => ?_, by simp; omega, rfl⟩
    rw [look_argE, if_pos (Nat.zero_le _), Nat.sub_zero]
    by_cases hk : k < args.length
    · have := hr.2 k hk
      have e : (vs ++ Array.replicate (fn.ntmps - vs.size) undef).getD k undef = vs.toList.getD k undef := by
        simp [Array.getD_eq_getD_getElem?, List.getD_eq_getElem?_getD, Array.getElem?_append, show k < vs.size by omega]
      rw [e]; exact this
    · have : args.getD k .dead = .dead := by simp [List.getD_eq_getElem?_getD, List.getElem?_eq_none (Nat.le_of_not_lt hk)]
      rw [this]; exact .dead _
  have hw := h _ _ c.w rfl s.sim
  have fin : ∀ a w, (∃ env' H', Sim ⟨c.w, Owned c H0, c.S, H0.length, c.β⟩ fn.ntmps env' H' a w ∧ RetV P fn.results.toList H0.length r H1 env' H') → a.defers = [] ∧ ∃ v, (results fn a.tmps).run P w = .ok v w ∧
      ∃ v' S' β', Ending.returned v = .returned v' ∧ H0.length ≤ H1.length ∧ HeapOk ⟨w, S', β', H1.length⟩ H1 ∧ Rel ⟨w, S', β', H1.length⟩ v' r ∧
      (∀ i, i < H0.length → β' i = c.β i) ∧ (∀ b, c.S b → S' b) ∧ (∀ b, S' b → c.S b ∨ Owned c H0 b ∨ c.w.heap.size ≤ b) ∧
      (∀ i o, H1[i]? = some (some o) → Owned c H0 (β' i).1 ∨ c.w.heap.size ≤ (β' i).1) ∧ Out c.w (Owned c H0) w := by
    rintro a w ⟨env1, H1', s1, env', H', hcv, src, ok, ps, hres, hok, hnd, htk, hrr, hHH⟩
    obtain ⟨S, β, sc⟩ := hcv _ _ _ _ rfl s1
    obtain ⟨v, h1, h2⟩ := results_ok (fn := fn) sc hres hok
    have sp := sc.pick hnd htk
    have hn : src.length = H1.length := by rw [← hHH.length]; simp [renH]
    have hc : (Cx.pick ⟨w, S, β, H'.length⟩ src) = ⟨w, S, fun k => β (src.getD k 0), H1.length⟩ := by simp [Cx.pick, hn]
    rw [hc] at sp
    have hrel : Rel ⟨w, S, fun k => β (src.getD k 0), H1.length⟩ v r := by
      have := h2.ren (Cx.pick_ren ⟨w, S, β, H'.length⟩ src)
      rw [hc] at this
      exact hrr _ _ this
    exact ⟨sc.df, v, h1, v, S, _, rfl, by rw [← hHH.length]; exact sp.n0, sp.hp.less hHH, hrel, sp.b0, sp.s0, sp.s1, fun i o ho => by
      obtain ⟨o1, h1, _⟩ := hHH.get ho
      exact sp.place i o1 h1, sp.out⟩
  refine wp_mono hw fun e a w he => ?_
  cases e with
  | normal => exact fin a w he
  | ret => exact fin a w he
  | _ => exact he.elim

/-! ### calls -/
mutual
theorem ren_closed (σ : Nat → Option Nat) : ∀ {p : PV}, zB p = true → V.ren σ p = p
  | .id _ _, h => by cases h
  | .ix _ _ _, h => by cases h
  | .ad _ _, h => by cases h
  | .ag ps, h => by simp only [V.ren]; rw [renL_closed σ (l := ps) h]
  | .tu ps, h => by simp only [V.ren]; rw [renL_closed σ (l := ps) h]
  | .fn f a b, h => by
    simp only [zB, Bool.and_eq_true] at h
    simp only [V.ren]; rw [renL_closed σ (l := a) h.1, renL_closed σ (l := b) h.2]
  | .ifc t p, h => by simp only [V.ren]; rw [ren_closed σ (p := p) h]
  | .gv g p, h => by simp only [V.ren]; rw [ren_closed σ (p := p) h]
  | .dead, _ => rfl
  | .sc _, _ => rfl
  | .im _ _ _, _ => rfl
  | .ip _, _ => rfl
theorem renL_closed (σ : Nat → Option Nat) : ∀ {l : List PV}, zLB l = true → renL σ l = l
  | [], _ => rfl
  | p :: l, h => by
    simp only [zLB, Bool.and_eq_true] at h
    simp only [renL]; rw [ren_closed σ h.1, renL_closed σ h.2]
end

theorem zLB_map {α : Type} (f : α → PV) : ∀ {l : List α}, (∀ x, x ∈ l → zB (f x) = true) → zLB (l.map f) = true
  | [], _ => rfl
  | x :: l, h => by simp only [List.map_cons, zLB, Bool.and_eq_true]; exact ⟨h x (by simp), zLB_map f fun y hy => h y (by simp [hy])⟩
theorem zLB_append {a b : List PV} (h : zLB a = true) (k : zLB b = true) : zLB (a ++ b) = true := by
  rw [zLB_all] at *; simp [h, k]

mutual
theorem toC_closed (vw : Bool) (H : Heap) (rs : List Nat) : ∀ {p : PV}, zB p = true → toC vw H rs p = p
  | .id _ _, h => by cases h
  | .ix _ _ _, h => by cases h
  | .ad _ _, h => by cases h
  | .ag ps, h => by simp only [toC]; rw [toCL_closed vw H rs (l := ps) h]
  | .tu ps, h => by simp only [toC]; rw [toCL_closed vw H rs (l := ps) h]
  | .fn f a b, h => by
    simp only [zB, Bool.and_eq_true] at h
    simp only [toC]; rw [toCL_closed vw H rs (l := a) h.1, toCL_closed vw H rs (l := b) h.2]
  | .ifc t p, h => by simp only [toC]; rw [toC_closed vw H rs (p := p) h]
  | .gv g p, h => by simp only [toC]; rw [toC_closed vw H rs (p := p) h]
  | .dead, _ => rfl
  | .sc _, _ => rfl
  | .im _ _ _, _ => rfl
  | .ip _, _ => rfl
theorem toCL_closed (vw : Bool) (H : Heap) (rs : List Nat) : ∀ {l : List PV}, zLB l = true → toCL vw H rs l = l
  | [], _ => rfl
  | p :: l, h => by
    simp only [zLB, Bool.and_eq_true] at h
    simp only [toCL]; rw [toC_closed vw H rs h.1, toCL_closed vw H rs h.2]
end

/-- A call with plain values, that gives one, and leaves nothing. -/
theorem W_callP {o : Oper} {l : List Oper} {ds : List (Option Tmp)} {f : FuncId} {xs : Array Operand} {ats : Array TypeId} {args : List PV} {r : PV} (ho : o.op = .call { callee := .value (.func f), args := xs, argTypes := ats }) (hc : callB P f = true) (hg : o.guard = none) (hd : dstB N o = true)
    (hcon : GC P f args [] r []) (ha : toCL false H [] (xs.toList.map (evalS env)) = args) (hz : zB r = true) (hk : W P N n0 (.ops ds l :: k) Q (putE o.dst r env) H) : W P N n0 (.ops ds (o :: l) :: k) Q env H := by
  refine W_enter false [] (r := r) (H1 := []) (enters_func ho (callB_ok hc)) hg hd (by simp) (by simp) (fun h => by cases h) (by rw [ha]; exact hcon) ?_
  rw [ren_closed _ hz]
  simpa [mergeH, setAll, bk] using hk

/-- A call, in general: objects rs are handed in. -/
theorem W_callO {o : Oper} {l : List Oper} {ds : List (Option Tmp)} {f : FuncId} {xs : Array Operand} {ats : Array TypeId} {args : List PV} {r r' : PV} {H0 H1 H2 : Heap} (rs : List Nat) (ho : o.op = .call { callee := .value (.func f), args := xs, argTypes := ats }) (hc : callB P f = true) (hg : o.guard = none) (hd : dstB N o = true)
    (hn : rs.Nodup) (hl : ∀ i, i ∈ rs → i < H.length) (hcon : GC P f args H0 r H1) (ha : toCL false H rs (xs.toList.map (evalS env)) = args) (hH : subH false H rs = H0)
    (hr' : V.ren (back H.length rs) r = r') (hH2 : mergeH H rs (bk H.length rs H1) = H2) (hk : W P N n0 (.ops ds l :: k) Q (putE o.dst r' env) H2) : W P N n0 (.ops ds (o :: l) :: k) Q env H :=
  W_enter false rs (enters_func ho (callB_ok hc)) hg hd hn hl (fun h => by cases h) (by rw [ha, hH]; exact hcon) (by rw [hr', hH2]; exact hk)

/-- A call that only looks at the caller's objects. -/
theorem W_callL {o : Oper} {l : List Oper} {ds : List (Option Tmp)} {f : FuncId} {xs : Array Operand} {ats : Array TypeId} {args : List PV} {r : PV} (ho : o.op = .call { callee := .value (.func f), args := xs, argTypes := ats }) (hc : callB P f = true) (hg : o.guard = none) (hd : dstB N o = true)
    (hcon : GC P f args [] r []) (ha : toCL true H [] (xs.toList.map (evalS env)) = args) (hz : zB r = true) (hf : flatB r = true) (hk : W P N n0 (.ops ds l :: k) Q (putE o.dst r env) H) : W P N n0 (.ops ds (o :: l) :: k) Q env H := by
  refine W_enter true [] (r := r) (H1 := []) (enters_func ho (callB_ok hc)) hg hd (by simp) (by simp) (fun _ => ⟨hf, rfl⟩) (by rw [ha]; exact hcon) ?_
  rw [ren_closed _ hz]
  simpa [mergeH, setAll, bk] using hk

/-- A contract, where less is asked for. -/
theorem GC.less {f : FuncId} {args : List PV} {H0 H1 H2 : Heap} {r r' : PV} (h : GC P f args H0 r H1) (hr : LeP r r') (hH : LeH H1 H2) : GC P f args H0 r' H2 := by
  intro c vs hp ha
  refine (h c vs hp ha).mono ?_
  rintro e w' ⟨v, S', β', rfl, h1, h2, h3, h4, h5, h6, h7, h8⟩
  have hl := hH.length
  refine ⟨v, S', β', rfl, by rw [← hl]; exact h1, by rw [← hl]; exact h2.less hH, by rw [← hl]; exact hr _ _ h3, h4, h5, h6, fun i o ho => ?_, h8⟩
  obtain ⟨o1, k1, _⟩ := hH.get ho
  exact h7 i o1 k1
/-- A contract, where more is known than it asks for. -/
theorem GC.more {f : FuncId} {args args' : List PV} {H0 H1 : Heap} {r : PV} (h : GC P f args H0 r H1) (ha : LeL args' args) : GC P f args' H0 r H1 := by
  intro c vs hp hr
  exact h c vs hp ⟨hr.1.trans ha.1, fun j hj => ha.2 j _ _ (hr.2 j (by rw [ha.1]; exact hj))⟩

end
end Go.Proofs.Ytbbjmfkmjjinnaa.V
