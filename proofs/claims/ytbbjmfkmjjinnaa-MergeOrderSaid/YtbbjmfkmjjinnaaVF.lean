/- The logic's stretches whose order is drawn. No law of the program is proved here. -/
import Derived.Test.YtbbjmfkmjjinnaaVE
import Derived.Orders
set_option linter.all false
namespace Go.Proofs.Ytbbjmfkmjjinnaa.V
open Go

def looks (ds : List (Option Tmp)) (o : Oper) : List Tmp :=
  (o.op.operands.toList.filterMap fun | .tmp t => some t | _ => none) ++
  (match o.guard with
   | some (j, _) => (match ds[j]? with | some (some d) => [d] | _ => [])
   | none => [])

def stepK (P : Program) (ds : List (Option Tmp)) (o : Oper) (K : Act → World → Prop) (a : Act) (w : World) : Prop :=
  if Region.wanted o (yieldedL ds a.tmps) then o.wp P a w K (fun _ _ _ => False) else K (a.put o.dst undef) w

/-- What an operation does, from wherever what it looks at is as told. -/
def Exec (P : Program) (N n0 : Nat) (ds : List (Option Tmp)) (o : Oper) (env : Env) (H : Heap) (p : PV) (H' : Heap) : Prop :=
  ∀ (m : Amb) (E : Env) (a : Act) (w : World) (K : Act → World → Prop), m.n0 = n0 → Sim m N E H a w → (∀ t, t ∈ looks ds o → look E t = look env t) →
    (∀ a' w', Sim m N (putE o.dst p E) H' a' w' → K a' w') → stepK P ds o K a w

def rst (ls : List Tmp) (env : Env) : Env := ls.map fun t => (t, look env t)

theorem look_rst (env : Env) : ∀ (ls : List Tmp) (t : Tmp), t ∈ ls → look (rst ls env) t = look env t
  | [], t, h => by cases h
  | x :: ls, t, h => by
    simp only [rst, List.map_cons, look]
    split
    · rename_i e; rw [e]
    · rename_i e
      rcases List.mem_cons.1 h with h | h
      · exact absurd h e
      · exact look_rst env ls t h

theorem Exec.rst {P : Program} {N n0 : Nat} {ds : List (Option Tmp)} {o : Oper} {env : Env} {H H' : Heap} {p : PV} (h : Exec P N n0 ds o (V.rst (looks ds o) env) H p H') : Exec P N n0 ds o env H p H' :=
  fun m E a w K hm s hl hk => h m E a w K hm s (fun t ht => by rw [look_rst _ _ _ ht]; exact hl t ht) hk

section
variable {P : Program} {N n0 : Nat} {ds : List (Option Tmp)}

theorem eval_looks {m : Amb} {E env : Env} {H : Heap} {a : Act} {c : Cx} (s : SimC m N E H a c) {o : Oper} (hl : ∀ t, t ∈ looks ds o → look E t = look env t) (x : Operand) (hx : x ∈ o.op.operands.toList) : Rel c (a.eval x) (evalO env x) := by
  have := s.eval x
  cases x with
  | tmp t =>
    have ht : t ∈ looks ds o := List.mem_append_left _ (List.mem_filterMap.2 ⟨.tmp t, hx, rfl⟩)
    simp only [evalO] at this ⊢
    rw [← hl t ht]; exact this
  | _ => exact this

theorem effG_looks {E env : Env} {o : Oper} (hl : ∀ t, t ∈ looks ds o → look E t = look env t) {j : Nat} {w : Bool} (hg : o.guard = some (j, w)) : effG ds E j w = effG ds env j w := by
  unfold effG
  cases hd : ds[j]? with
  | none => rfl
  | some x => cases x with
    | none => rfl
    | some d =>
      have : d ∈ looks ds o := by simp [looks, hg, hd]
      simp only [hl d this]

theorem pick_mem (o : Oper) {c x y : Operand} (h : o.op = .pick c x y) : c ∈ o.op.operands.toList ∧ x ∈ o.op.operands.toList ∧ y ∈ o.op.operands.toList := by rw [h]; simp [Op.operands]

theorem exec_step {o : Oper} {env : Env} {H H' : Heap} {ok : Prop} {p : PV} (h : stepO P N ds o env H = some (ok, p, H')) (ho : ok) : Exec P N n0 ds o env H p H' := by
  intro m E a w K hn s hl hk
  obtain ⟨S, β, sc⟩ := s
  unfold stepO at h
  split at h
  · rename_i hd
    have ev := fun x hx => eval_looks (ds := ds) (env := env) sc (o := o) hl x hx
    have fin : ∀ v c', Rel c' v p → SimC m N E H' a c' → K (a.put o.dst v) c'.w := fun v c' hv s' => hk _ _ (s'.putE hd hv).sim
    unfold stepK
    split at h
    · rename_i hg
      have hw : Region.wanted o (yieldedL ds a.tmps) = true := by simp [Region.wanted, hg]
      simp only [hw, if_true]
      have key : ∃ v c', (∃ r, (execOp a.eval o).run P w = .ok r c'.w ∧ (r = .value v ∨ (r = .skip ∧ v = undef))) ∧ Rel c' v p ∧ SimC m N E H' a c' := by
        split at h
        · rename_i x y z hop
          obtain ⟨h1, rfl⟩ := keepH_some h
          obtain ⟨m1, m2, m3⟩ := pick_mem o hop
          have hx := (ev x m1).unT
          cases hxx : evalS env x with
          | sc v =>
            have hxx' : Go.Proofs.Ytbbjmfkmjjinnaa.V.unT (evalO env x) = .sc v := hxx
            rw [hxx'] at hx
            rw [hxx] at h1
            cases v with
            | bool b =>
              have he : a.eval x = .bool b := hx.sc_inv
              refine ⟨_, _, ⟨_, ?_, .inl rfl⟩, pick_ok (c := .dead) h1 ho (ev y m2) (ev z m3), sc⟩
              simp [execOp, hop, he, asBool]
            | _ => simp [pickP] at h1
          | _ => rw [hxx] at h1; simp [pickP] at h1
        · exact op_ok h ho m N E a _ sc (fun x hx => (ev x hx).unT)
      obtain ⟨v, c', ⟨r, hr, hv⟩, hrel, s'⟩ := key
      have := fin v c' hrel s'
      unfold Oper.wp
      rcases hv with rfl | ⟨rfl, rfl⟩
      · rw [hr]; exact this
      · rw [hr]; exact this
    · rename_i j wnt hg
      split at h
      · rename_i g he
        split at h
        · rename_i hq
          cases hop : opP P o.op (fun x => stripP (evalO env x)) H with
          | none => rw [hop] at h; cases h
          | some q =>
            obtain ⟨ok1, p1, H1⟩ := q
            rw [hop] at h
            cases h
            have hH := quiet_ok hq hop
            subst hH
            have hw : Region.wanted o (yieldedL ds a.tmps) = g := by
              simp only [Region.wanted, hg]
              exact effG_ok sc (by rw [effG_looks hl hg]; exact he)
            simp only [hw]
            cases g with
            | true =>
              obtain ⟨ho1, ho2⟩ := ho rfl
              simp only [if_true]
              obtain ⟨v, c', ⟨r, hr, hv⟩, hrel, s'⟩ := op_ok hop ho1 m N E a _ sc (fun x hx => (ev x hx).strip (okG_mem ho2 rfl _ (List.mem_map.2 ⟨x, hx, rfl⟩)))
              have := fin v c' (.gvt v p1 hrel) s'
              unfold Oper.wp
              rcases hv with rfl | ⟨rfl, rfl⟩
              · rw [hr]; exact this
              · rw [hr]; exact this
            | false => exact fin undef _ (.gvf p1) sc
        · cases h
      · cases h
  · cases h

/-- An operation whose guard says no. -/
theorem exec_skip {o : Oper} {env : Env} {H : Heap} {j : Nat} {w : Bool} (hg : o.guard = some (j, w)) (he : effG ds env j w = some false) (hd : dstB N o = true) : Exec P N n0 ds o env H .dead H := by
  intro m E a wd K hn s hl hk
  obtain ⟨S, β, sc⟩ := s
  have hw : Region.wanted o (yieldedL ds a.tmps) = false := by
    simp only [Region.wanted, hg]
    exact effG_ok sc (by rw [effG_looks hl hg]; exact he)
  unfold stepK
  simp only [hw]
  exact hk _ _ (sc.putE hd (.dead _)).sim

/-- An operation whose guard says yes. -/
theorem exec_guard {o : Oper} {env : Env} {H H' : Heap} {p : PV} {j : Nat} {w : Bool} (hg : o.guard = some (j, w)) (he : effG ds env j w = some true) (h : Exec P N n0 ds { o with guard := none } env H p H') : Exec P N n0 ds o env H p H' := by
  intro m E a wd K hn s hl hk
  have hw : Region.wanted o (yieldedL ds a.tmps) = true := by
    obtain ⟨S, β, sc⟩ := s
    simp only [Region.wanted, hg]
    exact effG_ok sc (by rw [effG_looks hl hg]; exact he)
  have hl' : ∀ t, t ∈ looks ds { o with guard := none } → look E t = look env t := fun t ht => hl t (by
    simp only [looks, List.mem_append] at ht ⊢
    rcases ht with ht | ht
    · exact .inl ht
    · cases ht)
  have := h m E a wd K hn s hl' hk
  unfold stepK at this ⊢
  rw [hw]
  have hw' : Region.wanted { o with guard := none } (yieldedL ds a.tmps) = true := rfl
  rw [hw'] at this
  exact this

/-- What a call enters, from wherever what it looks at is as told. -/
def EntersL (P : Program) (N : Nat) (ds : List (Option Tmp)) (o : Oper) (env : Env) (H : Heap) (f : FuncId) (ps : List PV) : Prop :=
  ∀ m E a c, SimC m N E H a c → (∀ t, t ∈ looks ds o → look E t = look env t) → ∃ vs : Array Value, (execOp a.eval o).run P c.w = .ok (.enter f vs) c.w ∧ RelL c vs.toList ps

theorem exec_enter {o : Oper} {env : Env} {H : Heap} {f : FuncId} {ps : List PV} (vw : Bool) (rs : List Nat) {r : PV} {H1 : Heap} (he : EntersL P N ds o env H f ps) (hg : o.guard = none) (hd : dstB N o = true)
    (hn : rs.Nodup) (hl : ∀ i, i ∈ rs → i < H.length) (hf : vw = true → flatB r = true ∧ H1.all flatOB = true) (hc : GC P f (toCL vw H rs ps) (subH vw H rs) r H1) :
    Exec P N n0 ds o env H (ren (back H.length rs) r) (mergeH H rs (bk H.length rs H1)) := by
  intro m E a w K hm s hlk hk
  obtain ⟨S, β, sc⟩ := s
  unfold stepK
  have hw : Region.wanted o (yieldedL ds a.tmps) = true := by simp [Region.wanted, hg]
  simp only [hw, if_true]
  obtain ⟨vs, hrun, hvs⟩ := he m E a _ sc hlk
  unfold Oper.wp
  rw [show (execOp a.eval o).run P w = .ok (.enter f vs) w from hrun, Oper.upon_enter]
  have hs := sees_callee (⟨w, S, β, H.length⟩ : Cx) vw H rs
  refine (hc _ vs (sc.hp.callee vw hn) (toCL_ok hs sc.hp hvs)).mono ?_
  rintro e w' ⟨v, S', β', rfl, h1, h2, h3, h4, h5, h6, h7, h8⟩
  obtain ⟨c', rfl, s', hr'⟩ := sc.called (vw := vw) hn hl hf h1 h2 h3 h4 h5 h6 h7 h8
  exact hk _ _ (s'.putE hd hr').sim

theorem evalL_looks {m : Amb} {E env : Env} {H : Heap} {a : Act} {c : Cx} (s : SimC m N E H a c) {o : Oper} (hl : ∀ t, t ∈ looks ds o → look E t = look env t) (xs : Array Operand) (hx : ∀ x, x ∈ xs.toList → x ∈ o.op.operands.toList) : RelL c (xs.map a.eval).toList (xs.toList.map (evalS env)) := by
  refine ⟨by simp, fun j hj => ?_⟩
  simp only [List.length_map] at hj
  have := (eval_looks (ds := ds) s hl (xs.toList[j]'(by simpa using hj)) (hx _ (List.getElem_mem _))).unT
  simp only [Array.toList_map, List.getD_eq_getElem?_getD, List.getElem?_map, List.getElem?_eq_getElem hj]
  simpa [evalS] using this

theorem entersL_func {o : Oper} {env : Env} {H : Heap} {f : FuncId} {xs : Array Operand} {ats : Array TypeId} (ho : o.op = .call { callee := .value (.func f), args := xs, argTypes := ats }) (hc : Callable P f) : EntersL P N ds o env H f (xs.toList.map (evalS env)) := by
  intro m E a c s hl
  refine ⟨xs.map a.eval, ?_, evalL_looks s hl xs (fun x hx => by rw [ho]; simp only [Op.operands, Call.operands]; simp; exact Or.inr (by simpa using hx))⟩
  have : execOp a.eval o = callFunc f (#[] ++ xs.map a.eval ++ #[]) := by simp only [execOp, ho]; rfl
  rw [this, hc.run]; simp

end

/-! ### the order -/
structure DS where
  o : Oper
  env : Env
  H : Heap
  p : PV
  H' : Heap

def effB (o : Oper) : Bool := match o.op with | .pick .. => false | op => !quietB op
def heapB (o : Oper) : Bool := match o.op with | .load .. => true | _ => false

def bindsB (e : Edge) : Bool := Region.binds .any e

/-- All that must be ahead of each operation, as bits. -/
def masks : List Nat → List Oper → List Nat
  | acc, [] => acc
  | acc, o :: l => masks (acc ++ [o.after.toList.foldl (fun z e => bif bindsB e then z ||| (1 <<< e.on) ||| acc.getD e.on 0 else z) 0]) l

def mB (zs : List Nat) (i j : Nat) : Bool := (zs.getD i 0).testBit j

def allB (n : Nat) (f : Nat → Bool) : Bool := (List.range n).all f
theorem allB_spec {n : Nat} {f : Nat → Bool} (h : allB n f = true) {i : Nat} (hi : i < n) : f i = true := List.all_eq_true.1 h i (List.mem_range.2 hi)

def afterB (arr : List Oper) (i : Nat) : List Edge := match arr[i]? with | some o => o.after.toList.filter bindsB | none => []
def dstAt (arr : List Oper) (i : Nat) : Option Tmp := match arr[i]? with | some o => o.dst | none => none
def effAt (arr : List Oper) (i : Nat) : Bool := match arr[i]? with | some o => effB o | none => false
def heapAt (arr : List Oper) (i : Nat) : Bool := match arr[i]? with | some o => heapB o | none => false
def looksAt (arr : List Oper) (i : Nat) : List Tmp := match arr[i]? with | some o => looks (arr.map (·.dst)) o | none => []

def drawB (arr : List Oper) (zs : List Nat) : Bool :=
  let n := arr.length
  allB n (fun i => (afterB arr i).all fun e => decide (e.on < i)) &&
  allB n (fun i => allB n fun j => !mB zs i j || (afterB arr i).any fun e => e.on == j || mB zs e.on j) &&
  allB n (fun i => allB n fun j => i == j || (match dstAt arr i with | some d => dstAt arr j != some d | none => true)) &&
  allB n (fun i => (looksAt arr i).all fun t => allB n fun j => dstAt arr j != some t || ((!decide (j < i) || mB zs i j) && (!decide (i < j) || mB zs j i))) &&
  allB n (fun i => allB n fun j => !(effAt arr i && effAt arr j && decide (i < j)) || mB zs j i)

structure DrawOk (arr : List Oper) (zs : List Nat) : Prop where
  edge : ∀ i, i < arr.length → ∀ e, e ∈ afterB arr i → e.on < i
  clos : ∀ i j, i < arr.length → j < arr.length → mB zs i j = true → ∃ e, e ∈ afterB arr i ∧ (e.on = j ∨ mB zs e.on j = true)
  dst : ∀ i j d, i < arr.length → j < arr.length → dstAt arr i = some d → dstAt arr j = some d → i = j
  rd : ∀ i j t, i < arr.length → j < arr.length → t ∈ looksAt arr i → dstAt arr j = some t → (j < i → mB zs i j = true) ∧ (i < j → mB zs j i = true)
  eff : ∀ i j, i < arr.length → j < arr.length → effAt arr i = true → effAt arr j = true → i < j → mB zs j i = true

theorem drawB_ok {arr : List Oper} {zs : List Nat} (h : drawB arr zs = true) : DrawOk arr zs := by
  simp only [drawB, Bool.and_eq_true] at h
  obtain ⟨⟨⟨⟨h1, h2⟩, h3⟩, h4⟩, h5⟩ := h
  refine ⟨fun i hi e he => ?_, fun i j hi hj hz => ?_, fun i j d hi hj hd hd' => ?_, fun i j t hi hj ht hd => ?_, fun i j hi hj he he' hij => ?_⟩
  · simpa using List.all_eq_true.1 (allB_spec h1 hi) e he
  · have := allB_spec (allB_spec h2 hi) hj
    simp only [hz, Bool.not_true, Bool.false_or, List.any_eq_true, Bool.or_eq_true, beq_iff_eq] at this
    exact this
  · have := allB_spec (allB_spec h3 hi) hj
    simpa [hd, hd'] using this
  · have := allB_spec (List.all_eq_true.1 (allB_spec h4 hi) t ht) hj
    simp only [hd, bne_self_eq_false, Bool.false_or, Bool.and_eq_true, Bool.or_eq_true, Bool.not_eq_true', decide_eq_false_iff_not] at this
    exact ⟨fun hl => this.1.resolve_left (fun h => h hl), fun hl => this.2.resolve_left (fun h => h hl)⟩
  · have := allB_spec (allB_spec h5 hi) hj
    simpa [he, he', hij] using this

/-- Which heaps an operation that reads the heap may meet: pairs (operation, how many are behind). -/
def admB (arr : List Oper) (zs : List Nat) (i j : Nat) : Bool :=
  (j == 0 || effAt arr (j - 1)) && allB arr.length fun e => !effAt arr e || (bif decide (e < j) then !mB zs e i else !mB zs i e)

def admL (arr : List Oper) (zs : List Nat) : List (Nat × Nat) :=
  (List.range arr.length).flatMap fun i => bif heapAt arr i then ((List.range (arr.length + 1)).filter (admB arr zs i)).map fun j => (i, j) else []

section
variable (P : Program) (N n0 : Nat) (ds : List (Option Tmp))

def Chain : Env → Heap → List DS → Env → Heap → Prop
  | env, H, [], env', H' => env = env' ∧ H = H'
  | env, H, d :: S, env', H' => d.H = H ∧ Exec P N n0 ds d.o env H d.p d.H' ∧ (effB d.o = false → d.H' = d.H) ∧ (effB d.o = false → heapB d.o = false → ∀ H2, Exec P N n0 ds d.o env H2 d.p H2) ∧ d.env = rst (looks ds d.o) env ∧
      Chain (putE d.o.dst d.p env) d.H' S env' H'
end

def heapsOf : List DS → Heap → List Heap
  | [], H1 => [H1]
  | d :: S, H1 => d.H :: heapsOf S H1

def envsOf : Env → List DS → List Env
  | env, [] => [env]
  | env, d :: S => env :: envsOf (putE d.o.dst d.p env) S

section
variable {P : Program} {N n0 : Nat} {ds : List (Option Tmp)}

theorem Chain.snoc : ∀ {S : List DS} {env env' : Env} {H H' : Heap} {d : DS}, Chain P N n0 ds env H S env' H' → d.H = H' → Exec P N n0 ds d.o env' H' d.p d.H' → (effB d.o = false → d.H' = d.H) → (effB d.o = false → heapB d.o = false → ∀ H2, Exec P N n0 ds d.o env' H2 d.p H2) → d.env = rst (looks ds d.o) env' →
    Chain P N n0 ds env H (S ++ [d]) (putE d.o.dst d.p env') d.H'
  | [], _, _, _, _, d, ⟨rfl, rfl⟩, h1, h2, h3, h4, h5 => ⟨h1, h2, h3, h4, h5, rfl, rfl⟩
  | _ :: S, _, _, _, _, d, ⟨k1, k2, k3, k4, k5, k6⟩, h1, h2, h3, h4, h5 => ⟨k1, k2, k3, k4, k5, Chain.snoc k6 h1 h2 h3 h4 h5⟩

def hAt (S : List DS) (H1 : Heap) (j : Nat) : Heap := match S[j]? with | some d => d.H | none => H1

theorem Chain.at : ∀ {S : List DS} {env env' : Env} {H H' : Heap}, Chain P N n0 ds env H S env' H' → ∀ (i : Nat) (d : DS), S[i]? = some d → ∃ e, (envsOf env S)[i]? = some e ∧ Exec P N n0 ds d.o e d.H d.p d.H' ∧ (effB d.o = false → d.H' = d.H) ∧
    (effB d.o = false → heapB d.o = false → ∀ H2, Exec P N n0 ds d.o e H2 d.p H2) ∧ d.env = rst (looks ds d.o) e ∧ d.H' = hAt S H' (i + 1)
  | [], _, _, _, _, _, i, d, h => by simp at h
  | d0 :: S, env, env', H, H', ⟨k1, k2, k3, k4, k5, k6⟩, 0, d, h => by
    simp at h
    subst h
    refine ⟨env, rfl, by rw [k1]; exact k2, k3, k4, k5, ?_⟩
    cases S with
    | nil => simp [hAt]; exact k6.2
    | cons d1 S => simp [hAt]; exact k6.1.symm
  | d0 :: S, env, env', H, H', ⟨k1, k2, k3, k4, k5, k6⟩, i + 1, d, h => by
    obtain ⟨e, h1, h2, h3, h4, h5, h6⟩ := Chain.at k6 i d (by simpa using h)
    refine ⟨e, by simpa [envsOf] using h1, h2, h3, h4, h5, ?_⟩
    rw [h6]
    simp [hAt]

theorem Chain.start {S : List DS} {env env' : Env} {H H' : Heap} (h : Chain P N n0 ds env H S env' H') : hAt S H' 0 = H := by
  cases S with
  | nil => exact h.2.symm
  | cons d S => exact h.1

theorem envsOf_look : ∀ (S : List DS) (env : Env) (i : Nat) (e : Env) (t : Tmp), (envsOf env S)[i]? = some e → (∀ j d, S[j]? = some d → j < i → d.o.dst ≠ some t) → look e t = look env t
  | [], env, 0, e, t, h, _ => by simp [envsOf] at h; rw [h]
  | [], env, i + 1, e, t, h, _ => by simp [envsOf] at h
  | d :: S, env, 0, e, t, h, _ => by simp [envsOf] at h; rw [h]
  | d :: S, env, i + 1, e, t, h, hne => by
    have := envsOf_look S (putE d.o.dst d.p env) i e t (by simpa [envsOf] using h) (fun j d' hd hj => hne (j + 1) d' (by simpa using hd) (by omega))
    rw [this]
    have h0 := hne 0 d rfl (by omega)
    unfold putE
    split
    · rename_i x hx
      simp only [look]
      rw [if_neg (fun ht => h0 (by rw [hx, ht]))]
    · rfl

theorem envsOf_hit : ∀ (S : List DS) (env : Env) (i : Nat) (e : Env) (t : Tmp) (j : Nat) (d : DS), (envsOf env S)[i]? = some e → S[j]? = some d → d.o.dst = some t → j < i → (∀ k d', S[k]? = some d' → d'.o.dst = some t → k = j) → look e t = d.p
  | [], _, _, _, _, j, d, _, hj, _, _, _ => by simp at hj
  | d0 :: S, env, 0, e, t, j, d, h, hj, hd, hlt, hu => by omega
  | d0 :: S, env, i + 1, e, t, 0, d, h, hj, hd, hlt, hu => by
    simp at hj
    subst hj
    have := envsOf_look S (putE d0.o.dst d0.p env) i e t (by simpa [envsOf] using h) (fun k d' hk hki hdst => by
      have := hu (k + 1) d' (by simpa using hk) hdst
      omega)
    rw [this]
    simp [putE, hd, look]
  | d0 :: S, env, i + 1, e, t, j + 1, d, h, hj, hd, hlt, hu =>
    envsOf_hit S (putE d0.o.dst d0.p env) i e t j d (by simpa [envsOf] using h) (by simpa using hj) hd (by omega) (fun k d' hk hdst => by
      have := hu (k + 1) d' (by simpa using hk) hdst
      omega)

theorem envsOf_last : ∀ {S : List DS} {env env' : Env} {H H' : Heap}, Chain P N n0 ds env H S env' H' → (envsOf env S)[S.length]? = some env'
  | [], _, _, _, _, ⟨rfl, _⟩ => rfl
  | d :: S, env, env', H, H', ⟨_, _, _, _, _, k⟩ => by
    have := envsOf_last k
    simpa [envsOf] using this

/-- The heap is the same behind what is no effect. -/
theorem Chain.hAt_eff {S : List DS} {env env' : Env} {H H' : Heap} (h : Chain P N n0 ds env H S env' H') (i : Nat) : ∀ (j : Nat), i ≤ j → j ≤ S.length → (∀ k d, i ≤ k → k < j → S[k]? = some d → effB d.o = false) → hAt S H' j = hAt S H' i
  | j, hij, hj, hk => by
    induction j with
    | zero => have : i = 0 := by omega
              rw [this]
    | succ j ih =>
      rcases Nat.lt_or_ge j i with hl | hl
      · have : i = j + 1 := by omega
        rw [this]
      · have hjl : j < S.length := by omega
        obtain ⟨e, _, _, h3, _, _, h6⟩ := h.at j (S[j]) (List.getElem?_eq_getElem hjl)
        rw [← h6, h3 (hk j _ hl (by omega) (List.getElem?_eq_getElem hjl)), ← ih hl (by omega) (fun k d h1 h2 h3 => hk k d h1 (by omega) h3)]
        simp [hAt, List.getElem?_eq_getElem hjl]

end

/-- What is done so far: the last effect, and one more. -/
def lastEff (arr : List Oper) (T : Nat → Bool) : Nat → Nat
  | 0 => 0
  | k + 1 => bif effAt arr k && T k then k + 1 else lastEff arr T k

theorem lastEff_le (arr : List Oper) (T : Nat → Bool) : ∀ k, lastEff arr T k ≤ k
  | 0 => Nat.le_refl _
  | k + 1 => by
    simp only [lastEff]
    cases effAt arr k && T k
    · exact Nat.le_succ_of_le (lastEff_le arr T k)
    · exact Nat.le_refl _
theorem lastEff_top (arr : List Oper) (T : Nat → Bool) : ∀ k e, e < k → effAt arr e = true → T e = true → e < lastEff arr T k
  | 0, e, h, _, _ => by omega
  | k + 1, e, h, h1, h2 => by
    simp only [lastEff]
    cases hc : effAt arr k && T k
    · simp only [cond_false]
      rcases Nat.lt_or_ge e k with hl | hl
      · exact lastEff_top arr T k e hl h1 h2
      · have : e = k := by omega
        subst this
        rw [h1, h2] at hc; cases hc
    · simp only [cond_true]; exact h
theorem lastEff_eff (arr : List Oper) (T : Nat → Bool) : ∀ k, lastEff arr T k = 0 ∨ (effAt arr (lastEff arr T k - 1) = true ∧ T (lastEff arr T k - 1) = true ∧ 0 < lastEff arr T k)
  | 0 => .inl rfl
  | k + 1 => by
    simp only [lastEff]
    cases hc : effAt arr k && T k
    · simp only [cond_false]; exact lastEff_eff arr T k
    · simp only [cond_true]
      simp only [Bool.and_eq_true] at hc
      exact .inr ⟨by simpa using hc.1, by simpa using hc.2, by omega⟩

section
variable {P : Program} {N n0 : Nat} {k : List KI} {Q : Env → Heap → Prop} {env : Env} {H : Heap}

/-- The operations of a region, done so far in the program's order. -/
def DSn (P : Program) (N n0 : Nat) (arr : List Oper) (env0 : Env) (H0 : Heap) (S : List DS) (rest : List Oper) (env : Env) (H : Heap) : Prop :=
  S.map (·.o) ++ rest = arr ∧ Chain P N n0 (arr.map (·.dst)) env0 H0 S env H

/-- A region, in whatever order, from such an environment and heap. -/
def WA (P : Program) (N n0 : Nat) (k : List KI) (Q : Env → Heap → Prop) (arr : Array Oper) (env : Env) (H : Heap) : Prop :=
  ∀ (m : Amb) (a : Act) (w : World), m.n0 = n0 → Sim m N env H a w →
    wpAny P .any arr (fun e a w => match e with
      | .normal => (sem P (fun a w => ∃ env' H', Sim m N env' H' a w ∧ Q env' H') (fun I a w => ∃ env' H', Sim m N env' H' a w ∧ I env' H') k).1 a w
      | .ret => ∃ env' H', Sim m N env' H' a w ∧ Q env' H'
      | .exit id => (sem P (fun a w => ∃ env' H', Sim m N env' H' a w ∧ Q env' H') (fun I a w => ∃ env' H', Sim m N env' H' a w ∧ I env' H') k).2 id a w
      | _ => False) arr.size (Array.replicate arr.size false) a w

theorem W_any {id : Nat} {arr : Array Oper} (hm : P.follows .mixedOrders = true) (h : WA P N n0 k Q arr env H) : W P N n0 (.code (.region id arr true) :: k) Q env H := fun m a w hmn s => by
  refine wp_region_any hm ?_
  have s' : Sim m N env H a { w with drawn := w.drawn + 1 } := by
    obtain ⟨S, β, sc⟩ := s
    exact (sc.drew _).sim
  exact h m a _ hmn s'

def DW (P : Program) (N n0 : Nat) (k : List KI) (Q : Env → Heap → Prop) (arr : Array Oper) (env0 : Env) (H0 : Heap) (S : List DS) (rest : List Oper) (env : Env) (H : Heap) : Prop :=
  DSn P N n0 arr.toList env0 H0 S rest env H → WA P N n0 k Q arr env0 H0

def Floats (P : Program) (N : Nat) (ds : List (Option Tmp)) (S : List DS) (H1 : Heap) : List (Nat × Nat) → Prop
  | [] => True
  | (i, j) :: l => (match S[i]? with
      | some d => ∃ ok, stepO P N ds d.o d.env (hAt S H1 j) = some (ok, d.p, hAt S H1 j) ∧ ok
      | none => True) ∧ Floats P N ds S H1 l

theorem Floats.mem {ds : List (Option Tmp)} {S : List DS} {H1 : Heap} : ∀ {l : List (Nat × Nat)}, Floats P N ds S H1 l → ∀ {i j : Nat} {d : DS}, (i, j) ∈ l → S[i]? = some d → ∃ ok, stepO P N ds d.o d.env (hAt S H1 j) = some (ok, d.p, hAt S H1 j) ∧ ok
  | [], _, _, _, _, hm, _ => by cases hm
  | (i', j') :: l, h, i, j, d, hm, hd => by
    rcases List.mem_cons.1 hm with e | hm
    · cases e
      have := h.1
      rw [hd] at this
      exact this
    · exact Floats.mem h.2 hm hd

structure Inv (N : Nat) (arr : List Oper) (zs : List Nat) (env0 : Env) (S : List DS) (H1 : Heap) (m : Amb) (T : Nat → Bool) (E : Env) (a : Act) (w : World) : Prop where
  clos : ∀ i j, i < arr.length → j < arr.length → T i = true → mB zs i j = true → T j = true
  env : ∀ t, look E t = match (List.range arr.length).find? (fun i => T i && dstAt arr i == some t) with | some i => (match S[i]? with | some d => d.p | none => .dead) | none => look env0 t
  sim : Sim m N E (hAt S H1 (lastEff arr T arr.length)) a w

theorem find_some {n : Nat} {f : Nat → Bool} {i : Nat} (h : (List.range n).find? f = some i) : i < n ∧ f i = true := ⟨List.mem_range.1 (List.mem_of_find?_eq_some h), List.find?_some h⟩
theorem find_none {n : Nat} {f : Nat → Bool} (h : (List.range n).find? f = none) {i : Nat} (hi : i < n) : f i = false := by
  have := List.find?_eq_none.1 h i (List.mem_range.2 hi)
  simpa using this

theorem find_uniq {n : Nat} {f : Nat → Bool} {i : Nat} (hi : i < n) (hf : f i = true) (hu : ∀ j, j < n → f j = true → j = i) : (List.range n).find? f = some i := by
  cases h : (List.range n).find? f with
  | none => rw [find_none h hi] at hf; cases hf
  | some j => obtain ⟨h1, h2⟩ := find_some h; rw [hu j h1 h2]

theorem put_match (o : Oper) (p : PV) (E : Env) (t : Tmp) : look (putE o.dst p E) t = if o.dst = some t then p else look E t := by
  unfold putE
  cases h : o.dst with
  | none => rfl
  | some d =>
    simp only [look, Option.some.injEq]
    by_cases e : t = d
    · subst e; simp
    · rw [if_neg e, if_neg (fun h => e h.symm)]

theorem ready_mem {ops : Array Oper} {listed : Array Bool} {i : Nat} (h : i ∈ Region.ready .any ops listed) : i < ops.size ∧ listed.getD i true = false ∧ ∀ e, e ∈ afterB ops.toList i → listed.getD e.on false = true := by
  simp only [Region.ready, List.mem_filter, List.mem_range, Bool.and_eq_true, Bool.not_eq_true'] at h
  obtain ⟨h1, h2, h3⟩ := h
  refine ⟨h1, h2, fun e he => ?_⟩
  have ho : ops[i]? = some ops[i] := Array.getElem?_eq_getElem h1
  have ho' : ops.toList[i]? = some ops[i] := by simpa using ho
  simp only [afterB, ho', List.mem_filter] at he
  rw [ho] at h3
  simp only [Option.map_some, Option.getD_some, Array.all_eq_true_iff_forall_mem] at h3
  have := h3 e (by simpa using he.1)
  simp only [Bool.or_eq_true, Bool.not_eq_true'] at this
  rcases this with h | h
  · have := he.2; simp only [bindsB] at this; rw [h] at this; cases this
  · exact h

theorem ready_none {ops : Array Oper} {listed : Array Bool} (hs : listed.size = ops.size) {zs : List Nat} (hd : DrawOk ops.toList zs) (h : Region.ready .any ops listed = []) : ∀ i, i < ops.size → listed.getD i true = true := by
  intro i
  induction i using Nat.strongRecOn with
  | _ i ih =>
    intro hi
    cases hc : listed.getD i true with
    | true => rfl
    | false =>
      exfalso
      have : i ∈ Region.ready .any ops listed := by
        simp only [Region.ready, List.mem_filter, List.mem_range, Bool.and_eq_true, Bool.not_eq_true']
        refine ⟨hi, hc, ?_⟩
        have ho : ops[i]? = some ops[i] := Array.getElem?_eq_getElem hi
        have ho' : ops.toList[i]? = some ops[i] := by simpa using ho
        rw [ho]
        simp only [Option.map_some, Option.getD_some, Array.all_eq_true_iff_forall_mem]
        intro e he
        simp only [Bool.or_eq_true, Bool.not_eq_true']
        cases hb : Region.binds .any e with
        | false => exact .inl rfl
        | true =>
          right
          have hlt := hd.edge i (by simpa using hi) e (by simp only [afterB, ho', List.mem_filter]; exact ⟨by simpa using he, hb⟩)
          have := ih e.on hlt (by omega)
          have hl : e.on < listed.size := by omega
          simpa [Array.getD_eq_getD_getElem?, hl] using this
      rw [h] at this; cases this

theorem lastEff_congr (arr : List Oper) {T T' : Nat → Bool} : ∀ k, (∀ i, i < k → effAt arr i = true → T i = T' i) → lastEff arr T k = lastEff arr T' k
  | 0, _ => rfl
  | k + 1, h => by
    simp only [lastEff]
    have hk : (effAt arr k && T k) = (effAt arr k && T' k) := by
      cases he : effAt arr k with
      | false => rfl
      | true => rw [h k (by omega) he]
    rw [hk, lastEff_congr arr k (fun i hi he => h i (by omega) he)]

theorem find_congr {f g : Nat → Bool} : ∀ {l : List Nat}, (∀ i, i ∈ l → f i = g i) → l.find? f = l.find? g
  | [], _ => rfl
  | x :: l, h => by
    simp only [List.find?_cons]
    rw [h x (by simp), find_congr (fun i hi => h i (by simp [hi]))]

def unl (T : Nat → Bool) : Nat → Nat
  | 0 => 0
  | k + 1 => unl T k + (bif T k then 0 else 1)
theorem unl_zero {T : Nat → Bool} : ∀ {n : Nat}, unl T n = 0 → ∀ i, i < n → T i = true
  | 0, _, i, hi => by omega
  | n + 1, h, i, hi => by
    simp only [unl] at h
    rcases Nat.lt_or_ge i n with hl | hl
    · exact unl_zero (by omega) i hl
    · have : i = n := by omega
      subst this
      cases hT : T i with
      | true => rfl
      | false => rw [hT] at h; simp at h
theorem unl_same {T T' : Nat → Bool} : ∀ {n : Nat}, (∀ j, j < n → T' j = T j) → unl T' n = unl T n
  | 0, _ => rfl
  | n + 1, h => by simp only [unl]; rw [h n (by omega), unl_same (fun j hj => h j (by omega))]
theorem unl_set {T T' : Nat → Bool} {i : Nat} (hi : T i = false) (hi' : T' i = true) (ho : ∀ j, j ≠ i → T' j = T j) : ∀ {n : Nat}, i < n → unl T' n + 1 = unl T n
  | 0, h => by omega
  | n + 1, h => by
    simp only [unl]
    rcases Nat.lt_or_ge i n with hl | hl
    · rw [ho n (by omega)]
      have := unl_set hi hi' ho hl
      omega
    · have : i = n := by omega
      subst this
      rw [hi, hi', unl_same (fun j hj => ho j (by omega))]
      simp

theorem Sim.byEnv {m : Amb} {E E' : Env} {a : Act} {w : World} (s : Sim m N E H a w) (h : ∀ t, look E t = look E' t) : Sim m N E' H a w := by
  obtain ⟨S, β, sc⟩ := s
  exact ⟨S, β, sc.hp, sc.n0, sc.b0, sc.s0, sc.s1, sc.place, sc.out, fun k => by rw [← h k]; exact sc.env k, sc.sz, sc.df⟩

theorem draw_sound {arr : Array Oper} {zs : List Nat} (hd : DrawOk arr.toList zs) {env0 env1 : Env} {H0 H1 : Heap} {S : List DS} (hS : S.map (·.o) = arr.toList) (hc : Chain P N n0 (arr.toList.map (·.dst)) env0 H0 S env1 H1)
    (hf : ∀ (i j : Nat) (d : DS), (i, j) ∈ admL arr.toList zs → S[i]? = some d → Exec P N n0 (arr.toList.map (·.dst)) d.o d.env (hAt S H1 j) d.p (hAt S H1 j)) {m : Amb} (hm : m.n0 = n0) {R : Exit → Act → World → Prop} (hR : ∀ a w, Sim m N env1 H1 a w → R .normal a w) :
    ∀ (fuel : Nat) (listed : Array Bool) (E : Env) (a : Act) (w : World), listed.size = arr.size → unl (fun i => listed.getD i true) arr.size ≤ fuel → Inv N arr.toList zs env0 S H1 m (fun i => listed.getD i true) E a w → wpAny P .any arr R fuel listed a w := by
  have hn : arr.toList.length = arr.size := by simp
  have hSl : S.length = arr.size := by rw [← hn, ← hS]; simp
  have hSo : ∀ (i : Nat) (d : DS), S[i]? = some d → arr.toList[i]? = some d.o := fun i d h => by rw [← hS]; simp [h]
  have hSi : ∀ (i : Nat), i < arr.size → ∃ d : DS, S[i]? = some d := fun i h => ⟨S[i]'(by omega), List.getElem?_eq_getElem (by omega)⟩
  have hdst : ∀ (i : Nat) (d : DS), S[i]? = some d → dstAt arr.toList i = d.o.dst := fun i d h => by simp [dstAt, hSo i d h]
  have heff : ∀ (i : Nat) (d : DS), S[i]? = some d → effAt arr.toList i = effB d.o := fun i d h => by simp [effAt, hSo i d h]
  have huniq : ∀ {j : Nat} {d : DS} {t : Tmp}, S[j]? = some d → d.o.dst = some t → ∀ (k : Nat) (d' : DS), S[k]? = some d' → d'.o.dst = some t → k = j := fun {j d t} hj hdj k d' hk hdk => by
    have h1 := (List.getElem?_eq_some_iff.1 hj).1
    have h2 := (List.getElem?_eq_some_iff.1 hk).1
    exact hd.dst k j t (by omega) (by omega) (by rw [hdst k d' hk]; exact hdk) (by rw [hdst j d hj]; exact hdj)
  -- all done
  have done : ∀ (T : Nat → Bool) (E : Env) (a : Act) (w : World), (∀ i, i < arr.size → T i = true) → Inv N arr.toList zs env0 S H1 m T E a w → R .normal a w := by
    intro T E a w hT iv
    refine hR a w ?_
    have hh : hAt S H1 (lastEff arr.toList T arr.toList.length) = H1 := by
      have h1 := hc.hAt_eff (lastEff arr.toList T arr.toList.length) S.length (by rw [hSl, ← hn]; exact lastEff_le _ _ _) (Nat.le_refl _) (fun k d h1 h2 h3 => by
        cases he : effB d.o with
        | false => rfl
        | true =>
          have := lastEff_top arr.toList T arr.toList.length k (by omega) (by rw [heff k d h3]; exact he) (hT k (by omega))
          omega)
      rw [← h1]
      simp [hAt]
    have s := iv.sim
    rw [hh] at s
    refine s.byEnv fun t => ?_
    rw [iv.env t]
    have hlast := envsOf_last hc
    cases hfd : (List.range arr.toList.length).find? (fun i => T i && dstAt arr.toList i == some t) with
    | none =>
      refine (envsOf_look S env0 S.length env1 t hlast fun j d hj hjl hdj => ?_).symm
      have := find_none hfd (i := j) (by omega)
      simp only [hT j (by omega), hdst j d hj, hdj, beq_self_eq_true, Bool.and_self] at this
      cases this
    | some i =>
      obtain ⟨h1, h2⟩ := find_some hfd
      simp only [Bool.and_eq_true, beq_iff_eq] at h2
      obtain ⟨d, hdi⟩ := hSi i (by omega)
      simp only [hdi]
      have hdd : d.o.dst = some t := by rw [← hdst i d hdi]; exact h2.2
      exact (envsOf_hit S env0 S.length env1 t i d hlast hdi hdd (by omega) (huniq hdi hdd)).symm
  intro fuel
  induction fuel with
  | zero =>
    intro listed E a w hsz hu iv
    have hall := unl_zero (Nat.le_zero.1 hu)
    refine ⟨?_, done _ E a w hall iv⟩
    cases hr : Region.ready .any arr listed with
    | nil => rfl
    | cons x xs =>
      obtain ⟨h1, h2, _⟩ := ready_mem (i := x) (by rw [hr]; simp)
      have := hall x h1
      rw [h2] at this; cases this
  | succ fuel ih =>
    intro listed E a w hsz hu iv
    refine ⟨fun hr => done _ E a w (ready_none hsz hd hr) iv, fun i hi => ?_⟩
    obtain ⟨hin, hT, hedges⟩ := ready_mem hi
    obtain ⟨d, hdi⟩ := hSi i hin
    have ho : arr.toList[i]? = some d.o := hSo i d hdi
    have ho' : arr[i]? = some d.o := by simpa using ho
    obtain ⟨e, he1, he2, he3, he4, he5, he6⟩ := hc.at i d hdi
    have hTof : ∀ j, j < arr.size → listed.getD j false = true → listed.getD j true = true := fun j hj h => by
      have : j < listed.size := by omega
      simpa [Array.getD_eq_getD_getElem?, this] using h
    -- what must be ahead is behind
    have pre : ∀ j, j < arr.size → mB zs i j = true → listed.getD j true = true := by
      intro j hj hz
      obtain ⟨x, hx1, hx2⟩ := hd.clos i j (by omega) (by omega) hz
      have hon := hd.edge i (by omega) x hx1
      have hTx := hTof x.on (by omega) (hedges x hx1)
      rcases hx2 with rfl | hx2
      · exact hTx
      · exact iv.clos x.on j (by omega) (by omega) hTx hx2
    have notyet : ∀ j, j < arr.size → mB zs j i = true → listed.getD j true = false := by
      intro j hj hz
      cases hTj : listed.getD j true with
      | false => rfl
      | true =>
        have := iv.clos j i (by omega) (by omega) hTj hz
        simp only [hT] at this; cases this
    have hlk : ∀ t, t ∈ looks (arr.toList.map (·.dst)) d.o → look E t = look e t := by
      intro t ht
      have htl : t ∈ looksAt arr.toList i := by simp only [looksAt, ho]; exact ht
      rw [iv.env t]
      cases hfd : (List.range arr.toList.length).find? (fun i => listed.getD i true && dstAt arr.toList i == some t) with
      | none =>
        refine (envsOf_look S env0 i e t he1 fun j dj hj hji hdj => ?_).symm
        have h1 := find_none hfd (i := j) (by omega)
        have h2 := pre j (by omega) ((hd.rd i j t (by omega) (by omega) htl (by rw [hdst j dj hj]; exact hdj)).1 hji)
        simp only [h2, hdst j dj hj, hdj, beq_self_eq_true, Bool.and_self] at h1
        cases h1
      | some j =>
        obtain ⟨h1, h2⟩ := find_some hfd
        simp only [Bool.and_eq_true, beq_iff_eq] at h2
        obtain ⟨dj, hdj⟩ := hSi j (by omega)
        simp only [hdj]
        have hdd : dj.o.dst = some t := by rw [← hdst j dj hdj]; exact h2.2
        have hji : j < i := by
          rcases Nat.lt_trichotomy j i with h | h | h
          · exact h
          · subst h; rw [hT] at h2; cases h2.1
          · have := notyet j (by omega) ((hd.rd i j t (by omega) (by omega) htl h2.2).2 h)
            rw [h2.1] at this; cases this
        exact (envsOf_hit S env0 i e t j dj he1 hdj hdd hji (huniq hdj hdd)).symm
    let T : Nat → Bool := fun i => listed.getD i true
    let T' : Nat → Bool := fun j => (listed.setIfInBounds i true).getD j true
    have hT' : ∀ j, T' j = (j == i || T j) := by
      intro j
      simp only [T', T, Array.getD_eq_getD_getElem?, Array.getElem?_setIfInBounds]
      by_cases hj : i = j
      · subst hj; rw [if_pos rfl, if_pos (by omega)]; simp
      · rw [if_neg hj]
        have : (j == i) = false := by simp; exact fun e => hj e.symm
        rw [this]; rfl
    have effLt : ∀ k, k < arr.size → effAt arr.toList k = true → effAt arr.toList i = true → T k = true → k < i := by
      intro k hk hek hei hTk
      rcases Nat.lt_trichotomy k i with h | h | h
      · exact h
      · subst h; simp only [T, hT] at hTk; cases hTk
      · have := notyet k hk (hd.eff i k (by omega) (by omega) hei hek h)
        simp only [T, this] at hTk; cases hTk
    -- the operation, from the heap as it is now
    have ex : Exec P N n0 (arr.toList.map (·.dst)) d.o e (hAt S H1 (lastEff arr.toList T arr.toList.length)) d.p (hAt S H1 (lastEff arr.toList T' arr.toList.length)) := by
      cases hei : effB d.o with
      | true =>
        have hei' : effAt arr.toList i = true := by rw [heff i d hdi]; exact hei
        have e1 : hAt S H1 (lastEff arr.toList T arr.toList.length) = d.H := by
          have hle : lastEff arr.toList T arr.toList.length ≤ i := by
            rcases lastEff_eff arr.toList T arr.toList.length with h | ⟨h1, h2, h3⟩
            · omega
            · have hl := lastEff_le arr.toList T arr.toList.length
              have := effLt _ (by omega) h1 hei' h2
              omega
          have := hc.hAt_eff _ i hle (by omega) (fun k dk h1 h2 h3 => by
            cases hek : effB dk.o with
            | false => rfl
            | true =>
              have hk' : effAt arr.toList k = true := by rw [heff k dk h3]; exact hek
              have hTk := pre k (by omega) (hd.eff k i (by omega) (by omega) hk' hei' h2)
              have := lastEff_top arr.toList T arr.toList.length k (by omega) hk' hTk
              omega)
          rw [← this]; simp [hAt, hdi]
        have e2 : lastEff arr.toList T' arr.toList.length = i + 1 := by
          have h1 := lastEff_top arr.toList T' arr.toList.length i (by omega) hei' (by rw [hT']; simp)
          rcases lastEff_eff arr.toList T' arr.toList.length with h | ⟨h2, h3, h4⟩
          · omega
          · have hl := lastEff_le arr.toList T' arr.toList.length
            rw [hT'] at h3
            simp only [Bool.or_eq_true, beq_iff_eq] at h3
            rcases h3 with h3 | h3
            · omega
            · have := effLt _ (by omega) h2 hei' h3
              omega
        rw [e1, e2, ← he6]; exact he2
      | false =>
        have e2 : lastEff arr.toList T' arr.toList.length = lastEff arr.toList T arr.toList.length := lastEff_congr _ _ fun k hk hek => by
          rw [hT']
          have : k ≠ i := fun h => by subst h; rw [heff k d hdi, hei] at hek; cases hek
          simp [this]
        rw [e2]
        cases hhp : heapB d.o with
        | false => exact he4 hei hhp _
        | true =>
          have hadm : (i, lastEff arr.toList T arr.toList.length) ∈ admL arr.toList zs := by
            have hl := lastEff_le arr.toList T arr.toList.length
            simp only [admL, List.mem_flatMap, List.mem_range]
            refine ⟨i, by omega, ?_⟩
            have : heapAt arr.toList i = true := by simp only [heapAt, ho]; exact hhp
            simp only [this, cond_true, List.mem_map, List.mem_filter, List.mem_range]
            refine ⟨_, ⟨by omega, ?_⟩, rfl⟩
            simp only [admB, Bool.and_eq_true]
            have hj := lastEff_eff arr.toList T arr.toList.length
            refine ⟨?_, List.all_eq_true.2 fun k hk => ?_⟩
            · rw [Bool.or_eq_true, beq_iff_eq]
              rcases hj with h | h
              · exact .inl h
              · exact .inr h.1
            · have hk' : k < arr.size := by have := List.mem_range.1 hk; omega
              cases hek : effAt arr.toList k with
              | false => rfl
              | true =>
                simp only [Bool.not_true, Bool.false_or]
                by_cases hkl : k < lastEff arr.toList T arr.toList.length
                · simp only [hkl, decide_true, cond_true, Bool.not_eq_true']
                  cases hz : mB zs k i with
                  | false => rfl
                  | true =>
                    exfalso
                    have hTk : T k = true := by
                      rcases hj with h | ⟨h1, h2, h3⟩
                      · omega
                      · rcases Nat.lt_or_ge k (lastEff arr.toList T arr.toList.length - 1) with h4 | h4
                        · exact iv.clos _ k (by omega) (by omega) h2 (hd.eff k _ (by omega) (by omega) hek h1 h4)
                        · have : k = lastEff arr.toList T arr.toList.length - 1 := by omega
                          rw [this]; exact h2
                    have := notyet k hk' hz
                    simp only [T, this] at hTk; cases hTk
                · simp only [hkl, decide_false, cond_false, Bool.not_eq_true']
                  cases hz : mB zs i k with
                  | false => rfl
                  | true =>
                    exfalso
                    exact hkl (lastEff_top arr.toList T arr.toList.length k (by omega) hek (pre k hk' hz))
          have := hf _ _ d hadm hdi
          rw [he5] at this
          exact this.rst
    have hstep := ex m E a w (fun a' w' => wpAny P .any arr R fuel (listed.setIfInBounds i true) a' w') hm iv.sim hlk (fun a' w' s' => ?_)
    · unfold wpOp
      rw [ho']
      have hy : yielded arr a.tmps = yieldedL (arr.toList.map (·.dst)) a.tmps := funext fun j => yielded_eq arr a.tmps j
      simp only [hy]
      unfold stepK at hstep
      split
      · rename_i hw
        rw [if_pos hw] at hstep
        exact .inl (wp_op_mono hstep (fun _ _ h => h) (fun _ _ _ h => h.elim))
      · rename_i hw
        rw [if_neg hw] at hstep
        exact hstep
    · refine ih _ _ a' w' (by simpa using hsz) ?_ ⟨fun x y hx hy hTx hz => ?_, fun t => ?_, s'⟩
      · have := unl_set (T := T) (T' := T') (i := i) hT (by rw [hT']; simp) (fun j hj => by rw [hT']; simp [hj]) hin
        show unl T' arr.size ≤ fuel
        have hu' : unl T arr.size ≤ fuel + 1 := hu
        omega
      · show T' y = true
        have hTx' : T' x = true := hTx
        rw [hT'] at hTx' ⊢
        simp only [Bool.or_eq_true, beq_iff_eq] at hTx' ⊢
        rcases hTx' with rfl | hTx'
        · exact .inr (pre y (by omega) hz)
        · exact .inr (iv.clos x y hx hy hTx' hz)
      · show _ = match (List.range arr.toList.length).find? (fun i => T' i && dstAt arr.toList i == some t) with | some i => _ | none => _
        rw [put_match]
        by_cases hdt : d.o.dst = some t
        · rw [if_pos hdt, find_uniq (i := i) (by omega) (by rw [hT', hdst i d hdi, hdt]; simp) (fun j hj hfj => by
            simp only [Bool.and_eq_true, beq_iff_eq] at hfj
            exact hd.dst j i t hj (by omega) hfj.2 (by rw [hdst i d hdi]; exact hdt))]
          simp only [hdi]
        · rw [if_neg hdt, iv.env t]
          rw [find_congr (f := fun i => T' i && dstAt arr.toList i == some t) (g := fun i => listed.getD i true && dstAt arr.toList i == some t) fun j _ => ?_]
          show (T' j && _) = (T j && _)
          rw [hT']
          by_cases hji : j = i
          · subst hji; rw [hdst j d hdi]
            have : (d.o.dst == some t) = false := by simpa using hdt
            rw [this]; simp
          · have : (j == i) = false := by simpa using hji
            rw [this, Bool.false_or]

theorem DW_start {arr : Array Oper} (h : DW P N n0 k Q arr env H [] arr.toList env H) : WA P N n0 k Q arr env H := h ⟨rfl, rfl, rfl⟩

theorem DW_exec {arr : Array Oper} {env0 : Env} {H0 H' : Heap} {S : List DS} {o : Oper} {l : List Oper} {p : PV} (he : Exec P N n0 (arr.toList.map (·.dst)) o env H p H') (h1 : effB o = false → H' = H) (h2 : effB o = false → heapB o = false → ∀ H2, Exec P N n0 (arr.toList.map (·.dst)) o env H2 p H2)
    (h : DW P N n0 k Q arr env0 H0 (S ++ [⟨o, rst (looks (arr.toList.map (·.dst)) o) env, H, p, H'⟩]) l (putE o.dst p env) H') : DW P N n0 k Q arr env0 H0 S (o :: l) env H := by
  rintro ⟨d1, d2⟩
  exact h ⟨by simpa using d1, d2.snoc rfl he h1 h2 rfl⟩

theorem DW_doneX {arr : Array Oper} {env0 : Env} {H0 : Heap} {S : List DS} (zs : List Nat) (hd : drawB arr.toList zs = true) (hf : ∀ (i j : Nat) (d : DS), (i, j) ∈ admL arr.toList zs → S[i]? = some d → Exec P N n0 (arr.toList.map (·.dst)) d.o d.env (hAt S H j) d.p (hAt S H j))
    (h : W P N n0 k Q env H) : DW P N n0 k Q arr env0 H0 S [] env H := by
  rintro ⟨d1, d2⟩ m a w hmn s
  have hfalse : ∀ i, i < arr.size → (Array.replicate arr.size false).getD i true = false := fun i hi => by simp [Array.getD_eq_getD_getElem?, hi]
  refine draw_sound (drawB_ok hd) (by simpa using d1) d2 hf hmn (fun a w s => h m a w hmn s) arr.size _ env0 a _ (by simp) ?_ ⟨fun i j hi hj hT _ => ?_, fun t => ?_, ?_⟩
  · have : ∀ (T : Nat → Bool) (n : Nat), unl T n ≤ n := fun T n => by
      induction n with
      | zero => exact Nat.le_refl _
      | succ n ih => simp only [unl]; cases T n <;> simp <;> omega
    exact this _ _
  · rw [hfalse i (by simpa using hi)] at hT; cases hT
  · have : (List.range arr.toList.length).find? (fun i => (Array.replicate arr.size false).getD i true && dstAt arr.toList i == some t) = none := by
      rw [List.find?_eq_none]
      intro i hi
      rw [hfalse i (by simpa using List.mem_range.1 hi)]
      simp
    rw [this]
  · have : lastEff arr.toList (fun i => (Array.replicate arr.size false).getD i true) arr.toList.length = 0 := by
      rcases lastEff_eff arr.toList (fun i => (Array.replicate arr.size false).getD i true) arr.toList.length with h | ⟨_, h2, h3⟩
      · exact h
      · have hl := lastEff_le arr.toList (fun i => (Array.replicate arr.size false).getD i true) arr.toList.length
        have hn : arr.toList.length = arr.size := by simp
        rw [hfalse _ (by omega)] at h2; cases h2
    rw [this, d2.start]
    exact s

theorem DW_done {arr : Array Oper} {env0 : Env} {H0 : Heap} {S : List DS} (zs : List Nat) (l : List (Nat × Nat)) (hd : drawB arr.toList zs = true) (hl : admL arr.toList zs = l) (hf : Floats P N (arr.toList.map (·.dst)) S H l)
    (h : W P N n0 k Q env H) : DW P N n0 k Q arr env0 H0 S [] env H :=
  DW_doneX zs hd (fun i j d hij hdi => by
    subst hl
    obtain ⟨ok, hst, hok⟩ := hf.mem hij hdi
    exact exec_step hst hok) h

theorem stepO_heapless {ds : List (Option Tmp)} {o : Oper} {ok : Prop} {p : PV} {H' : Heap} (h : stepO P N ds o env H = some (ok, p, H')) (he : effB o = false) : H' = H ∧ (heapB o = false → ∀ H2, stepO P N ds o env H2 = some (ok, p, H2)) := by
  have noeff : ∀ (ev : Operand → PV) (ok : Prop) (p : PV) (H' : Heap), opP P o.op ev H = some (ok, p, H') → H' = H ∧ (heapB o = false → ∀ H2, opP P o.op ev H2 = some (ok, p, H2)) := by
    intro ev ok p H' h
    obtain ⟨dst, op, ty, pos, after, guard⟩ := o
    simp only at h
    have kk : ∀ {r : Option (Prop × PV)}, keepH H r = some (ok, p, H') → H' = H ∧ ∀ H2, keepH H2 r = some (ok, p, H2) := fun {r} hr => by
      obtain ⟨h1, h2⟩ := keepH_some hr
      subst h1
      exact ⟨h2, fun H2 => rfl⟩
    cases op with
    | move x => cases h; exact ⟨rfl, fun _ _ => rfl⟩
    | assign x => cases h; exact ⟨rfl, fun _ _ => rfl⟩
    | makeFunc f a b => cases h; exact ⟨rfl, fun _ _ => rfl⟩
    | makeInterface t x =>
      simp only [opP] at h ⊢
      split at h
      · rename_i hc; cases h; exact ⟨rfl, fun _ _ => by rw [if_pos hc]⟩
      · cases h
    | slice t x lo hi mx =>
      cases mx with
      | none => exact ⟨(kk h).1, fun _ => (kk h).2⟩
      | some _ => cases h
    | load t x => exact ⟨(kk h).1, fun hh => by cases hh⟩
    | call cl =>
      obtain ⟨callee, args, ats⟩ := cl
      cases callee with
      | builtin b =>
        cases b with
        | len =>
          simp only [opP] at h ⊢
          split at h <;> first | exact ⟨(kk h).1, fun _ => (kk h).2⟩ | contradiction
        | min =>
          simp only [opP] at h ⊢
          split at h <;> first | exact ⟨(kk h).1, fun _ => (kk h).2⟩ | contradiction
        | max =>
          simp only [opP] at h ⊢
          split at h <;> first | exact ⟨(kk h).1, fun _ => (kk h).2⟩ | contradiction
        | _ => simp only [effB, quietB, Bool.not_false] at he; cases he
      | _ => cases h
    | pick c a b => exact ⟨(kk h).1, fun _ => (kk h).2⟩
    | build => exact ⟨(kk h).1, fun _ => (kk h).2⟩
    | nilCheck => exact ⟨(kk h).1, fun _ => (kk h).2⟩
    | binOp => exact ⟨(kk h).1, fun _ => (kk h).2⟩
    | unOp => exact ⟨(kk h).1, fun _ => (kk h).2⟩
    | convert => exact ⟨(kk h).1, fun _ => (kk h).2⟩
    | fieldAddr => exact ⟨(kk h).1, fun _ => (kk h).2⟩
    | field => exact ⟨(kk h).1, fun _ => (kk h).2⟩
    | indexAddr => exact ⟨(kk h).1, fun _ => (kk h).2⟩
    | index => exact ⟨(kk h).1, fun _ => (kk h).2⟩
    | extract => exact ⟨(kk h).1, fun _ => (kk h).2⟩
    | _ => first | (simp only [effB, quietB, Bool.not_false] at he; cases he) | cases h
  unfold stepO at h ⊢
  split at h
  · rename_i hd
    simp only [hd, if_true]
    split at h
    · split at h
      · obtain ⟨h1, rfl⟩ := keepH_some h
        exact ⟨rfl, fun _ H2 => by rw [h1]; rfl⟩
      · exact noeff _ _ _ _ h
    · split at h
      · split at h
        · rename_i hq
          cases hop : opP P o.op (fun x => stripP (evalO env x)) H with
          | none => rw [hop] at h; cases h
          | some q =>
            obtain ⟨ok1, p1, H1⟩ := q
            rw [hop] at h
            cases h
            obtain ⟨h1, h2⟩ := noeff _ _ _ _ hop
            exact ⟨rfl, fun hh H2 => by rw [h2 hh H2]; simp [hq]⟩
        · cases h
      · cases h
  · cases h

def evalT (P : Program) (N : Nat) (ds : List (Option Tmp)) : List Oper → Env → Heap → List DS
  | [], _, _ => []
  | o :: l, env, H => match stepO P N ds o env H with
    | some (_, p, H') => ⟨o, rst (looks ds o) env, H, p, H'⟩ :: evalT P N ds l (putE o.dst p env) H'
    | none => []

theorem DW_run {arr : Array Oper} {env0 : Env} {H0 : Heap} : ∀ {l : List Oper} {S : List DS} {env : Env} {H : Heap}, (evalR P N (arr.toList.map (·.dst)) l env H).ok →
    DW P N n0 k Q arr env0 H0 (S ++ evalT P N (arr.toList.map (·.dst)) l env H) (evalR P N (arr.toList.map (·.dst)) l env H).rest (evalR P N (arr.toList.map (·.dst)) l env H).env (evalR P N (arr.toList.map (·.dst)) l env H).H → DW P N n0 k Q arr env0 H0 S l env H
  | [], S, env, H, _, h => by simpa [evalT, evalR] using h
  | o :: l, S, env, H, ho, h => by
    unfold evalR at ho h
    unfold evalT at h
    cases hs : stepO P N (arr.toList.map (·.dst)) o env H with
    | none => rw [hs] at h; simpa using h
    | some q =>
      obtain ⟨ok, p, H'⟩ := q
      rw [hs] at ho h
      refine DW_exec (exec_step hs ho.1) (fun he => (stepO_heapless hs he).1) (fun he hh H2 => exec_step ((stepO_heapless hs he).2 hh H2) ho.1) (DW_run ho.2 ?_)
      simpa using h

end
end Go.Proofs.Ytbbjmfkmjjinnaa.V
