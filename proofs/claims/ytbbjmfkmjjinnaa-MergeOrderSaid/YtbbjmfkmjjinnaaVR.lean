/- The logic's code in short form: what a function's code is, without what no proof looks at; regions whose order is drawn, done in one order; rules. No law of the program is proved here. -/
import Derived.Test.YtbbjmfkmjjinnaaVN
import Derived.Test.YtbbjmfkmjjinnaaVL
import Derived.Test.YtbbjmfkmjjinnaaVK
set_option linter.all false
namespace Go.Proofs.Ytbbjmfkmjjinnaa.V
open Go

/-- An operation in short form: where to, under which guard (a slot), what. -/
structure CO where
  d : Option Nat
  g : Option (Nat × Bool)
  op : Op
instance : Inhabited CO := ⟨⟨none, none, .move (.tmp 0)⟩⟩

def slotOf (ds : List (Option Tmp)) (j : Nat) : Nat := match ds[j]? with | some (some d) => d | _ => 0
def compO (ds : List (Option Tmp)) (o : Oper) : CO := ⟨o.dst, match o.guard with | none => none | some (j, w) => some (slotOf ds j, w), o.op⟩
def chkO (N : Nat) (ds : List (Option Tmp)) (o : Oper) : Bool := dstB N o && (match o.guard with | none => true | some (j, _) => match ds[j]? with | some (some _) => true | _ => false)

def effC (env : Env) (d : Nat) (w : Bool) : Option Bool :=
  match look env d with
  | .sc (.bool b) => some (bif w then b else !b)
  | .gv g (.sc (.bool b)) => some (g && bif w then b else !b)
  | _ => none

/-- A literal's cells, where its parts stand in order and are all there. -/
def seqP (k : Nat) : Nat → List (Nat × PV) → Option (List PV)
  | _, [] => some []
  | i, (j, p) :: rest => if j = i ∧ (cellsP p).length = k ∧ fitB p = true then (seqP k (i + 1) rest).map (cellsP p ++ ·) else none
def buildSliceQ (P : Program) (t : TypeId) (len : Nat) (parts : List (Nat × PV)) (H : Heap) : Option (Prop × PV × Heap) :=
  match (td P t).k with
  | .slice e => if (td P e).ok && (td P e).hz && (td P e).zero.length == (td P e).size && decide (0 < (td P e).size) && parts.length == len then
      match seqP (td P e).size 0 parts with
      | some qs => some (len * (td P e).size ≤ 16777216 ∧ qs.all oneB = true, .id H.length len, H ++ [some ⟨e, true, (td P e).size, qs⟩])
      | none => buildSliceP P t len parts H
    else buildSliceP P t len parts H
  | _ => none

theorem seqP_length {k : Nat} : ∀ {parts : List (Nat × PV)} {i : Nat} {qs : List PV}, seqP k i parts = some qs → qs.length = parts.length * k
  | [], _, _, h => by cases h; simp
  | (j, p) :: rest, i, qs, h => by
    simp only [seqP] at h
    split at h
    · rename_i hc
      obtain ⟨q, h1, rfl⟩ := Option.map_eq_some_iff.1 h
      simp only [List.length_append, seqP_length h1, hc.2.1, List.length_cons, Nat.add_mul]; omega
    · cases h

theorem seqP_fill {k : Nat} : ∀ {parts : List (Nat × PV)} {i : Nat} {qs done rest : List PV}, seqP k i parts = some qs → done.length = i * k → rest.length = parts.length * k → fillP (fun i => some (i * k, k)) (done ++ rest) parts = some (done ++ qs)
  | [], i, qs, done, rest, h, hd, hr => by
    cases h
    have : rest = [] := List.eq_nil_of_length_eq_zero (by simpa using hr)
    subst this
    simp [fillP]
  | (j, p) :: parts, i, qs, done, rest, h, hd, hr => by
    simp only [seqP] at h
    split at h
    · rename_i hc
      obtain ⟨rfl, h2, h3⟩ := hc
      obtain ⟨q, h1, rfl⟩ := Option.map_eq_some_iff.1 h
      have hlen : (j + 1) * k = j * k + k := by rw [Nat.add_mul]; omega
      have hr' : rest.length = parts.length * k + k := by rw [hr, List.length_cons, Nat.add_mul]; omega
      simp only [fillP]
      rw [if_pos ⟨h2, by simp only [List.length_append]; omega, h3⟩]
      have ho : over (done ++ rest) (j * k) (cellsP p) = (done ++ cellsP p) ++ rest.drop k := by
        unfold over
        rw [← hd, List.take_left, List.drop_append]
        rw [List.drop_eq_nil_of_le (by omega), show done.length + (cellsP p).length - done.length = k by omega]; simp
      rw [ho, seqP_fill h1 (by simp only [List.length_append]; omega) (by simp only [List.length_drop]; omega), List.append_assoc]
    · cases h

theorem buildSliceQ_P {P : Program} {t : TypeId} {len : Nat} {parts : List (Nat × PV)} {H H' : Heap} {ok : Prop} {p : PV} (h : buildSliceQ P t len parts H = some (ok, p, H')) (ho : ok) : ∃ ok', buildSliceP P t len parts H = some (ok', p, H') ∧ ok' := by
  unfold buildSliceQ at h
  split at h
  · rename_i e he
    split at h
    · rename_i hc
      split at h
      · rename_i qs hq
        cases h
        simp only [Bool.and_eq_true, decide_eq_true_eq, beq_iff_eq] at hc
        obtain ⟨⟨⟨⟨c1, c2⟩, c3⟩, c4⟩, c5⟩ := hc
        refine ⟨(len * (td P e).size ≤ 16777216 ∧ qs.all oneB = true ∧ qs.length = len * (td P e).size), ?_, ⟨ho.1, ho.2, by rw [seqP_length hq, c5]⟩⟩
        unfold buildSliceP
        rw [he]
        have hz : (zerosP (td P e).zero len).length = parts.length * (td P e).size := by simp [zerosP, c3, c5]
        have := seqP_fill (done := []) (rest := zerosP (td P e).zero len) hq (by simp) hz
        simp only [List.nil_append] at this
        simp only [c1, c2, c3, c4, this, beq_self_eq_true, Bool.and_self, decide_true, if_true, Option.map_some]
      · exact ⟨ok, h, ho⟩
    · exact ⟨ok, h, ho⟩
  · cases h

theorem eqW (b w : Bool) : (b == w) = bif w then b else !b := by cases b <;> cases w <;> rfl

def stepC (P : Program) (c : CO) (env : Env) (H : Heap) : Option (Prop × PV × Heap) :=
  match c.g with
  | none => match c.op with
    | .pick c a b => keepH H (pickP (evalS env c) (evalO env a) (evalO env b))
    | .buildSlice t len parts => buildSliceQ P t len (parts.toList.map fun x => (x.1, evalS env x.2)) H
    | op => opP P op (evalS env) H
  | some (d, w) => match effC env d w with
    | some g => match c.op with
      | .pick cc a b => (pickP (stripP (evalO env cc)) (evalO env a) (evalO env b)).map fun r => ((g = true → holdP (evalO env cc) = true ∧ r.1), .gv g r.2, H)
      | op => if quietB op then (opP P op (fun x => stripP (evalO env x)) H).map fun r => ((g = true → r.1 ∧ okG g (op.operands.toList.map (evalO env))), .gv g r.2.1, H) else none
    | none => none

theorem stepO_of {P : Program} {N : Nat} {ds : List (Option Tmp)} {o : Oper} {env : Env} {H H' : Heap} {ok : Prop} {p : PV} (hd : dstB N o = true) (hg : o.guard = none) {t : TypeId} {len : Nat} {parts : Array (Nat × Operand)} (hop : o.op = .buildSlice t len parts) (h : buildSliceQ P t len (parts.toList.map fun x => (x.1, evalS env x.2)) H = some (ok, p, H')) (ho : ok) :
    ∃ ok', stepO P N ds o env H = some (ok', p, H') ∧ ok' := by
  obtain ⟨ok', h1, h2⟩ := buildSliceQ_P h ho
  refine ⟨ok', ?_, h2⟩
  unfold stepO
  rw [if_pos hd, hg, hop]
  exact h1

def gpickB (c : CO) : Bool := match c.g, c.op with
  | some _, .pick _ _ _ => true
  | _, _ => false

theorem effG_C {ds : List (Option Tmp)} {env : Env} {j d : Nat} {w : Bool} (h : ds[j]? = some (some d)) : effG ds env j w = effC env d w := by
  simp only [effG, effC, h]
  cases look env d with
  | sc v => cases v <;> first | rfl | (simp only [eqW])
  | gv g p => cases p with
    | sc v => cases v <;> first | rfl | (simp only [eqW])
    | _ => rfl
  | _ => rfl

theorem stepC_eq {P : Program} {N : Nat} {ds : List (Option Tmp)} {o : Oper} {env : Env} {H H' : Heap} {ok : Prop} {p : PV} (h : chkO N ds o = true) (hnp : gpickB (compO ds o) = false) (hs : stepC P (compO ds o) env H = some (ok, p, H')) (ho : ok) : ∃ ok', stepO P N ds o env H = some (ok', p, H') ∧ ok' := by
  simp only [chkO, Bool.and_eq_true] at h
  obtain ⟨h1, h2⟩ := h
  cases hg : o.guard with
  | none =>
    by_cases hb : ∃ t len parts, o.op = .buildSlice t len parts
    · obtain ⟨t, len, parts, hop⟩ := hb
      refine stepO_of h1 hg hop ?_ ho
      simpa only [stepC, compO, hg, hop] using hs
    · refine ⟨ok, ?_, ho⟩
      rw [← hs]
      unfold stepO stepC compO
      rw [if_pos h1, hg]
      cases hop : o.op with
      | buildSlice t len parts => exact absurd ⟨t, len, parts, hop⟩ hb
      | _ => rfl
  | some g =>
    refine ⟨ok, ?_, ho⟩
    rw [← hs]
    obtain ⟨j, w⟩ := g
    rw [hg] at h2
    simp only at h2
    unfold stepO stepC compO
    rw [if_pos h1, hg]
    split at h2
    · rename_i d hd
      simp only [slotOf, hd, effG_C hd]
      cases hop : o.op with
      | pick a b c => simp [gpickB, compO, hg, hop] at hnp
      | _ => rfl
    · cases h2

/-- What makes memory, and touches none. -/
def growB (m : Bool) (op : Op) : Bool :=
  match op with
  | .alloc _ => true | .box .. => true | .buildSlice .. => true | .makeSlice .. => true
  | .call c => match c.callee with | .builtin _ => false | _ => m
  | _ => false

section
variable {P : Program} {N n0 : Nat}

theorem loadP_grow {d : TD} {H : Heap} {x : PV} {r : Prop × PV} (X : Heap) (h : loadP d H x = some r) : loadP d (H ++ X) x = some r := by
  cases x with
  | ad i off =>
    simp only [loadP] at h ⊢
    split at h
    · rename_i o ho
      rw [List.getElem?_append_left (List.getElem?_eq_some_iff.1 ho).1, ho]; exact h
    · cases h
  | ip cells => exact h
  | _ => exact h

theorem opP_load_grow {op : Op} {ev : Operand → PV} {H H' : Heap} {ok : Prop} {p : PV} (X : Heap) (he : (match op with | .pick .. => true | op => quietB op) = true) (h : opP P op ev H = some (ok, p, H')) : opP P op ev (H ++ X) = some (ok, p, H ++ X) := by
  have kk : ∀ {r : Option (Prop × PV)}, keepH H r = some (ok, p, H') → keepH (H ++ X) r = some (ok, p, H ++ X) := fun {r} hr => by
    obtain ⟨h1, h2⟩ := keepH_some hr
    subst h1; rfl
  cases op with
  | move x => cases h; rfl
  | assign x => cases h; rfl
  | makeFunc f a b => cases h; rfl
  | makeInterface t x =>
    simp only [opP] at h ⊢
    split at h
    · rename_i hc; cases h; rw [if_pos hc]
    · cases h
  | slice t x lo hi mx =>
    cases mx with
    | none => exact kk h
    | some _ => cases h
  | load t x =>
    obtain ⟨h1, h2⟩ := keepH_some (r := loadP (td P t) H (ev x)) h
    show keepH (H ++ X) (loadP (td P t) (H ++ X) (ev x)) = _
    rw [loadP_grow X h1]; rfl
  | call cl =>
    obtain ⟨callee, args, ats⟩ := cl
    cases callee with
    | builtin b =>
      cases b with
      | len =>
        simp only [opP] at h ⊢
        split at h <;> first | exact kk h | contradiction
      | min =>
        simp only [opP] at h ⊢
        split at h <;> first | exact kk h | contradiction
      | max =>
        simp only [opP] at h ⊢
        split at h <;> first | exact kk h | contradiction
      | _ => simp only [quietB] at he; cases he
    | _ => simp only [quietB] at he; cases he
  | _ => first | exact kk h | (simp only [quietB] at he; cases he)

theorem stepO_grow {ds : List (Option Tmp)} {o : Oper} {env : Env} {H : Heap} {ok : Prop} {p : PV} {H' : Heap} (X : Heap) (h : stepO P N ds o env H = some (ok, p, H')) (he : effB o = false) : stepO P N ds o env (H ++ X) = some (ok, p, H ++ X) := by
  have hq : (match o.op with | .pick .. => true | op => quietB op) = true := by
    unfold effB at he
    split at he
    · rename_i hp; rw [hp]
    · rename_i hp; split
      · rfl
      · simpa using he
  unfold stepO at h ⊢
  split at h
  · rename_i hd
    simp only [hd, if_true]
    split at h
    · split at h
      · obtain ⟨h1, rfl⟩ := keepH_some h
        rw [h1]; rfl
      · exact opP_load_grow X hq h
    · split at h
      · split at h
        · rename_i hq2
          cases hop : opP P o.op (fun x => stripP (evalO env x)) H with
          | none => rw [hop] at h; cases h
          | some q =>
            obtain ⟨ok1, p1, H1⟩ := q
            rw [hop] at h
            cases h
            simp only [hq2, if_true, opP_load_grow X hq hop, Option.map_some]
        · cases h
      · cases h
  · cases h

theorem buildSliceP_grows {t : TypeId} {l : Nat} {ps : List (Nat × PV)} {H H' : Heap} {ok : Prop} {p : PV} (h : buildSliceP P t l ps H = some (ok, p, H')) : ∃ X, H' = H ++ X := by
  simp only [buildSliceP] at h
  split at h
  · split at h
    · obtain ⟨a, _, hb⟩ := Option.map_eq_some_iff.1 h
      cases hb; exact ⟨_, rfl⟩
    · cases h
  · cases h

theorem opP_grows {m : Bool} {op : Op} {ev : Operand → PV} {H H' : Heap} {ok : Prop} {p : PV} (hg : growB m op = true) (h : opP P op ev H = some (ok, p, H')) : ∃ X, H' = H ++ X := by
  cases op with
  | alloc t =>
    simp only [opP, allocP] at h
    split at h
    · cases h; exact ⟨_, rfl⟩
    · cases h
  | box t x => cases h; exact ⟨_, rfl⟩
  | buildSlice t l ps =>
    simp only [opP, buildSliceP] at h
    split at h
    · split at h
      · obtain ⟨a, _, hb⟩ := Option.map_eq_some_iff.1 h
        cases hb; exact ⟨_, rfl⟩
      · cases h
    · cases h
  | makeSlice t l k =>
    simp only [opP, makeP] at h
    split at h
    · split at h
      · split at h
        · cases h; exact ⟨_, rfl⟩
        · cases h
      · cases h
    · cases h
  | call cl =>
    obtain ⟨callee, args, ats⟩ := cl
    simp only [growB] at hg
    split at hg
    · cases hg
    · rename_i hb
      cases callee with
      | builtin b => exact absurd rfl (hb b)
      | _ => cases h
  | _ => cases hg

/-- What an operation in short form does, wherever it stands. -/
structure ExecC (P : Program) (N n0 : Nat) (m : Bool) (c : CO) (env : Env) (H : Heap) (p : PV) (H' : Heap) : Prop where
  h : ∀ ds o, chkO N ds o = true → compO ds o = c → Exec P N n0 ds o env H p H'
  q : ∀ o : Oper, o.op = c.op → effB o = false → H' = H
  f : ∀ ds o, chkO N ds o = true → compO ds o = c → effB o = false → heapB o = false → ∀ H2, Exec P N n0 ds o env H2 p H2
  x : ∀ ds o, chkO N ds o = true → compO ds o = c → effB o = false → ∀ X, Exec P N n0 ds o env (H ++ X) p (H ++ X)
  r : growB m c.op = true → ∃ X, H' = H ++ X

theorem exec_gv {ds : List (Option Tmp)} {o : Oper} {env : Env} {H H' : Heap} {p : PV} (h : Exec P N n0 ds o env H p H') : Exec P N n0 ds o env H (.gv true p) H' := by
  intro m' E a w' K' hm' s hl hk'
  exact h m' E a w' K' hm' s hl (fun a' w'' s' => hk' a' w'' (by
    obtain ⟨S, β, sc⟩ := s'
    refine ⟨S, β, sc.hp, sc.n0, sc.b0, sc.s0, sc.s1, sc.place, sc.out, fun t => ?_, sc.sz, sc.df⟩
    have := sc.env t
    rw [put_match] at this ⊢
    split
    · rename_i e; rw [if_pos e] at this; exact .gvt _ _ this
    · rename_i e; rw [if_neg e] at this; exact this))

theorem exec_pickG {ds : List (Option Tmp)} {o : Oper} {env : Env} {H : Heap} {cc a b : Operand} {d : Nat} {w g : Bool} {ok : Prop} {p : PV} (hc : chkO N ds o = true) (hop : (compO ds o).op = .pick cc a b) (hg : (compO ds o).g = some (d, w)) (he : effC env d w = some g)
    (hp : pickP (stripP (evalO env cc)) (evalO env a) (evalO env b) = some (ok, p)) (ho : g = true → holdP (evalO env cc) = true ∧ ok) : Exec P N n0 ds o env H (.gv g p) H := by
  simp only [chkO, Bool.and_eq_true] at hc
  obtain ⟨hd, hc⟩ := hc
  cases hgo : o.guard with
  | none => simp [compO, hgo] at hg
  | some gg =>
    obtain ⟨j, w'⟩ := gg
    rw [hgo] at hc
    simp only at hc
    split at hc
    · rename_i d' hd'
      simp only [compO, hgo, slotOf, hd', Option.some.injEq, Prod.mk.injEq] at hg
      obtain ⟨rfl, rfl⟩ := hg
      have heg : effG ds env j w' = some g := by rw [effG_C hd']; exact he
      cases g with
      | false => exact exec_skipG hgo heg hd p
      | true =>
        obtain ⟨h1, h2⟩ := ho rfl
        refine exec_guard hgo heg (exec_gv (exec_step (o := { o with guard := none }) (ok := ok) ?_ h2))
        have hop' : o.op = .pick cc a b := hop
        have hs : evalS env cc = stripP (evalO env cc) := by
          unfold evalS
          cases hh : evalO env cc with
          | gv g' q => rw [hh] at h1; simp only [holdP] at h1; subst h1; rfl
          | _ => rfl
        unfold stepO
        simp only [hop', hs, hp]
        rw [if_pos (by simpa [dstB] using hd)]
        rfl
    · cases hc

theorem execC_step {m : Bool} {c : CO} {env : Env} {H H' : Heap} {ok : Prop} {p : PV} (h : stepC P c env H = some (ok, p, H')) (ho : ok) : ExecC P N n0 m c env H p H' := by
  cases hnp : gpickB c with
  | true =>
    obtain ⟨d, g, op⟩ := c
    cases g with
    | none => simp [gpickB] at hnp
    | some dw =>
      obtain ⟨dd, w⟩ := dw
      cases op with
      | pick cc a b =>
        simp only [stepC] at h
        split at h
        · rename_i g he
          obtain ⟨r, hr, he2⟩ := Option.map_eq_some_iff.1 h
          obtain ⟨ok1, p1⟩ := r
          cases he2
          have key : ∀ ds (o : Oper) H2, chkO N ds o = true → compO ds o = ⟨d, some (dd, w), .pick cc a b⟩ → Exec P N n0 ds o env H2 (.gv g p1) H2 := fun ds o H2 hc e =>
            exec_pickG hc (by rw [e]) (by rw [e]) he hr ho
          exact ⟨fun ds o hc e => key ds o H hc e, fun _ _ _ => rfl, fun ds o hc e _ _ H2 => key ds o H2 hc e, fun ds o hc e _ X => key ds o _ hc e, fun hg => by cases hg⟩
        · cases h
      | _ => simp [gpickB] at hnp
  | false =>
  refine ⟨fun ds o hc e => ?_, fun o e he => ?_, fun ds o hc e he hh H2 => ?_, fun ds o hc e he X => ?_, fun hg => ?_⟩
  · subst e; obtain ⟨ok', k1, k2⟩ := stepC_eq (P := P) hc hnp h ho; exact exec_step k1 k2
  · have hcc : (compO (match c.g with | none => [] | some (d, _) => List.replicate (0 + 1) (some d)) ⟨none, c.op, 0, "", #[], match c.g with | none => none | some (d, w) => some (0, w)⟩) = { c with d := none } := by
      unfold compO; cases hg : c.g <;> simp [slotOf, hg]
    obtain ⟨ok', h2, _⟩ := stepC_eq (P := P) (N := 0) (ds := (match c.g with | none => [] | some (d, _) => List.replicate (0 + 1) (some d))) (o := ⟨none, c.op, 0, "", #[], match c.g with | none => none | some (d, w) => some (0, w)⟩) (env := env) (H := H) (H' := H') (ok := ok) (p := p) (by unfold chkO; cases hg : c.g <;> simp [dstB]) (by rw [hcc]; exact hnp) (by rw [hcc]; exact h) ho
    exact (stepO_heapless h2 (by unfold effB at he ⊢; rw [e] at he; exact he)).1
  · subst e; obtain ⟨ok', k1, k2⟩ := stepC_eq (P := P) hc hnp h ho; exact exec_step ((stepO_heapless k1 he).2 hh H2) k2
  · subst e; obtain ⟨ok', k1, k2⟩ := stepC_eq (P := P) hc hnp h ho; exact exec_step (stepO_grow X k1 he) k2
  · unfold stepC at h
    split at h
    · split at h
      · rename_i hp; rw [hp] at hg; cases hg
      · obtain ⟨_, k1, _⟩ := buildSliceQ_P h ho
        exact buildSliceP_grows k1
      · exact opP_grows hg h
    · split at h
      · split at h
        · rename_i hp; rw [hp] at hg; cases hg
        · split at h
          · rename_i hq
            exfalso
            revert hg hq
            cases c.op with
            | call cl =>
              obtain ⟨callee, args, ats⟩ := cl
              cases callee <;> simp [growB, quietB]
            | _ => simp [growB, quietB]
          · cases h
      · cases h

/-- A call's effect, from what each of its orders does. -/
theorem execC_call {m : Bool} {c : CO} {env : Env} {H H' : Heap} {p : PV} (hop : (∃ cl, c.op = .call cl ∧ ∀ b, cl.callee ≠ .builtin b)) (h : ∀ ds o, chkO N ds o = true → compO ds o = c → Exec P N n0 ds o env H p H') (hm : m = true → ∃ X, H' = H ++ X) : ExecC P N n0 m c env H p H' := by
  obtain ⟨cl, e, hb⟩ := hop
  have he : ∀ o : Oper, o.op = c.op → effB o = true := fun o ho => by
    unfold effB
    rw [ho, e]
    obtain ⟨callee, args, ats⟩ := cl
    cases callee with
    | builtin b => exact absurd rfl (hb b)
    | _ => simp [quietB]
  have hoo : ∀ ds (o : Oper), compO ds o = c → o.op = c.op := fun ds o e => by rw [← e]; rfl
  refine ⟨h, fun o ho h2 => absurd h2 (by simp [he o ho]), fun ds o _ h1 h2 => absurd h2 (by simp [he o (hoo ds o h1)]), fun ds o _ h1 h2 => absurd h2 (by simp [he o (hoo ds o h1)]), fun hg => ?_⟩
  rw [e] at hg
  obtain ⟨callee, args, ats⟩ := cl
  cases callee with
  | builtin b => exact absurd rfl (hb b)
  | _ => exact hm hg

/-- A region's operations, done one by one; what is behind them. -/
inductive Run (P : Program) (N n0 : Nat) (m : Bool) (K : Env → Heap → Prop) : List CO → Env → Heap → Prop
  | nil {env : Env} {H : Heap} : K env H → Run P N n0 m K [] env H
  | cons {c : CO} {l : List CO} {env : Env} {H : Heap} {p : PV} {H' : Heap} : ExecC P N n0 m c env H p H' → Run P N n0 m K l (putE c.d p env) H' → Run P N n0 m K (c :: l) env H

theorem Run.mono {m : Bool} {K K' : Env → Heap → Prop} {l : List CO} {env : Env} {H : Heap} (h : Run P N n0 m K l env H) (hk : ∀ env H, K env H → K' env H) : Run P N n0 m K' l env H := by
  induction h with
  | nil h => exact .nil (hk _ _ h)
  | cons h _ ih => exact .cons h ih

/-! ### a region in its order -/
theorem run_ops {k : List KI} {Q : Env → Heap → Prop} {m : Bool} {K : Env → Heap → Prop} (hK : ∀ env H, K env H → W P N n0 k Q env H) {ds : List (Option Tmp)} : ∀ {l : List Oper} {env : Env} {H : Heap}, (l.all (chkO N ds)) = true → Run P N n0 m K (l.map (compO ds)) env H → W P N n0 (.ops ds l :: k) Q env H
  | [], env, H, _, h => by
    cases h with
    | nil h => exact W_done (hK _ _ h)
  | o :: l, env, H, hc, h => by
    simp only [List.all_cons, Bool.and_eq_true] at hc
    cases h with
    | cons h1 h2 => exact W_exec (h1.h ds o hc.1 rfl) (run_ops hK hc.2 h2)

/-! ### a region whose order is drawn -/
def growAt (m : Bool) (arr : List Oper) (i : Nat) : Bool := match arr[i]? with | some o => growB m o.op | none => false
def canM (m : Bool) (arr : List Oper) (i j : Nat) : Bool := allB arr.length fun e => !effAt arr e || (!(Nat.ble j e && Nat.blt e i) && (!(Nat.ble i e && Nat.blt e j) || growAt m arr e))
def drawM (m : Bool) (arr : List Oper) (zs : List Nat) : Bool := drawB arr zs && (admL arr zs).all fun x => canM m arr x.1 x.2

def Good (P : Program) (N n0 : Nat) (m : Bool) (ds : List (Option Tmp)) (S : List DS) : Prop :=
  ∀ d, d ∈ S → (effB d.o = false → ∀ X, Exec P N n0 ds d.o d.env (d.H ++ X) d.p (d.H ++ X)) ∧ (effB d.o = false → d.H' = d.H) ∧ (growB m d.o.op = true → ∃ X, d.H' = d.H ++ X)

theorem DW_doneM {m : Bool} {k : List KI} {Q : Env → Heap → Prop} {arr : Array Oper} {env env0 : Env} {H H0 : Heap} {S : List DS} (zs : List Nat) (hd : drawM m arr.toList zs = true) (hg : Good P N n0 m (arr.toList.map (·.dst)) S) (h : W P N n0 k Q env H) : DW P N n0 k Q arr env0 H0 S [] env H := by
  simp only [drawM, Bool.and_eq_true] at hd
  intro d
  refine DW_doneX (S := S) zs hd.1 (fun i j d' hij hdi => ?_) h d
  obtain ⟨d1, d2⟩ := d
  rw [List.append_nil] at d1
  obtain ⟨hi, hj, hh⟩ := admL_lt hij
  have hS : S.length = arr.toList.length := by rw [← d1]; simp
  obtain ⟨e, h1, h2, h3, h4, h5, h6⟩ := d2.at i d' hdi
  have hget : ∀ (k' : Nat) (d'' : DS), S[k']? = some d'' → arr.toList[k']? = some d''.o := fun k' d'' hk' => by rw [← d1]; simp [hk']
  have heff : effB d'.o = false := by
    have := hget i d' hdi
    simp only [heapAt, this] at hh
    revert hh
    simp only [heapB, effB]
    cases d'.o.op <;> simp [quietB]
  have hc := List.all_eq_true.1 hd.2 (i, j) hij
  have hHi : hAt S H i = d'.H := by simp [hAt, hdi]
  have hij' : i ≤ j ∨ (j < i ∧ hAt S H j = hAt S H i) := by
    rcases Nat.lt_or_ge j i with hl | hl
    · refine .inr ⟨hl, (d2.hAt_eff j i (Nat.le_of_lt hl) (by omega) fun k' d'' a b c => ?_).symm⟩
      have hk : k' < arr.toList.length := by omega
      have := allB_spec hc hk
      have e1 : Nat.ble j k' = true := Nat.ble_eq ▸ a
      have e2 : Nat.blt k' i = true := Nat.blt_eq ▸ b
      simp only [effAt, hget k' d'' c, e1, e2, Bool.and_self, Bool.not_true, Bool.false_and, Bool.or_false, Bool.not_eq_true'] at this
      exact this
    · exact .inl hl
  have hX : ∃ X, hAt S H j = d'.H ++ X := by
    rcases hij' with hl | ⟨_, he⟩
    · have key : ∀ n, i + n ≤ j → ∃ X, hAt S H (i + n) = d'.H ++ X := by
        intro n
        induction n with
        | zero => intro _; exact ⟨[], by rw [Nat.add_zero, hHi, List.append_nil]⟩
        | succ n ih =>
          intro hn
          obtain ⟨X, hX⟩ := ih (by omega)
          have hlt : i + n < S.length := by omega
          obtain ⟨_, _, _, _, _, _, k6⟩ := d2.at (i + n) S[i + n] (List.getElem?_eq_getElem hlt)
          have hdn : hAt S H (i + n) = S[i + n].H := by simp [hAt, List.getElem?_eq_getElem hlt]
          obtain ⟨_, g2, g3⟩ := hg S[i + n] (List.getElem_mem hlt)
          rw [show i + (n + 1) = i + n + 1 from rfl, ← k6]
          cases hef : effB S[i + n].o with
          | false => rw [g2 hef, ← hdn]; exact ⟨X, hX⟩
          | true =>
            have := allB_spec hc (show i + n < arr.toList.length by omega)
            have e1 : Nat.ble i (i + n) = true := Nat.ble_eq ▸ (show i ≤ i + n by omega)
            have e2 : Nat.blt (i + n) j = true := Nat.blt_eq ▸ (show i + n < j by omega)
            simp only [effAt, growAt, hget (i + n) _ (List.getElem?_eq_getElem hlt), hef, e1, e2, Bool.not_true, Bool.false_or, Bool.and_eq_true, Bool.and_self] at this
            obtain ⟨Y, hY⟩ := g3 this.2
            exact ⟨X ++ Y, by rw [hY, ← hdn, hX, List.append_assoc]⟩
      have := key (j - i) (by omega)
      rwa [show i + (j - i) = j by omega] at this
    · exact ⟨[], by rw [he, hHi, List.append_nil]⟩
  obtain ⟨X, hX⟩ := hX
  rw [hX]
  exact (hg d' (List.mem_of_getElem? hdi)).1 heff X

theorem run_draw {m : Bool} {k : List KI} {Q : Env → Heap → Prop} {K : Env → Heap → Prop} (hK : ∀ env H, K env H → W P N n0 k Q env H) {arr : Array Oper} {zs : List Nat} (hd : drawM m arr.toList zs = true) {env0 : Env} {H0 : Heap} :
    ∀ {l : List Oper} {S : List DS} {env : Env} {H : Heap}, l.all (chkO N (arr.toList.map (·.dst))) = true → Good P N n0 m (arr.toList.map (·.dst)) S → Run P N n0 m K (l.map (compO (arr.toList.map (·.dst)))) env H → DW P N n0 k Q arr env0 H0 S l env H
  | [], S, env, H, _, hg, h => by
    cases h with
    | nil h => exact DW_doneM zs hd hg (hK _ _ h)
  | o :: l, S, env, H, hc, hg, h => by
    simp only [List.all_cons, Bool.and_eq_true] at hc
    cases h with
    | @cons _ _ _ _ p H' h1 h2 =>
      refine DW_exec (h1.h _ o hc.1 rfl) (h1.q o rfl) (h1.f _ o hc.1 rfl) (run_draw hK hd hc.2 (fun d hd' => ?_) h2)
      rcases List.mem_append.1 hd' with h | h
      · exact hg d h
      · rw [List.mem_singleton] at h
        subst h
        refine ⟨fun he X => ?_, h1.q o rfl, h1.r⟩
        exact (h1.x _ o hc.1 rfl he X).by_looks fun t ht => look_rst _ _ _ ht

theorem chkO_remap {arr : Array Oper} {π : List Nat} (hπ : PermOk arr π) {o : Oper} (hgd : ∀ g, o.guard = some g → g.1 < arr.size) (h : chkO N (arr.toList.map (·.dst)) o = true) : chkO N ((permO arr π).toList.map (·.dst)) (remap π o) = true ∧ compO ((permO arr π).toList.map (·.dst)) (remap π o) = compO (arr.toList.map (·.dst)) o := by
  have key : ∀ j, j < arr.size → ((permO arr π).toList.map (·.dst))[pos π j]? = (arr.toList.map (·.dst))[j]? := fun j hj => by
    obtain ⟨p, _, hp, _⟩ := hπ.all j hj
    have hpos := pos_of hπ hp
    obtain ⟨o', h1, h2⟩ := permO_get hπ hp
    rw [hpos]
    simp [List.getElem?_map, h1, h2, remap]
  unfold chkO at h ⊢
  unfold compO slotOf
  cases hg : o.guard with
  | none =>
    rw [hg] at h
    simp only [remap, hg, Option.map_none] at h ⊢
    exact ⟨h, trivial⟩
  | some g =>
    obtain ⟨j, w⟩ := g
    rw [hg] at h
    have := key j (hgd _ hg)
    simp only [remap, hg, Option.map_some, this] at h ⊢
    exact ⟨h, trivial⟩

end
end Go.Proofs.Ytbbjmfkmjjinnaa.V
