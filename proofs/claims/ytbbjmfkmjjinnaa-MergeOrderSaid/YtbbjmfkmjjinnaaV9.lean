/- The logic's operations, all in one; and a stretch of them. No law of the program is proved here. -/
import Derived.Test.YtbbjmfkmjjinnaaV8
import Derived.Laws.StructEq
set_option linter.all false
namespace Go.Proofs.Ytbbjmfkmjjinnaa.V
open Go

def stripP : PV → PV
  | .gv _ p => p
  | p => p
def holdP : PV → Bool
  | .gv g _ => g
  | _ => true

theorem Rel.strip {c : Cx} {v : Value} {p : PV} (h : Rel c v p) (hg : holdP p = true) : Rel c v (stripP p) := by
  cases h with
  | gvf p => simp [holdP] at hg
  | gvt v p h => exact h
  | dead v => exact .dead v
  | sc v => exact .sc v
  | im A ad len cap nz cells us hA hz hl h0 hc hr => exact .im A ad len cap nz cells us hA hz hl h0 hc hr
  | ip ad cells us hS hc hr => exact .ip ad cells us hS hc hr
  | id i len hi hl => exact .id i len hi hl
  | ix A i off len cap hi hl hA hs => exact .ix A i off len cap hi hl hA hs
  | ad i off hi => exact .ad i off hi
  | ag l ps hl hr => exact .ag l ps hl hr
  | tu l ps hl hr => exact .tu l ps hl hr
  | fn f l m ps qs hl hr hm hq => exact .fn f l m ps qs hl hr hm hq
  | ifc t v p h => exact .ifc t v p h

def pick2 (b : Bool) : PV → PV → Option PV
  | .sc (.bool x), .sc (.bool y) => some (.sc (.bool (bif b then x else y)))
  | .sc (.int k x), .sc (.int k' y) => if k = k' then some (.sc (.int k (bif b then x else y))) else none
  | .sc (.string x), .sc (.string y) => some (.sc (.string (bif b then x else y)))
  | _, _ => none

def pickP (c x y : PV) : Option (Prop × PV) :=
  match c with
  | .sc (.bool b) => (pick2 b (stripP x) (stripP y)).map fun p => ((b = true → holdP x = true) ∧ (b = false → holdP y = true), p)
  | _ => none

theorem pick_ok {c x y p : PV} {ok : Prop} {cx : Cx} {u v : Value} {b : Bool} (h : pickP (.sc (.bool b)) x y = some (ok, p)) (ho : ok) (hu : Rel cx u x) (hv : Rel cx v y) : Rel cx (if b then u else v) p := by
  simp only [pickP] at h
  cases hp : pick2 b (stripP x) (stripP y) with
  | none => rw [hp] at h; cases h
  | some q =>
    rw [hp] at h; cases h
    have h1 : b = true → Rel cx u (stripP x) := fun e => hu.strip (ho.1 e)
    have h2 : b = false → Rel cx v (stripP y) := fun e => hv.strip (ho.2 e)
    generalize stripP x = x' at *
    generalize stripP y = y' at *
    unfold pick2 at hp
    split at hp
    · cases hp
      cases b
      · cases h2 rfl; exact .sc _
      · cases h1 rfl; exact .sc _
    · split at hp
      · rename_i e; subst e; cases hp
        cases b
        · cases h2 rfl; exact .sc _
        · cases h1 rfl; exact .sc _
      · cases hp
    · cases hp
      cases b
      · cases h2 rfl; exact .sc _
      · cases h1 rfl; exact .sc _
    · cases hp

def nilCheckP : PV → Option (Prop × PV)
  | .ad i o => some (True, .ad i o)
  | .ip cells => some (True, .ip cells)
  | _ => none

def concB : TK → Bool
  | .iface | .other => false
  | _ => true

theorem concB_ok {k : TK} (h : concB k = true) : k.known = true ∧ k ≠ .iface := by
  cases k <;> first | cases h; done | (refine ⟨rfl, ?_⟩; simp; done)

def keepH (H : Heap) (r : Option (Prop × PV)) : Option (Prop × PV × Heap) := r.map fun x => (x.1, x.2, H)

/-! ### '==' of two structs of plain fields -/
def scEq (k : TK) (x y : PV) : Option Bool :=
  match k, x, y with
  | .int k, .sc (.int ka a), .sc (.int kb b) => if ka = k ∧ kb = k then some (a == b) else none
  | .bool, .sc (.bool a), .sc (.bool b) => some (a == b)
  | .str, .sc (.string a), .sc (.string b) => some (a == b)
  | _, _, _ => none

def stEq (P : Program) : List Field → List PV → List PV → Option Bool
  | [], _, _ => some true
  | f :: fs, ps, qs => if f.name != "_" && decide (f.offset < ps.length) && decide (f.offset < qs.length) then
      match scEq (td P f.type).k (ps.getD f.offset .dead) (qs.getD f.offset .dead), stEq P fs ps qs with
      | some a, some b => some (a && b)
      | _, _ => none
    else none

def binS (P : Program) (op : BinOp) (t : TypeId) (x y : PV) : Option PV :=
  match x, y with
  | .ag ps, .ag qs => match P.underlying t with
    | some (.struct fs) => if !P.stoodInHeld t && !P.eqGuardType P.depth t then
        match op, stEq P fs.toList ps qs with
        | .eql, some r => some (.sc (.bool r))
        | .neq, some r => some (.sc (.bool (!r)))
        | _, _ => none
      else none
    | _ => none
  | _, _ => none

theorem scEq_ok {P : Program} {t : TypeId} {c : Cx} {u v : Value} {x y : PV} {r : Bool} (d : Nat) (h : scEq (td P t).k x y = some r) (hu : Rel c u x) (hv : Rel c v y) (w : World) : (Op.equalIn (d + 1) t u v).run P w = .ok r w := by
  unfold scEq at h
  split at h
  · rename_i k ka a kb b hk
    split at h
    · rename_i hkk
      obtain ⟨rfl, rfl⟩ := hkk
      cases h; cases hu; cases hv
      simp [Op.equalIn, run_underlying (und_int hk)]
    · cases h
  · rename_i hk
    cases h; cases hu; cases hv
    exact equalIn_bool d _ _ w (und_bool hk)
  · rename_i a b hk
    cases h; cases hu; cases hv
    simp [Op.equalIn, run_underlying (und_str hk)]
  · cases h

theorem stEq_ok {P : Program} {c : Cx} (d : Nat) {ps qs : List PV} {xs ys : List Value} (hx : RelL c xs ps) (hy : RelL c ys qs) : ∀ {fs : List Field} {r : Bool}, stEq P fs ps qs = some r → (Op.eqFields (d + 1) xs.toArray ys.toArray fs).run P c.w = .ok r c.w
  | [], r, h => by cases h; simp [Op.eqFields]
  | f :: fs, r, h => by
    simp only [stEq] at h
    split at h
    · rename_i hc
      simp only [Bool.and_eq_true, decide_eq_true_eq, bne_iff_ne, ne_eq] at hc
      split at h
      · rename_i a b ha hb
        cases h
        have hk : (td P f.type).k.known = true ∧ (td P f.type).k.agg = false := by
          unfold scEq at ha
          split at ha
          · rename_i hk _ _; rw [hk]; exact ⟨rfl, rfl⟩
          · rename_i hk _ _; rw [hk]; exact ⟨rfl, rfl⟩
          · rename_i hk _ _; rw [hk]; exact ⟨rfl, rfl⟩
          · cases ha
        have hpart : ∀ {zs : List Value} {rs : List PV}, RelL c zs rs → f.offset < rs.length → ∃ z, (part f.type zs.toArray f.offset).run P c.w = .ok z c.w ∧ Rel c z (rs.getD f.offset .dead) := fun {zs rs} hz hl =>
          part_ok (P := P) (t := f.type) (off := f.offset) (ps := rs) (p := rs.getD f.offset .dead) (ok := f.offset < rs.length) (by simp [partP, hk.1, hk.2]) hl hz
        obtain ⟨z1, p1, q1⟩ := hpart hx hc.1.2
        obtain ⟨z2, p2, q2⟩ := hpart hy hc.2
        have he := scEq_ok (P := P) d ha q1 q2 c.w
        have hr := stEq_ok d hx hy hb
        rw [Op.eqFields]
        simp only [if_pos hc.1.1, Sem.run_bind, p1, p2, he, Result.andThen_ok]
        cases a
        · simp
        · simpa using hr
      · cases h
    · cases h

theorem binS_ok {P : Program} {op : BinOp} {t : TypeId} {x y p : PV} {xo yo : Operand} {c : Cx} {u v : Value} (h : binS P op t x y = some p) (hu : Rel c u x) (hv : Rel c v y) :
    ∃ r, ((do eqGuard op t xo yo u v; binOp op t u v : Sem Value)).run P c.w = .ok r c.w ∧ Rel c r p := by
  unfold binS at h
  split at h
  · rename_i ps qs
    cases hu with
    | ag xs _ hl1 hr1 =>
    cases hv with
    | ag ys _ hl2 hr2 =>
    split at h
    · rename_i fs hund
      split at h
      · rename_i hc
        simp only [Bool.and_eq_true, Bool.not_eq_true'] at hc
        have hq : ∀ {r}, stEq P fs.toList ps qs = some r → (Op.equal t (.agg xs.toArray) (.agg ys.toArray)).run P c.w = .ok r c.w := fun {r} hr => by
          have hf : P.fieldsOf t = fs := by simp [Program.fieldsOf, hund]
          show (Op.equalIn (9999 + 1) t _ _).run P c.w = _
          rw [run_equalIn_struct (P := P) c.w 9999 t xs.toArray ys.toArray (by rw [hf]; exact hund) hc.1, hf]
          exact stEq_ok 9998 ⟨hl1, hr1⟩ ⟨hl2, hr2⟩ hr
        have hg : (eqGuard op t xo yo (.agg xs.toArray) (.agg ys.toArray)).run P c.w = .ok () c.w := by
          unfold eqGuard
          cases op <;> simp [hc.2]
        split at h
        · rename_i r hr
          cases h
          refine ⟨_, ?_, .sc _⟩
          simp only [Sem.run_bind, hg, Result.andThen_ok, binOp, hq hr, Sem.run_pure]
        · rename_i r hr
          cases h
          refine ⟨_, ?_, .sc _⟩
          simp only [Sem.run_bind, hg, Result.andThen_ok, binOp, hq hr, Sem.run_pure]
        · cases h
      · cases h
    · cases h
  · cases h

def binX (P : Program) (op : BinOp) (t : TypeId) (x y : PV) : Option (Prop × PV) :=
  match binS P op t x y with
  | some p => some (True, p)
  | none => binP op (td P t).k x y

theorem binX_ok {P : Program} {op : BinOp} {t : TypeId} {x y p : PV} {ok : Prop} {xo yo : Operand} {c : Cx} {u v : Value} (h : binX P op t x y = some (ok, p)) (ho : ok) (hu : Rel c u x) (hv : Rel c v y) :
    ∃ r, ((do eqGuard op t xo yo u v; binOp op t u v : Sem Value)).run P c.w = .ok r c.w ∧ Rel c r p := by
  unfold binX at h
  split at h
  · rename_i q hq
    cases h
    exact binS_ok hq hu hv
  · exact bin_ok h ho hu hv

def opP (P : Program) (op : Op) (ev : Operand → PV) (H : Heap) : Option (Prop × PV × Heap) :=
  match op with
  | .move x => some (True, ev x, H)
  | .assign x => some (True, ev x, H)
  | .pick c a b => keepH H (pickP (ev c) (ev a) (ev b))
  | .alloc t => allocP (td P t) t H
  | .box t x => boxP t (ev x) H
  | .build t parts => keepH H (buildP P t (parts.toList.map fun (i, x) => (i, ev x)))
  | .buildSlice t len parts => buildSliceP P t len (parts.toList.map fun (i, x) => (i, ev x)) H
  | .load t x => keepH H (loadP (td P t) H (ev x))
  | .store t x y => (storeP (td P t) H (ev x) (ev y)).map fun r => (r.1, .dead, r.2)
  | .nilCheck x => keepH H (nilCheckP (ev x))
  | .binOp op t x y _ => keepH H (binX P op t (ev x) (ev y))
  | .unOp op _ x => keepH H (unP op (ev x))
  | .convert s d x => keepH H (convP (td P s) (td P d) (ev x))
  | .makeInterface t x => if concB (td P t).k then some (True, .ifc t (ev x), H) else none
  | .makeFunc f a b => some (True, .fn f (a.toList.map ev) (b.toList.map ev), H)
  | .makeSlice t l k => makeP P t (ev l) (ev k) H
  | .slice t x lo hi none => keepH H (sliceP P t (ev x) (lo.map ev) (hi.map ev))
  | .fieldAddr t x f => keepH H (fieldAddrP P t f (ev x))
  | .field t x f => keepH H (fieldP P t f (ev x))
  | .indexAddr t x i => keepH H (indexAddrP P t (ev x) (ev i))
  | .index t x i => keepH H (indexP P t (ev x) (ev i))
  | .extract x i => keepH H (extractP i (ev x))
  | .call c => match c.callee with
    | .builtin b => match b, c.args.toList, c.argTypes.toList with
      | .len, [x], [t] => keepH H (lenP (td P t).k (ev x))
      | .append, [x, y], [t, u] => appendP P t u (ev x) (ev y) H
      | .copy, [x, y], [t, _] => copyP P t (ev x) (ev y) H
      | .min, [x, y], _ => keepH H (minP (ev x) (ev y))
      | .max, [x, y], _ => keepH H (maxP (ev x) (ev y))
      | _, _, _ => none
    | _ => none
  | _ => none

theorem keepH_some {H H' : Heap} {r : Option (Prop × PV)} {ok : Prop} {p : PV} (h : keepH H r = some (ok, p, H')) : r = some (ok, p) ∧ H' = H := by
  cases r with
  | none => cases h
  | some x => obtain ⟨a, b⟩ := x; cases h; exact ⟨rfl, rfl⟩

theorem opv_quiet {P : Program} {o : Oper} {ev : Operand → PV} {H : Heap} {p : PV} {ρ : Operand → Value} {m : Amb} {N : Nat} {env : Env} {a : Act} {c : Cx} (s : SimC m N env H a c) {r : Sem Value} (he : execOp ρ o = (do pure (.value (← r))))
    (h : ∃ v, r.run P c.w = .ok v c.w ∧ Rel c v p) : ∃ v c', (∃ r, (execOp ρ o).run P c.w = .ok r c'.w ∧ (r = .value v ∨ (r = .skip ∧ v = undef))) ∧ Rel c' v p ∧ SimC m N env H a c' := by
  obtain ⟨v, h1, h2⟩ := h
  exact ⟨v, c, ⟨_, by rw [he]; simp only [Sem.run_bind, h1, Result.andThen_ok, Sem.run_pure], .inl rfl⟩, h2, s⟩

theorem opv_mem {P : Program} {o : Oper} {H H' : Heap} {p : PV} {ρ : Operand → Value} {m : Amb} {N : Nat} {env : Env} {a : Act} {c : Cx} {r : Sem Value} (he : execOp ρ o = (do pure (.value (← r))))
    (h : ∃ v c', r.run P c.w = .ok v c'.w ∧ Rel c' v p ∧ SimC m N env H' a c') : ∃ v c', (∃ r, (execOp ρ o).run P c.w = .ok r c'.w ∧ (r = .value v ∨ (r = .skip ∧ v = undef))) ∧ Rel c' v p ∧ SimC m N env H' a c' := by
  obtain ⟨v, c', h1, h2, h3⟩ := h
  exact ⟨v, c', ⟨_, by rw [he]; simp only [Sem.run_bind, h1, Result.andThen_ok, Sem.run_pure], .inl rfl⟩, h2, h3⟩

theorem parts_eq (parts : Array (Nat × Operand)) (ρ : Operand → Value) : (parts.toList.map fun (i, x) => (i, ρ x)).toArray = parts.map fun (i, x) => (i, ρ x) := by
  apply Array.ext'
  simp

theorem op_ok {P : Program} {o : Oper} {ev : Operand → PV} {H H' : Heap} {p : PV} {ok : Prop} (h : opP P o.op ev H = some (ok, p, H')) (ho : ok) : OpOk P o ev H p H' := by
  intro m N env a c s hev
  obtain ⟨dst, op, ty, pos, after, guard⟩ := o
  simp only at h hev
  cases op with
  | move x => cases h; exact ⟨a.eval x, c, ⟨_, rfl, .inl rfl⟩, hev x (by simp [Op.operands]), s⟩
  | assign x => cases h; exact ⟨a.eval x, c, ⟨_, rfl, .inl rfl⟩, hev x (by simp [Op.operands]), s⟩
  | pick x y z =>
    obtain ⟨h1, rfl⟩ := keepH_some h
    have hx := hev x (by simp [Op.operands])
    have hy := hev y (by simp [Op.operands])
    have hz := hev z (by simp [Op.operands])
    cases hxx : ev x with
    | sc v =>
      cases v with
      | bool b =>
        rw [hxx] at h1 hx
        have he : a.eval x = .bool b := hx.sc_inv
        refine ⟨_, c, ⟨_, ?_, .inl rfl⟩, pick_ok (c := .dead) h1 ho hy hz, s⟩
        simp [execOp, he, asBool]
      | _ => rw [hxx] at h1; simp [pickP] at h1
    | _ => rw [hxx] at h1; simp [pickP] at h1
  | alloc t => exact opv_mem (H := H) rfl (alloc_ok s h ho)
  | box t x => exact opv_mem (H := H) rfl (box_ok s h ho (hev x (by simp [Op.operands])))
  | build t parts =>
    obtain ⟨h1, rfl⟩ := keepH_some h
    refine opv_quiet (ev := ev) s (r := Instr.build t (parts.map fun (i, x) => (i, a.eval x))) rfl ?_
    have := build_ok (ρ := a.eval) (parts := parts.toList) h1 (fun x hx => hev x (by simpa [Op.operands] using hx))
    rw [parts_eq] at this
    exact this
  | buildSlice t len parts =>
    simp only [opP] at h
    refine opv_mem (H := H) (r := Instr.buildSlice t len (parts.map fun (i, x) => (i, a.eval x))) (by simp only [execOp]) ?_
    have hx : ∀ x, x ∈ parts.toList.map (·.2) → Rel c (a.eval x) (ev x) := fun x hx => hev x (by simpa [Op.operands] using hx)
    have := buildSlice_ok (ρ := a.eval) (parts := parts.toList) s h ho hx
    rw [parts_eq] at this
    exact this
  | load t x =>
    obtain ⟨h1, rfl⟩ := keepH_some h
    exact opv_quiet (ev := ev) s rfl (load_ok s.hp h1 ho (hev x (by simp [Op.operands])))
  | store t x y =>
    simp only [opP] at h
    cases hs : storeP (td P t) H (ev x) (ev y) with
    | none => rw [hs] at h; cases h
    | some r =>
      obtain ⟨k1, k2⟩ := r
      rw [hs] at h; cases h
      obtain ⟨c', h1, h2⟩ := store_ok s hs ho (hev x (by simp [Op.operands])) (hev y (by simp [Op.operands]))
      exact ⟨undef, c', ⟨.skip, by simp [execOp, h1], .inr ⟨rfl, rfl⟩⟩, .dead _, h2⟩
  | nilCheck x =>
    obtain ⟨h1, rfl⟩ := keepH_some h
    have hx := hev x (by simp [Op.operands])
    cases hxx : ev x with
    | ad i off =>
      rw [hxx] at h1 hx; cases h1
      generalize hv : a.eval x = v at hx
      have hr := hx
      cases hx
      exact ⟨_, c, ⟨_, by simp [execOp, hv], .inl rfl⟩, hr, s⟩
    | ip cells =>
      rw [hxx] at h1 hx; cases h1
      generalize hv : a.eval x = v at hx
      have hr := hx
      cases hx
      exact ⟨_, c, ⟨_, by simp [execOp, hv], .inl rfl⟩, hr, s⟩
    | _ => rw [hxx] at h1; simp [nilCheckP] at h1
  | binOp op t x y yt =>
    obtain ⟨h1, rfl⟩ := keepH_some h
    exact opv_quiet (ev := ev) s rfl (binX_ok h1 ho (hev x (by simp [Op.operands])) (hev y (by simp [Op.operands])))
  | unOp op t x =>
    obtain ⟨h1, rfl⟩ := keepH_some h
    exact opv_quiet (ev := ev) s rfl (un_ok h1 (hev x (by simp [Op.operands])))
  | convert src dst x =>
    obtain ⟨h1, rfl⟩ := keepH_some h
    exact opv_quiet (ev := ev) s rfl (conv_ok h1 (hev x (by simp [Op.operands])))
  | makeInterface t x =>
    cases hk : concB (td P t).k with
    | false => simp [opP, hk] at h
    | true =>
      simp only [opP, hk, if_true] at h
      cases h
      exact opv_quiet (ev := ev) s rfl (iface_ok (concB_ok hk) (hev x (by simp [Op.operands])))
  | makeFunc f x y =>
    cases h
    refine ⟨.func f (x.map a.eval) (y.map a.eval), c, ⟨_, rfl, .inl rfl⟩, ?_, s⟩
    have h1 := relL_map (c := c) (ρ := a.eval) (ev := ev) (l := x.toList) (fun z hz => hev z (by simp [Op.operands]; exact .inl (by simpa using hz)))
    have h2 := relL_map (c := c) (ρ := a.eval) (ev := ev) (l := y.toList) (fun z hz => hev z (by simp [Op.operands]; exact .inr (by simpa using hz)))
    have := Rel.fn (c := c) f _ _ _ _ h1.1 h1.2 h2.1 h2.2
    have e1 : (x.toList.map a.eval).toArray = x.map a.eval := by apply Array.ext'; simp
    have e2 : (y.toList.map a.eval).toArray = y.map a.eval := by apply Array.ext'; simp
    rwa [e1, e2] at this
  | makeSlice t l k => exact opv_mem (H := H) rfl (make_ok s h ho (hev l (by simp [Op.operands])) (hev k (by simp [Op.operands])))
  | slice t x lo hi mx =>
    cases mx with
    | some _ => cases h
    | none =>
      obtain ⟨h1, rfl⟩ := keepH_some h
      refine opv_quiet (ev := ev) s (r := Instr.sliceAt t (a.eval x) (lo.map a.eval) (hi.map a.eval) none) rfl ?_
      refine slice_ok h1 ho (hev x (by simp [Op.operands])) ?_ ?_ ?_ ?_
      · intro p hp
        cases lo with
        | none => cases hp
        | some z => cases hp; exact ⟨_, rfl, hev z (by simp [Op.operands])⟩
      · intro hp
        cases lo with
        | none => rfl
        | some z => cases hp
      · intro p hp
        cases hi with
        | none => cases hp
        | some z => cases hp; exact ⟨_, rfl, hev z (by simp [Op.operands])⟩
      · intro hp
        cases hi with
        | none => rfl
        | some z => cases hp
  | fieldAddr t x f =>
    obtain ⟨h1, rfl⟩ := keepH_some h
    exact opv_quiet (ev := ev) s rfl (fieldAddr_ok h1 (hev x (by simp [Op.operands])))
  | field t x f =>
    obtain ⟨h1, rfl⟩ := keepH_some h
    exact opv_quiet (ev := ev) s rfl (field_ok h1 ho (hev x (by simp [Op.operands])))
  | indexAddr t x i =>
    obtain ⟨h1, rfl⟩ := keepH_some h
    exact opv_quiet (ev := ev) s rfl (indexAddr_ok h1 ho (hev x (by simp [Op.operands])) (hev i (by simp [Op.operands])))
  | index t x i =>
    obtain ⟨h1, rfl⟩ := keepH_some h
    exact opv_quiet (ev := ev) s rfl (index_ok h1 ho (hev x (by simp [Op.operands])) (hev i (by simp [Op.operands])))
  | extract x i =>
    obtain ⟨h1, rfl⟩ := keepH_some h
    exact opv_quiet (ev := ev) s rfl (extract_ok h1 ho (hev x (by simp [Op.operands])))
  | call cl =>
    obtain ⟨callee, args, ats⟩ := cl
    simp only [opP] at h
    split at h
    · rename_i b
      have hargs : ∀ x, x ∈ args.toList → Rel c (a.eval x) (ev x) := fun x hx => hev x (by simp [Op.operands, Call.operands]; simpa using hx)
      split at h
      · rename_i x t e1 e2
        obtain ⟨h1, rfl⟩ := keepH_some h
        have ea : args = #[x] := Array.ext' e1
        have et : ats = #[t] := Array.ext' e2
        subst ea; subst et
        refine opv_quiet (ev := ev) s (r := Builtin.len_ #[t] ty #[a.eval x]) ?_ (len_ok h1 (hargs x (by simp)))
        simp [execOp, resolve, invoke, builtin]
      · rename_i x y t u e1 e2
        have ea : args = #[x, y] := Array.ext' e1
        have et : ats = #[t, u] := Array.ext' e2
        subst ea; subst et
        refine opv_mem (H := H) (r := Builtin.append_ #[t, u] ty #[a.eval x, a.eval y]) ?_ (append_ok s h ho (hargs x (by simp)) (hargs y (by simp)))
        simp [execOp, resolve, invoke, builtin]
      · rename_i x y t u e1 e2
        have ea : args = #[x, y] := Array.ext' e1
        have et : ats = #[t, u] := Array.ext' e2
        subst ea; subst et
        refine opv_mem (H := H) (r := Builtin.copy_ #[t, u] ty #[a.eval x, a.eval y]) ?_ (copy_ok s h ho (hargs x (by simp)) (hargs y (by simp)))
        simp [execOp, resolve, invoke, builtin]
      · rename_i x y e1
        obtain ⟨h1, rfl⟩ := keepH_some h
        have ea : args = #[x, y] := Array.ext' e1
        subst ea
        refine opv_quiet (ev := ev) s (r := Builtin.min_ ats ty #[a.eval x, a.eval y]) ?_ (min_ok h1 (hargs x (by simp)) (hargs y (by simp)))
        simp [execOp, resolve, invoke, builtin]
      · rename_i x y e1
        obtain ⟨h1, rfl⟩ := keepH_some h
        have ea : args = #[x, y] := Array.ext' e1
        subst ea
        refine opv_quiet (ev := ev) s (r := Builtin.max_ ats ty #[a.eval x, a.eval y]) ?_ (max_ok h1 (hargs x (by simp)) (hargs y (by simp)))
        simp [execOp, resolve, invoke, builtin]
      · cases h
    · cases h
  | _ => cases h

end Go.Proofs.Ytbbjmfkmjjinnaa.V
