/- The logic's calls: a contract out of a body; a contract at a call. No law of the program is proved here. -/
import Derived.Test.YtbbjmfkmjjinnaaVB
set_option linter.all false
namespace Go.Proofs.Ytbbjmfkmjjinnaa.V
open Go

theorem GC_body {P : Program} {f : FuncId} {fn : Func} {code : Code} {args : List PV} {H0 H1 : Heap} {r : PV} (hf : P.funcs[f]? = some fn) (hb : fn.body = some code) (hargs : args.length ≤ fn.ntmps)
    (h : W P fn.ntmps H0.length [.code code] (Ret P fn.results.toList H0.length r H1) (argE 0 args) H0) : GC P f args H0 r H1 := by
  intro c vs hp hr
  refine calls_of_wp hf hb ?_
  have hlen : vs.size = args.length := by have := hr.1; simpa using this
  have s : SimC ⟨c.w, Owned c H0, c.S, H0.length, c.β⟩ fn.ntmps (argE 0 args) H0 { tmps := vs ++ Array.replicate (fn.ntmps - vs.size) undef, defers := [] } c := by
    refine ⟨hp, Nat.le_refl _, fun _ _ => rfl, fun _ h => h, fun _ h => .inl h, fun i o ho => .inl ⟨i, o, ho, rfl⟩, Out.refl _ _, fun k => ?_, by simp; omega, rfl⟩
    rw [look_argE, if_pos (Nat.zero_le _), Nat.sub_zero]
    by_cases hk : k < args.length
    · have := hr.2 k hk
      have e : (vs ++ Array.replicate (fn.ntmps - vs.size) undef).getD k undef = vs.toList.getD k undef := by
        simp [Array.getD_eq_getD_getElem?, List.getD_eq_getElem?_getD, Array.getElem?_append, show k < vs.size by omega]
      rw [e]; exact this
    · have : args.getD k .dead = .dead := by simp [List.getD_eq_getElem?_getD, List.getElem?_eq_none (Nat.le_of_not_lt hk)]
      rw [this]; exact .dead _
  have hw := h _ _ c.w rfl s.sim
  have fin : ∀ a w, (∃ env' H', Sim ⟨c.w, Owned c H0, c.S, H0.length, c.β⟩ fn.ntmps env' H' a w ∧ Ret P fn.results.toList H0.length r H1 env' H') → a.defers = [] ∧ ∃ v, (results fn a.tmps).run P w = .ok v w ∧
      ∃ v' S' β', Ending.returned v = .returned v' ∧ H0.length ≤ H1.length ∧ HeapOk ⟨w, S', β', H1.length⟩ H1 ∧ Rel ⟨w, S', β', H1.length⟩ v' r ∧
      (∀ i, i < H0.length → β' i = c.β i) ∧ (∀ b, c.S b → S' b) ∧ (∀ b, S' b → c.S b ∨ Owned c H0 b ∨ c.w.heap.size ≤ b) ∧
      (∀ i o, H1[i]? = some (some o) → Owned c H0 (β' i).1 ∨ c.w.heap.size ≤ (β' i).1) ∧ Out c.w (Owned c H0) w := by
    rintro a w ⟨env', H', ⟨S, β, sc⟩, src, ok, ps, hres, hok, hnd, htk, hrr, hHH⟩
    obtain ⟨v, h1, h2⟩ := results_ok (fn := fn) sc hres hok
    have sp := sc.pick hnd htk
    have hn : src.length = H1.length := by rw [← hHH]; simp [renH]
    have hc : (Cx.pick ⟨w, S, β, H'.length⟩ src) = ⟨w, S, fun k => β (src.getD k 0), H1.length⟩ := by simp [Cx.pick, hn]
    rw [hc, hHH] at sp
    have hrel : Rel ⟨w, S, fun k => β (src.getD k 0), H1.length⟩ v r := by
      have := h2.ren (Cx.pick_ren ⟨w, S, β, H'.length⟩ src)
      rwa [hc, hrr] at this
    exact ⟨sc.df, v, h1, v, S, _, rfl, sp.n0, sp.hp, hrel, sp.b0, sp.s0, sp.s1, fun i o ho => sp.place i o ho, sp.out⟩
  refine wp_mono hw fun e a w he => ?_
  cases e with
  | normal => exact fin a w he
  | ret => exact fin a w he
  | _ => exact he.elim

/-! ### what a callee sees -/
def flatC : PV → PV
  | .sc v => .sc v
  | .im nz n cells => .im nz n cells
  | .ip cells => .ip cells
  | _ => .dead
def viewI0 (H : Heap) (i n : Nat) : PV :=
  match H[i]? with
  | some (some o) => .im true n ((o.cells.take (n * o.sz)).map flatC)
  | _ => .dead
def viewC (H : Heap) (rs : List Nat) : PV → PV
  | .id i n => match idx rs i with | none => viewI0 H i n | some _ => .dead
  | p => flatC p
def viewI (H : Heap) (rs : List Nat) (i n : Nat) : PV :=
  match H[i]? with
  | some (some o) => .im true n ((o.cells.take (n * o.sz)).map (viewC H rs))
  | _ => .dead
def viewX (H : Heap) (rs : List Nat) (i off n : Nat) : PV :=
  match H[i]? with
  | some (some o) => .im true n (((o.cells.drop off).take (n * o.sz)).map (viewC H rs))
  | _ => .dead
def viewA (H : Heap) (rs : List Nat) (i off : Nat) : PV :=
  match H[i]? with
  | some (some o) => .ip ((o.cells.drop off).map (viewC H rs))
  | _ => .dead

mutual
def toC (vw : Bool) (H : Heap) (rs : List Nat) : PV → PV
  | .id i n => match idx rs i with | some k => .id k n | none => bif vw then viewI H rs i n else .dead
  | .ix i o n => match idx rs i with | some k => .ix k o n | none => bif vw then viewX H rs i o n else .dead
  | .ad i o => match idx rs i with | some k => .ad k o | none => bif vw then viewA H rs i o else .dead
  | .ag ps => .ag (toCL vw H rs ps)
  | .tu ps => .tu (toCL vw H rs ps)
  | .fn f a b => .fn f (toCL vw H rs a) (toCL vw H rs b)
  | .ifc t p => .ifc t (toC vw H rs p)
  | .gv g p => .gv g (toC vw H rs p)
  | .dead => .dead
  | .sc v => .sc v
  | .im nz n cells => .im nz n cells
  | .ip cells => .ip cells
def toCL (vw : Bool) (H : Heap) (rs : List Nat) : List PV → List PV
  | [] => []
  | p :: ps => toC vw H rs p :: toCL vw H rs ps
end

theorem toCL_eq (vw : Bool) (H : Heap) (rs : List Nat) : ∀ l, toCL vw H rs l = l.map (toC vw H rs)
  | [] => rfl
  | p :: l => by simp [toCL, toCL_eq vw H rs l]
theorem toCL_length (vw : Bool) (H : Heap) (rs : List Nat) (l : List PV) : (toCL vw H rs l).length = l.length := by simp [toCL_eq]
theorem map_getD {f : PV → PV} (hf : f .dead = .dead) (l : List PV) (j : Nat) : (l.map f).getD j .dead = f (l.getD j .dead) := by
  simp only [List.getD_eq_getElem?_getD, List.getElem?_map]
  cases l[j]? <;> simp [hf]
theorem toCL_getD (vw : Bool) (H : Heap) (rs : List Nat) (l : List PV) (j : Nat) : (toCL vw H rs l).getD j .dead = toC vw H rs (l.getD j .dead) := by
  rw [toCL_eq]; exact map_getD rfl l j

theorem Rel.flatC {c c' : Cx} (h : c.z.Le c'.z) {v : Value} {p : PV} (r : Rel c v p) : Rel c' v (flatC p) := by
  cases r with
  | sc v => exact .sc v
  | im A ad len cap nz cells us hA hz hl h0 hc hr => exact ((Rel.im (c := c.z) A ad len cap nz cells us hA hz hl h0 hc hr).mono h).up
  | ip ad cells us hS hc hr => exact ((Rel.ip (c := c.z) ad cells us hS hc hr).mono h).up
  | _ => exact .dead _

/-- c' is c's world; what stays in c stays in c', and so do the objects that are looked at. -/
structure Sees (c c' : Cx) (H : Heap) (rs : List Nat) (vw : Bool) : Prop where
  w : c'.w = c.w
  S : ∀ b, c.S b → c'.S b
  v : vw = true → ∀ i o, H[i]? = some (some o) → i ∉ rs → c'.S (c.β i).1
  r : ∀ i k, idx rs i = some k → k < c'.n ∧ c'.β k = c.β i

theorem Sees.z {c c' : Cx} {H : Heap} {rs : List Nat} {vw : Bool} (h : Sees c c' H rs vw) : c.z.Le c'.z := ⟨h.S, fun b _ => by show c'.w.heap[b]? = c.w.heap[b]?; rw [h.w], fun i hi => by simp [Cx.z] at hi, Nat.le_refl _⟩

theorem view_cells {c c' : Cx} {H : Heap} (hp : HeapOk c H) (hw : c'.w = c.w) {i off : Nat} {o : GObj} (ho : H[i]? = some (some o)) {f : PV → PV} (hf : ∀ v p, Rel c v p → Rel c'.z v (f p)) :
    ∃ us : Nat → Value, ∀ cells : List PV, (∀ j, j < cells.length → off + j < o.cells.length ∧ cells.getD j .dead = f (o.cells.getD (off + j) .dead)) →
      ∀ j, j < cells.length → (c'.w.cell? ((⟨(c.β i).1, off, none⟩ : Addr).add j) = some (us j) ∧ (us j).oneCell' = true) ∧ Rel c'.z (us j) (cells.getD j .dead) := by
  have hob := hp.blk i o ho
  refine ⟨fun j => (c.w.cell? ((⟨(c.β i).1, off, none⟩ : Addr).add j)).getD undef, fun cells hcells j hj => ?_⟩
  obtain ⟨h1, h2⟩ := hcells j hj
  obtain ⟨u, k1, k2, k3⟩ := hob.cell h1
  simp only [hw, addr_add, k1, Option.getD_some, h2]
  exact ⟨⟨trivial, k2⟩, hf _ _ k3⟩

theorem view_im {c c' : Cx} {H : Heap} {rs : List Nat} {vw : Bool} (h : Sees c c' H rs vw) (hp : HeapOk c H) (hvw : vw = true) {i n : Nat} {v : Value} (hi : i ∉ rs) (r : Rel c v (.id i n)) {o : GObj} (ho : H[i]? = some (some o))
    {f : PV → PV} (hd : f .dead = .dead) (hf : ∀ v p, Rel c v p → Rel c'.z v (f p)) : Rel c' v (.im true n ((o.cells.take (n * o.sz)).map f)) := by
  cases r with
  | id _ _ hii hl =>
    obtain ⟨us, hus⟩ := view_cells (c' := c') (off := 0) hp h.w ho hf
    have key := hus ((o.cells.take (n * o.sz)).map f) (fun j hj => by
      simp at hj
      refine ⟨by omega, ?_⟩
      rw [map_getD hd, getD_take (by omega)]
      simp)
    exact .im _ ⟨(c.β i).1, 0, none⟩ _ _ _ _ us (fun _ => ⟨rfl, h.v hvw i o ho hi⟩) (fun _ => rfl) hl (fun e => by rw [e]; simp) (fun j hj => (key j hj).1) (fun j hj => (key j hj).2)

theorem Sees.toz {c c' : Cx} {H : Heap} {rs : List Nat} {vw : Bool} (h : Sees c c' H rs vw) {v : Value} {p : PV} (r : Rel c v p) : Rel c'.z v (V.flatC p) := r.flatC (c' := c'.z) (by exact h.z)

theorem viewI0_ok {c c' : Cx} {H : Heap} {rs : List Nat} {vw : Bool} (h : Sees c c' H rs vw) (hp : HeapOk c H) (hvw : vw = true) {i n : Nat} {v : Value} (hi : i ∉ rs) (r : Rel c v (.id i n)) : Rel c' v (viewI0 H i n) := by
  unfold viewI0
  split
  · rename_i o ho
    exact view_im h hp hvw hi r ho rfl (fun v p hr => h.toz hr)
  · exact .dead _

theorem viewC_ok {c c' : Cx} {H : Heap} {rs : List Nat} {vw : Bool} (h : Sees c c' H rs vw) (hp : HeapOk c H) (hvw : vw = true) {v : Value} {p : PV} (r : Rel c v p) : Rel c'.z v (viewC H rs p) := by
  cases p with
  | id i n =>
    simp only [viewC]
    cases e : idx rs i with
    | some k => exact .dead _
    | none =>
      have := viewI0_ok h hp hvw (idx_none e) r
      have hk : ∀ q, (∃ n cells, q = PV.im true n cells) ∨ q = .dead → Rel c' v q → Rel c'.z v q := by
        rintro q (⟨n, cells, rfl⟩ | rfl) hq
        · cases hq with
          | im A ad _ cap _ _ us hA hz hl h0 hc hr => exact .im A ad _ cap _ _ us hA hz hl h0 hc hr
        · exact .dead _
      refine hk _ ?_ this
      cases hH : H[i]? with
      | none => exact .inr (by simp [viewI0, hH])
      | some x => cases x with
        | none => exact .inr (by simp [viewI0, hH])
        | some o => exact .inl ⟨n, (o.cells.take (n * o.sz)).map flatC, by simp only [viewI0, hH]⟩
  | _ => exact h.toz r

theorem toC_ok {c c' : Cx} {H : Heap} {rs : List Nat} {vw : Bool} (h : Sees c c' H rs vw) (hp : HeapOk c H) {v : Value} {p : PV} (r : Rel c v p) : Rel c' v (toC vw H rs p) := by
  induction r with
  | dead v => exact .dead v
  | sc v => exact .sc v
  | im A ad len cap nz cells us hA hz hl h0 hc hr ih => exact Rel.flatC (p := .im nz len cells) h.z (.im A ad len cap nz cells us hA hz hl h0 hc hr)
  | ip ad cells us hS hc hr ih => exact Rel.flatC (p := .ip cells) h.z (.ip ad cells us hS hc hr)
  | @id c i len hi hl =>
    simp only [toC]
    cases e : idx rs i with
    | some k =>
      obtain ⟨h1, h2⟩ := h.r i k e
      have := Rel.id (c := c') k len h1 (by rw [h2]; exact hl)
      rwa [h2] at this
    | none =>
      cases hv : vw with
      | false => exact .dead _
      | true =>
        simp only [cond_true]
        have hr := Rel.id (c := c) i len hi hl
        unfold viewI
        cases hH : H[i]? with
        | none => exact .dead _
        | some x => cases x with
          | none => exact .dead _
          | some o => exact view_im h hp hv (idx_none e) hr hH rfl (fun v p hr => viewC_ok h hp hv hr)
  | @ix c A i off len cap hi hl hA hs =>
    simp only [toC]
    cases e : idx rs i with
    | some k =>
      obtain ⟨h1, h2⟩ := h.r i k e
      exact .ix A k off len cap h1 hl (fun h0 => by rw [h2]; exact hA h0) hs
    | none =>
      cases hv : vw with
      | false => exact .dead _
      | true =>
        simp only [cond_true]
        unfold viewX
        cases hH : H[i]? with
        | none => exact .dead _
        | some x => cases x with
          | none => exact .dead _
          | some o =>
            obtain ⟨us, hus⟩ := view_cells (c' := c') (off := off) hp h.w hH (f := viewC H rs) (fun v p hr => viewC_ok h hp hv hr)
            have key := hus (((o.cells.drop off).take (len * o.sz)).map (viewC H rs)) (fun j hj => by
              simp at hj
              refine ⟨by omega, ?_⟩
              rw [map_getD rfl, getD_take (by omega), getD_drop])
            exact .im A ⟨(c.β i).1, off, none⟩ _ _ _ _ us (fun h0 => ⟨hA h0, h.v hv i o hH (idx_none e)⟩) (fun _ => hs) hl (fun e => by rw [e]; simp) (fun j hj => (key j hj).1) (fun j hj => (key j hj).2)
  | @ad c i off hi =>
    simp only [toC]
    cases e : idx rs i with
    | some k =>
      obtain ⟨h1, h2⟩ := h.r i k e
      have := Rel.ad (c := c') k off h1
      rwa [h2] at this
    | none =>
      cases hv : vw with
      | false => exact .dead _
      | true =>
        simp only [cond_true]
        unfold viewA
        cases hH : H[i]? with
        | none => exact .dead _
        | some x => cases x with
          | none => exact .dead _
          | some o =>
            obtain ⟨us, hus⟩ := view_cells (c' := c') (off := off) hp h.w hH (f := viewC H rs) (fun v p hr => viewC_ok h hp hv hr)
            have key := hus ((o.cells.drop off).map (viewC H rs)) (fun j hj => by
              simp at hj
              refine ⟨by omega, ?_⟩
              rw [map_getD rfl, getD_drop])
            exact .ip ⟨(c.β i).1, off, none⟩ _ us (fun _ => h.v hv i o hH (idx_none e)) (fun j hj => (key j hj).1) (fun j hj => (key j hj).2)
  | ag l ps hl hr ih => exact .ag l _ (by rw [toCL_length]; exact hl) (fun j hj => by rw [toCL_getD]; exact ih j (by rwa [toCL_length] at hj) h hp)
  | tu l ps hl hr ih => exact .tu l _ (by rw [toCL_length]; exact hl) (fun j hj => by rw [toCL_getD]; exact ih j (by rwa [toCL_length] at hj) h hp)
  | fn f l m ps qs hl hr hm hq ih1 ih2 => exact .fn f l m _ _ (by rw [toCL_length]; exact hl) (fun j hj => by rw [toCL_getD]; exact ih1 j (by rwa [toCL_length] at hj) h hp) (by rw [toCL_length]; exact hm) (fun j hj => by rw [toCL_getD]; exact ih2 j (by rwa [toCL_length] at hj) h hp)
  | ifc t v p _ ih => exact .ifc t v _ (ih h hp)
  | gvf p => exact .gvf _
  | gvt v p _ ih => exact .gvt v _ (ih h hp)

theorem toCL_ok {c c' : Cx} {H : Heap} {rs : List Nat} {vw : Bool} (h : Sees c c' H rs vw) (hp : HeapOk c H) {l : List Value} {ps : List PV} (r : RelL c l ps) : RelL c' l (toCL vw H rs ps) :=
  ⟨by rw [toCL_length]; exact r.1, fun j hj => by rw [toCL_getD]; exact toC_ok h hp (r.2 j (by rwa [toCL_length] at hj))⟩

def GObj.toC (vw : Bool) (H : Heap) (rs : List Nat) (o : GObj) : GObj := { o with cells := toCL vw H rs o.cells }
def subH (vw : Bool) (H : Heap) (rs : List Nat) : Heap := rs.map fun i => (H.getD i none).map (GObj.toC vw H rs)

theorem ObjOk.toC {c c' : Cx} {H : Heap} {rs : List Nat} {vw : Bool} (h : Sees c c' H rs vw) (hp : HeapOk c H) {i k : Nat} {o : GObj} (ho : ObjOk c i o) (hb : c'.β k = c.β i) : ObjOk c' k (o.toC vw H rs) := by
  obtain ⟨cur, h1, h2, h3, h4, h5⟩ := ho
  refine ⟨cur, by rw [hb, h.w]; exact h1, by simpa [GObj.toC, toCL_length] using h2, by rw [hb]; exact h3, by simpa [GObj.toC, toCL_length] using h4, fun j hj => ?_⟩
  simp only [GObj.toC, toCL_length] at hj
  refine ⟨(h5 j hj).1, ?_⟩
  simp only [GObj.toC]
  rw [toCL_getD]
  exact toC_ok h hp (h5 j hj).2

theorem subH_some {vw : Bool} {H : Heap} {rs : List Nat} {k : Nat} {o : GObj} (h : (subH vw H rs)[k]? = some (some o)) : ∃ i o', rs[k]? = some i ∧ H[i]? = some (some o') ∧ o = o'.toC vw H rs := by
  simp only [subH, List.getElem?_map] at h
  cases hs : rs[k]? with
  | none => rw [hs] at h; cases h
  | some i =>
    rw [hs] at h
    simp only [Option.map_some, Option.some.injEq] at h
    cases hH : H[i]? with
    | none => simp [List.getD_eq_getElem?_getD, hH] at h
    | some x =>
      cases x with
      | none => simp [List.getD_eq_getElem?_getD, hH] at h
      | some o' => simp [List.getD_eq_getElem?_getD, hH] at h; exact ⟨i, o', rfl, hH, h.symm⟩

/-- What a callee holds for staying: what the caller does; and, where it may look, all that it isn't handed. -/
def seenS (c : Cx) (vw : Bool) (H : Heap) (rs : List Nat) : Nat → Prop := fun b => c.S b ∨ (vw = true ∧ ∃ i o, H[i]? = some (some o) ∧ i ∉ rs ∧ b = (c.β i).1)

def Cx.callee (c : Cx) (vw : Bool) (H : Heap) (rs : List Nat) : Cx := ⟨c.w, seenS c vw H rs, fun k => c.β (rs.getD k 0), rs.length⟩

theorem sees_callee (c : Cx) (vw : Bool) (H : Heap) (rs : List Nat) : Sees c (c.callee vw H rs) H rs vw :=
  ⟨rfl, fun _ h => .inl h, fun hv i o ho hi => .inr ⟨hv, i, o, ho, hi, rfl⟩, fun i k h => ⟨idx_lt h, by simp [Cx.callee, List.getD_eq_getElem?_getD, idx_some h]⟩⟩

theorem HeapOk.callee {c : Cx} {H : Heap} (hp : HeapOk c H) (vw : Bool) {rs : List Nat} (hn : rs.Nodup) : HeapOk (c.callee vw H rs) (subH vw H rs) := by
  have hs := sees_callee c vw H rs
  have hb : ∀ {k i}, rs[k]? = some i → (c.callee vw H rs).β k = c.β i := fun h => by simp [Cx.callee, List.getD_eq_getElem?_getD, h]
  refine ⟨by simp [Cx.callee, subH], fun k o ho => ?_, fun k l o o' ho ho' e => ?_, fun k o ho => ?_, fun b hb => ?_⟩
  · obtain ⟨i, o1, h1, h2, rfl⟩ := subH_some ho
    exact (hp.blk i o1 h2).toC hs hp (hb h1)
  · obtain ⟨i, o1, h1, h2, rfl⟩ := subH_some ho
    obtain ⟨j, o2, h3, h4, rfl⟩ := subH_some ho'
    rw [hb h1, hb h3] at e
    have := hp.inj i j o1 o2 h2 h4 e
    subst this
    have e1 := idx_of_nodup hn h1
    have e2 := idx_of_nodup hn h3
    rw [e1] at e2
    exact Option.some.inj e2
  · obtain ⟨i, o1, h1, h2, rfl⟩ := subH_some ho
    rw [hb h1]
    rintro (h | ⟨_, j, o2, h3, h4, h5⟩)
    · exact hp.nS i o1 h2 h
    · have := hp.inj i j o1 o2 h2 h3 h5
      subst this
      exact h4 (List.mem_of_getElem? h1)
  · rcases hb with h | ⟨_, i, o, h1, _, rfl⟩
    · exact hp.lt b h
    · exact (hp.blk i o h1).lt

/-! ### what comes back -/
def back (n : Nat) (rs : List Nat) (k : Nat) : Option Nat := if k < rs.length then rs[k]? else some (n + (k - rs.length))

def setAll : Heap → List Nat → List (Option GObj) → Heap
  | H, i :: rs, x :: xs => setAll (H.set i x) rs xs
  | H, _, _ => H

def mergeH (H : Heap) (rs : List Nat) (X : List (Option GObj)) : Heap := setAll H rs X ++ X.drop rs.length

theorem setAll_length : ∀ (H : Heap) (rs : List Nat) (X : List (Option GObj)), (setAll H rs X).length = H.length
  | H, [], X => by cases X <;> rfl
  | H, i :: rs, [] => rfl
  | H, i :: rs, x :: X => by simp [setAll, setAll_length]

theorem setAll_get : ∀ {H : Heap} {rs : List Nat} {X : List (Option GObj)} {j : Nat} {o : GObj}, rs.Nodup → rs.length ≤ X.length → (setAll H rs X)[j]? = some (some o) →
    (∃ k : Nat, rs[k]? = some j ∧ X[k]? = some (some o)) ∨ (j ∉ rs ∧ H[j]? = some (some o))
  | H, [], X, j, o, _, _, h => by
    have : setAll H [] X = H := by cases X <;> rfl
    rw [this] at h
    exact .inr ⟨by simp, h⟩
  | H, i :: rs, [], j, o, _, hl, h => by simp at hl
  | H, i :: rs, x :: X, j, o, hn, hl, h => by
    rw [List.nodup_cons] at hn
    simp only [setAll] at h
    rcases setAll_get hn.2 (by simpa using hl) h with ⟨k, h1, h2⟩ | ⟨h1, h2⟩
    · exact .inl ⟨k + 1, by simpa using h1, by simpa using h2⟩
    · rcases getElem?_set_cases h2 with ⟨rfl, h3⟩ | ⟨h3, h4⟩
      · exact .inl ⟨0, rfl, by simp [h3]⟩
      · exact .inr ⟨by simp [h3, h1], h4⟩

theorem mergeH_get {H : Heap} {rs : List Nat} {X : List (Option GObj)} {j : Nat} {o : GObj} (hn : rs.Nodup) (hl : rs.length ≤ X.length) (h : (mergeH H rs X)[j]? = some (some o)) :
    (∃ k : Nat, rs[k]? = some j ∧ X[k]? = some (some o)) ∨ (j ∉ rs ∧ H[j]? = some (some o)) ∨ (H.length ≤ j ∧ X[rs.length + (j - H.length)]? = some (some o)) := by
  unfold mergeH at h
  rw [List.getElem?_append] at h
  split at h
  · rcases setAll_get hn hl h with h | h
    · exact .inl h
    · exact .inr (.inl h)
  · rename_i hj
    rw [setAll_length] at hj h
    rw [List.getElem?_drop] at h
    exact .inr (.inr ⟨by omega, h⟩)

mutual
def flatB : PV → Bool
  | .im _ _ _ => false
  | .ip _ => false
  | .ag ps => flatLB ps
  | .tu ps => flatLB ps
  | .fn _ a b => flatLB a && flatLB b
  | .ifc _ p => flatB p
  | .gv _ p => flatB p
  | .dead => true
  | .sc _ => true
  | .id _ _ => true
  | .ix _ _ _ => true
  | .ad _ _ => true
def flatLB : List PV → Bool
  | [] => true
  | p :: ps => flatB p && flatLB ps
end
theorem flatLB_all : ∀ l, flatLB l = l.all flatB
  | [] => rfl
  | p :: l => by simp [flatLB, flatLB_all l]
theorem flatLB_getD {l : List PV} (h : flatLB l = true) (j : Nat) : flatB (l.getD j .dead) = true := by
  rw [flatLB_all, List.all_eq_true] at h
  rw [List.getD_eq_getElem?_getD]
  cases e : l[j]? with
  | none => rfl
  | some p => exact h p (List.mem_of_getElem? e)

theorem Rel.flat {w : World} {S S' : Nat → Prop} {β : Nat → Nat × Nat} {n : Nat} {v : Value} {p : PV} (r : Rel ⟨w, S, β, n⟩ v p) (hf : flatB p = true) : Rel ⟨w, S', β, n⟩ v p := by
  generalize hc : (⟨w, S, β, n⟩ : Cx) = c at r
  induction r with
  | dead v => exact .dead v
  | sc v => exact .sc v
  | im => cases hf
  | ip => cases hf
  | id i len hi hl => subst hc; exact .id (c := ⟨w, S', β, n⟩) i len hi hl
  | ix A i off len cap hi hl hA hs => subst hc; exact .ix (c := ⟨w, S', β, n⟩) A i off len cap hi hl hA hs
  | ad i off hi => subst hc; exact .ad (c := ⟨w, S', β, n⟩) i off hi
  | ag l ps hl hr ih => exact .ag l ps hl (fun j hj => ih j hj (flatLB_getD hf j) hc)
  | tu l ps hl hr ih => exact .tu l ps hl (fun j hj => ih j hj (flatLB_getD hf j) hc)
  | fn f l m ps qs hl hr hm hq ih1 ih2 =>
    simp only [flatB, Bool.and_eq_true] at hf
    exact .fn f l m ps qs hl (fun j hj => ih1 j hj (flatLB_getD hf.1 j) hc) hm (fun j hj => ih2 j hj (flatLB_getD hf.2 j) hc)
  | ifc t v p _ ih => exact .ifc t v p (ih hf hc)
  | gvf p => exact .gvf p
  | gvt v p _ ih => exact .gvt v p (ih hf hc)

def flatOB : Option GObj → Bool
  | none => true
  | some o => flatLB o.cells

theorem HeapOk.flat {w : World} {S S' : Nat → Prop} {β : Nat → Nat × Nat} {n : Nat} {H : Heap} (hp : HeapOk ⟨w, S, β, n⟩ H) (hf : H.all flatOB = true) (hS : ∀ b, S' b → S b) : HeapOk ⟨w, S', β, n⟩ H := by
  refine ⟨hp.n, fun i o ho => ?_, hp.inj, fun i o ho h => hp.nS i o ho (hS _ h), fun b hb => hp.lt b (hS b hb)⟩
  obtain ⟨cur, h1, h2, h3, h4, h5⟩ := hp.blk i o ho
  refine ⟨cur, h1, h2, h3, h4, fun j hj => ⟨(h5 j hj).1, (h5 j hj).2.flat ?_⟩⟩
  have := List.all_eq_true.1 hf (some o) (List.mem_of_getElem? ho)
  exact flatLB_getD this j

end Go.Proofs.Ytbbjmfkmjjinnaa.V
