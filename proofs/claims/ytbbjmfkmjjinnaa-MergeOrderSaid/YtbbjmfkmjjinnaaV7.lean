/- The logic's operations that make memory: literals, make, append, copy; and len. No law of the program is proved here. -/
import Derived.Test.YtbbjmfkmjjinnaaV6
import Derived.Laws.MakeOwn
set_option linter.all false
namespace Go.Proofs.Ytbbjmfkmjjinnaa.V
open Go

/-! ### literals -/
def fitB : PV → Bool
  | .ag _ => true
  | p => oneB p

theorem Rel.cells' {c : Cx} {v : Value} {p : PV} (h : Rel c v p) (ho : fitB p = true) : RelL c v.cells.toList (cellsP p) := by
  cases h with
  | ag l ps hl hr => exact ⟨by simpa [Value.cells, cellsP] using hl, fun j hj => by simpa [Value.cells, cellsP] using hr j hj⟩
  | dead v => simp [fitB, oneB] at ho
  | gvf => simp [fitB, oneB] at ho
  | gvt v p h => simp [fitB, oneB] at ho
  | tu l ps => simp [fitB, oneB] at ho
  | sc v => exact (Rel.cells (.sc v) (by simpa [cellsP, fitB] using ho)).1
  | im A ad len cap nz cells us hA hz hl h0 hc hr => exact (Rel.cells (.im A ad len cap nz cells us hA hz hl h0 hc hr) rfl).1
  | ip ad cells us hS hc hr => exact (Rel.cells (.ip ad cells us hS hc hr) rfl).1
  | id i len hi hl => exact (Rel.cells (.id i len hi hl) rfl).1
  | ix A i off len cap hi hl hA hs => exact (Rel.cells (.ix A i off len cap hi hl hA hs) rfl).1
  | ad i off hi => exact (Rel.cells (.ad i off hi) rfl).1
  | fn f l m ps qs hl hr hm hq => exact (Rel.cells (.fn f l m ps qs hl hr hm hq) rfl).1
  | ifc t v p h => exact (Rel.cells (.ifc t v p h) rfl).1

def fillP (place : Nat → Option (Nat × Nat)) (cells : List PV) : List (Nat × PV) → Option (List PV)
  | [] => some cells
  | (i, p) :: rest => match place i with
    | none => none
    | some (off, size) => if (cellsP p).length = size ∧ off + (cellsP p).length ≤ cells.length ∧ fitB p = true then fillP place (over cells off (cellsP p)) rest else none

theorem foldl_lay (vs : List Value) : ∀ (off k : Nat) (cs : Array Value), off + k + vs.length ≤ cs.size →
    ((vs.zipIdx k).foldl (fun cs (x : Value × Nat) => cs.setIfInBounds (off + x.2) x.1) cs).toList = cs.toList.take (off + k) ++ vs ++ cs.toList.drop (off + k + vs.length) := by
  induction vs with
  | nil => intro off k cs h; simp
  | cons v vs ih =>
    intro off k cs h
    simp only [List.zipIdx_cons, List.foldl_cons]
    rw [ih off (k + 1) _ (by simp at h ⊢; omega)]
    simp only [Array.toList_setIfInBounds, List.length_cons]
    simp at h
    apply List.ext_getElem?
    intro j
    simp only [List.getElem?_append, List.length_append, List.length_take, List.length_set, Array.length_toList, List.getElem?_take, List.getElem?_set, List.getElem?_drop, List.length_cons]
    rw [Nat.min_eq_left (by omega), Nat.min_eq_left (by omega)]
    by_cases h1 : j < off + k
    · simp [h1, show j < off + (k + 1) by omega, show ¬ off + k = j by omega, show j < off + k + (vs.length + 1) by omega, show j < off + (k + 1) + vs.length by omega]
    · by_cases h2 : j = off + k
      · subst h2
        simp [show off + k < off + (k + 1) by omega, show off + k < cs.size by omega, show off + k < off + (k + 1) + vs.length by omega]
      · by_cases h3 : j < off + (k + 1) + vs.length
        · simp only [h3, show ¬ j < off + (k + 1) by omega, h1, if_true, if_false, show j < off + k + (vs.length + 1) by omega]
          rw [show j - (off + k) = (j - (off + (k + 1))) + 1 by omega, List.getElem?_cons_succ]
        · simp only [h3, if_false, show ¬ j < off + k + (vs.length + 1) by omega, show ¬ off + k = off + (k + 1) + vs.length + (j - (off + (k + 1) + vs.length)) by omega]
          congr 1
          omega

theorem relL_over {c : Cx} {l vs : List Value} {ps qs : List PV} {off : Nat} (h : RelL c l ps) (k : RelL c vs qs) (hl : off + qs.length ≤ ps.length) : RelL c (l.take off ++ vs ++ l.drop (off + vs.length)) (over ps off qs) := by
  have e1 := h.1
  have e2 := k.1
  refine ⟨by simp [over]; omega, fun j hj => ?_⟩
  rw [length_over hl] at hj
  rw [getD_over hl]
  simp only [List.getD_eq_getElem?_getD, List.getElem?_append, List.length_append, List.length_take, List.getElem?_take, List.getElem?_drop]
  rw [Nat.min_eq_left (by omega)]
  by_cases k1 : j < off
  · simp only [k1, if_true, show j < off + vs.length by omega, show ¬ (off ≤ j ∧ j < off + qs.length) by omega, if_false]
    have := h.2 j hj
    simpa [List.getD_eq_getElem?_getD] using this
  · by_cases k2 : j < off + qs.length
    · simp only [k1, if_false, show j < off + vs.length by omega, if_true, show off ≤ j ∧ j < off + qs.length by omega]
      have := k.2 (j - off) (by omega)
      simpa [List.getD_eq_getElem?_getD] using this
    · simp only [k1, if_false, show ¬ j < off + vs.length by omega, show ¬ (off ≤ j ∧ j < off + qs.length) by omega]
      have := h.2 j hj
      rw [show off + vs.length + (j - (off + vs.length)) = j by omega]
      simpa [List.getD_eq_getElem?_getD] using this

theorem fill_ok {c : Cx} {place : Nat → Option (Nat × Nat)} : ∀ {parts : List (Nat × Value)} {pp : List (Nat × PV)} {l : Array Value} {ps qs : List PV}, parts.map (·.1) = pp.map (·.1) → RelL c (parts.map (·.2)) (pp.map (·.2)) → RelL c l.toList ps →
    fillP place ps pp = some qs → ∃ l', Instr.fill place l parts = some l' ∧ RelL c l'.toList qs := by
  intro parts
  induction parts with
  | nil =>
    intro pp l ps qs e _ h hf
    cases pp with
    | nil => cases hf; exact ⟨l, rfl, h⟩
    | cons x y => simp at e
  | cons x parts ih =>
    intro pp l ps qs e hr h hf
    cases pp with
    | nil => simp at e
    | cons y pp =>
      obtain ⟨i, v⟩ := x
      obtain ⟨j, p⟩ := y
      simp only [List.map_cons, List.cons.injEq] at e
      obtain ⟨e1, e⟩ := e
      subst e1
      simp only [fillP] at hf
      split at hf
      · cases hf
      · rename_i off size hp
        split at hf
        · rename_i hc
          obtain ⟨c1, c2, c3⟩ := hc
          have hv : Rel c v p := hr.2 0 (by simp)
          have hcs := hv.cells' c3
          have hsz : v.cells.size = (cellsP p).length := by have := hcs.1; simpa using this
          have hls : l.size = ps.length := by have := h.1; simpa using this
          have hr' : RelL c (parts.map (·.2)) (pp.map (·.2)) := ⟨by have := hr.1; simpa using this, fun k hk => by
            have := hr.2 (k + 1) (by simpa using hk)
            simpa [List.getD_eq_getElem?_getD] using this⟩
          have hlay := foldl_lay v.cells.toList off 0 l (by simp; omega)
          simp only [Nat.add_zero] at hlay
          have hfold : (v.cells.zipIdx.foldl (fun cs (c, j) => cs.setIfInBounds (off + j) c) l).toList = l.toList.take off ++ v.cells.toList ++ l.toList.drop (off + v.cells.toList.length) := by
            rw [← hlay, ← Array.foldl_toList, Array.toList_zipIdx]
          obtain ⟨l', h1, h2⟩ := ih (l := v.cells.zipIdx.foldl (fun cs (c, j) => cs.setIfInBounds (off + j) c) l) e hr' (by rw [hfold]; exact relL_over h hcs c2) hf
          refine ⟨l', ?_, h2⟩
          simp only [Instr.fill, hp]
          rw [if_neg (by simp; omega)]
          exact h1
        · cases hf

theorem relL_parts {c : Cx} {ρ : Operand → Value} {ev : Operand → PV} (parts : List (Nat × Operand)) (h : ∀ x, x ∈ parts.map (·.2) → Rel c (ρ x) (ev x)) :
    (parts.map fun (i, x) => (i, ρ x)).map (·.1) = (parts.map fun (i, x) => (i, ev x)).map (·.1) ∧ RelL c ((parts.map fun (i, x) => (i, ρ x)).map (·.2)) ((parts.map fun (i, x) => (i, ev x)).map (·.2)) := by
  refine ⟨by simp, ?_⟩
  have := relL_map (l := parts.map (·.2)) h
  simpa [Function.comp_def] using this

def buildP (P : Program) (t : TypeId) (parts : List (Nat × PV)) : Option (Prop × PV) :=
  if (td P t).hz then match (td P t).k with
    | .struct fs => if fs.all (fun f => (td P f.2).ok) then (fillP (fun i => (fs[i]?).map fun f => (f.1, (td P f.2).size)) ((td P t).zero.map .sc) parts).map fun qs => (True, .ag qs) else none
    | .arr _ e => if (td P e).ok then (fillP (fun i => some (i * (td P e).size, (td P e).size)) ((td P t).zero.map .sc) parts).map fun qs => (True, .ag qs) else none
    | _ => none
  else none

theorem run_mapM_places {P : Program} {F : Array Field} (w : World) (h : ∀ f, f ∈ F.toList → (td P f.type).ok = true) :
    (F.mapM fun f => do pure (f.offset, ← sizeOf f.type) : Sem (Array (Nat × Nat))).run P w = .ok (F.map fun f => (f.offset, (td P f.type).size)) w := by
  have key : ∀ l : List Field, (∀ f, f ∈ l → (td P f.type).ok = true) → (l.mapM fun f => do pure (f.offset, ← sizeOf f.type) : Sem (List (Nat × Nat))).run P w = .ok (l.map fun f => (f.offset, (td P f.type).size)) w := by
    intro l
    induction l with
    | nil => intro _; rfl
    | cons f l ih =>
      intro h
      have h1 := run_size (P := P) w (h f (by simp))
      have h2 := ih (fun g hg => h g (by simp [hg]))
      simp only [List.mapM_cons, Sem.run_bind, h1, Result.andThen_ok, Sem.run_pure, h2, List.map_cons]
  have hk := key F.toList h
  rw [Array.mapM_eq_mapM_toList]
  simp only [bind_pure_comp] at hk ⊢
  simp [hk]
  apply Array.ext'
  simp

theorem build_ok {P : Program} {t : TypeId} {parts : List (Nat × Operand)} {p : PV} {ok : Prop} {c : Cx} {ρ : Operand → Value} {ev : Operand → PV} (h : buildP P t (parts.map fun (i, x) => (i, ev x)) = some (ok, p))
    (hr : ∀ x, x ∈ parts.map (·.2) → Rel c (ρ x) (ev x)) : ∃ r, (Instr.build t (parts.map fun (i, x) => (i, ρ x)).toArray).run P c.w = .ok r c.w ∧ Rel c r p := by
  obtain ⟨e1, e2⟩ := relL_parts parts hr
  unfold buildP at h
  split at h
  · rename_i hz
    obtain ⟨z, hz1, hz2⟩ := run_zero (P := P) c.w hz
    have hz3 : RelL c z.cells.toList ((td P t).zero.map .sc) := by rw [hz2]; exact relL_sc c _
    split at h
    · rename_i fs hk
      obtain ⟨F, hF, hfs⟩ := und_struct hk
      split at h
      · rename_i ha
        have hok : ∀ f, f ∈ F.toList → (td P f.type).ok = true := fun f hf => by
          have := List.all_eq_true.1 ha (f.offset, f.type) (by rw [← hfs]; exact List.mem_map.2 ⟨f, hf, rfl⟩)
          exact this
        have hpl := run_mapM_places (P := P) c.w hok
        cases hq : fillP (fun i => (fs[i]?).map fun f => (f.1, (td P f.2).size)) ((td P t).zero.map .sc) (parts.map fun (i, x) => (i, ev x)) with
        | none => rw [hq] at h; cases h
        | some qs =>
          rw [hq] at h; cases h
          obtain ⟨l', h1, h2⟩ := fill_ok (l := z.cells) e1 e2 hz3 hq
          have hplace : (fun i : Nat => (fs[i]?).map fun f : Nat × TypeId => (f.1, (td P f.2).size)) = fun i => (F.map fun f => (f.offset, (td P f.type).size))[i]? := by
            funext i
            rw [← hfs]
            simp [Function.comp_def]
          rw [hplace] at h1
          refine ⟨.agg l', ?_, ?_⟩
          · simp only [Instr.build, Sem.run_bind, hz1, Result.andThen_ok, run_underlying hF, hpl, h1, Sem.run_pure]
          · have := Rel.ag (c := c) l'.toList qs h2.1 h2.2
            simpa using this
      · cases h
    · rename_i n e hk
      split at h
      · rename_i hs
        cases hq : fillP (fun i => some (i * (td P e).size, (td P e).size)) ((td P t).zero.map .sc) (parts.map fun (i, x) => (i, ev x)) with
        | none => rw [hq] at h; cases h
        | some qs =>
          rw [hq] at h; cases h
          obtain ⟨l', h1, h2⟩ := fill_ok (l := z.cells) e1 e2 hz3 hq
          refine ⟨.agg l', ?_, ?_⟩
          · simp only [Instr.build, Sem.run_bind, hz1, Result.andThen_ok, run_underlying (und_arr hk), run_size c.w hs, h1, Sem.run_pure]
          · have := Rel.ag (c := c) l'.toList qs h2.1 h2.2
            simpa using this
      · cases h
    · cases h
  · cases h

/-- n elements at their zero value. -/
def zerosP (zero : List Value) (n : Nat) : List PV := (List.range (n * zero.length)).map fun j => .sc (zero.getD (j % zero.length) undef)

theorem zerosP_one (z : Value) (n : Nat) : zerosP [z] n = List.replicate n (.sc z) := by
  simp only [zerosP, List.length_singleton, Nat.mul_one, Nat.mod_one]
  induction n with
  | zero => rfl
  | succ n ih => rw [List.range_succ, List.map_append, ih, List.replicate_succ']; rfl

theorem relL_zeros {c : Cx} {z : Array Value} {zero : List Value} (hz : z.toList = zero) (n : Nat) : RelL c (madeCells z (n * zero.length)).toList (zerosP zero n) := by
  subst hz
  refine ⟨by simp [madeCells, zerosP], fun j hj => ?_⟩
  simp only [zerosP, List.length_map, List.length_range, Array.length_toList] at hj
  have hpos : 0 < z.size := by
    rcases Nat.eq_zero_or_pos z.size with h | h
    · rw [h] at hj; simp at hj
    · exact h
  have hm : j % z.size < z.size := Nat.mod_lt _ hpos
  simp only [zerosP, madeCells, List.getD_eq_getElem?_getD, Array.toList_map, Array.toList_range, List.getElem?_map, Array.length_toList]
  rw [List.getElem?_range hj]
  simp only [Option.map_some, Option.getD_some, Array.getElem?_toList]
  rw [getElem!_pos z _ hm, Array.getElem?_eq_getElem hm]
  exact .sc _

def buildSliceP (P : Program) (t : TypeId) (len : Nat) (parts : List (Nat × PV)) (H : Heap) : Option (Prop × PV × Heap) :=
  match (td P t).k with
  | .slice e => if (td P e).ok && (td P e).hz && (td P e).zero.length == (td P e).size && decide (0 < (td P e).size) then
      (fillP (fun i => some (i * (td P e).size, (td P e).size)) (zerosP (td P e).zero len) parts).map fun qs =>
        (len * (td P e).size ≤ 16777216 ∧ qs.all oneB = true ∧ qs.length = len * (td P e).size, .id H.length len, H ++ [some ⟨e, true, (td P e).size, qs⟩])
    else none
  | _ => none

theorem buildSlice_ok {P : Program} {t : TypeId} {len : Nat} {parts : List (Nat × Operand)} {p : PV} {ok : Prop} {ρ : Operand → Value} {ev : Operand → PV} {H H' : Heap} {m : Amb} {N : Nat} {env : Env} {a : Act} {c : Cx} (s : SimC m N env H a c)
    (h : buildSliceP P t len (parts.map fun (i, x) => (i, ev x)) H = some (ok, p, H')) (ho : ok) (hr : ∀ x, x ∈ parts.map (·.2) → Rel c (ρ x) (ev x)) :
    ∃ r c', (Instr.buildSlice t len (parts.map fun (i, x) => (i, ρ x)).toArray).run P c.w = .ok r c'.w ∧ Rel c' r p ∧ SimC m N env H' a c' := by
  obtain ⟨e1, e2⟩ := relL_parts parts hr
  unfold buildSliceP at h
  split at h
  · rename_i e hk
    split at h
    · rename_i hs
      simp only [Bool.and_eq_true, beq_iff_eq, decide_eq_true_eq] at hs
      obtain ⟨⟨⟨hs1, hs2⟩, hs3⟩, hs4⟩ := hs
      obtain ⟨z, hz1, hz2⟩ := run_zero (P := P) c.w hs2
      cases hq : fillP (fun i => some (i * (td P e).size, (td P e).size)) (zerosP (td P e).zero len) (parts.map fun (i, x) => (i, ev x)) with
      | none => rw [hq] at h; cases h
      | some qs =>
        rw [hq] at h; cases h
        obtain ⟨o1, o2, o3⟩ := ho
        have hzs := relL_zeros (c := c) hz2 len
        rw [hs3] at hzs
        obtain ⟨l', h1, h2⟩ := fill_ok (l := madeCells z.cells (len * (td P e).size)) e1 e2 hzs hq
        have hone : ∀ u ∈ l'.toList, u.oneCell' = true := fun u hu => by
          obtain ⟨j, hj, rfl⟩ := List.mem_iff_getElem.1 hu
          have hj' : j < qs.length := by rw [← h2.1]; exact hj
          have hr := h2.2 j hj'
          have hb := List.all_eq_true.1 o2 (qs.getD j .dead) (by rw [List.getD_eq_getElem?_getD, List.getElem?_eq_getElem hj']; exact List.getElem_mem _)
          have := hr.one hb
          rwa [List.getD_eq_getElem?_getD, List.getElem?_eq_getElem hj] at this
        obtain ⟨n1, n2, n3, n4⟩ := s.newRow P h2 hone ⟨e, true, (td P e).size, qs⟩ rfl len (fun _ => ⟨o3, by
          have : len ≤ len * (td P e).size := Nat.le_mul_of_pos_right _ hs4
          simp only [maxLen]; omega, hs4⟩)
        simp only [Array.toArray_toList] at n1
        refine ⟨.slice (some ⟨c.w.heap.size, 0, none⟩) len len, _, ?_, ?_, n2⟩
        · have hbig : ¬ len * (td P e).size > 2 ^ 24 := by omega
          simp only [Instr.buildSlice, Sem.run_bind, run_underlying (und_slice hk), Result.andThen_ok, run_size c.w hs1, hbig, if_false]
          have hmade : ∀ z' : Array Value, (0 < len * (td P e).size → z' = z.cells) → (Array.range (len * (td P e).size)).map (fun x => z'[x % z'.size]!) = madeCells z.cells (len * (td P e).size) := fun z' hz' => by
            rcases Nat.eq_zero_or_pos (len * (td P e).size) with h0 | h0
            · rw [h0]; simp [madeCells]
            · rw [hz' h0]; rfl
          split
          · rename_i h0
            simp only [Sem.run_bind, Sem.run_pure, Result.andThen_ok, hmade #[] (fun h => by omega), h1, n1]
          · simp only [Sem.run_bind, Sem.run_pure, Result.andThen_ok, hz1, hmade z.cells (fun _ => rfl), h1, n1]
        · have := Rel.id (c := c.alloc l'.toList.toArray e len) H.length len n4 (by rw [n3]; exact Nat.le_refl _)
          rwa [n3] at this
    · cases h
  · cases h

def makeP (P : Program) (t : TypeId) (l k : PV) (H : Heap) : Option (Prop × PV × Heap) :=
  match l, k with
  | .sc (.int _ n), .sc (.int _ m) => match (td P t).k with
    | .slice e => if (td P e).ok && (td P e).hz && (td P e).zero.length == (td P e).size && decide (0 < (td P e).size) then
        some (0 ≤ n ∧ n ≤ m ∧ (td P e).bytes * m ≤ 281474976710656 ∧ m ≤ 9223372036854775807 ∧ (td P e).zero.all Value.oneCell' = true, .id H.length n.toNat, H ++ [some ⟨e, true, (td P e).size, zerosP (td P e).zero m.toNat⟩])
      else none
    | _ => none
  | _, _ => none

theorem make_ok {P : Program} {t : TypeId} {l k p : PV} {ok : Prop} {H H' : Heap} {m : Amb} {N : Nat} {env : Env} {a : Act} {c : Cx} {u v : Value} (s : SimC m N env H a c)
    (h : makeP P t l k H = some (ok, p, H')) (ho : ok) (hu : Rel c u l) (hv : Rel c v k) : ∃ r c', (Instr.makeSlice t u v).run P c.w = .ok r c'.w ∧ Rel c' r p ∧ SimC m N env H' a c' := by
  unfold makeP at h
  split at h
  · rename_i kl n kc m'
    cases hu; cases hv
    split at h
    · rename_i e hk
      split at h
      · rename_i hs
        simp only [Bool.and_eq_true, beq_iff_eq, decide_eq_true_eq] at hs
        obtain ⟨⟨⟨hs1, hs2⟩, hs3⟩, hs4⟩ := hs
        cases h
        obtain ⟨o1, o2, o3, o4, o5⟩ := ho
        obtain ⟨i, hi, hsz, hby, hhz, hzz, _⟩ := td_info hs1
        rw [hhz] at hs2
        obtain ⟨z, hz⟩ := Option.isSome_iff_exists.1 hs2
        have hz2 : z.cells.toList = (td P e).zero := by rw [hzz, hz]; rfl
        have hrun := run_make (P := P) c.w t e i z (und_slice hk) hi hz kl kc n m' o1 o2 (by rw [← hby]; exact o3) o4
        have hzs := relL_zeros (c := c) hz2 m'.toNat
        rw [hs3] at hzs
        have hone : ∀ u ∈ (madeCells z.cells (m'.toNat * (td P e).size)).toList, u.oneCell' = true := fun u hu => by
          simp only [madeCells, Array.toList_map, Array.toList_range, List.mem_map, List.mem_range] at hu
          obtain ⟨j, hj, rfl⟩ := hu
          have hpos : 0 < z.cells.size := by have : z.cells.size = (td P e).size := by rw [← hs3, ← hz2]; simp
                                             omega
          have hm : j % z.cells.size < z.cells.size := Nat.mod_lt _ hpos
          rw [getElem!_pos z.cells _ hm]
          exact List.all_eq_true.1 o5 _ (by rw [← hz2]; exact Array.getElem_mem_toList hm)
        obtain ⟨n1, n2, n3, n4⟩ := s.newRow P hzs hone ⟨e, true, (td P e).size, zerosP (td P e).zero m'.toNat⟩ rfl m'.toNat (fun _ => ⟨by simp [zerosP, hs3], by simp only [maxLen]; omega, hs4⟩)
        simp only [Array.toArray_toList] at n1 n2 n3 n4
        refine ⟨.slice (some ⟨c.w.heap.size, 0, none⟩) n.toNat m'.toNat, _, ?_, ?_, n2⟩
        · rw [hrun, ← hsz]; rfl
        · have := Rel.id (c := c.alloc (madeCells z.cells (m'.toNat * (td P e).size)) e m'.toNat) H.length n.toNat n4 (by rw [n3]; simp only; omega)
          rwa [n3] at this
      · cases h
    · cases h
  · cases h

end Go.Proofs.Ytbbjmfkmjjinnaa.V
