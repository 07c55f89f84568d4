/- The logic's operations: what each comes to on values as the proof sees them. No law of the program is proved here. -/
import Derived.Test.YtbbjmfkmjjinnaaV2
import Derived.Laws.Cells
import Derived.Laws.CopyRow
set_option linter.all false
namespace Go.Proofs.Ytbbjmfkmjjinnaa.V
open Go

/-! ### types -/
inductive TK where
  | int (k : IntKind) | bool | str | slice (e : TypeId) | ptr (e : TypeId) | struct (fs : List (Nat × TypeId)) | arr (n : Nat) (e : TypeId) | iface | func | other

structure TD where
  ok : Bool
  size : Nat
  bytes : Nat
  hz : Bool
  zero : List Value
  k : TK

def kd : Option TypeDesc → TK
  | some (.int k) => .int k | some .bool => .bool | some .string => .str | some (.slice e) => .slice e | some (.pointer e) => .ptr e
  | some (.struct fs) => .struct (fs.toList.map fun f => (f.offset, f.type)) | some (.array n e) => .arr n e | some (.interface _) => .iface | some (.func _ _ _) => .func | _ => .other

def td (P : Program) (t : TypeId) : TD :=
  match P.info? t with
  | none => ⟨false, 0, 0, false, [], .other⟩
  | some i => ⟨true, i.size, i.bytes, i.zero.isSome, (i.zero.map fun v => v.cells.toList).getD [], kd (P.underlying t)⟩

def TK.agg : TK → Bool
  | .struct _ | .arr _ _ => true
  | _ => false

section
variable {P : Program} {t : TypeId} (w : World)
theorem td_info (h : (td P t).ok = true) : ∃ i, P.info? t = some i ∧ (td P t).size = i.size ∧ (td P t).bytes = i.bytes ∧ (td P t).hz = i.zero.isSome ∧
    (td P t).zero = (i.zero.map fun v => v.cells.toList).getD [] ∧ (td P t).k = kd (P.underlying t) := by
  unfold td at *
  cases hi : P.info? t with
  | none => simp [hi] at h
  | some i => exact ⟨i, rfl, rfl, rfl, rfl, rfl, rfl⟩
theorem td_und (h : (td P t).ok = true) : ∃ d, P.underlying t = some d ∨ P.underlying t = none ∧ (td P t).k = .other := by
  obtain ⟨i, hi, _, _, _, _, hk⟩ := td_info h
  cases hu : P.underlying t with
  | none => exact ⟨.invalid, .inr ⟨rfl, by rw [hk, hu]; rfl⟩⟩
  | some d => exact ⟨d, .inl rfl⟩
theorem run_size (h : (td P t).ok = true) : (sizeOf t).run P w = .ok (td P t).size w := by
  obtain ⟨i, hi, hs, _⟩ := td_info h
  simp [sizeOf, typeInfo, hi, hs]
theorem kd_of (h : (td P t).k ≠ .other) : (td P t).k = kd (P.underlying t) := by
  unfold td at *
  cases hi : P.info? t with
  | none => simp [hi] at h
  | some i => rfl
theorem ok_of (h : (td P t).k ≠ .other) : (td P t).ok = true := by
  unfold td at *
  cases hi : P.info? t with
  | none => simp [hi] at h
  | some i => rfl
theorem und_slice {e : TypeId} (h : (td P t).k = .slice e) : P.underlying t = some (.slice e) := by
  have := kd_of (P := P) (t := t) (by rw [h]; simp)
  rw [h] at this
  generalize P.underlying t = u at this
  unfold kd at this
  split at this <;> simp_all
theorem und_int {k : IntKind} (h : (td P t).k = .int k) : P.underlying t = some (.int k) := by
  have := kd_of (P := P) (t := t) (by rw [h]; simp)
  rw [h] at this
  generalize P.underlying t = u at this
  unfold kd at this
  split at this <;> simp_all
theorem und_bool (h : (td P t).k = .bool) : P.underlying t = some .bool := by
  have := kd_of (P := P) (t := t) (by rw [h]; simp)
  rw [h] at this
  generalize P.underlying t = u at this
  unfold kd at this
  split at this <;> simp_all
theorem und_str (h : (td P t).k = .str) : P.underlying t = some .string := by
  have := kd_of (P := P) (t := t) (by rw [h]; simp)
  rw [h] at this
  generalize P.underlying t = u at this
  unfold kd at this
  split at this <;> simp_all
theorem und_ptr {e : TypeId} (h : (td P t).k = .ptr e) : P.underlying t = some (.pointer e) := by
  have := kd_of (P := P) (t := t) (by rw [h]; simp)
  rw [h] at this
  generalize P.underlying t = u at this
  unfold kd at this
  split at this <;> simp_all
theorem und_arr {n : Nat} {e : TypeId} (h : (td P t).k = .arr n e) : P.underlying t = some (.array n e) := by
  have := kd_of (P := P) (t := t) (by rw [h]; simp)
  rw [h] at this
  generalize P.underlying t = u at this
  unfold kd at this
  split at this <;> simp_all
theorem und_struct {fs : List (Nat × TypeId)} (h : (td P t).k = .struct fs) : ∃ F : Array Field, P.underlying t = some (.struct F) ∧ F.toList.map (fun f => (f.offset, f.type)) = fs := by
  have := kd_of (P := P) (t := t) (by rw [h]; simp)
  rw [h] at this
  generalize P.underlying t = u at this
  unfold kd at this
  split at this <;> simp_all
theorem run_agg (h : (td P t).k ≠ .other) : (isAgg t).run P w = .ok (td P t).k.agg w := by
  have hk := kd_of h
  cases hu : P.underlying t with
  | none => rw [hu] at hk; exact absurd hk h
  | some d =>
    rw [hu] at hk
    rw [hk] at h ⊢
    simp only [isAgg, Sem.run_bind, run_underlying hu, Result.andThen_ok]
    cases d <;> first | rfl | exact absurd rfl h
theorem run_zero (h : (td P t).hz = true) : ∃ z : Value, (zeroValue t).run P w = .ok z w ∧ z.cells.toList = (td P t).zero := by
  unfold td at *
  cases hi : P.info? t with
  | none => simp [hi] at h
  | some i =>
    rw [hi] at h
    simp only at h
    obtain ⟨z, hz⟩ := Option.isSome_iff_exists.1 h
    exact ⟨z, by simp [zeroValue, typeInfo, hi, hz], by simp [hz]⟩
end

/-! ### values and their cells -/
def oneB : PV → Bool
  | .sc v => v.oneCell'
  | .dead | .gv _ _ | .ag _ | .tu _ => false
  | _ => true

theorem Rel.one {c : Cx} {v : Value} {p : PV} (h : Rel c v p) (ho : oneB p = true) : v.oneCell' = true := by
  cases h <;> first | exact ho | rfl | (simp [oneB] at ho)

theorem Rel.undef_cell (c : Cx) : Rel c undef .dead := .dead _

def cellsP : PV → List PV
  | .ag ps => ps
  | p => [p]

/-- A value's cells, if it may be laid into memory. -/
theorem Rel.cells {c : Cx} {v : Value} {p : PV} (h : Rel c v p) (ho : (cellsP p).all oneB = true) : RelL c v.cells.toList (cellsP p) ∧ ∀ u ∈ v.cells.toList, u.oneCell' = true := by
  cases h with
  | ag l ps hl hr =>
    simp only [cellsP] at ho ⊢
    refine ⟨⟨by simpa [Value.cells] using hl, fun j hj => by simpa [Value.cells] using hr j hj⟩, fun u hu => ?_⟩
    simp [Value.cells] at hu
    obtain ⟨j, hj, rfl⟩ := List.mem_iff_getElem.1 hu
    have h1 := hr j (by omega)
    have h2 := List.all_eq_true.1 ho (ps.getD j .dead) (by rw [List.getD_eq_getElem?_getD, List.getElem?_eq_getElem (by omega)]; simp)
    have := h1.one h2
    rwa [List.getD_eq_getElem?_getD, List.getElem?_eq_getElem hj] at this
  | dead v => simp [cellsP, oneB] at ho
  | gvf => simp [cellsP, oneB] at ho
  | gvt v p h => simp [cellsP, oneB] at ho
  | tu l ps => simp [cellsP, oneB] at ho
  | sc v =>
    have h1 : v.oneCell' = true := by simpa [cellsP, oneB] using ho
    have h2 : v.cells = #[v] := by cases v <;> first | rfl | (simp [Value.oneCell'] at h1)
    rw [h2]
    refine ⟨⟨rfl, fun j hj => ?_⟩, fun u hu => ?_⟩
    · simp [cellsP] at hj; subst hj; exact .sc v
    · simp at hu; rw [hu]; exact h1
  | im A ad len cap nz cells us hA hz hl h0 hc hr =>
    refine ⟨⟨rfl, fun j hj => ?_⟩, fun u hu => by simp [Value.cells] at hu; rw [hu]; rfl⟩
    simp [cellsP] at hj; subst hj; exact .im A ad len cap nz cells us hA hz hl h0 hc hr
  | ip ad cells us hS hc hr =>
    refine ⟨⟨rfl, fun j hj => ?_⟩, fun u hu => by simp [Value.cells] at hu; rw [hu]; rfl⟩
    simp [cellsP] at hj; subst hj; exact .ip ad cells us hS hc hr
  | id i len hi hl =>
    refine ⟨⟨rfl, fun j hj => ?_⟩, fun u hu => by simp [Value.cells] at hu; rw [hu]; rfl⟩
    simp [cellsP] at hj; subst hj; exact .id i len hi hl
  | ix A i off len cap hi hl hA hs =>
    refine ⟨⟨rfl, fun j hj => ?_⟩, fun u hu => by simp [Value.cells] at hu; rw [hu]; rfl⟩
    simp [cellsP] at hj; subst hj; exact .ix A i off len cap hi hl hA hs
  | ad i off hi =>
    refine ⟨⟨rfl, fun j hj => ?_⟩, fun u hu => by simp [Value.cells] at hu; rw [hu]; rfl⟩
    simp [cellsP] at hj; subst hj; exact .ad i off hi
  | fn f l m ps qs hl hr hm hq =>
    refine ⟨⟨rfl, fun j hj => ?_⟩, fun u hu => by simp [Value.cells] at hu; rw [hu]; rfl⟩
    simp [cellsP] at hj; subst hj; exact .fn f l m ps qs hl hr hm hq
  | ifc t v p h =>
    refine ⟨⟨rfl, fun j hj => ?_⟩, fun u hu => by simp [Value.cells] at hu; rw [hu]; rfl⟩
    simp [cellsP] at hj; subst hj; exact .ifc t v p h

/-! ### one operation -/
/-- Run with operands that are as 'ev' says, the operation gives p, and the heap H'. -/
def OpOk (P : Program) (o : Oper) (ev : Operand → PV) (H : Heap) (p : PV) (H' : Heap) : Prop :=
  ∀ (m : Amb) (N : Nat) (env : Env) (a : Act) (c : Cx), SimC m N env H a c → (∀ x, x ∈ o.op.operands.toList → Rel c (a.eval x) (ev x)) →
    ∃ v c', (∃ r, (execOp a.eval o).run P c.w = .ok r c'.w ∧ (r = .value v ∨ (r = .skip ∧ v = undef))) ∧ Rel c' v p ∧ SimC m N env H' a c'

theorem OpOk.pure {P : Program} {o : Oper} {ev : Operand → PV} {H : Heap} {p : PV}
    (h : ∀ (ρ : Operand → Value) (c : Cx), HeapOk c H → (∀ x, x ∈ o.op.operands.toList → Rel c (ρ x) (ev x)) → ∃ v, (execOp ρ o).run P c.w = .ok (.value v) c.w ∧ Rel c v p) : OpOk P o ev H p H := by
  intro m N env a c s he
  obtain ⟨v, hr, hv⟩ := h a.eval c s.hp he
  exact ⟨v, c, ⟨_, hr, .inl rfl⟩, hv, s⟩

end Go.Proofs.Ytbbjmfkmjjinnaa.V
