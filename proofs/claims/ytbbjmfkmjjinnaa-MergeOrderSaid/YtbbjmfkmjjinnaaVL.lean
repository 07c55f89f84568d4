/- The logic: two orders of one region. No law of the program is proved here. -/
import Derived.Test.YtbbjmfkmjjinnaaVJ
set_option linter.all false
namespace Go.Proofs.Ytbbjmfkmjjinnaa.V
open Go

def addE (ops : Array Oper) (y x : Nat) : Array Oper := ops.modify y fun o => { o with after := o.after.push ⟨x, .data⟩ }

def plainO (o : Oper) : Bool := match o.op with
  | .move _ | .assign _ | .pick .. | .alloc _ | .box .. | .build .. | .buildSlice .. | .load .. | .store .. | .nilCheck _ | .binOp .. | .unOp .. | .convert .. | .makeInterface .. | .makeFunc .. | .makeSlice .. | .slice .. | .fieldAddr .. | .field .. | .indexAddr .. | .index .. | .extract .. => true
  | .call c => match c.callee with
    | .builtin .len | .builtin .append | .builtin .copy | .builtin .min | .builtin .max => true
    | _ => false
  | _ => false

/-- It doesn't go elsewhere. -/
def Stays (r : Result Next) : Prop := match r with
  | .ok (.enter ..) _ => False
  | .ok (.row ..) _ => False
  | _ => True

theorem stays_value {P : Program} {w : World} (s : Sem Value) : Stays (((do pure (.value (← s)) : Sem Next)).run P w) := by
  simp only [Sem.run_bind]
  cases s.run P w <;> simp [Stays]
theorem stays_unit {P : Program} {w : World} (s : Sem Unit) : Stays (((do s; pure .skip : Sem Next)).run P w) := by
  simp only [Sem.run_bind]
  cases s.run P w <;> simp [Stays]

theorem plainO_ok {P : Program} {o : Oper} (h : plainO o = true) (ρ : Operand → Value) (w : World) : Stays ((execOp ρ o).run P w) := by
  obtain ⟨dst, op, ty, pos, after, guard⟩ := o
  cases op with
  | move x => simp [execOp, Stays]
  | assign x => simp [execOp, Stays]
  | pick c a b =>
    have : execOp ρ ⟨dst, .pick c a b, ty, pos, after, guard⟩ = (do pure (.value (← (do pure (if ← asBool (ρ c) then ρ a else ρ b) : Sem Value)))) := by simp [execOp]
    rw [this]; exact stays_value _
  | store t a x => exact stays_unit _
  | nilCheck x =>
    simp only [execOp]
    split
    · simp [runtimePanic, goPanic, Stays]
    · simp [runtimePanic, goPanic, Stays]
    · simp [runtimePanic, goPanic, Stays]
    · split
      · simp [runtimePanic, goPanic, Stays]
      · rename_i t u _
        simp only [Sem.run_bind, run_program, Result.andThen_ok]
        generalize (nilAhead (P.types.size + Made.depth) t u _).run P w = r
        cases r with
        | ok b w' =>
          simp only [Result.andThen_ok]
          split <;> simp [unsupported, Stays]
        | halt h w' => simp [Stays]
      · simp [Stays]
    · simp [Stays]
  | call c =>
    obtain ⟨callee, args, ats⟩ := c
    cases callee with
    | builtin b =>
      cases b with
      | len => exact stays_value (Builtin.len_ ats ty (args.map ρ))
      | append => exact stays_value (Builtin.append_ ats ty (args.map ρ))
      | copy => exact stays_value (Builtin.copy_ ats ty (args.map ρ))
      | min => exact stays_value (Builtin.min_ ats ty (args.map ρ))
      | max => exact stays_value (Builtin.max_ ats ty (args.map ρ))
      | _ => cases h
    | _ => cases h
  | alloc _ => exact stays_value _
  | box _ _ => exact stays_value _
  | build _ _ => exact stays_value _
  | buildSlice _ _ _ => exact stays_value _
  | load _ _ => exact stays_value _
  | binOp _ _ _ _ _ => exact stays_value _
  | unOp _ _ _ => exact stays_value _
  | convert _ _ _ => exact stays_value _
  | makeInterface _ _ => exact stays_value _
  | makeFunc _ _ _ => exact stays_value _
  | makeSlice _ _ _ => exact stays_value _
  | slice _ _ _ _ _ => exact stays_value _
  | fieldAddr _ _ _ => exact stays_value _
  | field _ _ _ => exact stays_value _
  | indexAddr _ _ _ => exact stays_value _
  | index _ _ _ => exact stays_value _
  | extract _ _ => exact stays_value _
  | _ => cases h

theorem wp_both {P : Program} {o : Oper} (h : plainO o = true) {a : Act} {w : World} {K K' : Act → World → Prop} {Q : Exit → Act → World → Prop} (h1 : o.wp P a w K Q) (h2 : o.wp P a w K' Q) : o.wp P a w (fun a w => K a w ∧ K' a w) Q := by
  have hs := plainO_ok (P := P) h a.eval w
  unfold Oper.wp at *
  generalize (execOp a.eval o).run P w = r at *
  cases r with
  | ok n w' =>
    cases n <;> first | exact ⟨h1, h2⟩ | exact hs.elim | exact h1.elim
  | halt x w' => cases x <;> first | exact h1 | exact h1.elim

theorem wpOp_both {P : Program} {ops : Array Oper} {Q : Exit → Act → World → Prop} (hq : ¬ LetsOut Q) {i : Nat} (hp : ∀ o, ops[i]? = some o → plainO o = true) {K K' : Act → World → Prop} {a : Act} {w : World} (h1 : wpOp P ops Q i K a w) (h2 : wpOp P ops Q i K' a w) : wpOp P ops Q i (fun a w => K a w ∧ K' a w) a w := by
  unfold wpOp at *
  split
  · rename_i e; simp only [e] at h1 h2; exact ⟨h1, h2⟩
  · rename_i o e
    simp only [e] at h1 h2
    split
    · rename_i hw
      rw [if_pos hw] at h1 h2
      rcases h1 with h1 | h1
      · rcases h2 with h2 | h2
        · exact .inl (wp_both (hp o e) h1 h2)
        · exact absurd h2.2 hq
      · exact absurd h1.2 hq
    · rename_i hw
      rw [if_neg hw] at h1 h2
      exact ⟨h1, h2⟩

/-- What must wait for x or for y; all else is plain. -/
structure SplitOk (ops : Array Oper) (x y : Nat) (blk : List Nat) : Prop where
  ne : x ≠ y
  plain : ∀ i o, ops[i]? = some o → plainO o = true ∨ i = x ∨ i = y ∨ i ∈ blk
  wait : ∀ i, i ∈ blk → ∃ o e, ops[i]? = some o ∧ e ∈ o.after.toList ∧ Region.binds .any e = true ∧ (e.on = x ∨ e.on = y ∨ e.on ∈ blk)

theorem addE_get (ops : Array Oper) (y x i : Nat) : (addE ops y x)[i]? = if i = y then (ops[i]?).map (fun o => { o with after := o.after.push ⟨x, .data⟩ }) else ops[i]? := by
  simp only [addE, Array.getElem?_modify]
  by_cases h : i = y
  · subst h; simp
  · rw [if_neg (fun e => h e.symm), if_neg h]

theorem addE_size (ops : Array Oper) (y x : Nat) : (addE ops y x).size = ops.size := by simp [addE]

theorem addE_yielded (ops : Array Oper) (y x : Nat) (tmps : Array Value) : yielded (addE ops y x) tmps = yielded ops tmps := by
  funext j
  unfold yielded
  have : ((addE ops y x)[j]?).bind (·.dst) = (ops[j]?).bind (·.dst) := by
    rw [addE_get]
    split
    · cases ops[j]? <;> rfl
    · rfl
  rw [this]

theorem addE_wpOp {P : Program} {ops : Array Oper} {Q : Exit → Act → World → Prop} {y x i : Nat} {K : Act → World → Prop} {a : Act} {w : World} (h : wpOp P (addE ops y x) Q i K a w) : wpOp P ops Q i K a w := by
  unfold wpOp at h ⊢
  rw [addE_get, addE_yielded] at h
  split at h
  · rename_i e
    split at e
    · cases ho : ops[i]? with
      | none => simp only; exact h
      | some o => rw [ho] at e; cases e
    · rw [e]; exact h
  · rename_i o e
    split at e
    · cases ho : ops[i]? with
      | none => rw [ho] at e; cases e
      | some o' =>
        rw [ho] at e
        simp only [Option.map_some, Option.some.injEq] at e
        subst e
        simp only
        exact h
    · rw [e]; exact h

theorem addE_ready_mem {ops : Array Oper} {listed : Array Bool} {y x i : Nat} (hi : i ∈ Region.ready .any (addE ops y x) listed) : i ∈ Region.ready .any ops listed := by
  simp only [Region.ready, List.mem_filter, List.mem_range, Bool.and_eq_true] at hi ⊢
  obtain ⟨h1, h2, h3⟩ := hi
  rw [addE_size] at h1
  refine ⟨h1, h2, ?_⟩
  rw [addE_get] at h3
  split at h3
  · cases ho : ops[i]? with
    | none => rw [ho] at h3; simp at h3
    | some o =>
      rw [ho] at h3
      simp only [Option.map_some, Option.getD_some, Array.all_push, Bool.and_eq_true] at h3 ⊢
      exact h3.1
  · exact h3

theorem addE_ready_mem' {ops : Array Oper} {listed : Array Bool} {y x i : Nat} (hi : i ∈ Region.ready .any ops listed) (h : i ≠ y ∨ listed.getD x false = true) : i ∈ Region.ready .any (addE ops y x) listed := by
  simp only [Region.ready, List.mem_filter, List.mem_range, Bool.and_eq_true] at hi ⊢
  obtain ⟨h1, h2, h3⟩ := hi
  refine ⟨by rw [addE_size]; exact h1, h2, ?_⟩
  rw [addE_get]
  split
  · rename_i e
    cases ho : ops[i]? with
    | none => rw [ho] at h3; simp at h3
    | some o =>
      rw [ho] at h3
      simp only [Option.map_some, Option.getD_some, Array.all_push, Bool.and_eq_true] at h3 ⊢
      refine ⟨h3, ?_⟩
      rcases h with h | h
      · exact absurd e h
      · simp only [Bool.or_eq_true]; exact .inr h
  · exact h3

/-- Once x is done the edge says nothing. -/
theorem wpAny_addE {P : Program} {ops : Array Oper} {Q : Exit → Act → World → Prop} {y x : Nat} : ∀ {fuel : Nat} {listed : Array Bool} {a : Act} {w : World}, listed.getD x false = true → wpAny P .any (addE ops y x) Q fuel listed a w → wpAny P .any ops Q fuel listed a w
  | 0, listed, a, w, hx, h => by
    refine ⟨?_, h.2⟩
    cases hr : Region.ready .any ops listed with
    | nil => rfl
    | cons i l =>
      have := addE_ready_mem' (y := y) (x := x) (i := i) (ops := ops) (listed := listed) (by rw [hr]; simp) (.inr hx)
      rw [h.1] at this; cases this
  | fuel + 1, listed, a, w, hx, h => by
    refine ⟨fun hr => h.1 ?_, fun i hi => ?_⟩
    · cases hr' : Region.ready .any (addE ops y x) listed with
      | nil => rfl
      | cons i l =>
        have := addE_ready_mem (ops := ops) (listed := listed) (y := y) (x := x) (i := i) (by rw [hr']; simp)
        rw [hr] at this; cases this
    · refine addE_wpOp (wpOp_mono (fun a w hk => wpAny_addE ?_ hk) (h.2 i (addE_ready_mem' hi (.inr hx))))
      simp only [Array.getD_eq_getD_getElem?, Array.getElem?_setIfInBounds] at hx ⊢
      split
      · rename_i e; subst e
        split <;> simp_all
      · exact hx


/-- Of two operations the one is first, or the other. -/
theorem wpAny_split {P : Program} {ops : Array Oper} {Q : Exit → Act → World → Prop} {x y : Nat} {blk : List Nat} (hk : SplitOk ops x y blk) (hq : ¬ LetsOut Q) : ∀ {fuel : Nat} {listed : Array Bool} {a : Act} {w : World}, listed.size = ops.size →
    (listed.getD x false = false ∧ listed.getD y false = false ∧ ∀ i, i ∈ blk → listed.getD i false = false) →
    wpAny P .any (addE ops y x) Q fuel listed a w → wpAny P .any (addE ops x y) Q fuel listed a w → wpAny P .any ops Q fuel listed a w
  | 0, listed, a, w, hs, hn, hA, hB => by
    refine ⟨?_, hA.2⟩
    cases hr : Region.ready .any ops listed with
    | nil => rfl
    | cons i l =>
      by_cases hi : i = y
      · have := addE_ready_mem' (y := x) (x := y) (i := i) (ops := ops) (listed := listed) (by rw [hr]; simp) (.inl (by rw [hi]; exact fun e => hk.ne e.symm))
        rw [hB.1] at this; cases this
      · have := addE_ready_mem' (y := y) (x := x) (i := i) (ops := ops) (listed := listed) (by rw [hr]; simp) (.inl hi)
        rw [hA.1] at this; cases this
  | fuel + 1, listed, a, w, hs, hn, hA, hB => by
    refine ⟨fun hr => hA.1 ?_, fun i hi => ?_⟩
    · cases hr' : Region.ready .any (addE ops y x) listed with
      | nil => rfl
      | cons i l =>
        have := addE_ready_mem (ops := ops) (listed := listed) (y := y) (x := x) (i := i) (by rw [hr']; simp)
        rw [hr] at this; cases this
    · have hin : i < listed.size := by rw [hs]; exact (ready_mem hi).1
      have hset : (listed.setIfInBounds i true).getD i false = true := by simp [Array.getD_eq_getD_getElem?, hin]
      by_cases hiy : i = y
      · -- y first
        have h2 := addE_wpOp (hB.2 i (addE_ready_mem' hi (.inl (by rw [hiy]; exact fun e => hk.ne e.symm))))
        exact wpOp_mono (fun a w hk => wpAny_addE (by rw [← hiy]; exact hset) hk) h2
      · have h1 := addE_wpOp (hA.2 i (addE_ready_mem' hi (.inl hiy)))
        by_cases hix : i = x
        · exact wpOp_mono (fun a w hk => wpAny_addE (by rw [← hix]; exact hset) hk) h1
        · have h2 := addE_wpOp (hB.2 i (addE_ready_mem' hi (.inl hix)))
          have hib : i ∉ blk := fun hb => by
            obtain ⟨o, e, ho, he, hbd, hon⟩ := hk.wait i hb
            have hl := (ready_mem hi).2.2 e (by
              have : ops.toList[i]? = some o := by simpa using ho
              simp only [afterB, this, List.mem_filter]
              exact ⟨he, hbd⟩)
            rcases hon with h | h | h
            · rw [h, hn.1] at hl; cases hl
            · rw [h, hn.2.1] at hl; cases hl
            · rw [hn.2.2 _ h] at hl; cases hl
          have hother : ∀ j, j ≠ i → listed.getD j false = false → (listed.setIfInBounds i true).getD j false = false := fun j hj hl => by
            have hij : ¬ i = j := fun e => hj e.symm
            simp only [Array.getD_eq_getD_getElem?, Array.getElem?_setIfInBounds, if_neg hij] at hl ⊢
            exact hl
          have hplain : ∀ o, ops[i]? = some o → plainO o = true := fun o ho => by
            rcases hk.plain i o ho with h | h | h | h
            · exact h
            · exact absurd h hix
            · exact absurd h hiy
            · exact absurd h hib
          exact wpOp_mono (fun a w hk' => wpAny_split hk hq (by simpa using hs) ⟨hother x (fun e => hix e.symm) hn.1, hother y (fun e => hiy e.symm) hn.2.1, fun j hj => hother j (fun e => hib (by rw [← e]; exact hj)) (hn.2.2 j hj)⟩ hk'.1 hk'.2) (wpOp_both hq hplain h1 h2)

/-! ### the operations in another row -/
def pos (π : List Nat) (i : Nat) : Nat := (idx π i).getD 0
def remap (π : List Nat) (o : Oper) : Oper := { o with after := o.after.map (fun e => { e with on := pos π e.on }), guard := o.guard.map fun g => (pos π g.1, g.2) }
def permO (ops : Array Oper) (π : List Nat) : Array Oper := (π.map fun i => remap π (ops.getD i default)).toArray
def permB (ops : Array Oper) (π : List Nat) : Bool :=
  π.length == ops.size && nodupB π && π.all (fun i => decide (i < ops.size)) && allB ops.size (fun i => (idx π i).isSome) && ops.toList.all fun o => o.after.toList.all (fun e => decide (e.on < ops.size)) && (match o.guard with | some g => decide (g.1 < ops.size) | none => true)

structure PermOk (ops : Array Oper) (π : List Nat) : Prop where
  len : π.length = ops.size
  nd : π.Nodup
  lt : ∀ i, i ∈ π → i < ops.size
  all : ∀ i, i < ops.size → ∃ p, idx π i = some p ∧ π[p]? = some i ∧ p < ops.size
  edge : ∀ o, o ∈ ops.toList → ∀ e, e ∈ o.after.toList → e.on < ops.size
  gd : ∀ o, o ∈ ops.toList → ∀ g, o.guard = some g → g.1 < ops.size

theorem permB_ok {ops : Array Oper} {π : List Nat} (h : permB ops π = true) : PermOk ops π := by
  simp only [permB, Bool.and_eq_true, beq_iff_eq, List.all_eq_true, decide_eq_true_eq] at h
  obtain ⟨⟨⟨⟨h1, h2⟩, h3⟩, h4⟩, h5⟩ := h
  refine ⟨h1, nodupB_ok h2, h3, fun i hi => ?_, fun o ho => (h5 o ho).1, fun o ho g hg => ?_⟩
  · obtain ⟨p, hp⟩ := Option.isSome_iff_exists.1 (allB_spec h4 hi)
    exact ⟨p, hp, idx_some hp, by rw [← h1]; exact idx_lt hp⟩
  · have := (h5 o ho).2
    rw [hg] at this
    simpa using this

section
variable {ops : Array Oper} {π : List Nat} (hπ : PermOk ops π)
include hπ

theorem pos_of {p i : Nat} (h : π[p]? = some i) : pos π i = p := by simp [pos, idx_of_nodup hπ.nd h]

theorem permO_get {p i : Nat} (h : π[p]? = some i) : ∃ o, ops[i]? = some o ∧ (permO ops π)[p]? = some (remap π o) := by
  have hi := hπ.lt i (List.mem_of_getElem? h)
  refine ⟨ops[i], Array.getElem?_eq_getElem hi, ?_⟩
  simp [permO, h, Array.getD_eq_getD_getElem?, hi]

theorem permO_yielded (tmps : Array Value) {j : Nat} (hj : j < ops.size) : yielded (permO ops π) tmps (pos π j) = yielded ops tmps j := by
  obtain ⟨p, h1, h2, h3⟩ := hπ.all j hj
  obtain ⟨o, k1, k2⟩ := permO_get hπ h2
  unfold yielded
  rw [pos_of hπ h2, k1, k2]
  rfl

theorem permO_wpOp {P : Program} {Q : Exit → Act → World → Prop} {p i : Nat} (h : π[p]? = some i) {K : Act → World → Prop} {a : Act} {w : World} (hw : wpOp P (permO ops π) Q p K a w) : wpOp P ops Q i K a w := by
  obtain ⟨o, k1, k2⟩ := permO_get hπ h
  unfold wpOp at hw ⊢
  rw [k2] at hw
  rw [k1]
  simp only at hw ⊢
  have e : Region.wanted (remap π o) (yielded (permO ops π) a.tmps) = Region.wanted o (yielded ops a.tmps) := by
    simp only [Region.wanted, remap]
    cases hg : o.guard with
    | none => rfl
    | some g =>
      have := hπ.gd o (by simpa using Array.mem_of_getElem? k1) g hg
      simp only [Option.map_some, permO_yielded hπ a.tmps this]
  rw [e] at hw
  exact hw

theorem permO_ready {listed listed' : Array Bool} (hs : listed.size = ops.size) (hs' : listed'.size = ops.size) (hl : ∀ p i, π[p]? = some i → listed'.getD p true = listed.getD i true) {p i : Nat} (h : π[p]? = some i) :
    p ∈ Region.ready .any (permO ops π) listed' ↔ i ∈ Region.ready .any ops listed := by
  obtain ⟨o, k1, k2⟩ := permO_get hπ h
  have hp : p < ops.size := by rw [← hπ.len]; exact (List.getElem?_eq_some_iff.1 h).1
  have hi := hπ.lt i (List.mem_of_getElem? h)
  have hf : ∀ j, j < ops.size → listed'.getD (pos π j) false = listed.getD j false := fun j hj => by
    obtain ⟨q, _, h2, h3⟩ := hπ.all j hj
    have := hl q j h2
    rw [pos_of hπ h2]
    simpa [Array.getD_eq_getD_getElem?, hs, hs', hj, h3] using this
  have he : (remap π o).after.all (fun e => !Region.binds .any e || listed'.getD e.on false) = o.after.all fun e => !Region.binds .any e || listed.getD e.on false := by
    simp only [remap, Array.all_map]
    rw [← Array.all_toList, ← Array.all_toList]
    have ho := hπ.edge o (by simpa using Array.mem_of_getElem? k1)
    generalize o.after.toList = l at ho
    induction l with
    | nil => rfl
    | cons e l ih =>
      simp only [List.all_cons, Function.comp]
      rw [ih (fun x hx => ho x (by simp [hx]))]
      congr 1
      rw [hf e.on (ho e (by simp))]
      rfl
  have hsz : (permO ops π).size = ops.size := by simp [permO, hπ.len]
  simp only [Region.ready, List.mem_filter, List.mem_range, Bool.and_eq_true, hsz, k1, k2, Option.map_some, Option.getD_some, he, hl p i h]
  exact ⟨fun hh => ⟨hi, hh.2⟩, fun hh => ⟨hp, hh.2⟩⟩

theorem permO_ready_nil {listed listed' : Array Bool} (hs : listed.size = ops.size) (hs' : listed'.size = ops.size) (hl : ∀ p i, π[p]? = some i → listed'.getD p true = listed.getD i true) :
    Region.ready .any (permO ops π) listed' = [] ↔ Region.ready .any ops listed = [] := by
  constructor
  · intro h
    cases hr : Region.ready .any ops listed with
    | nil => rfl
    | cons i l =>
      have hi : i ∈ Region.ready .any ops listed := by rw [hr]; simp
      obtain ⟨p, _, h2, _⟩ := hπ.all i (ready_mem hi).1
      have := (permO_ready hπ hs hs' hl h2).2 hi
      rw [h] at this; cases this
  · intro h
    cases hr : Region.ready .any (permO ops π) listed' with
    | nil => rfl
    | cons p l =>
      have hp : p ∈ Region.ready .any (permO ops π) listed' := by rw [hr]; simp
      have hlt := (ready_mem hp).1
      have : p < π.length := by simpa [permO] using hlt
      have := (permO_ready hπ hs hs' hl (List.getElem?_eq_getElem this)).1 hp
      rw [h] at this; cases this

theorem wpAny_perm {P : Program} {Q : Exit → Act → World → Prop} : ∀ {fuel : Nat} {listed listed' : Array Bool} {a : Act} {w : World}, listed.size = ops.size → listed'.size = ops.size → (∀ p i, π[p]? = some i → listed'.getD p true = listed.getD i true) →
    wpAny P .any (permO ops π) Q fuel listed' a w → wpAny P .any ops Q fuel listed a w
  | 0, listed, listed', a, w, hs, hs', hl, h => ⟨(permO_ready_nil hπ hs hs' hl).1 h.1, h.2⟩
  | fuel + 1, listed, listed', a, w, hs, hs', hl, h => by
    refine ⟨fun hr => h.1 ((permO_ready_nil hπ hs hs' hl).2 hr), fun i hi => ?_⟩
    obtain ⟨p, _, h2, _⟩ := hπ.all i (ready_mem hi).1
    refine permO_wpOp hπ h2 (wpOp_mono (fun a w hk => wpAny_perm (by simpa using hs) (by simpa using hs') (fun q j hq => ?_) hk) (h.2 p ((permO_ready hπ hs hs' hl h2).2 hi)))
    have hq1 : q < ops.size := by rw [← hπ.len]; exact (List.getElem?_eq_some_iff.1 hq).1
    have hj1 := hπ.lt j (List.mem_of_getElem? hq)
    have := hl q j hq
    simp only [Array.getD_eq_getD_getElem?, Array.getElem?_setIfInBounds] at this ⊢
    by_cases hqp : p = q
    · subst hqp
      rw [h2] at hq
      cases hq
      simp [hs, hs', hq1, hj1]
    · have hij : i ≠ j := fun e => by
        subst e
        exact hqp ((pos_of hπ h2).symm.trans (pos_of hπ hq))
      rw [if_neg hqp, if_neg hij]
      exact this

end
end Go.Proofs.Ytbbjmfkmjjinnaa.V
