/- The logic run on values that are all known: functions. No law of the program is proved here. -/
import Derived.Test.YtbbjmfkmjjinnaaVL
set_option linter.all false
namespace Go.Proofs.Ytbbjmfkmjjinnaa.V
open Go

mutual
def eqPV : PV → PV → Bool
  | .dead, .dead => true
  | .sc (.int k n), .sc (.int k' n') => decide (k = k') && decide (n = n')
  | .sc (.bool a), .sc (.bool b) => a == b
  | .sc (.string a), .sc (.string b) => decide (a.data = b.data)
  | .sc (.slice none 0 0), .sc (.slice none 0 0) => true
  | .sc (.pointer none), .sc (.pointer none) => true
  | .sc .nilIface, .sc .nilIface => true
  | .id i n, .id j m => Nat.beq i j && Nat.beq n m
  | .ix i o n, .ix j o' m => Nat.beq i j && Nat.beq o o' && Nat.beq n m
  | .ad i n, .ad j m => Nat.beq i j && Nat.beq n m
  | .ag a, .ag b => eqPL a b
  | .tu a, .tu b => eqPL a b
  | .im z n a, .im z' m b => (z == z') && Nat.beq n m && eqPL a b
  | .ip a, .ip b => eqPL a b
  | .ifc t p, .ifc t' q => Nat.beq t t' && eqPV p q
  | .gv g p, .gv g' q => (g == g') && eqPV p q
  | _, _ => false
def eqPL : List PV → List PV → Bool
  | [], [] => true
  | a :: l, b :: m => eqPV a b && eqPL l m
  | _, _ => false
end

mutual
theorem eqPV_ok : ∀ {p q : PV}, eqPV p q = true → p = q := by
  intro p q h
  unfold eqPV at h
  split at h
  all_goals first | (simp only [Bool.and_eq_true, decide_eq_true_eq, beq_iff_eq] at h) | skip
  · rfl
  · obtain ⟨rfl, rfl⟩ := h; rfl
  · subst h; rfl
  · rename_i a b; cases a; cases b; simp only at h; subst h; rfl
  · rfl
  · rfl
  · rfl
  · rw [Nat.eq_of_beq_eq_true h.1, Nat.eq_of_beq_eq_true h.2]
  · rw [Nat.eq_of_beq_eq_true h.1.1, Nat.eq_of_beq_eq_true h.1.2, Nat.eq_of_beq_eq_true h.2]
  · rw [Nat.eq_of_beq_eq_true h.1, Nat.eq_of_beq_eq_true h.2]
  · rw [eqPL_ok h]
  · rw [eqPL_ok h]
  · rw [h.1.1, Nat.eq_of_beq_eq_true h.1.2, eqPL_ok h.2]
  · rw [eqPL_ok h]
  · rw [Nat.eq_of_beq_eq_true h.1, eqPV_ok h.2]
  · rw [h.1, eqPV_ok h.2]
  · cases h
theorem eqPL_ok : ∀ {l m : List PV}, eqPL l m = true → l = m := by
  intro l m h
  unfold eqPL at h
  split at h
  · rfl
  · simp only [Bool.and_eq_true] at h
    rw [eqPV_ok h.1, eqPL_ok h.2]
  · cases h
end

/-! ### a drawn order -/
noncomputable def runD (P : Program) (N : Nat) (ds : List (Option Tmp)) (call : CallI) : List Oper → Env → Env → Heap → List DS → Option (Env × Env × Heap × List DS)
  | [], env, C, H, S => some (env, C, H, S)
  | o :: l, env, C, H, S => match stepI P N ds call o env H with
    | some (p, H') => runD P N ds call l (putE o.dst p env) (putEC o.dst p C) H' (S ++ [⟨o, rst (looks ds o) env, H, p, H'⟩])
    | none => none

def floatI (P : Program) (N : Nat) (ds : List (Option Tmp)) (o : Oper) (env : Env) (H : Heap) : Option PV :=
  if dstB N o then match o.op with
    | .load t x => match o.guard with
      | none => loadB (td P t) H (evalS env x)
      | some (j, w) => match effG ds env j w with
        | some true => loadB (td P t) H (evalS env x)
        | some false => some (.gv false (.sc (.bool true)))
        | none => none
    | _ => none
  else none

def floatsB (P : Program) (N : Nat) (ds : List (Option Tmp)) (S : List DS) (H1 : Heap) : List (Nat × Nat) → Bool
  | [] => true
  | (i, j) :: l => (match S[i]? with
    | some d => match floatI P N ds d.o d.env (hAt S H1 j) with
      | some p => eqPV p d.p
      | none => false
    | none => true) && floatsB P N ds S H1 l

theorem floatI_ok {P : Program} {N : Nat} {ds : List (Option Tmp)} {call : CallI} {o : Oper} {env : Env} {H : Heap} {p : PV} (h : floatI P N ds o env H = some p) : stepI P N ds call o env H = some (p, H) := by
  unfold floatI at h
  unfold stepI
  simp only [opJ_eq]
  split at h
  · rename_i hd
    rw [if_pos hd]
    split at h
    · rename_i t x ho
      have hopI : ∀ {q}, loadB (td P t) H (evalS env x) = some q → opI P call o env H = some (q, H) := fun {q} hq => by
        unfold opI targetB
        simp only [ho, opB, hq, Option.map_some]
      split at h
      · rename_i hg
        simp only [hg]
        exact hopI h
      · rename_i j w hg
        simp only [hg]
        split at h
        · rename_i he
          simp only [he]
          exact hopI h
        · rename_i he
          cases h
          simp only [he]
        · cases h
    · cases h
  · cases h

theorem floatsB_mem {P : Program} {N n0 : Nat} {ds : List (Option Tmp)} {call : CallI} (hc : CallOk P call) {S : List DS} {H1 : Heap} : ∀ {l : List (Nat × Nat)}, floatsB P N ds S H1 l = true → ∀ (i j : Nat) (d : DS), (i, j) ∈ l → S[i]? = some d → Exec P N n0 ds d.o d.env (hAt S H1 j) d.p (hAt S H1 j)
  | [], _, _, _, _, hm, _ => by cases hm
  | (i', j') :: l, h, i, j, d, hm, hd => by
    simp only [floatsB, Bool.and_eq_true] at h
    rcases List.mem_cons.1 hm with e | hm
    · cases e
      have h1 := h.1
      rw [hd] at h1
      simp only at h1
      split at h1
      · rename_i p hp
        have := eqPV_ok h1
        subst this
        exact (stepI_ok hc (floatI_ok (call := call) hp)).1
      · cases h1
    · exact floatsB_mem hc h.2 i j d hm hd

/-- What is no effect leaves the heap. -/
theorem stepI_quiet {P : Program} {N n0 : Nat} {ds : List (Option Tmp)} {call : CallI} (hc : CallOk P call) {o : Oper} {env : Env} {H H' : Heap} {p : PV} (h : stepI P N ds call o env H = some (p, H')) (he : effB o = false) : H' = H ∧ (heapB o = false → ∀ H2, Exec P N n0 ds o env H2 p H2) := by
  have hd := (stepI_ok (n0 := n0) hc h).2
  unfold stepI at h
  rw [if_pos hd] at h
  simp only [opJ_eq] at h
  have main : ∀ {p : PV} {H' : Heap}, opI P call o env H = some (p, H') → H' = H ∧ (heapB o = false → ∀ H2, Exec P N n0 ds { o with guard := none } env H2 p H2) := by
    intro p H' h
    unfold opI at h
    split at h
    · rename_i c x y ho
      split at h
      · rename_i hb; cases h; exact ⟨rfl, fun _ H2 => exec_pick (o := { o with guard := none }) ho rfl hd hb⟩
      · rename_i hb; cases h; exact ⟨rfl, fun _ H2 => exec_pick (o := { o with guard := none }) ho rfl hd hb⟩
      · cases h
    · rename_i hnp
      have hnp' : ∀ c x y, o.op ≠ .pick c x y := fun c x y he => hnp c x y he
      have ht : targetB P o env H = none := by
        unfold targetB
        unfold effB at he
        split
        · rename_i cl ho
          rw [ho] at he
          simp only [Bool.not_eq_false'] at he
          unfold quietB at he
          simp only at he
          split at he
          · rename_i hcl; simp only [hcl]
          · rename_i hcl; simp only [hcl]
          · rename_i hcl; simp only [hcl]
          · cases he
        · rfl
      rw [ht] at h
      simp only at h
      obtain ⟨ok, k1, k2⟩ := opB_ok h
      have hst : stepO P N ds { o with guard := none } env H = some (ok, p, H') := by
        unfold stepO
        rw [if_pos (show dstB N { o with guard := none } = true from hd)]
        simp only
        exact k1
      obtain ⟨e1, e2⟩ := stepO_heapless hst he
      exact ⟨e1, fun hh H2 => exec_step (e2 hh H2) k2⟩
  split at h
  · rename_i hg
    obtain ⟨h1, h2⟩ := main h
    refine ⟨h1, fun hh H2 => ?_⟩
    have := h2 hh H2
    have eo : ({ o with guard := none } : Oper) = o := by cases o; simp only at hg; subst hg; rfl
    rwa [eo] at this
  · rename_i j w hg
    split at h
    · rename_i hge
      obtain ⟨h1, h2⟩ := main h
      exact ⟨h1, fun hh H2 => exec_guard hg hge (h2 hh H2)⟩
    · rename_i hge
      cases h
      exact ⟨rfl, fun _ H2 => exec_skipG hg hge hd _⟩
    · cases h

theorem runD_ok {P : Program} {N n0 : Nat} {call : CallI} (hc : CallOk P call) {k : List KI} {Q : Env → Heap → Prop} {arr : Array Oper} {env0 : Env} {H0 : Heap} : ∀ {l : List Oper} {env C env' C' : Env} {H H' : Heap} {S S' : List DS},
    runD P N (arr.toList.map (·.dst)) call l env C H S = some (env', C', H', S') → (∀ t, look env t = look C t) → ((∀ t, look env' t = look C' t) → DW P N n0 k Q arr env0 H0 S' [] env' H') → DW P N n0 k Q arr env0 H0 S l env H
  | [], _, _, _, _, _, _, _, _, h, he, hk => by cases h; exact hk he
  | o :: l, env, C, env', C', H, H', S, S', h, he, hk => by
    simp only [runD] at h
    split at h
    · rename_i p H2 hs
      refine DW_exec (stepI_ok hc hs).1 (fun h1 => (stepI_quiet (n0 := n0) hc hs h1).1) (fun h1 h2 => (stepI_quiet hc hs h1).2 h2) (runD_ok hc h (fun t => ?_) hk)
      rw [look_putEC, put_match, put_match, he t]
    · cases h

/-! ### orders -/
/-- Two effects of which neither must be ahead. -/
def badPair (arr : List Oper) (zs : List Nat) : Option (Nat × Nat) :=
  ((List.range arr.length).flatMap fun y => ((List.range y).filter fun x => effAt arr x && effAt arr y && !mB zs y x).map fun x => (x, y)).head?

def topoStep (arr : Array Oper) (done : List Nat) : Option Nat := (List.range arr.size).find? fun i => !memB i done && (afterB arr.toList i).all fun e => memB e.on done
def topo (arr : Array Oper) : Nat → List Nat → List Nat
  | 0, done => done
  | f + 1, done => match topoStep arr done with
    | some i => topo arr f (done ++ [i])
    | none => done

theorem memB_mem {i : Nat} : ∀ {l : List Nat}, memB i l = true → i ∈ l
  | [], h => by cases h
  | j :: l, h => by
    simp only [memB, Bool.or_eq_true] at h
    rcases h with h | h
    · rw [Nat.eq_of_beq_eq_true h]; simp
    · exact List.mem_cons_of_mem _ (memB_mem h)

def waits (arr : Array Oper) (x y : Nat) : List Nat :=
  (List.range arr.size).foldl (fun b i => bif (afterB arr.toList i).any (fun e => Nat.beq e.on x || Nat.beq e.on y || memB e.on b) then b ++ [i] else b) []

def splitB (arr : Array Oper) (x y : Nat) (blk : List Nat) : Bool :=
  !Nat.beq x y && allB arr.size (fun i => (match arr[i]? with | some o => plainO o | none => true) || Nat.beq i x || Nat.beq i y || memB i blk) &&
    blk.all fun i => (afterB arr.toList i).any fun e => Nat.beq e.on x || Nat.beq e.on y || memB e.on blk

theorem splitB_ok {arr : Array Oper} {x y : Nat} {blk : List Nat} (h : splitB arr x y blk = true) : SplitOk arr x y blk := by
  simp only [splitB, Bool.and_eq_true, Bool.not_eq_true'] at h
  obtain ⟨⟨h1, h2⟩, h3⟩ := h
  refine ⟨fun e => ?_, fun i o ho => ?_, fun i hi => ?_⟩
  · rw [e, Nat.beq_refl] at h1; cases h1
  · have hi : i < arr.size := (Array.getElem?_eq_some_iff.1 ho).1
    have := allB_spec h2 hi
    simp only [ho, Bool.or_eq_true] at this
    rcases this with ((h | h) | h) | h
    · exact .inl h
    · exact .inr (.inl (Nat.eq_of_beq_eq_true h))
    · exact .inr (.inr (.inl (Nat.eq_of_beq_eq_true h)))
    · exact .inr (.inr (.inr (memB_mem h)))
  · have := List.all_eq_true.1 h3 i hi
    obtain ⟨e, he, hon⟩ := List.any_eq_true.1 this
    unfold afterB at he
    split at he
    · rename_i o ho
      obtain ⟨he1, he2⟩ := List.mem_filter.1 he
      refine ⟨o, e, by simpa using ho, he1, he2, ?_⟩
      simp only [Bool.or_eq_true] at hon
      rcases hon with (h | h) | h
      · exact .inl (Nat.eq_of_beq_eq_true h)
      · exact .inr (.inl (Nat.eq_of_beq_eq_true h))
      · exact .inr (.inr (memB_mem h))
    · cases he

noncomputable def evalA (P : Program) (N : Nat) (call : CallI) : Nat → Array Oper → Env → Heap → Option (List (Env × Heap)) := fun n =>
  Nat.rec (fun _ _ _ => none) (fun _ ih arr env H => match badPair arr.toList (masks [] arr.toList) with
    | none => match runD P N (arr.toList.map (·.dst)) call arr.toList env env H [] with
      | some (_, C, h, S) => if drawB arr.toList (masks [] arr.toList) && floatsB P N (arr.toList.map (·.dst)) S h (admL arr.toList (masks [] arr.toList)) then some [(C, h)] else none
      | none => none
    | some (x, y) => let B := addE arr x y
      let π := topo B B.size []
      if splitB arr x y (waits arr x y) && permB B π then match ih (addE arr y x) env H, ih (permO B π) env H with
        | some l1, some l2 => some (l1 ++ l2)
        | _, _ => none
      else none) n

theorem WA_split {P : Program} {N n0 : Nat} {k : List KI} {Q : Env → Heap → Prop} {arr : Array Oper} {env : Env} {H : Heap} {x y : Nat} {blk : List Nat} (hk : SplitOk arr x y blk) (hA : WA P N n0 k Q (addE arr y x) env H) (hB : WA P N n0 k Q (addE arr x y) env H) : WA P N n0 k Q arr env H := by
  intro m a w hm s
  have h1 := hA m a w hm s
  have h2 := hB m a w hm s
  rw [addE_size] at h1 h2
  refine wpAny_split hk ?_ (by simp) ⟨?_, ?_, fun i _ => ?_⟩ h1 h2
  rotate_left
  · simp only [Array.getD_eq_getD_getElem?, Array.getElem?_replicate]; split <;> rfl
  · simp only [Array.getD_eq_getD_getElem?, Array.getElem?_replicate]; split <;> rfl
  · simp only [Array.getD_eq_getD_getElem?, Array.getElem?_replicate]; split <;> rfl
  rintro ⟨a, w, h⟩
  exact h

theorem WA_perm {P : Program} {N n0 : Nat} {k : List KI} {Q : Env → Heap → Prop} {arr : Array Oper} {env : Env} {H : Heap} {π : List Nat} (hπ : PermOk arr π) (h : WA P N n0 k Q (permO arr π) env H) : WA P N n0 k Q arr env H := by
  intro m a w hm s
  have h1 := h m a w hm s
  have hsz : (permO arr π).size = arr.size := by simp [permO, hπ.len]
  rw [hsz] at h1
  refine wpAny_perm hπ (by simp) (by simp) (fun p i hp => ?_) h1
  have hp1 : p < arr.size := by rw [← hπ.len]; exact (List.getElem?_eq_some_iff.1 hp).1
  have hi1 := hπ.lt i (List.mem_of_getElem? hp)
  simp [Array.getD_eq_getD_getElem?, hp1, hi1]

theorem evalA_ok {P : Program} {N n0 : Nat} {call : CallI} (hc : CallOk P call) {k : List KI} {Q : Env → Heap → Prop} : ∀ (n : Nat) (arr : Array Oper) (env : Env) (H : Heap) (L : List (Env × Heap)), evalA P N call n arr env H = some L → (∀ r, r ∈ L → W P N n0 k Q r.1 r.2) → WA P N n0 k Q arr env H
  | 0, _, _, _, _, h, _ => by cases h
  | n + 1, arr, env, H, L, h, hL => by
    have h' : (match badPair arr.toList (masks [] arr.toList) with
      | none => match runD P N (arr.toList.map (·.dst)) call arr.toList env env H [] with
        | some (_, C, h, S) => if drawB arr.toList (masks [] arr.toList) && floatsB P N (arr.toList.map (·.dst)) S h (admL arr.toList (masks [] arr.toList)) then some [(C, h)] else none
        | none => none
      | some (x, y) => let B := addE arr x y
        let π := topo B B.size []
        if splitB arr x y (waits arr x y) && permB B π then match evalA P N call n (addE arr y x) env H, evalA P N call n (permO B π) env H with
          | some l1, some l2 => some (l1 ++ l2)
          | _, _ => none
        else none) = some L := h
    split at h'
    · split at h'
      · rename_i e C h2 S hr
        split at h'
        · rename_i hcond
          simp only [Bool.and_eq_true] at hcond
          cases h'
          exact DW_start (runD_ok hc hr (fun t => rfl) (fun he => DW_doneX _ hcond.1 (floatsB_mem hc hcond.2) (W_byEnv he (hL (C, h2) (by simp)))))
        · cases h'
      · cases h'
    · rename_i x y hb
      simp only at h'
      split at h'
      · rename_i hcond
        simp only [Bool.and_eq_true] at hcond
        split at h'
        · rename_i l1 l2 e1 e2
          cases h'
          exact WA_split (splitB_ok hcond.1) (evalA_ok hc n _ env H l1 e1 (fun r hr => hL r (by simp [hr]))) (WA_perm (permB_ok hcond.2) (evalA_ok hc n _ env H l2 e2 (fun r hr => hL r (by simp [hr]))))
        · cases h'
      · cases h'

/-! ### results that are alike, but for the objects' numbers -/
mutual
def pairsP : PV → PV → List (Nat × Nat)
  | .id i _, .id j _ => [(i, j)]
  | .ix i _ _, .ix j _ _ => [(i, j)]
  | .ad i _, .ad j _ => [(i, j)]
  | .ag a, .ag b => pairsL a b
  | .tu a, .tu b => pairsL a b
  | .ifc _ p, .ifc _ q => pairsP p q
  | .gv _ p, .gv _ q => pairsP p q
  | _, _ => []
def pairsL : List PV → List PV → List (Nat × Nat)
  | a :: l, b :: m => pairsP a b ++ pairsL l m
  | _, _ => []
end

def lookN : List (Nat × Nat) → Nat → Nat
  | [], i => i
  | (a, b) :: l, i => bif Nat.beq a i then b else lookN l i

def eqO : Option GObj → Option GObj → Bool
  | none, none => true
  | some a, some b => Nat.beq a.ty b.ty && (a.sl == b.sl) && Nat.beq a.sz b.sz && eqPL a.cells b.cells
  | _, _ => false
def eqH : Heap → Heap → Bool
  | [], [] => true
  | a :: l, b :: m => eqO a b && eqH l m
  | _, _ => false
def eqN : List Nat → List Nat → Bool
  | [], [] => true
  | a :: l, b :: m => Nat.beq a b && eqN l m
  | _, _ => false

theorem eqO_ok {a b : Option GObj} (h : eqO a b = true) : a = b := by
  unfold eqO at h
  split at h
  · rfl
  · rename_i a b
    simp only [Bool.and_eq_true, beq_iff_eq] at h
    obtain ⟨⟨⟨h1, h2⟩, h3⟩, h4⟩ := h
    cases a; cases b
    simp only at h1 h2 h3 h4
    rw [Nat.eq_of_beq_eq_true h1, h2, Nat.eq_of_beq_eq_true h3, eqPL_ok h4]
  · cases h
theorem eqH_ok : ∀ {a b : Heap}, eqH a b = true → a = b
  | [], [], _ => rfl
  | a :: l, b :: m, h => by
    simp only [eqH, Bool.and_eq_true] at h
    rw [eqO_ok h.1, eqH_ok h.2]
  | [], _ :: _, h => by cases h
  | _ :: _, [], h => by cases h
theorem eqN_ok : ∀ {a b : List Nat}, eqN a b = true → a = b
  | [], [], _ => rfl
  | a :: l, b :: m, h => by
    simp only [eqN, Bool.and_eq_true] at h
    rw [Nat.eq_of_beq_eq_true h.1, eqN_ok h.2]
  | [], _ :: _, h => by cases h
  | _ :: _, [], h => by cases h

def keysB (C : Env) (keys : List Nat) : Bool := C.all fun x => memB x.1 keys

theorem look_none {C : Env} {t : Nat} (h : t ∉ C.map (·.1)) : look C t = .dead := by
  induction C with
  | nil => rfl
  | cons x C ih =>
    obtain ⟨k, p⟩ := x
    simp only [List.map_cons, List.mem_cons, not_or] at h
    simp only [look, if_neg h.1]
    exact ih h.2

/-- Is the second like the first, where the objects ahead of L stay as they are? -/
def alikeB (L : Nat) (C : Env) (h : Heap) (C' : Env) (h' : Heap) : Bool :=
  let prs := C.flatMap fun x => pairsP x.2 (look C' x.1)
  let src := (List.range h.length).map (lookN prs)
  nodupB src && eqN (src.take L) (List.range L) && keysB C' (C.map (·.1)) && (C.all fun x => eqPV (look C x.1) (ren (idx src) (look C' x.1))) && eqH h (renH src h')

theorem alikeB_ok {P : Program} {N n0 : Nat} {k : List KI} {Q : Env → Heap → Prop} {L : Nat} {C C' : Env} {h h' : Heap} (ha : alikeB L C h C' h' = true) (hL : n0 ≤ L) (hw : W P N n0 k Q C h) : W P N n0 k Q C' h' := by
  simp only [alikeB, Bool.and_eq_true] at ha
  obtain ⟨⟨⟨⟨h1, h2⟩, h3⟩, h4⟩, h5⟩ := ha
  have e2 := eqN_ok h2
  refine W_ren _ (nodupB_ok h1) ?_ ?_
  · have := congrArg (List.take n0) e2
    rw [List.take_take, Nat.min_eq_left hL] at this
    rw [this, List.take_range, Nat.min_eq_left hL]
  · rw [← eqH_ok h5]
    refine W_byEnv (fun t => ?_) hw
    rw [look_renE]
    by_cases ht : t ∈ C.map (·.1)
    · obtain ⟨x, hx, rfl⟩ := List.mem_map.1 ht
      exact (eqPV_ok (List.all_eq_true.1 h4 x hx)).symm
    · have : t ∉ C'.map (·.1) := fun hm => by
        obtain ⟨x, hx, rfl⟩ := List.mem_map.1 hm
        exact ht (memB_mem (List.all_eq_true.1 h3 x hx))
      rw [look_none ht, look_none this]; rfl

/-! ### forcing: the kernel works out what it is given, ahead of going on -/
noncomputable def frcN {α : Type} (n : Nat) (k : Nat → α) : α := Nat.rec (motive := fun _ => α) (k 0) (fun m _ => k (Nat.succ m)) n
theorem frcN_eq {α : Type} (n : Nat) (k : Nat → α) : frcN n k = k n := by cases n <;> rfl
noncomputable def frcI {α : Type} (n : Int) (k : Int → α) : α := Int.rec (motive := fun _ => α) (fun m => frcN m fun m => k (Int.ofNat m)) (fun m => frcN m fun m => k (Int.negSucc m)) n
theorem frcI_eq {α : Type} (n : Int) (k : Int → α) : frcI n k = k n := by
  cases n with
  | ofNat m => exact frcN_eq m fun m => k (Int.ofNat m)
  | negSucc m => exact frcN_eq m fun m => k (Int.negSucc m)
noncomputable def frcV {α : Type} (v : Value) (k : Value → α) : α := match v with
  | .int q n => frcI n fun n => k (.int q n)
  | .bool b => Bool.rec (motive := fun _ => α) (k (.bool false)) (k (.bool true)) b
  | v => k v
theorem frcV_eq {α : Type} (v : Value) (k : Value → α) : frcV v k = k v := by
  unfold frcV
  split
  · exact frcI_eq _ _
  · rename_i b; cases b <;> rfl
  · rfl

noncomputable def frcLs {β α : Type} (f : β → (β → α) → α) (l : List β) : (List β → α) → α :=
  List.rec (motive := fun _ => (List β → α) → α) (fun k => k []) (fun x _ ih k => f x fun x => ih fun l => k (x :: l)) l
theorem frcLs_eq {β α : Type} {f : β → (β → α) → α} (hf : ∀ x k, f x k = k x) (l : List β) (k : List β → α) : frcLs f l k = k l := by
  induction l generalizing k with
  | nil => rfl
  | cons x l ih =>
    show f x (fun x => frcLs f l fun l => k (x :: l)) = _
    rw [hf, ih]

/-- One level of a value, and of what lies in it, so far as d goes. -/
noncomputable def frcP {α : Type} (d : Nat) : PV → (PV → α) → α :=
  Nat.rec (motive := fun _ => PV → (PV → α) → α) (fun p k => k p) (fun _ ih p k => match p with
    | .sc v => frcV v fun v => k (.sc v)
    | .id i n => frcN i fun i => frcN n fun n => k (.id i n)
    | .ix i o n => frcN i fun i => frcN o fun o => frcN n fun n => k (.ix i o n)
    | .ad i o => frcN i fun i => frcN o fun o => k (.ad i o)
    | .im z n cells => frcN n fun n => frcLs ih cells fun cells => k (.im z n cells)
    | .ip cells => frcLs ih cells fun cells => k (.ip cells)
    | .ag ps => frcLs ih ps fun ps => k (.ag ps)
    | .tu ps => frcLs ih ps fun ps => k (.tu ps)
    | .fn f a b => frcLs ih a fun a => frcLs ih b fun b => k (.fn f a b)
    | .ifc t p => ih p fun p => k (.ifc t p)
    | p => k p) d
theorem frcP_eq {α : Type} : ∀ (d : Nat) (p : PV) (k : PV → α), frcP d p k = k p
  | 0, _, _ => rfl
  | d + 1, p, k => by
    have ih : ∀ p (k : PV → α), frcP d p k = k p := fun p k => frcP_eq d p k
    cases p with
    | sc v => exact frcV_eq v fun v => k (.sc v)
    | id i n => show frcN i (fun i => frcN n fun n => k (.id i n)) = _; rw [frcN_eq, frcN_eq]
    | ix i o n => show frcN i (fun i => frcN o fun o => frcN n fun n => k (.ix i o n)) = _; rw [frcN_eq, frcN_eq, frcN_eq]
    | ad i o => show frcN i (fun i => frcN o fun o => k (.ad i o)) = _; rw [frcN_eq, frcN_eq]
    | im z n cells => show frcN n (fun n => frcLs (frcP d) cells fun cells => k (.im z n cells)) = _; rw [frcN_eq, frcLs_eq ih]
    | ip cells => show frcLs (frcP d) cells (fun cells => k (.ip cells)) = _; rw [frcLs_eq ih]
    | ag ps => show frcLs (frcP d) ps (fun cells => k (.ag cells)) = _; rw [frcLs_eq ih]
    | tu ps => show frcLs (frcP d) ps (fun cells => k (.tu cells)) = _; rw [frcLs_eq ih]
    | fn f a b => show frcLs (frcP d) a (fun a => frcLs (frcP d) b fun b => k (.fn f a b)) = _; rw [frcLs_eq ih, frcLs_eq ih]
    | ifc t p => show frcP d p (fun p => k (.ifc t p)) = _; rw [ih]
    | dead => rfl
    | gv g p => rfl

noncomputable def frcE {α : Type} (env : Env) (k : Env → α) : α := frcLs (fun (x : Nat × PV) k => frcN x.1 fun i => frcP 6 x.2 fun p => k (i, p)) env k
theorem frcE_eq {α : Type} (env : Env) (k : Env → α) : frcE env k = k env := frcLs_eq (fun x k => by rw [frcN_eq, frcP_eq]) env k
noncomputable def frcO {α : Type} (o : Option GObj) (k : Option GObj → α) : α := match o with
  | none => k none
  | some o => frcLs (frcP 6) o.cells fun cells => k (some ⟨o.ty, o.sl, o.sz, cells⟩)
theorem frcO_eq {α : Type} (o : Option GObj) (k : Option GObj → α) : frcO o k = k o := by
  cases o with
  | none => rfl
  | some o => show frcLs (frcP 6) o.cells (fun cells => k (some ⟨o.ty, o.sl, o.sz, cells⟩)) = _; rw [frcLs_eq (fun p k => frcP_eq 6 p k)]
noncomputable def frcH {α : Type} (H : Heap) (k : Heap → α) : α := frcLs frcO H k
theorem frcH_eq {α : Type} (H : Heap) (k : Heap → α) : frcH H k = k H := frcLs_eq frcO_eq H k
noncomputable def frcEH {α : Type} (env : Env) (H : Heap) (k : Env → Heap → α) : α := frcE env fun env => frcH H fun H => k env H
theorem frcEH_eq {α : Type} (env : Env) (H : Heap) (k : Env → Heap → α) : frcEH env H k = k env H := by unfold frcEH; rw [frcE_eq, frcH_eq]

/-! ### code -/
inductive Ex where
  | norm | ret | exit (id : Nat)

noncomputable def codeI (P : Program) (N : Nat) (call : CallI) : Nat → Code → Env → Heap → Option (Ex × Env × Heap) := fun n =>
  Nat.rec (fun _ _ _ => none) (fun _ ih c env H => match c with
    | .skip => some (.norm, env, H)
    | .label _ => some (.norm, env, H)
    | .ret => some (.ret, env, H)
    | .exit id => some (.exit id, env, H)
    | .seq x y => match ih x env H with
      | some (.norm, e, h) => ih y e h
      | r => r
    | .block id c => match ih c env H with
      | some (.exit id', e, h) => if Nat.beq id' id then some (.norm, e, h) else some (.exit id', e, h)
      | r => r
    | .cond c x y => match evalS env c with
      | .sc (.bool true) => ih x env H
      | .sc (.bool false) => ih y env H
      | _ => none
    | .loop b => frcEH env H fun env H => match ih b env H with
      | some (.norm, e, h) => ih (.loop b) e h
      | r => r
    | .region _ arr false => match runI P N (arr.toList.map (·.dst)) call arr.toList env H with
      | some (e, h) => some (.norm, e, h)
      | none => none
    | .region _ arr true => match evalA P N call 4 arr env H with
      | some ((C, h) :: rest) => if P.follows .mixedOrders && rest.all (fun r => alikeB H.length C h r.1 r.2) then some (.norm, C, h) else none
      | _ => none
    | _ => none) n

def Post (P : Program) (N n0 : Nat) (k : List KI) (Q : Env → Heap → Prop) : Ex → Env → Heap → Prop
  | .norm, env, H => W P N n0 k Q env H
  | .ret, env, H => Q env H
  | .exit id, env, H => ∃ k', dropTo id k = some k' ∧ W P N n0 k' Q env H

theorem codeI_ok {P : Program} {N n0 : Nat} {call : CallI} (hc : CallOk P call) {Q : Env → Heap → Prop} : ∀ (n : Nat) (c : Code) (env env' : Env) (H H' : Heap) (x : Ex) (k : List KI), codeI P N call n c env H = some (x, env', H') → Post P N n0 k Q x env' H' → W P N n0 (.code c :: k) Q env H := by
  intro n
  induction n using Nat.strongRecOn with
  | _ n ih =>
    intro c env env' H H' x k h hp
    cases n with
    | zero => cases h
    | succ f =>
      have ih' := ih f (Nat.lt_succ_self f)
      cases c with
      | skip => cases h; exact W_skip hp
      | label l => cases h; exact W_label hp
      | ret => cases h; exact W_ret hp
      | exit id => cases h; obtain ⟨k', h1, h2⟩ := hp; exact W_exit h1 h2
      | seq a b =>
        have h' : (match codeI P N call f a env H with | some (.norm, e, h) => codeI P N call f b e h | r => r) = some (x, env', H') := h
        cases ha : codeI P N call f a env H with
        | none => rw [ha] at h'; cases h'
        | some r =>
          obtain ⟨xa, ea, Ha⟩ := r
          rw [ha] at h'
          cases xa with
          | norm => exact W_seq (ih' a env ea H Ha .norm (.code b :: k) ha (ih' b ea env' Ha H' x k h' hp))
          | ret => cases h'; exact W_seq (ih' a env _ H _ .ret (.code b :: k) ha hp)
          | exit id => cases h'; exact W_seq (ih' a env _ H _ (.exit id) (.code b :: k) ha hp)
      | block id a =>
        have h' : (match codeI P N call f a env H with | some (.exit id', e, h) => if Nat.beq id' id then some (.norm, e, h) else some (.exit id', e, h) | r => r) = some (x, env', H') := h
        cases ha : codeI P N call f a env H with
        | none => rw [ha] at h'; cases h'
        | some r =>
          obtain ⟨xa, ea, Ha⟩ := r
          rw [ha] at h'
          cases xa with
          | norm => cases h'; exact W_block (ih' a env _ H _ .norm (.blk id :: k) ha (W_blk hp))
          | ret => cases h'; exact W_block (ih' a env _ H _ .ret (.blk id :: k) ha hp)
          | exit id' =>
            simp only at h'
            split at h'
            · rename_i he
              cases h'
              have := Nat.eq_of_beq_eq_true he
              subst this
              exact W_block (ih' a env _ H _ (.exit id') (.blk id' :: k) ha ⟨k, by simp [dropTo], hp⟩)
            · rename_i he
              cases h'
              have hne : id' ≠ id := fun e => he (by rw [e]; exact Nat.beq_refl id)
              obtain ⟨k', h1, h2⟩ := hp
              exact W_block (ih' a env _ H _ (.exit id') (.blk id :: k) ha ⟨k', by simp only [dropTo, if_neg hne]; exact h1, h2⟩)
      | cond c a b =>
        have h' : (match evalS env c with | .sc (.bool true) => codeI P N call f a env H | .sc (.bool false) => codeI P N call f b env H | _ => none) = some (x, env', H') := h
        split at h'
        · rename_i hb
          exact W_condS hb (fun _ => ih' a env env' H H' x k h' hp) (fun e => by cases e)
        · rename_i hb
          exact W_condS hb (fun e => by cases e) (fun _ => ih' b env env' H H' x k h' hp)
        · cases h'
      | loop b =>
        refine W_loop (fun n env H => n ≤ f + 1 ∧ codeI P N call n (.loop b) env H = some (x, env', H')) (f + 1) ⟨Nat.le_refl _, h⟩ ?_
        rintro n e1 h1 ⟨hn, hI⟩
        cases n with
        | zero => cases hI
        | succ g =>
          have h' : (match codeI P N call g b e1 h1 with | some (.norm, e, h) => codeI P N call g (.loop b) e h | r => r) = some (x, env', H') := by
            have h0 : frcEH e1 h1 (fun env H => match codeI P N call g b env H with | some (.norm, e, h) => codeI P N call g (.loop b) e h | r => r) = some (x, env', H') := hI
            rwa [frcEH_eq] at h0
          cases hb : codeI P N call g b e1 h1 with
          | none => rw [hb] at h'; cases h'
          | some r =>
            obtain ⟨xb, eb, Hb⟩ := r
            rw [hb] at h'
            cases xb with
            | norm => exact ih g (by omega) b e1 eb h1 Hb .norm _ hb (W_inv ⟨g, Nat.lt_succ_self g, by omega, h'⟩)
            | ret => cases h'; exact ih g (by omega) b e1 _ h1 _ .ret _ hb hp
            | exit id => cases h'; exact ih g (by omega) b e1 _ h1 _ (.exit id) _ hb hp
      | region id arr dr =>
        cases dr with
        | false =>
          have h' : (match runI P N (arr.toList.map (·.dst)) call arr.toList env H with | some (e, h) => some (Ex.norm, e, h) | none => none) = some (x, env', H') := h
          split at h'
          · rename_i e h2 hr
            cases h'
            exact W_region (runI_ok hc hr hp)
          · cases h'
        | true =>
          have h' : (match evalA P N call 4 arr env H with
            | some ((C, h) :: rest) => if P.follows .mixedOrders && rest.all (fun r => alikeB H.length C h r.1 r.2) then some (Ex.norm, C, h) else none
            | _ => none) = some (x, env', H') := h
          split at h'
          · rename_i C h2 rest hr
            split at h'
            · rename_i hcond
              simp only [Bool.and_eq_true] at hcond
              cases h'
              intro m a w hm s
              have hn : n0 ≤ H.length := by
                obtain ⟨S, β, sc⟩ := s
                rw [← hm]; exact sc.n0
              refine W_any hcond.1 (evalA_ok hc 4 arr env H _ hr (fun r hr => ?_)) m a w hm s
              rcases List.mem_cons.1 hr with rfl | hr
              · exact hp
              · exact alikeB_ok (List.all_eq_true.1 hcond.2 r hr) hn hp
            · cases h'
          · cases h'
      | _ => cases h

/-! ### functions -/
def resB (P : Program) (env : Env) (H : Heap) : List ResultVar → Option (List PV)
  | [] => some []
  | .tmp t :: l => match resB P env H l with
    | some ps => some (unT (look env t) :: ps)
    | none => none
  | .cell a t :: l => match loadB (td P t) H (unT (look env a)), resB P env H l with
    | some p, some ps => some (p :: ps)
    | _, _ => none

theorem resB_ok {P : Program} {env : Env} {H : Heap} : ∀ {l : List ResultVar} {ps : List PV}, resB P env H l = some ps → ∃ ok, resP P env H l = some (ok, ps) ∧ ok
  | [], _, h => by cases h; exact ⟨True, rfl, trivial⟩
  | .tmp t :: l, ps, h => by
    simp only [resB] at h
    split at h
    · rename_i qs hq
      cases h
      obtain ⟨ok, h1, h2⟩ := resB_ok hq
      exact ⟨ok, by simp only [resP, h1, Option.map_some], h2⟩
    · cases h
  | .cell a t :: l, ps, h => by
    simp only [resB] at h
    split at h
    · rename_i p qs hp hq
      cases h
      obtain ⟨ok, h1, h2⟩ := resB_ok hq
      obtain ⟨ok', h3, h4⟩ := loadB_ok hp
      exact ⟨ok' ∧ ok, by simp only [resP, h3, h1], h4, h2⟩
    · cases h

def finI (P : Program) (rv : List ResultVar) (n0 : Nat) (env : Env) (H : Heap) : Option (PV × Heap) :=
  match resB P env H rv with
  | some ps =>
    let src := List.range n0 ++ (reach H (H.length * 64 + 4096) (List.range n0 ++ idsL ps) []).filter (fun i => Nat.ble n0 i)
    if nodupB src then some (ren (idx src) (one ps), renH src H) else none
  | none => none

noncomputable def fnI (P : Program) (fuel : Nat) : Nat → CallI := fun d =>
  Nat.rec (fun _ _ _ => none) (fun _ ih f args H => match P.funcs[f]? with
    | some fn => match fn.body with
      | some code => if Nat.ble args.length fn.ntmps then frcEH (argE 0 args) H fun env H => match codeI P fn.ntmps ih fuel code env H with
        | some (.exit _, _, _) => none
        | some (_, env', H') => frcEH env' H' fun env' H' => finI P fn.results.toList H.length env' H'
        | none => none
        else none
      | none => none
    | none => none) d

theorem fnI_ok {P : Program} {fuel : Nat} : ∀ (d : Nat), CallOk P (fnI P fuel d)
  | 0 => fun f args H0 r H1 h => by cases h
  | d + 1 => by
    intro f args H0 r H1 h
    have h' : (match P.funcs[f]? with
      | some fn => match fn.body with
        | some code => if Nat.ble args.length fn.ntmps then match codeI P fn.ntmps (fnI P fuel d) fuel code (argE 0 args) H0 with
          | some (.exit _, _, _) => none
          | some (_, env', H') => finI P fn.results.toList H0.length env' H'
          | none => none
          else none
        | none => none
      | none => none) = some (r, H1) := by
        have h0 : (match P.funcs[f]? with
          | some fn => match fn.body with
            | some code => if Nat.ble args.length fn.ntmps then frcEH (argE 0 args) H0 fun env H => match codeI P fn.ntmps (fnI P fuel d) fuel code env H with
              | some (.exit _, _, _) => none
              | some (_, env', H') => frcEH env' H' fun env' H' => finI P fn.results.toList H.length env' H'
              | none => none
              else none
            | none => none
          | none => none) = some (r, H1) := h
        simp only [frcEH_eq] at h0
        exact h0
    split at h'
    · rename_i fn hf
      split at h'
      · rename_i code hb
        split at h'
        · rename_i hle
          have fin : ∀ {env' : Env} {H' : Heap}, finI P fn.results.toList H0.length env' H' = some (r, H1) → Ret P fn.results.toList H0.length r H1 env' H' := by
            intro env' H' hfin
            unfold finI at hfin
            split at hfin
            · rename_i ps hps
              simp only at hfin
              split at hfin
              · rename_i hnd
                cases hfin
                obtain ⟨ok, h1, h2⟩ := resB_ok hps
                exact ⟨_, ok, ps, h1, h2, nodupB_ok hnd, by simp, rfl, rfl⟩
              · cases hfin
            · cases hfin
          split at h'
          · cases h'
          · rename_i x env' H' hx hcode
            refine GC_body hf hb (Nat.le_of_ble_eq_true hle) (codeI_ok (fnI_ok d) fuel code _ env' _ H' x [] hcode ?_)
            cases x with
            | norm => exact W_nil (fin h')
            | ret => exact fin h'
            | exit id => exact (hx id rfl).elim
          · cases h'
        · cases h'
      · cases h'
    · cases h'

/-- A contract by running. -/
theorem GC_run {P : Program} (fuel d : Nat) {f : FuncId} {args : List PV} {H0 : Heap} {r : PV} {H1 : Heap} (h : fnI P fuel d f args H0 = some (r, H1)) : GC P f args H0 r H1 := fnI_ok d _ _ _ _ _ h

end Go.Proofs.Ytbbjmfkmjjinnaa.V
