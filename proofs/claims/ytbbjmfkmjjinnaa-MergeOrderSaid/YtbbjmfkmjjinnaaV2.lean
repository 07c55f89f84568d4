/- The logic's sentences: what is left of a function's code, with an environment and a heap of the proof's own; the rules for control. No law of the program is proved here. -/
import Derived.Test.YtbbjmfkmjjinnaaV1
set_option linter.all false
namespace Go.Proofs.Ytbbjmfkmjjinnaa.V
open Go

inductive KI where
  | code (c : Code)
  | ops (ds : List (Option Tmp)) (l : List Oper)
  | blk (id : Nat)
  | inv (I : Env → Heap → Prop)

def yieldedL (ds : List (Option Tmp)) (tmps : Array Value) (j : Nat) : Option Bool :=
  match ((ds[j]?).bind fun x => x).bind (tmps[·]?) with
  | some (.bool b) => some b
  | _ => none

def wpL (P : Program) (ds : List (Option Tmp)) (R : Act → World → Prop) : List Oper → Act → World → Prop
  | [] => R
  | o :: l => fun a w => if Region.wanted o (yieldedL ds a.tmps) then o.wp P a w (wpL P ds R l) (fun _ _ _ => False) else wpL P ds R l (a.put o.dst undef) w

theorem wp_op_mono {P : Program} {o : Oper} {a : Act} {w : World} {next next' : Act → World → Prop} {Q Q' : Exit → Act → World → Prop} (h : o.wp P a w next Q)
    (hn : ∀ a w, next a w → next' a w) (hq : ∀ e a w, Q e a w → Q' e a w) : o.wp P a w next' Q' := by
  unfold Oper.wp at *
  generalize (execOp a.eval o).run P w = r at *
  unfold Oper.upon at *
  split at h
  · exact hn _ _ h
  · exact hn _ _ h
  · exact hn _ _ h
  · refine h.mono fun e w' he => ?_
    cases e with
    | returned v => exact hn _ _ he
    | panicked c => exact hq _ _ _ he
    | outgrown => obtain ⟨a, w, h⟩ := he; exact ⟨a, w, hq _ _ _ h⟩
  · exact h.mono fun v w' he => hn _ _ he
  · exact hq _ _ _ h
  · exact h.elim

theorem yielded_eq (arr : Array Oper) (tmps : Array Value) (j : Nat) : yielded arr tmps j = yieldedL (arr.toList.map (·.dst)) tmps j := by
  unfold yielded yieldedL
  have : ((arr[j]?).bind (·.dst)) = (((arr.toList.map (·.dst))[j]?).bind fun x => x) := by
    rw [List.getElem?_map, Array.getElem?_toList]
    cases arr[j]? <;> rfl
  rw [this]
  generalize ((((arr.toList.map (·.dst))[j]?).bind fun x => x).bind (tmps[·]?)) = q
  rcases q with _ | v
  · rfl
  · cases v <;> rfl

theorem wpOps_of_wpL {P : Program} {arr : Array Oper} {R : Act → World → Prop} {Q : Exit → Act → World → Prop} (hq : ∀ a w, R a w → Q .normal a w) :
    ∀ (l : List Oper) (i : Nat), l = arr.toList.drop i → i ≤ arr.size → ∀ a w, wpL P (arr.toList.map (·.dst)) R l a w → wpOps P arr Q (List.range' i (arr.size - i)) a w := by
  intro l
  induction l with
  | nil =>
    intro i hl hi a w h
    have hi' : arr.size ≤ i := by
      have := congrArg List.length hl
      simp at this; omega
    rw [show arr.size - i = 0 by omega]
    exact hq a w h
  | cons o l ih =>
    intro i hl hi a w h
    have hlen := congrArg List.length hl
    simp at hlen
    have hi' : i < arr.size := by omega
    have ho : arr[i]? = some o := by
      rw [← Array.getElem?_toList, ← Nat.add_zero i, ← List.getElem?_drop, ← hl]; rfl
    have hl' : l = arr.toList.drop (i + 1) := by
      have e := congrArg List.tail hl
      rw [List.tail_cons, List.tail_drop] at e
      exact e
    rw [show arr.size - i = (arr.size - (i + 1)) + 1 by omega, List.range'_succ]
    simp only [wpOps, ho]
    simp only [wpL] at h
    have hy : yielded arr a.tmps = yieldedL (arr.toList.map (·.dst)) a.tmps := funext fun j => yielded_eq arr a.tmps j
    rw [hy]
    split
    · rename_i hw
      rw [if_pos hw] at h
      exact .inl (wp_op_mono h (fun a w k => ih (i + 1) hl' hi' a w k) (fun _ _ _ k => k.elim))
    · rename_i hw
      rw [if_neg hw] at h
      exact ih (i + 1) hl' hi' _ w h

def sem (P : Program) (R : Act → World → Prop) (J : (Env → Heap → Prop) → Act → World → Prop) : List KI → (Act → World → Prop) × (Nat → Act → World → Prop)
  | [] => (R, fun _ _ _ => False)
  | .code c :: k => (fun a w => c.wp P (fun e a w => match e with | .normal => (sem P R J k).1 a w | .ret => R a w | .exit id => (sem P R J k).2 id a w | _ => False) a w, (sem P R J k).2)
  | .ops ds l :: k => (wpL P ds (sem P R J k).1 l, (sem P R J k).2)
  | .blk id :: k => ((sem P R J k).1, fun id' => if id' = id then (sem P R J k).1 else (sem P R J k).2 id')
  | .inv I :: k => (J I, (sem P R J k).2)

/-- What is left of the code, done from such an environment and heap, ends as Q says. N: how many slots there are. -/
def W (P : Program) (N n0 : Nat) (k : List KI) (Q : Env → Heap → Prop) (env : Env) (H : Heap) : Prop :=
  ∀ (m : Amb) (a : Act) (w : World), m.n0 = n0 → Sim m N env H a w →
    (sem P (fun a w => ∃ env' H', Sim m N env' H' a w ∧ Q env' H') (fun I a w => ∃ env' H', Sim m N env' H' a w ∧ I env' H') k).1 a w

section
variable {P : Program} {N n0 : Nat} {k : List KI} {Q : Env → Heap → Prop} {env : Env} {H : Heap}

theorem W_nil (h : Q env H) : W P N n0 [] Q env H := fun _ _ _ _ s => ⟨env, H, s, h⟩
theorem W_inv {I : Env → Heap → Prop} (h : I env H) : W P N n0 (.inv I :: k) Q env H := fun _ _ _ _ s => ⟨env, H, s, h⟩
theorem W_blk {id : Nat} (h : W P N n0 k Q env H) : W P N n0 (.blk id :: k) Q env H := fun m a w hn s => h m a w hn s
theorem W_done {ds : List (Option Tmp)} (h : W P N n0 k Q env H) : W P N n0 (.ops ds [] :: k) Q env H := fun m a w hn s => h m a w hn s
theorem W_skip (h : W P N n0 k Q env H) : W P N n0 (.code .skip :: k) Q env H := fun m a w hn s => wp_skip (h m a w hn s)
theorem W_label {l : Nat} (h : W P N n0 k Q env H) : W P N n0 (.code (.label l) :: k) Q env H := fun m a w hn s => wp_label (h m a w hn s)
theorem W_ret (h : Q env H) : W P N n0 (.code .ret :: k) Q env H := fun _ _ _ _ s => wp_ret ⟨env, H, s, h⟩
theorem W_seq {x y : Code} (h : W P N n0 (.code x :: .code y :: k) Q env H) : W P N n0 (.code (.seq x y) :: k) Q env H := fun m a w hn s => by
  refine wp_seq (wp_mono (h m a w hn s) fun e a w he => ?_)
  cases e <;> first | exact he | exact he.elim
theorem W_block {id : Nat} {c : Code} (h : W P N n0 (.code c :: .blk id :: k) Q env H) : W P N n0 (.code (.block id c) :: k) Q env H := fun m a w hn s => by
  refine wp_block (wp_mono (h m a w hn s) fun e a w he => ?_)
  cases e with
  | exit id' =>
    simp only [Exit.inBlock]
    by_cases e : id' = id
    · subst e
      simp only [sem, if_true] at he
      rw [if_pos rfl]; exact he
    · simp only [sem, if_neg e] at he
      rw [if_neg e]; exact he
  | _ => exact he
theorem W_region {id : Nat} {arr : Array Oper} (h : W P N n0 (.ops (arr.toList.map (·.dst)) arr.toList :: k) Q env H) : W P N n0 (.code (.region id arr false) :: k) Q env H := fun m a w hn s => by
  refine wp_region ?_
  rw [List.range_eq_range']
  exact wpOps_of_wpL (fun a w h => h) arr.toList 0 rfl (Nat.zero_le _) a w (h m a w hn s)

/-- Where an exit leads to. -/
def dropTo (id : Nat) : List KI → Option (List KI)
  | .blk id' :: k => if id = id' then some k else dropTo id k
  | _ :: k => dropTo id k
  | [] => none

theorem sem_dropTo {R : Act → World → Prop} {J : (Env → Heap → Prop) → Act → World → Prop} {id : Nat} : ∀ {k k' : List KI}, dropTo id k = some k' → (sem P R J k).2 id = (sem P R J k').1
  | .code _ :: k, k', h => sem_dropTo (k := k) h
  | .ops _ _ :: k, k', h => sem_dropTo (k := k) h
  | .inv _ :: k, k', h => sem_dropTo (k := k) h
  | .blk id' :: k, k', h => by
    simp only [dropTo] at h
    simp only [sem]
    split at h
    · rename_i e; cases h; rw [if_pos e]
    · rename_i e; rw [if_neg e]; exact sem_dropTo (k := k) h
  | [], _, h => by cases h

theorem W_exit {id : Nat} {k' : List KI} (hk : dropTo id k = some k') (h : W P N n0 k' Q env H) : W P N n0 (.code (.exit id) :: k) Q env H := fun m a w hn s => by
  refine wp_exit ?_
  show (sem P _ _ k).2 id a w
  rw [sem_dropTo hk]
  exact h m a w hn s

def evalO (env : Env) : Operand → PV
  | .tmp t => look env t
  | .const v => .sc v
  | .global g => .sc (.pointer (some ⟨g, 0, none⟩))
  | .func f => .sc (.func (.func f) #[] #[])

theorem SimC.eval {m : Amb} {a : Act} {c : Cx} (h : SimC m N env H a c) (x : Operand) : Rel c (a.eval x) (evalO env x) := by
  cases x with
  | tmp t => exact h.env t
  | const v => exact .sc v
  | global g => exact .sc _
  | func f => exact .sc _

theorem Rel.sc_inv {c : Cx} {v u : Value} (h : Rel c v (.sc u)) : v = u := by cases h; rfl

theorem W_cond {c : Operand} {x y : Code} {b : Bool} (hc : evalO env c = .sc (.bool b)) (ht : b = true → W P N n0 (.code x :: k) Q env H) (hf : b = false → W P N n0 (.code y :: k) Q env H) :
    W P N n0 (.code (.cond c x y) :: k) Q env H := fun m a w hn s => by
  obtain ⟨S, β, sc⟩ := s
  have he := sc.eval c
  rw [hc] at he
  exact wp_cond_split he.sc_inv (fun hb => ht hb m a w hn ⟨S, β, sc⟩) (fun hb => hf hb m a w hn ⟨S, β, sc⟩)

theorem least {p : Nat → Prop} (h : ∃ n, p n) : ∃ n, p n ∧ ∀ m, p m → n ≤ m := by
  obtain ⟨n, hn⟩ := h
  induction n using Nat.strongRecOn with
  | _ n ih =>
    by_cases h : ∃ m, m < n ∧ p m
    · obtain ⟨m, hm, hp⟩ := h; exact ih m hm hp
    · refine ⟨n, hn, fun m hm => ?_⟩
      rcases Nat.lt_or_ge m n with hl | hl
      · exact absurd ⟨m, hl, hm⟩ h
      · exact hl

theorem W_loop {body : Code} (I : Nat → Env → Heap → Prop) (n : Nat) (h0 : I n env H)
    (hr : ∀ n env H, I n env H → W P N n0 (.code body :: .inv (fun env' H' => ∃ n', n' < n ∧ I n' env' H') :: k) Q env H) : W P N n0 (.code (.loop body) :: k) Q env H := fun m a w hn s => by
  let J : Nat → Act → World → Prop := fun n a w => ∃ env H, Sim m N env H a w ∧ I n env H
  let μ : Act → World → Nat := fun a w => by
    classical
    exact if h : ∃ n, J n a w then Classical.choose (least h) else 0
  have hμs : ∀ a w, (∃ n, J n a w) → J (μ a w) a w ∧ ∀ n, J n a w → μ a w ≤ n := fun a w h => by
    have := Classical.choose_spec (least h)
    simp only [μ]
    rw [dif_pos h]
    exact this
  refine wp_loop (fun a w => ∃ n, J n a w) μ ⟨n, env, H, s, h0⟩ fun a w hJ => ?_
  obtain ⟨env1, H1, s1, hI⟩ := (hμs a w hJ).1
  refine wp_mono (hr _ env1 H1 hI m a w hn s1) fun e a' w' he => ?_
  cases e with
  | normal =>
    obtain ⟨env2, H2, s2, n', hn', hI'⟩ := he
    have hJ' : ∃ n, J n a' w' := ⟨n', env2, H2, s2, hI'⟩
    have := (hμs a' w' hJ').2 n' ⟨env2, H2, s2, hI'⟩
    exact ⟨hJ', by omega⟩
  | _ => exact he

/-- Less may be known of the slots. -/
theorem W_env (env' : Env) (he : ∀ j, look env' j = .dead ∨ look env' j = look env j) (h : W P N n0 k Q env' H) : W P N n0 k Q env H := fun m a w hn s => by
  obtain ⟨S, β, sc⟩ := s
  refine h m a w hn ⟨S, β, sc.hp, sc.n0, sc.b0, sc.s0, sc.s1, sc.place, sc.out, fun j => ?_, sc.sz, sc.df⟩
  rcases he j with e | e
  · rw [e]; exact .dead _
  · rw [e]; exact sc.env j

theorem look_keep (env : Env) : ∀ (ks : List Nat) (j : Nat), look (ks.map fun i => (i, look env i)) j = .dead ∨ look (ks.map fun i => (i, look env i)) j = look env j
  | [], _ => .inl rfl
  | i :: ks, j => by
    simp only [List.map_cons, look]
    split
    · rename_i e; subst e; exact .inr rfl
    · exact look_keep env ks j

theorem W_keep (ks : List Nat) {env' : Env} (he : (ks.map fun i => (i, look env i)) = env') (h : W P N n0 k Q env' H) : W P N n0 k Q env H := by
  subst he
  exact W_env _ (look_keep env ks) h

end
end Go.Proofs.Ytbbjmfkmjjinnaa.V
