/- The logic's straight stretches, done in one go; loops by a ghost state. No law of the program is proved here. -/
import Derived.Test.YtbbjmfkmjjinnaaVF
set_option linter.all false
namespace Go.Proofs.Ytbbjmfkmjjinnaa.V
open Go

section
variable (P : Program) (N n0 : Nat)

def evalK (ds : List (Option Tmp)) : List Oper → Env → Heap → (List Oper → Env → Heap → Prop) → Prop
  | [], env, H, K => K [] env H
  | o :: l, env, H, K => match stepO P N ds o env H with
    | some (ok, p, H') => ok ∧ evalK ds l (putE o.dst p env) H' K
    | none => K (o :: l) env H

/-- Up to a branch, a loop, a call, a drawn order. -/
def exe : Nat → List KI → (Env → Heap → Prop) → Env → Heap → Prop
  | _, [], Q, env, H => Q env H
  | 0, k, Q, env, H => W P N n0 k Q env H
  | f + 1, .code c :: k, Q, env, H => match c with
    | .seq x y => exe f (.code x :: .code y :: k) Q env H
    | .skip => exe f k Q env H
    | .label _ => exe f k Q env H
    | .ret => Q env H
    | .block id c => exe f (.code c :: .blk id :: k) Q env H
    | .exit id => match dropTo id k with
      | some k' => exe f k' Q env H
      | none => False
    | .region _ arr false => evalK P N (arr.toList.map (·.dst)) arr.toList env H fun rest env H => match rest with
      | [] => exe f k Q env H
      | rest => W P N n0 (.ops (arr.toList.map (·.dst)) rest :: k) Q env H
    | .cond c x y => match evalS env c with
      | .sc (.bool b) => (b = true → W P N n0 (.code x :: k) Q env H) ∧ (b = false → W P N n0 (.code y :: k) Q env H)
      | _ => W P N n0 (.code (.cond c x y) :: k) Q env H
    | c => W P N n0 (.code c :: k) Q env H
  | f + 1, .ops ds l :: k, Q, env, H => evalK P N ds l env H fun rest env H => match rest with
      | [] => exe f k Q env H
      | rest => W P N n0 (.ops ds rest :: k) Q env H
  | f + 1, .blk _ :: k, Q, env, H => exe f k Q env H
  | _ + 1, .inv I :: _, _, env, H => I env H
end

section
variable {P : Program} {N n0 : Nat} {k : List KI} {Q : Env → Heap → Prop} {env : Env} {H : Heap}

theorem evalK_ok {ds : List (Option Tmp)} {k : List KI} : ∀ {l : List Oper} {env : Env} {H : Heap} {K : List Oper → Env → Heap → Prop}, evalK P N ds l env H K → (∀ rest env H, K rest env H → W P N n0 (.ops ds rest :: k) Q env H) → W P N n0 (.ops ds l :: k) Q env H
  | [], _, _, _, h, hk => hk _ _ _ h
  | o :: l, env, H, K, h, hk => by
    unfold evalK at h
    cases hs : stepO P N ds o env H with
    | none => rw [hs] at h; exact hk _ _ _ h
    | some q =>
      obtain ⟨ok, p, H'⟩ := q
      rw [hs] at h
      exact W_step hs h.1 (evalK_ok h.2 hk)

theorem W_condS {c : Operand} {x y : Code} {b : Bool} (hc : evalS env c = .sc (.bool b)) (ht : b = true → W P N n0 (.code x :: k) Q env H) (hf : b = false → W P N n0 (.code y :: k) Q env H) :
    W P N n0 (.code (.cond c x y) :: k) Q env H := fun m a w hn s => by
  obtain ⟨S, β, sc⟩ := s
  have he := evalS_ok sc c
  rw [hc] at he
  exact wp_cond_split he.sc_inv (fun hb => ht hb m a w hn ⟨S, β, sc⟩) (fun hb => hf hb m a w hn ⟨S, β, sc⟩)

theorem exe_ok : ∀ {f : Nat} {k : List KI} {env : Env} {H : Heap}, exe P N n0 f k Q env H → W P N n0 k Q env H
  | 0, [], _, _, h => W_nil h
  | _ + 1, [], _, _, h => W_nil h
  | 0, _ :: _, _, _, h => h
  | f + 1, .blk _ :: k, _, _, h => W_blk (exe_ok h)
  | f + 1, .inv I :: k, _, _, h => W_inv h
  | f + 1, .ops ds l :: k, env, H, h => evalK_ok h (fun rest env H hr => by
      cases rest with
      | nil => exact W_done (exe_ok hr)
      | cons o l => exact hr)
  | f + 1, .code c :: k, env, H, h => by
    cases c with
    | seq x y => exact W_seq (exe_ok h)
    | skip => exact W_skip (exe_ok h)
    | label l => exact W_label (exe_ok h)
    | ret => exact W_ret h
    | block id c => exact W_block (exe_ok h)
    | exit id =>
      unfold exe at h
      simp only at h
      cases hd : dropTo id k with
      | none => rw [hd] at h; exact h.elim
      | some k' => rw [hd] at h; exact W_exit hd (exe_ok h)
    | region id arr dr =>
      cases dr with
      | true => exact h
      | false =>
        refine W_region (evalK_ok h fun rest env H hr => ?_)
        cases rest with
        | nil => exact W_done (exe_ok hr)
        | cons o l => exact hr
    | cond c x y =>
      unfold exe at h
      simp only at h
      split at h
      · rename_i b hb
        exact W_condS hb h.1 h.2
      · exact h
    | _ => exact h

/-- A loop, by a ghost state: ks: which slots matter; E: what they hold; F: the heap; C: what is known; μ: what falls. -/
theorem W_loopG {σ : Type} {body : Code} (ks : List Nat) (E : σ → Env) (F : σ → Heap) (C : σ → Prop) (μ : σ → Nat) (s : σ) (he : (ks.map fun i => (i, look env i)) = E s) (hH : H = F s) (hc : C s)
    (hr : ∀ s, C s → W P N n0 (.code body :: .inv (fun env' H' => ∃ s', (ks.map fun i => (i, look env' i)) = E s' ∧ H' = F s' ∧ C s' ∧ μ s' < μ s) :: k) Q (E s) (F s)) : W P N n0 (.code (.loop body) :: k) Q env H := by
  refine W_loop (fun n env H => ∃ s, n = μ s ∧ (ks.map fun i => (i, look env i)) = E s ∧ H = F s ∧ C s) (μ s) ⟨s, rfl, he, hH, hc⟩ ?_
  rintro n env H ⟨s, rfl, he, rfl, hc⟩
  refine W_keep ks he ?_
  intro m a w hm sm
  have := hr s hc m a w hm sm
  refine wp_mono this fun e a w h => ?_
  cases e with
  | normal =>
    obtain ⟨env', H', sm', s', h1, h2, h3, h4⟩ := h
    exact ⟨env', H', sm', μ s', h4, s', rfl, h1, h2, h3⟩
  | _ => exact h
end

theorem drop_map {α : Type} (f : α → PV) (d : α) (l : List α) (k : Nat) (h : k < l.length) : (l.map f).drop k = f (l.getD k d) :: (l.drop (k + 1)).map f := by
  rw [← List.map_drop, List.drop_eq_getElem_cons h, List.map_cons]
  simp [List.getD_eq_getElem?_getD, h]

theorem wrap64 {x : Int} (h1 : -9223372036854775808 ≤ x) (h2 : x ≤ 9223372036854775807) : IntKind.i64.wrap x = x := by
  simp only [IntKind.wrap, IntKind.bits, IntKind.signed, Bool.true_and, decide_eq_true_eq, show (2 : Int) ^ 64 = 18446744073709551616 from rfl, show (2 : Int) ^ (64 - 1) = 9223372036854775808 from rfl]
  split <;> omega

end Go.Proofs.Ytbbjmfkmjjinnaa.V
