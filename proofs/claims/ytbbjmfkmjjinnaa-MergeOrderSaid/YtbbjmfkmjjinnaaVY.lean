/- The logic's stretches, part by part; operations that aren't wanted, skipped. No law of the program is proved here. -/
import Derived.Test.YtbbjmfkmjjinnaaVS
set_option linter.all false
namespace Go.Proofs.Ytbbjmfkmjjinnaa.V
open Go
variable {P : Program} {N n0 : Nat} {k : List CI} {Q : Env → Heap → Prop} {env : Env} {H : Heap}

theorem WC_seq {a b : CC} (h : WC P N n0 (.code a :: .code b :: k) Q env H) : WC P N n0 (.code (.seq a b) :: k) Q env H := exeC_ok (f := 1) h
theorem WC_reg {m : Bool} {l : List CO} (h : Run P N n0 m (fun env H => WC P N n0 k Q env H) l env H) : WC P N n0 (.code (.reg m l) :: k) Q env H := fun k' hk0 => by
  obtain ⟨hs, raw, k2, rfl, hc, hr, hk⟩ := hk0.code_inv
  cases raw with
  | region id arr d =>
    cases d with
    | true =>
      have hc' : chkR P N hs id arr = true := by simpa [chkC] using hc
      have he : compR hs id arr.toList = .reg m l := by simpa [compC] using hr
      exact W_regD (fun env H hK => hK _ hk) hc' he h
    | false =>
      have hc' : arr.toList.all (chkO N (arr.toList.map (·.dst))) = true := by simpa [chkC] using hc
      have he : CC.reg false (arr.toList.map (compO (arr.toList.map (·.dst)))) = .reg m l := hr
      cases he
      exact W_region (run_ops (fun env H hK => hK _ hk) hc' h)
  | _ => first | cases hr | (simp only [compC] at hr; cases hr)

/-- As many operations as are told. -/
def evalN (P : Program) (N n0 : Nat) (m : Bool) (K : Env → Heap → Prop) : Nat → List CO → Env → Heap → Prop
  | 0, l, env, H => Run P N n0 m K l env H
  | _ + 1, [], env, H => K env H
  | n + 1, c :: l, env, H => match stepC P c env H with
    | some (ok, p, H') => Side ok ∧ evalN P N n0 m K n l (putE c.d p env) H'
    | none => Run P N n0 m K (c :: l) env H
theorem Run.onN {m : Bool} {K : Env → Heap → Prop} : ∀ (n : Nat) {l : List CO} {env : Env} {H : Heap}, evalN P N n0 m K n l env H → Run P N n0 m K l env H
  | 0, _, _, _, h => h
  | _ + 1, [], _, _, h => .nil h
  | n + 1, c :: l, env, H, h => by
    unfold evalN at h
    cases hs : stepC P c env H with
    | none => rw [hs] at h; exact h
    | some q =>
      obtain ⟨ok, p, H'⟩ := q
      rw [hs] at h
      exact .cons (execC_step hs h.1.h) (Run.onN n h.2)

/-- An operation whose guard does not hold. -/
theorem Run.skip (q : PV) {m : Bool} {K : Env → Heap → Prop} {c : CO} {l : List CO} {d : Nat} {w : Bool} (hg : c.g = some (d, w)) (he : effC env d w = some false) (hk : Run P N n0 m K l (putE c.d (.gv false q) env) H) : Run P N n0 m K (c :: l) env H := by
  have key : ∀ ds (o : Oper) (H2 : Heap), chkO N ds o = true → compO ds o = c → Exec P N n0 ds o env H2 (.gv false q) H2 := fun ds o H2 hc e => by
    subst e
    obtain ⟨j, h1, h2⟩ := (comp_guard hc rfl).2 d w hg
    have hd : dstB N o = true := by simp only [chkO, Bool.and_eq_true] at hc; exact hc.1
    exact exec_skipG h1 (by rw [effG_C h2]; exact he) hd _
  exact .cons ⟨fun ds o hc e => key ds o H hc e, fun _ _ _ => rfl, fun ds o hc e _ _ H2 => key ds o H2 hc e, fun ds o hc e _ X => key ds o _ hc e, fun _ => ⟨[], by simp⟩⟩ hk
end Go.Proofs.Ytbbjmfkmjjinnaa.V
