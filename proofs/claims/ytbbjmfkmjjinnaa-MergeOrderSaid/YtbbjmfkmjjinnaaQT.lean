/- What the made traces are; what a merge of right traces is. No law of the program is proved here. -/
import Derived.Test.YtbbjmfkmjjinnaaQS
import Derived.Test.YtbbjmfkmjjinnaaQR
set_option linter.all false
namespace Go.Proofs.Ytbbjmfkmjjinnaa.V
open Go Go.Proofs

theorem rowN_mem : ∀ (ns out : List ByteArray) (s : ByteArray), s ∈ (rowN out ns).1 → s ∈ out ∨ s ∈ ns
  | [], _, _, h => .inl h
  | x :: ns, out, s, h => by
    rcases rowN_mem ns (addName out x) s h with h | h
    · unfold addName at h
      split at h
      · rcases List.mem_append.1 h with h | h
        · exact .inl h
        · rw [List.mem_singleton] at h; subst h; exact .inr List.mem_cons_self
      · exact .inl h
    · exact .inr (List.mem_cons_of_mem _ h)
theorem allN_mem : ∀ (l : List Tr) (out : List ByteArray) (s : ByteArray), s ∈ (allN out l).1 → s ∈ out ∨ ∃ t, t ∈ l ∧ s ∈ t.names
  | [], _, _, h => .inl h
  | t :: l, out, s, h => by
    rcases allN_mem l (rowN out t.names).1 s h with h | ⟨u, h1, h2⟩
    · rcases rowN_mem _ _ _ h with h | h
      · exact .inl h
      · exact .inr ⟨t, List.mem_cons_self, h⟩
    · exact .inr ⟨u, List.mem_cons_of_mem _ h1, h2⟩
theorem allN_le : ∀ (l : List Tr) (out : List ByteArray), (allN out l).1.length ≤ out.length + sumN l
  | [], out => Nat.le_add_right _ _
  | t :: l, out => by
    have h1 := allN_le l (rowN out t.names).1
    have h2 := (rowN_len out t.names).2
    simp only [allN, sumN, List.map_cons, List.sum_cons] at h1 ⊢
    omega
theorem kw_length : ∀ (f : Nat) (l : List Tr), (kw f l).length ≤ f
  | 0, _ => Nat.le_refl _
  | f + 1, l => by
    rw [kw]
    split
    · exact Nat.zero_le _
    · rw [List.length_cons]; exact Nat.succ_le_succ (kw_length f _)
theorem refM_ok (l : List Tr) (hok : ∀ t, t ∈ l → t.Ok) (ht : tot l ≤ 1000000) : (refM l).1.Ok := by
  unfold refM
  split
  · split
    · exact ⟨by simp, fun s h => by simp at h, by simp, fun e h => by simp at h⟩
    · rename_i h64
      refine ⟨by simp only; omega, fun s hs => ?_, ?_, fun e he => ?_⟩
      · rcases allN_mem l [] s hs with h | ⟨t, h1, h2⟩
        · cases h
        · exact (hok t h1).s s h2
      · simp only [List.length_map]
        have := kw_length (tot l) l
        unfold kwT
        omega
      · simp only [List.mem_map] at he
        obtain ⟨p, hp, rfl⟩ := he
        simp only [refEv, ← refK_all]
        have := refK_len (allN [] l).1 (l.getD p.1.toNat default).names p.2.ids (allN [] l).1.length
        omega
  · exact ⟨by simp, fun s h => by simp at h, by simp, fun e h => by simp at h⟩
theorem sumE_lines : ∀ (l : List Tr) (i : Nat), sumE (linesF i l) = (l.map fun t => t.evs.length).sum
  | [], _ => rfl
  | t :: l, i => by
    rw [linesF]
    split
    · rename_i h; rw [sumE_lines l, List.map_cons, List.sum_cons, h]; simp
    · rw [sumE, List.map_cons, List.sum_cons, List.map_cons, List.sum_cons]
      have := sumE_lines l (i + 1)
      rw [sumE] at this; rw [this]

/-! ### the made traces -/
theorem nmK_names : ∀ k : Nat, k < 256 → namesOk (nmK k 3) = true := by decide +kernel
theorem nmK_size : ∀ k : Nat, k < 256 → (nmK k 3).all (fun s => decide (s.size ≤ 1)) = true := by decide +kernel
theorem ids8_ok (n : Int) (h0 : 0 ≤ n) (h1 : n < 8) : idsOk (ids8 n) 3 = true := by
  have : n = 0 ∨ n = 1 ∨ n = 2 ∨ n = 3 ∨ n = 4 ∨ n = 5 ∨ n = 6 ∨ n = 7 := by omega
  rcases this with rfl | rfl | rfl | rfl | rfl | rfl | rfl | rfl <;> decide
theorem mkE_times : ∀ (l : List Int) (now : Int) (q : Option Int), (∀ n, n ∈ l → 0 ≤ n) → (∀ x, q = some x → x ≤ now) → evTimes 3 q (mkE now l) = true
  | [], _, _, _, _ => rfl
  | n :: l, now, q, h, hq => by
    have h0 := h n (by simp)
    have h1 := dOf_le n h0
    have h2 : n.tmod 8 = n % 8 := Int.tmod_eq_emod_of_nonneg h0
    have h4 := mkE_times l (now + dOf n) (some (now + dOf n)) (fun n hn => h n (by simp [hn])) (fun x hx => by cases hx; exact Int.le_refl _)
    simp only [mkE, evTimes, h4, h2]
    have h3 := ids8_ok (n % 8) (by omega) (by omega)
    cases q with
    | none => simp [h3]
    | some x =>
      have := hq x rfl
      simp [h3]; omega
theorem mkE_mem : ∀ (l : List Int) (now : Int), (∀ n, n ∈ l → 0 ≤ n) → ∀ e, e ∈ mkE now l → e.ids.length ≤ 3
  | [], _, _, _, he => by cases he
  | n :: l, now, h, e, he => by
    rcases List.mem_cons.1 he with rfl | he
    · exact ids8K_len _ 3
    · exact mkE_mem l _ (fun n hn => h n (by simp [hn])) e he
theorem make32_may (p : Pt) (hp : p.Ok) : mayB (make32 p) = true := by
  obtain ⟨h1, h2⟩ := hp.m
  obtain ⟨k, hk⟩ : ∃ k : Nat, p.nm = k := ⟨p.nm.toNat, by omega⟩
  have h3 := nmK_names k (by omega)
  unfold mayB make32
  simp only [hk, h3, nmK_length, Bool.true_and]
  exact mkE_times _ _ _ (fun n hn => (hp.n n (List.mem_of_mem_take hn)).1) (fun x hx => by cases hx)
theorem make32_ok (p : Pt) (hp : p.Ok) : (make32 p).Ok := by
  obtain ⟨h1, h2⟩ := hp.m
  obtain ⟨k, hk⟩ : ∃ k : Nat, p.nm = k := ⟨p.nm.toNat, by omega⟩
  have h3 := nmK_size k (by omega)
  refine ⟨by simp [make32, nmK_length], fun s hs => ?_, by simp [make32, mkE_length]; omega, fun e he => ?_⟩
  · have := List.all_eq_true.1 h3 s (by simpa [make32, hk] using hs)
    simp at this; omega
  · have := mkE_mem _ _ (fun n hn => (hp.n n (List.mem_of_mem_take hn)).1) e he
    omega
theorem trs32_ok (l : List Pt) (h : ∀ p, p ∈ l → p.Ok) : MOk 12 (trs32 l) ∧ (trs32 l).all mayB = true ∧ sumN (trs32 l) ≤ 15 ∧ tot (trs32 l) ≤ 300 ∧ ∀ t, t ∈ trs32 l → t.Ok := by
  have hm : ∀ t, t ∈ trs32 l → ∃ p, p ∈ l ∧ t = make32 p := fun t ht => by
    simp only [trs32, List.mem_map] at ht
    obtain ⟨p, hp, rfl⟩ := ht
    exact ⟨p, List.mem_of_mem_take hp, rfl⟩
  have hlen : (trs32 l).length ≤ 5 := by simp [trs32]; omega
  have hs : ∀ (f : Tr → Nat) (b : Nat) (L : List Tr), (∀ t, t ∈ L → f t ≤ b) → (L.map f).sum ≤ L.length * b := by
    intro f b L
    induction L with
    | nil => intro _; simp
    | cons t L ih =>
      intro hL
      have h1 := ih fun t ht => hL t (by simp [ht])
      have h2 := hL t (by simp)
      rw [List.map_cons, List.sum_cons, List.length_cons, Nat.add_mul]; omega
  have s1 := hs (fun t => t.names.length) 3 (trs32 l) fun t ht => by
    obtain ⟨p, hp, rfl⟩ := hm t ht
    simp [make32, nmK_length]
  have s2 := hs (fun t => t.evs.length) 60 (trs32 l) fun t ht => by
    obtain ⟨p, hp, rfl⟩ := hm t ht
    simp [make32, mkE_length]; omega
  have e1 : sumN (trs32 l) ≤ 15 := by unfold sumN; omega
  have e2 : tot (trs32 l) ≤ 300 := by unfold tot; rw [sumE_lines]; omega
  have e3 : ∀ t, t ∈ trs32 l → t.Ok := fun t ht => by obtain ⟨p, hp, rfl⟩ := hm t ht; exact make32_ok p (h p hp)
  refine ⟨⟨by omega, by omega, by unfold tot at e2; omega, e3, fun t ht _ e he => ?_⟩, List.all_eq_true.2 fun t ht => ?_, e1, e2, e3⟩
  · obtain ⟨p, hp, rfl⟩ := hm t ht
    have := mkE_mem _ _ (fun n hn => ((h p hp).n n (List.mem_of_mem_take hn)).1) e he
    omega
  · obtain ⟨p, hp, rfl⟩ := hm t ht
    exact make32_may p (h p hp)
theorem refM_may {l : List Tr} (h : l.all mayB = true) (hs : sumN l ≤ 64) : refM l = (⟨(allN [] l).1, (kwT l).map (refEv (allN [] l).1 l)⟩, 0) := by
  unfold refM
  have := allN_le l []
  rw [if_pos h, if_neg (by simp at this; omega)]

theorem mergeMade_walk (l : List Pt) (hl : l.length ≤ 9223372036854775807) (hok : ∀ p, p ∈ l → p.Ok) : GC Try.prog 4 [ptsP l] [] (Bo true) [] := by
  obtain ⟨m1, m2, m3, m4, m5⟩ := trs32_ok l hok
  have hr := refM_may m2 (by omega)
  have hro := refM_ok (trs32 l) m5 (by omega)
  have hM := c_Merge srt_12 (trs32 l) m1
  rw [mergeF_ref] at hM
  have hR := c_refMerge (trs32 l) m1
  have h2 : (refM (trs32 l)).2 = 0 := by rw [hr]
  obtain ⟨T, hT⟩ : ∃ T, (refM (trs32 l)).1 = T := ⟨_, rfl⟩
  rw [h2, hT] at hM hR
  rw [hT] at hro
  refine GC_fn [] Try.func4 rfl rfl (by kernel_rfl) ?_
  (refine exeC_ok (f := 60) ?_; simp only [B0, B1, B2, Lm0, Lm1, Lm2, Lm3, Lm4, Lm5, Lm6, Lm7, Lm8, Lm9, Lm10, Lm11, Lm12, Lm13, Lm14, Lm15, Lm16, Lm17, Lm18, Lm19, Lm20, Lm21, Lm22, Lm23, Lm24, Lm25, Lm26, Lm27, Lm28, Lm29, Nat.reduceLT, Nat.reduceEqDiff, ↓reduceIte, reduceCtorEq, Nat.reduceAdd, ge_iff_le, gt_iff_lt, forall_const, Nat.reduceBEq, Nat.reduceBNe, Nat.reduceMul, Nat.reduceLeDiff, Nat.reduceSub, Int.reduceToNat, td_3, td_5, td_9, td_22, td_24, td_25, td_27, td_28, td_29, td_31, td_32, td_38, td_44, td_46, td_85])
  refine Run.callP rfl rfl (by kernel_rfl) (c_traces l hl hok) rfl rfl rfl ?_
  (refine Run.on ?_; simp only [B0, B1, B2, Lm0, Lm1, Lm2, Lm3, Lm4, Lm5, Lm6, Lm7, Lm8, Lm9, Lm10, Lm11, Lm12, Lm13, Lm14, Lm15, Lm16, Lm17, Lm18, Lm19, Lm20, Lm21, Lm22, Lm23, Lm24, Lm25, Lm26, Lm27, Lm28, Lm29, Nat.reduceLT, Nat.reduceEqDiff, ↓reduceIte, reduceCtorEq, Nat.reduceAdd, ge_iff_le, gt_iff_lt, forall_const, Nat.reduceBEq, Nat.reduceBNe, Nat.reduceMul, Nat.reduceLeDiff, Nat.reduceSub, Int.reduceToNat, td_3, td_5, td_9, td_22, td_24, td_25, td_27, td_28, td_29, td_31, td_32, td_38, td_44, td_46, td_85])
  refine Run.callP rfl rfl (by kernel_rfl) (hM) rfl rfl rfl ?_
  (refine Run.on ?_; simp only [B0, B1, B2, Lm0, Lm1, Lm2, Lm3, Lm4, Lm5, Lm6, Lm7, Lm8, Lm9, Lm10, Lm11, Lm12, Lm13, Lm14, Lm15, Lm16, Lm17, Lm18, Lm19, Lm20, Lm21, Lm22, Lm23, Lm24, Lm25, Lm26, Lm27, Lm28, Lm29, Nat.reduceLT, Nat.reduceEqDiff, ↓reduceIte, reduceCtorEq, Nat.reduceAdd, ge_iff_le, gt_iff_lt, forall_const, Nat.reduceBEq, Nat.reduceBNe, Nat.reduceMul, Nat.reduceLeDiff, Nat.reduceSub, Int.reduceToNat, td_3, td_5, td_9, td_22, td_24, td_25, td_27, td_28, td_29, td_31, td_32, td_38, td_44, td_46, td_85, trP, trC, strsP, evsP])
  and_intros; all_goals (try (refine Side.mk ?_; first | first | omega | (intros; omega) | (simp; done) | (simp; omega) | (intro h; simp at h; omega) | (simp_all; done) | rfl | (and_intros <;> first | omega | (intros; omega) | (simp; done) | (simp; omega) | (intro h; simp at h; omega) | (simp_all; done) | rfl)))
  refine Run.callP rfl rfl (by kernel_rfl) (hR) rfl rfl rfl ?_
  (refine Run.on ?_; simp only [B0, B1, B2, Lm0, Lm1, Lm2, Lm3, Lm4, Lm5, Lm6, Lm7, Lm8, Lm9, Lm10, Lm11, Lm12, Lm13, Lm14, Lm15, Lm16, Lm17, Lm18, Lm19, Lm20, Lm21, Lm22, Lm23, Lm24, Lm25, Lm26, Lm27, Lm28, Lm29, Nat.reduceLT, Nat.reduceEqDiff, ↓reduceIte, reduceCtorEq, Nat.reduceAdd, ge_iff_le, gt_iff_lt, forall_const, Nat.reduceBEq, Nat.reduceBNe, Nat.reduceMul, Nat.reduceLeDiff, Nat.reduceSub, Int.reduceToNat, td_3, td_5, td_9, td_22, td_24, td_25, td_27, td_28, td_29, td_31, td_32, td_38, td_44, td_46, td_85, trP, trC, strsP, evsP])
  and_intros; all_goals (try (refine Side.mk ?_; first | first | omega | (intros; omega) | (simp; done) | (simp; omega) | (intro h; simp at h; omega) | (simp_all; done) | rfl | (and_intros <;> first | omega | (intros; omega) | (simp; done) | (simp; omega) | (intro h; simp at h; omega) | (simp_all; done) | rfl)))
  refine Run.callP rfl rfl (by kernel_rfl) (c_sameTrace T T hro) rfl rfl rfl ?_
  (refine Run.on ?_; simp only [B0, B1, B2, Lm0, Lm1, Lm2, Lm3, Lm4, Lm5, Lm6, Lm7, Lm8, Lm9, Lm10, Lm11, Lm12, Lm13, Lm14, Lm15, Lm16, Lm17, Lm18, Lm19, Lm20, Lm21, Lm22, Lm23, Lm24, Lm25, Lm26, Lm27, Lm28, Lm29, Nat.reduceLT, Nat.reduceEqDiff, ↓reduceIte, reduceCtorEq, Nat.reduceAdd, ge_iff_le, gt_iff_lt, forall_const, Nat.reduceBEq, Nat.reduceBNe, Nat.reduceMul, Nat.reduceLeDiff, Nat.reduceSub, Int.reduceToNat, td_3, td_5, td_9, td_22, td_24, td_25, td_27, td_28, td_29, td_31, td_32, td_38, td_44, td_46, td_85])
  and_intros; all_goals (try (refine Side.mk ?_; first | first | omega | (intros; omega) | (simp; done) | (simp; omega) | (intro h; simp at h; omega) | (simp_all; done) | rfl | (and_intros <;> first | omega | (intros; omega) | (simp; done) | (simp; omega) | (intro h; simp at h; omega) | (simp_all; done) | rfl)))
  refine Run.callT rfl rfl rfl (by kernel_rfl) (c_awake) rfl rfl rfl ?_
  (refine Run.on ?_; simp only [B0, B1, B2, Lm0, Lm1, Lm2, Lm3, Lm4, Lm5, Lm6, Lm7, Lm8, Lm9, Lm10, Lm11, Lm12, Lm13, Lm14, Lm15, Lm16, Lm17, Lm18, Lm19, Lm20, Lm21, Lm22, Lm23, Lm24, Lm25, Lm26, Lm27, Lm28, Lm29, Nat.reduceLT, Nat.reduceEqDiff, ↓reduceIte, reduceCtorEq, Nat.reduceAdd, ge_iff_le, gt_iff_lt, forall_const, Nat.reduceBEq, Nat.reduceBNe, Nat.reduceMul, Nat.reduceLeDiff, Nat.reduceSub, Int.reduceToNat, td_3, td_5, td_9, td_22, td_24, td_25, td_27, td_28, td_29, td_31, td_32, td_38, td_44, td_46, td_85])
  exact RetV.p rfl trivial (rB rfl)
end Go.Proofs.Ytbbjmfkmjjinnaa.V
