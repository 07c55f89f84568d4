/- The walk of MergeParts: it gives true for every input. -/
import Derived.Test.YtbbjmfkmjjinnaaPD
set_option linter.all false
namespace Go.Proofs.Ytbbjmfkmjjinnaa.V
open Go Go.Proofs

theorem c_merge12 (l : List Tr) (h : MOk 12 l) : GC Try.prog 9 [trsP l] [] (.tu [trP (refM l).1, I (refM l).2]) [] := by
  have := c_Merge srt_12 l h
  rwa [mergeF_ref] at this
theorem c_mergeOwn2 (l : List Tr) (h : MOk 12 l) : GC Try.prog 9 [.id 0 l.length] [some ⟨27, true, 2, l.flatMap trC⟩] (.tu [trP (refM l).1, I (refM l).2]) [none] := by
  have e : frzL 0 2 (l.flatMap trC) [.id 0 l.length] = [.im true l.length (l.flatMap trC)] := by
    simp only [frzL, frz, if_pos]
    rw [List.take_of_length_le (by rw [lT]; exact Nat.le_refl _)]
  refine GC.own (o := ⟨27, true, 2, l.flatMap trC⟩) ?_ (zT l) ?_
  · show GC _ _ (frzL 0 2 (l.flatMap trC) [.id 0 l.length]) _ _ _
    rw [e]; exact (c_merge12 l h).more (.cons (LeP.im _ _ _) .nil)
  · show zLB (frzL 0 2 (l.flatMap trC) [.id 0 l.length]) = true
    rw [e]; have := zT l; simp [zLB, zB, this]

/-- What has few names, few events, of few names each, may be merged. -/
theorem mok_of {l : List Tr} (h1 : l.length ≤ 100) (h2 : sumN l ≤ 64) (h3 : tot l ≤ 10000) (h4 : ∀ t, t ∈ l → t.Ok) (h5 : ∀ t, t ∈ l → t.names.length ≤ 12) : MOk 12 l := by
  refine ⟨by omega, by omega, by unfold tot at h3; omega, h4, fun t ht hm e he => ?_⟩
  have := h5 t ht
  have hb := mayB_ids hm he
  simp only [mayB, Bool.and_eq_true] at hm
  obtain ⟨s1, -⟩ := idsGo_sorted _ _ _ (evTimes_mem _ _ _ hm.2 e he)
  -- as many numbers as are below 12 at most
  have key : ∀ (l : List Int) (lo : Int) (n : Nat), l.Pairwise (· < ·) → (∀ i, i ∈ l → lo ≤ i ∧ i < lo + n) → l.length ≤ n := by
    intro l
    induction l with
    | nil => intro lo n _ _; exact Nat.zero_le _
    | cons a l ih =>
      intro lo n hp hb
      obtain ⟨g1, g2⟩ := List.pairwise_cons.1 hp
      have ha := hb a List.mem_cons_self
      obtain ⟨n, rfl⟩ : ∃ m, n = m + 1 := ⟨n - 1, by omega⟩
      have := ih (lo + 1) n g2 fun i hi => by
        have := g1 i hi
        have := hb i (List.mem_cons_of_mem _ hi)
        omega
      rw [List.length_cons]; omega
  have := key e.ids 0 t.names.length s1 fun i hi => by have := hb i hi; omega
  omega
theorem kwT_len (l : List Tr) : (kwT l).length ≤ tot l := kw_length _ _

theorem refM_ids {l : List Tr} (h : l.all mayB = true) (hs : sumN l ≤ 64) (n : Nat) (hi : ∀ t, t ∈ l → ∀ e, e ∈ t.evs → e.ids.length ≤ n) : ∀ e, e ∈ (refM l).1.evs → e.ids.length ≤ n := by
  rw [refM_may h hs]
  intro e he
  obtain ⟨p, hp, rfl⟩ := List.mem_map.1 he
  obtain ⟨k, a, b, c⟩ := kw_mem _ l p hp
  obtain ⟨-, n1, n2⟩ := allN_ok l [] List.nodup_nil
  have hm : l.getD k default ∈ l := by rw [getD_get b]; exact List.getElem_mem _
  have hmay := List.all_eq_true.1 h _ hm
  simp only [mayB, Bool.and_eq_true] at hmay
  have := srt12_ref n1 (namesOk_nodup hmay.1) (n2 k b) (evTimes_mem _ _ _ hmay.2 _ c)
  unfold refEv
  simp only
  rw [a, Int.toNat_natCast, ← this]
  have h3 := srt_12.n (p.2.ids.map fun i => ((allN [] l).2.getD k default).getD i.toNat default)
  rw [h3, List.length_map]
  exact hi _ hm _ c
theorem trs32_take (l : List Pt) (k : Nat) (hk : k ≤ 5) : (trs32 l).take k = trs32 (l.take k) := by
  unfold trs32
  rw [← List.map_take, List.take_take, List.take_take, Nat.min_comm]
theorem trs32_ids (l : List Pt) (h : ∀ p, p ∈ l → p.Ok) : ∀ t, t ∈ trs32 l → ∀ e, e ∈ t.evs → e.ids.length ≤ 3 := fun t ht e he => by
  simp only [trs32, List.mem_map] at ht
  obtain ⟨p, hp, rfl⟩ := ht
  exact mkE_mem _ _ (fun n hn => ((h p (List.mem_of_mem_take hp)).n n (List.mem_of_mem_take hn)).1) e he
theorem refM_ev_len (l : List Tr) : (refM l).1.evs.length ≤ tot l := by
  unfold refM
  split
  · split
    · simp
    · simp only [List.length_map]; exact kwT_len l
  · simp
theorem refM_n_len (l : List Tr) : (refM l).1.names.length ≤ sumN l := by
  have := allN_le l []
  unfold refM
  split
  · split
    · simp
    · simpa using this
  · simp

theorem mergeParts_walk (l : List Pt) (a : Pt) (hl : l.length ≤ 9223372036854775807) (hok : ∀ p, p ∈ l → p.Ok) (ha : a.Ok) : GC Try.prog 6 [ptsP l, .ag (ptC a)] [] (Bo true) [] := by
  obtain ⟨m1, m2, m3, m4, m5⟩ := trs32_ok l hok
  have hlen : (trs32 l).length ≤ 5 := by simp [trs32]; omega
  obtain ⟨T, hT⟩ : ∃ T, trs32 l = T := ⟨_, rfl⟩
  have hct := c_traces l hl hok
  rw [hT] at m1 m2 m3 m4 m5 hlen hct
  have r1 := refM_may m2 (by omega)
  have r2 := refM_one (make32_may a ha)
  have hA := make32_ok a ha
  have hmk := c_make32 a ha
  obtain ⟨A, hAe⟩ : ∃ A, make32 a = A := ⟨_, rfl⟩
  have hAn : A.names.length = 3 := by rw [← hAe]; show (nmK a.nm 3).length = 3; exact nmK_length _ _
  have hAt : tot [A] ≤ 60 := by
    rw [← hAe]; unfold tot; rw [sumE_lines]; simp [make32, mkE_length]; omega
  rw [hAe] at r2 hA hmk
  have oA : MOk 12 [A] := mok_of (by simp) (by simp [sumN, hAn]) (by omega) (fun t ht => by rw [List.mem_singleton] at ht; subst ht; exact hA) (fun t ht => by rw [List.mem_singleton] at ht; subst ht; omega)
  have c1 := c_merge12 T m1
  have c3 := c_mergeOwn2 [A] oA
  have h2 : (refM T).2 = 0 := by rw [r1]
  rw [h2] at c1
  rw [r2] at c3
  have cn : GC Try.prog 9 [.sc (.slice none 0 0)] [] (.tu [trP ⟨[], []⟩, I 0]) [] := by
    have := (c_merge12 [] (mok_of (by simp) (by simp [sumN]) (by simp [tot, linesF, sumE]) (by simp) (by simp))).more (args' := [.sc (.slice none 0 0)]) (.cons (LeP.nil' rfl rfl) .nil)
    rwa [refM_nil] at this
  refine GC_fn [] Try.func6 rfl rfl (by kernel_rfl) ?_
  (refine exeC_ok (f := 60) ?_; simp only [B0, B1, B2, Lm0, Lm1, Lm2, Lm3, Lm4, Lm5, Lm6, Lm7, Lm8, Lm9, Lm10, Lm11, Lm12, Lm13, Lm14, Lm15, Lm16, Lm17, Lm18, Lm19, Lm20, Lm21, Lm22, Lm23, Lm24, Lm25, Lm26, Lm27, Lm28, Lm29, Nat.reduceLT, Nat.reduceEqDiff, ↓reduceIte, reduceCtorEq, Nat.reduceAdd, ge_iff_le, gt_iff_lt, forall_const, Nat.reduceBEq, Nat.reduceBNe, Nat.reduceMul, Nat.reduceLeDiff, Nat.reduceSub, Int.reduceToNat, td_3, td_4, td_5, td_9, td_22, td_24, td_25, td_27, td_28, td_29, td_31, td_32, td_38, td_44, td_46, td_85, ptC, u16P, C8])
  and_intros; all_goals (try (refine Side.mk ?_; first | first | omega | (intros; omega) | (simp; done) | (simp; omega) | (intro h; simp at h; omega) | (simp_all; done) | rfl | (and_intros <;> first | omega | (intros; omega) | (simp; done) | (simp; omega) | (intro h; simp at h; omega) | (simp_all; done) | rfl)))
  refine Run.callP rfl rfl (by kernel_rfl) (hct) rfl rfl rfl ?_
  (refine Run.on ?_; simp only [B0, B1, B2, Lm0, Lm1, Lm2, Lm3, Lm4, Lm5, Lm6, Lm7, Lm8, Lm9, Lm10, Lm11, Lm12, Lm13, Lm14, Lm15, Lm16, Lm17, Lm18, Lm19, Lm20, Lm21, Lm22, Lm23, Lm24, Lm25, Lm26, Lm27, Lm28, Lm29, Nat.reduceLT, Nat.reduceEqDiff, ↓reduceIte, reduceCtorEq, Nat.reduceAdd, ge_iff_le, gt_iff_lt, forall_const, Nat.reduceBEq, Nat.reduceBNe, Nat.reduceMul, Nat.reduceLeDiff, Nat.reduceSub, Int.reduceToNat, td_3, td_4, td_5, td_9, td_22, td_24, td_25, td_27, td_28, td_29, td_31, td_32, td_38, td_44, td_46, td_85])
  refine Run.callP rfl rfl (by kernel_rfl) (c1) rfl rfl rfl ?_
  (refine Run.on ?_; simp only [B0, B1, B2, Lm0, Lm1, Lm2, Lm3, Lm4, Lm5, Lm6, Lm7, Lm8, Lm9, Lm10, Lm11, Lm12, Lm13, Lm14, Lm15, Lm16, Lm17, Lm18, Lm19, Lm20, Lm21, Lm22, Lm23, Lm24, Lm25, Lm26, Lm27, Lm28, Lm29, Nat.reduceLT, Nat.reduceEqDiff, ↓reduceIte, reduceCtorEq, Nat.reduceAdd, ge_iff_le, gt_iff_lt, forall_const, Nat.reduceBEq, Nat.reduceBNe, Nat.reduceMul, Nat.reduceLeDiff, Nat.reduceSub, Int.reduceToNat, td_3, td_4, td_5, td_9, td_22, td_24, td_25, td_27, td_28, td_29, td_31, td_32, td_38, td_44, td_46, td_85, trP, trC, strsP, evsP])
  and_intros; all_goals (try (refine Side.mk ?_; first | first | omega | (intros; omega) | (simp; done) | (simp; omega) | (intro h; simp at h; omega) | (simp_all; done) | rfl | (and_intros <;> first | omega | (intros; omega) | (simp; done) | (simp; omega) | (intro h; simp at h; omega) | (simp_all; done) | rfl)))
  refine Run.callP rfl rfl (by kernel_rfl) (cn) rfl rfl rfl ?_
  (refine Run.on ?_; simp only [B0, B1, B2, Lm0, Lm1, Lm2, Lm3, Lm4, Lm5, Lm6, Lm7, Lm8, Lm9, Lm10, Lm11, Lm12, Lm13, Lm14, Lm15, Lm16, Lm17, Lm18, Lm19, Lm20, Lm21, Lm22, Lm23, Lm24, Lm25, Lm26, Lm27, Lm28, Lm29, Nat.reduceLT, Nat.reduceEqDiff, ↓reduceIte, reduceCtorEq, Nat.reduceAdd, ge_iff_le, gt_iff_lt, forall_const, Nat.reduceBEq, Nat.reduceBNe, Nat.reduceMul, Nat.reduceLeDiff, Nat.reduceSub, Int.reduceToNat, td_3, td_4, td_5, td_9, td_22, td_24, td_25, td_27, td_28, td_29, td_31, td_32, td_38, td_44, td_46, td_85, trP, trC, strsP, evsP])
  and_intros; all_goals (try (refine Side.mk ?_; first | first | omega | (intros; omega) | (simp; done) | (simp; omega) | (intro h; simp at h; omega) | (simp_all; done) | rfl | (and_intros <;> first | omega | (intros; omega) | (simp; done) | (simp; omega) | (intro h; simp at h; omega) | (simp_all; done) | rfl)))
  refine Run.callP rfl rfl (by kernel_rfl) (hmk) rfl rfl rfl ?_
  (refine Run.on ?_; simp only [B0, B1, B2, Lm0, Lm1, Lm2, Lm3, Lm4, Lm5, Lm6, Lm7, Lm8, Lm9, Lm10, Lm11, Lm12, Lm13, Lm14, Lm15, Lm16, Lm17, Lm18, Lm19, Lm20, Lm21, Lm22, Lm23, Lm24, Lm25, Lm26, Lm27, Lm28, Lm29, Nat.reduceLT, Nat.reduceEqDiff, ↓reduceIte, reduceCtorEq, Nat.reduceAdd, ge_iff_le, gt_iff_lt, forall_const, Nat.reduceBEq, Nat.reduceBNe, Nat.reduceMul, Nat.reduceLeDiff, Nat.reduceSub, Int.reduceToNat, td_3, td_4, td_5, td_9, td_22, td_24, td_25, td_27, td_28, td_29, td_31, td_32, td_38, td_44, td_46, td_85, trP, trC, strsP, evsP])
  and_intros; all_goals (try (refine Side.mk ?_; first | first | omega | (intros; omega) | (simp; done) | (simp; omega) | (intro h; simp at h; omega) | (simp_all; done) | rfl | (and_intros <;> first | omega | (intros; omega) | (simp; done) | (simp; omega) | (intro h; simp at h; omega) | (simp_all; done) | rfl)))
  refine Run.callS false [4] rfl rfl (by kernel_rfl) rfl rfl (fun h => by first | (cases h; done) | exact ⟨rfl, rfl⟩) (c3) (by first | rfl | (simp only [B0, B1, B2, Lm0, Lm1, Lm2, Lm3, Lm4, Lm5, Lm6, Lm7, Lm8, Lm9, Lm10, Lm11, Lm12, Lm13, Lm14, Lm15, Lm16, Lm17, Lm18, Lm19, Lm20, Lm21, Lm22, Lm23, Lm24, Lm25, Lm26, Lm27, Lm28, Lm29, Nat.reduceLT, Nat.reduceEqDiff, ↓reduceIte, reduceCtorEq, Nat.reduceAdd, ge_iff_le, gt_iff_lt, forall_const, Nat.reduceBEq, Nat.reduceBNe, Nat.reduceMul, Nat.reduceLeDiff, Nat.reduceSub, Int.reduceToNat, BO]; done) | (simp only [B0, B1, B2, Lm0, Lm1, Lm2, Lm3, Lm4, Lm5, Lm6, Lm7, Lm8, Lm9, Lm10, Lm11, Lm12, Lm13, Lm14, Lm15, Lm16, Lm17, Lm18, Lm19, Lm20, Lm21, Lm22, Lm23, Lm24, Lm25, Lm26, Lm27, Lm28, Lm29, Nat.reduceLT, Nat.reduceEqDiff, ↓reduceIte, reduceCtorEq, Nat.reduceAdd, ge_iff_le, gt_iff_lt, forall_const, Nat.reduceBEq, Nat.reduceBNe, Nat.reduceMul, Nat.reduceLeDiff, Nat.reduceSub, Int.reduceToNat, BO]; rfl)) (by first | rfl | (simp only [B0, B1, B2, Lm0, Lm1, Lm2, Lm3, Lm4, Lm5, Lm6, Lm7, Lm8, Lm9, Lm10, Lm11, Lm12, Lm13, Lm14, Lm15, Lm16, Lm17, Lm18, Lm19, Lm20, Lm21, Lm22, Lm23, Lm24, Lm25, Lm26, Lm27, Lm28, Lm29, Nat.reduceLT, Nat.reduceEqDiff, ↓reduceIte, reduceCtorEq, Nat.reduceAdd, ge_iff_le, gt_iff_lt, forall_const, Nat.reduceBEq, Nat.reduceBNe, Nat.reduceMul, Nat.reduceLeDiff, Nat.reduceSub, Int.reduceToNat, BO]; done) | (simp only [B0, B1, B2, Lm0, Lm1, Lm2, Lm3, Lm4, Lm5, Lm6, Lm7, Lm8, Lm9, Lm10, Lm11, Lm12, Lm13, Lm14, Lm15, Lm16, Lm17, Lm18, Lm19, Lm20, Lm21, Lm22, Lm23, Lm24, Lm25, Lm26, Lm27, Lm28, Lm29, Nat.reduceLT, Nat.reduceEqDiff, ↓reduceIte, reduceCtorEq, Nat.reduceAdd, ge_iff_le, gt_iff_lt, forall_const, Nat.reduceBEq, Nat.reduceBNe, Nat.reduceMul, Nat.reduceLeDiff, Nat.reduceSub, Int.reduceToNat, BO]; rfl)) (fun h => by cases h) ?_
  (refine Run.on ?_; simp only [B0, B1, B2, Lm0, Lm1, Lm2, Lm3, Lm4, Lm5, Lm6, Lm7, Lm8, Lm9, Lm10, Lm11, Lm12, Lm13, Lm14, Lm15, Lm16, Lm17, Lm18, Lm19, Lm20, Lm21, Lm22, Lm23, Lm24, Lm25, Lm26, Lm27, Lm28, Lm29, Nat.reduceLT, Nat.reduceEqDiff, ↓reduceIte, reduceCtorEq, Nat.reduceAdd, ge_iff_le, gt_iff_lt, forall_const, Nat.reduceBEq, Nat.reduceBNe, Nat.reduceMul, Nat.reduceLeDiff, Nat.reduceSub, Int.reduceToNat, td_3, td_4, td_5, td_9, td_22, td_24, td_25, td_27, td_28, td_29, td_31, td_32, td_38, td_44, td_46, td_85, BO, trP, trC, strsP, evsP])
  and_intros; all_goals (try (refine Side.mk ?_; first | first | omega | (intros; omega) | (simp; done) | (simp; omega) | (intro h; simp at h; omega) | (simp_all; done) | rfl | (and_intros <;> first | omega | (intros; omega) | (simp; done) | (simp; omega) | (intro h; simp at h; omega) | (simp_all; done) | rfl)))
  refine Run.callT rfl rfl rfl (by kernel_rfl) (c_sameTrace A A hA) rfl rfl rfl ?_
  (refine Run.on ?_; simp only [B0, B1, B2, Lm0, Lm1, Lm2, Lm3, Lm4, Lm5, Lm6, Lm7, Lm8, Lm9, Lm10, Lm11, Lm12, Lm13, Lm14, Lm15, Lm16, Lm17, Lm18, Lm19, Lm20, Lm21, Lm22, Lm23, Lm24, Lm25, Lm26, Lm27, Lm28, Lm29, Nat.reduceLT, Nat.reduceEqDiff, ↓reduceIte, reduceCtorEq, Nat.reduceAdd, ge_iff_le, gt_iff_lt, forall_const, Nat.reduceBEq, Nat.reduceBNe, Nat.reduceMul, Nat.reduceLeDiff, Nat.reduceSub, Int.reduceToNat, td_3, td_4, td_5, td_9, td_22, td_24, td_25, td_27, td_28, td_29, td_31, td_32, td_38, td_44, td_46, td_85, trP, trC, strsP, evsP])
  and_intros; all_goals (try (refine Side.mk ?_; first | first | omega | (intros; omega) | (simp; done) | (simp; omega) | (intro h; simp at h; omega) | (simp_all; done) | rfl | (and_intros <;> first | omega | (intros; omega) | (simp; done) | (simp; omega) | (intro h; simp at h; omega) | (simp_all; done) | rfl)))
  · intro h; exact absurd h (by decide)
  intro _
  obtain ⟨Wh, hWh⟩ : ∃ W, (refM T).1 = W := ⟨_, rfl⟩
  have hWok : Wh.Ok := by rw [← hWh]; exact refM_ok T m5 (by omega)
  rw [hWh]
  refine WC_conv (env' := [(5, trsP T), (6, .ad 0 0)]) (H' := [some ⟨27, false, 1, trC Wh⟩]) ?_ ?_
  · exact Conv.to [1] (nodupB_ok rfl) rfl (by repeat (first | exact trivial | refine ⟨.refl _, ?_⟩ | refine ⟨LeP.osl rfl, ?_⟩ | refine ⟨LeP.oslN rfl (by simp) (by omega), ?_⟩)) ⟨LeO.refl _, trivial⟩
  (refine exeC_ok (f := 60) ?_; simp only [B0, B1, B2, Lm0, Lm1, Lm2, Lm3, Lm4, Lm5, Lm6, Lm7, Lm8, Lm9, Lm10, Lm11, Lm12, Lm13, Lm14, Lm15, Lm16, Lm17, Lm18, Lm19, Lm20, Lm21, Lm22, Lm23, Lm24, Lm25, Lm26, Lm27, Lm28, Lm29, Nat.reduceLT, Nat.reduceEqDiff, ↓reduceIte, reduceCtorEq, Nat.reduceAdd, ge_iff_le, gt_iff_lt, forall_const, Nat.reduceBEq, Nat.reduceBNe, Nat.reduceMul, Nat.reduceLeDiff, Nat.reduceSub, Int.reduceToNat, td_3, td_4, td_5, td_9, td_22, td_24, td_25, td_27, td_28, td_29, td_31, td_32, td_38, td_44, td_46, td_85, trC, strsP, evsP, trsP])
  and_intros; all_goals (try (refine Side.mk ?_; first | first | omega | (intros; omega) | (simp; done) | (simp; omega) | (intro h; simp at h; omega) | (simp_all; done) | rfl | (and_intros <;> first | omega | (intros; omega) | (simp; done) | (simp; omega) | (intro h; simp at h; omega) | (simp_all; done) | rfl)))
  refine WC_loop (fun k : Nat => [(6, .ad 0 0), (13, .ad 1 0), (66, trsP T), (67, I T.length), (68, I k)]) (fun k => [some ⟨27, false, 1, trC Wh⟩, some ⟨27, false, 1, trC (refM (T.take k)).1⟩]) (fun k => k ≤ T.length) (fun k => T.length - k) 0 ?_ (Nat.zero_le _) ?_
  · exact Conv.to [0, 1] (nodupB_ok rfl) rfl (by repeat (first | exact trivial | refine ⟨.refl _, ?_⟩ | refine ⟨LeP.osl rfl, ?_⟩ | refine ⟨LeP.oslN rfl (by simp) (by omega), ?_⟩)) ⟨LeO.refl _, ⟨rfl, rfl, rfl, LeL.cons .nil (LeL.cons .nil .nil)⟩, trivial⟩
  intro k hk
  (refine exeC_ok (f := 60) ?_; simp only [B0, B1, B2, Lm0, Lm1, Lm2, Lm3, Lm4, Lm5, Lm6, Lm7, Lm8, Lm9, Lm10, Lm11, Lm12, Lm13, Lm14, Lm15, Lm16, Lm17, Lm18, Lm19, Lm20, Lm21, Lm22, Lm23, Lm24, Lm25, Lm26, Lm27, Lm28, Lm29, Nat.reduceLT, Nat.reduceEqDiff, ↓reduceIte, reduceCtorEq, Nat.reduceAdd, ge_iff_le, gt_iff_lt, forall_const, Nat.reduceBEq, Nat.reduceBNe, Nat.reduceMul, Nat.reduceLeDiff, Nat.reduceSub, Int.reduceToNat, td_3, td_4, td_5, td_9, td_22, td_24, td_25, td_27, td_28, td_29, td_31, td_32, td_38, td_44, td_46, td_85, trC, strsP, evsP, trsP])
  refine ⟨fun h1 => ?_, fun h1 => ?_⟩
  · have hk' : k < T.length := by omega
    have hx := drop_tr T k hk'
    have htk := take_snoc T k hk'
    have hw' : IntKind.i64.wrap ((k : Int) + 1) = (k : Int) + 1 := wrap64 (by omega) (by omega)
    have hXm := getD_mem hk'
    have hXi : ∀ e, e ∈ (T.getD k default).evs → e.ids.length ≤ 3 := by
      have := trs32_ids l hok
      rw [hT] at this
      exact this _ hXm
    obtain ⟨X, hX⟩ : ∃ X, T.getD k default = X := ⟨_, rfl⟩
    rw [hX] at hx htk hXm hXi
    have q0 : T.take k = trs32 (l.take k) := by rw [← hT]; exact trs32_take l k (by omega)
    have q0' : T.take (k + 1) = trs32 (l.take (k + 1)) := by rw [← hT]; exact trs32_take l (k + 1) (by omega)
    obtain ⟨u1, u2, u3, u4, u5⟩ := trs32_ok (l.take k) fun p hp => hok p (List.mem_of_mem_take hp)
    obtain ⟨v1, v2, v3, v4, v5⟩ := trs32_ok (l.take (k + 1)) fun p hp => hok p (List.mem_of_mem_take hp)
    have ui := trs32_ids (l.take k) fun p hp => hok p (List.mem_of_mem_take hp)
    rw [← q0] at u1 u2 u3 u4 u5 ui
    rw [← q0', htk] at v1 v2 v3 v4 v5
    have hsn := refM_snoc (T.take k) X v2 (by omega)
    have hz : (refM (T.take k ++ [X])).2 = 0 := by rw [refM_may v2 (by omega)]
    have g1 := refM_ok (T.take k) u5 (by omega)
    have g2 := refM_ids u2 (by omega) 3 ui
    have g3 := refM_ev_len (T.take k)
    have g4 := refM_n_len (T.take k)
    have hXok := m5 X hXm
    have hXl : tot [X] ≤ 300 := by
      have : tot (T.take k ++ [X]) ≤ 300 := v4
      unfold tot at this ⊢
      rw [sumE_lines] at this ⊢
      simp at this ⊢; omega
    have hXn : sumN (T.take k ++ [X]) ≤ 15 := v3
    obtain ⟨N, hN⟩ : ∃ N, (refM (T.take k)).1 = N := ⟨_, rfl⟩
    rw [hN] at hsn g1 g2 g3 g4
    have oM : MOk 12 [N, X] := by
      refine ⟨by simp, ?_, ?_, fun t ht => ?_, fun t ht _ e he => ?_⟩
      · simp only [sumN, List.map_append, List.sum_append, List.map_cons, List.sum_cons, List.map_nil, List.sum_nil] at hXn g4 ⊢; omega
      · unfold tot at hXl u4 g3
        rw [sumE_lines] at hXl u4 g3 ⊢
        simp only [List.map_cons, List.sum_cons, List.map_nil, List.sum_nil] at hXl ⊢
        omega
      · simp only [List.mem_cons, List.not_mem_nil, or_false] at ht
        rcases ht with rfl | rfl
        · exact g1
        · exact hXok
      · simp only [List.mem_cons, List.not_mem_nil, or_false] at ht
        rcases ht with rfl | rfl
        · have := g2 e he; omega
        · have := hXi e he; omega
    have cM := c_mergeOwn2 [N, X] oM
    rw [hsn, hz] at cM
    rw [hN]
    (refine exeC_ok (f := 60) ?_; simp only [B0, B1, B2, Lm0, Lm1, Lm2, Lm3, Lm4, Lm5, Lm6, Lm7, Lm8, Lm9, Lm10, Lm11, Lm12, Lm13, Lm14, Lm15, Lm16, Lm17, Lm18, Lm19, Lm20, Lm21, Lm22, Lm23, Lm24, Lm25, Lm26, Lm27, Lm28, Lm29, Nat.reduceLT, Nat.reduceEqDiff, ↓reduceIte, reduceCtorEq, Nat.reduceAdd, ge_iff_le, gt_iff_lt, forall_const, Nat.reduceBEq, Nat.reduceBNe, Nat.reduceMul, Nat.reduceLeDiff, Nat.reduceSub, Int.reduceToNat, td_3, td_4, td_5, td_9, td_22, td_24, td_25, td_27, td_28, td_29, td_31, td_32, td_38, td_44, td_46, td_85, trC, strsP, evsP, trsP, hx, lT])
    and_intros; all_goals (try (refine Side.mk ?_; first | first | omega | (intros; omega) | (simp; done) | (simp; omega) | (intro h; simp at h; omega) | (simp_all; done) | rfl | (and_intros <;> first | omega | (intros; omega) | (simp; done) | (simp; omega) | (intro h; simp at h; omega) | (simp_all; done) | rfl)))
    refine Run.callS false [3] rfl rfl (by kernel_rfl) rfl rfl (fun h => by first | (cases h; done) | exact ⟨rfl, rfl⟩) (cM) (by first | rfl | (simp only [B0, B1, B2, Lm0, Lm1, Lm2, Lm3, Lm4, Lm5, Lm6, Lm7, Lm8, Lm9, Lm10, Lm11, Lm12, Lm13, Lm14, Lm15, Lm16, Lm17, Lm18, Lm19, Lm20, Lm21, Lm22, Lm23, Lm24, Lm25, Lm26, Lm27, Lm28, Lm29, Nat.reduceLT, Nat.reduceEqDiff, ↓reduceIte, reduceCtorEq, Nat.reduceAdd, ge_iff_le, gt_iff_lt, forall_const, Nat.reduceBEq, Nat.reduceBNe, Nat.reduceMul, Nat.reduceLeDiff, Nat.reduceSub, Int.reduceToNat, BO]; done) | (simp only [B0, B1, B2, Lm0, Lm1, Lm2, Lm3, Lm4, Lm5, Lm6, Lm7, Lm8, Lm9, Lm10, Lm11, Lm12, Lm13, Lm14, Lm15, Lm16, Lm17, Lm18, Lm19, Lm20, Lm21, Lm22, Lm23, Lm24, Lm25, Lm26, Lm27, Lm28, Lm29, Nat.reduceLT, Nat.reduceEqDiff, ↓reduceIte, reduceCtorEq, Nat.reduceAdd, ge_iff_le, gt_iff_lt, forall_const, Nat.reduceBEq, Nat.reduceBNe, Nat.reduceMul, Nat.reduceLeDiff, Nat.reduceSub, Int.reduceToNat, BO]; rfl)) (by first | rfl | (simp only [B0, B1, B2, Lm0, Lm1, Lm2, Lm3, Lm4, Lm5, Lm6, Lm7, Lm8, Lm9, Lm10, Lm11, Lm12, Lm13, Lm14, Lm15, Lm16, Lm17, Lm18, Lm19, Lm20, Lm21, Lm22, Lm23, Lm24, Lm25, Lm26, Lm27, Lm28, Lm29, Nat.reduceLT, Nat.reduceEqDiff, ↓reduceIte, reduceCtorEq, Nat.reduceAdd, ge_iff_le, gt_iff_lt, forall_const, Nat.reduceBEq, Nat.reduceBNe, Nat.reduceMul, Nat.reduceLeDiff, Nat.reduceSub, Int.reduceToNat, BO]; done) | (simp only [B0, B1, B2, Lm0, Lm1, Lm2, Lm3, Lm4, Lm5, Lm6, Lm7, Lm8, Lm9, Lm10, Lm11, Lm12, Lm13, Lm14, Lm15, Lm16, Lm17, Lm18, Lm19, Lm20, Lm21, Lm22, Lm23, Lm24, Lm25, Lm26, Lm27, Lm28, Lm29, Nat.reduceLT, Nat.reduceEqDiff, ↓reduceIte, reduceCtorEq, Nat.reduceAdd, ge_iff_le, gt_iff_lt, forall_const, Nat.reduceBEq, Nat.reduceBNe, Nat.reduceMul, Nat.reduceLeDiff, Nat.reduceSub, Int.reduceToNat, BO]; rfl)) (fun h => by cases h) ?_
    (refine Run.on ?_; simp only [B0, B1, B2, Lm0, Lm1, Lm2, Lm3, Lm4, Lm5, Lm6, Lm7, Lm8, Lm9, Lm10, Lm11, Lm12, Lm13, Lm14, Lm15, Lm16, Lm17, Lm18, Lm19, Lm20, Lm21, Lm22, Lm23, Lm24, Lm25, Lm26, Lm27, Lm28, Lm29, Nat.reduceLT, Nat.reduceEqDiff, ↓reduceIte, reduceCtorEq, Nat.reduceAdd, ge_iff_le, gt_iff_lt, forall_const, Nat.reduceBEq, Nat.reduceBNe, Nat.reduceMul, Nat.reduceLeDiff, Nat.reduceSub, Int.reduceToNat, td_3, td_4, td_5, td_9, td_22, td_24, td_25, td_27, td_28, td_29, td_31, td_32, td_38, td_44, td_46, td_85, BO, trP, trC, strsP, evsP])
    and_intros; all_goals (try (refine Side.mk ?_; first | first | omega | (intros; omega) | (simp; done) | (simp; omega) | (intro h; simp at h; omega) | (simp_all; done) | rfl | (and_intros <;> first | omega | (intros; omega) | (simp; done) | (simp; omega) | (intro h; simp at h; omega) | (simp_all; done) | rfl)))
    (refine exeC_ok (f := 60) ?_; simp only [B0, B1, B2, Lm0, Lm1, Lm2, Lm3, Lm4, Lm5, Lm6, Lm7, Lm8, Lm9, Lm10, Lm11, Lm12, Lm13, Lm14, Lm15, Lm16, Lm17, Lm18, Lm19, Lm20, Lm21, Lm22, Lm23, Lm24, Lm25, Lm26, Lm27, Lm28, Lm29, Nat.reduceLT, Nat.reduceEqDiff, ↓reduceIte, reduceCtorEq, Nat.reduceAdd, ge_iff_le, gt_iff_lt, forall_const, Nat.reduceBEq, Nat.reduceBNe, Nat.reduceMul, Nat.reduceLeDiff, Nat.reduceSub, Int.reduceToNat, td_3, td_4, td_5, td_9, td_22, td_24, td_25, td_27, td_28, td_29, td_31, td_32, td_38, td_44, td_46, td_85, hw', trC, strsP, evsP, trsP])
    and_intros; all_goals (try (refine Side.mk ?_; first | first | omega | (intros; omega) | (simp; done) | (simp; omega) | (intro h; simp at h; omega) | (simp_all; done) | rfl | (and_intros <;> first | omega | (intros; omega) | (simp; done) | (simp; omega) | (intro h; simp at h; omega) | (simp_all; done) | rfl)))
    refine ⟨k + 1, ?_, by omega, by omega⟩
    simp only [htk]
    exact Conv.to [0, 1] (nodupB_ok rfl) rfl (by repeat (first | exact trivial | refine ⟨.refl _, ?_⟩ | refine ⟨LeP.osl rfl, ?_⟩ | refine ⟨LeP.oslN rfl (by simp) (by omega), ?_⟩)) ⟨LeO.refl _, LeO.refl _, trivial⟩
  · have hk' : k = T.length := by omega
    subst hk'
    rw [List.take_length, hWh]
    (refine exeC_ok (f := 60) ?_; simp only [B0, B1, B2, Lm0, Lm1, Lm2, Lm3, Lm4, Lm5, Lm6, Lm7, Lm8, Lm9, Lm10, Lm11, Lm12, Lm13, Lm14, Lm15, Lm16, Lm17, Lm18, Lm19, Lm20, Lm21, Lm22, Lm23, Lm24, Lm25, Lm26, Lm27, Lm28, Lm29, Nat.reduceLT, Nat.reduceEqDiff, ↓reduceIte, reduceCtorEq, Nat.reduceAdd, ge_iff_le, gt_iff_lt, forall_const, Nat.reduceBEq, Nat.reduceBNe, Nat.reduceMul, Nat.reduceLeDiff, Nat.reduceSub, Int.reduceToNat, td_3, td_4, td_5, td_9, td_22, td_24, td_25, td_27, td_28, td_29, td_31, td_32, td_38, td_44, td_46, td_85, trC, strsP, evsP, trsP])
    and_intros; all_goals (try (refine Side.mk ?_; first | first | omega | (intros; omega) | (simp; done) | (simp; omega) | (intro h; simp at h; omega) | (simp_all; done) | rfl | (and_intros <;> first | omega | (intros; omega) | (simp; done) | (simp; omega) | (intro h; simp at h; omega) | (simp_all; done) | rfl)))
    refine Run.callP rfl rfl (by kernel_rfl) (c_sameTrace Wh Wh hWok) rfl rfl rfl ?_
    (refine Run.on ?_; simp only [B0, B1, B2, Lm0, Lm1, Lm2, Lm3, Lm4, Lm5, Lm6, Lm7, Lm8, Lm9, Lm10, Lm11, Lm12, Lm13, Lm14, Lm15, Lm16, Lm17, Lm18, Lm19, Lm20, Lm21, Lm22, Lm23, Lm24, Lm25, Lm26, Lm27, Lm28, Lm29, Nat.reduceLT, Nat.reduceEqDiff, ↓reduceIte, reduceCtorEq, Nat.reduceAdd, ge_iff_le, gt_iff_lt, forall_const, Nat.reduceBEq, Nat.reduceBNe, Nat.reduceMul, Nat.reduceLeDiff, Nat.reduceSub, Int.reduceToNat, td_3, td_4, td_5, td_9, td_22, td_24, td_25, td_27, td_28, td_29, td_31, td_32, td_38, td_44, td_46, td_85, trP, trC, strsP, evsP])
    and_intros; all_goals (try (refine Side.mk ?_; first | first | omega | (intros; omega) | (simp; done) | (simp; omega) | (intro h; simp at h; omega) | (simp_all; done) | rfl | (and_intros <;> first | omega | (intros; omega) | (simp; done) | (simp; omega) | (intro h; simp at h; omega) | (simp_all; done) | rfl)))
    refine Run.callT rfl rfl rfl (by kernel_rfl) (c_awake) rfl rfl rfl ?_
    (refine Run.on ?_; simp only [B0, B1, B2, Lm0, Lm1, Lm2, Lm3, Lm4, Lm5, Lm6, Lm7, Lm8, Lm9, Lm10, Lm11, Lm12, Lm13, Lm14, Lm15, Lm16, Lm17, Lm18, Lm19, Lm20, Lm21, Lm22, Lm23, Lm24, Lm25, Lm26, Lm27, Lm28, Lm29, Nat.reduceLT, Nat.reduceEqDiff, ↓reduceIte, reduceCtorEq, Nat.reduceAdd, ge_iff_le, gt_iff_lt, forall_const, Nat.reduceBEq, Nat.reduceBNe, Nat.reduceMul, Nat.reduceLeDiff, Nat.reduceSub, Int.reduceToNat, td_3, td_4, td_5, td_9, td_22, td_24, td_25, td_27, td_28, td_29, td_31, td_32, td_38, td_44, td_46, td_85])
    exact RetV.p rfl trivial (rB rfl)
end Go.Proofs.Ytbbjmfkmjjinnaa.V
