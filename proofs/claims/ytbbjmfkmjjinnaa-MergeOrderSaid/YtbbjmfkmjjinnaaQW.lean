/- The walk of MergeOrder: it gives true for every input. -/
import Derived.Test.YtbbjmfkmjjinnaaQV
set_option linter.all false
namespace Go.Proofs.Ytbbjmfkmjjinnaa.V
open Go Go.Proofs

theorem kwT_length : ∀ (n : Nat) (l : List Tr), tot l = n → (kwT l).length = n
  | 0, l, h => by
    have := kwT_len l
    omega
  | n + 1, l, h => by
    cases hb : bestL 0 l with
    | none =>
      have := (bestL_none l 0).1 hb
      unfold tot at h
      rw [this] at h; cases h
    | some x =>
      have := tot_adv (bestL_some l 0 x hb).1
      rw [kwT_some hb, List.length_cons, kwT_length n _ (by omega)]

set_option maxHeartbeats 1000000 in
theorem mergeOrder_walk (l : List Pt) (hl : l.length ≤ 9223372036854775807) (hok : ∀ p, p ∈ l → p.Ok) : GC Try.prog 5 [ptsP l] [] (Bo true) [] := by
  obtain ⟨m1, m2, m3, m4, m5⟩ := trs32_ok l hok
  have hlen : (trs32 l).length ≤ 5 := by simp [trs32]; omega
  have mi := trs32_ids l hok
  have hct := c_traces l hl hok
  obtain ⟨T, hT⟩ : ∃ T, trs32 l = T := ⟨_, rfl⟩
  rw [hT] at m1 m2 m3 m4 m5 mi hlen hct
  have r1 := refM_may m2 (by omega)
  have hW := refM_mayB m2 (by omega)
  have hWo := refM_ok T m5 (by omega)
  have hWi := refM_ids m2 (by omega) 3 mi
  have c1 := c_merge12 T m1
  obtain ⟨-, n1, n2⟩ := allN_ok T [] List.nodup_nil
  rw [r1] at c1 hW hWo hWi
  simp only at c1
  obtain ⟨N, hN⟩ : ∃ N, (allN [] T).1 = N := ⟨_, rfl⟩
  rw [hN] at c1 hW hWo hWi n1
  obtain ⟨E, hE⟩ : ∃ E, (kwT T).map (refEv N T) = E := ⟨_, rfl⟩
  rw [hE] at c1 hW hWo hWi
  have hcm := c_tmay ⟨N, E⟩ hWo
  rw [hW] at hcm
  refine GC_fn [(14, true, [0, 1, 3, 4, 5, 6, 7, 2, 8, 9, 10])] Try.func5 rfl rfl (by kernel_rfl) ?_
  (refine exeC_ok (f := 60) ?_; simp only [B0, B1, B2, Lm0, Lm1, Lm2, Lm3, Lm4, Lm5, Lm6, Lm7, Lm8, Lm9, Lm10, Lm11, Lm12, Lm13, Lm14, Lm15, Lm16, Lm17, Lm18, Lm19, Lm20, Lm21, Lm22, Lm23, Lm24, Lm25, Lm26, Lm27, Lm28, Lm29, Nat.reduceLT, Nat.reduceEqDiff, ↓reduceIte, reduceCtorEq, Nat.reduceAdd, ge_iff_le, gt_iff_lt, forall_const, Nat.reduceBEq, Nat.reduceBNe, Nat.reduceMul, Nat.reduceLeDiff, Nat.reduceSub, Int.reduceToNat, td_3, td_4, td_5, td_9, td_22, td_24, td_25, td_27, td_28, td_29, td_31, td_32, td_38, td_44, td_46, td_85])
  refine Run.callP rfl rfl (by kernel_rfl) (hct) rfl rfl rfl ?_
  (refine Run.on ?_; simp only [B0, B1, B2, Lm0, Lm1, Lm2, Lm3, Lm4, Lm5, Lm6, Lm7, Lm8, Lm9, Lm10, Lm11, Lm12, Lm13, Lm14, Lm15, Lm16, Lm17, Lm18, Lm19, Lm20, Lm21, Lm22, Lm23, Lm24, Lm25, Lm26, Lm27, Lm28, Lm29, Nat.reduceLT, Nat.reduceEqDiff, ↓reduceIte, reduceCtorEq, Nat.reduceAdd, ge_iff_le, gt_iff_lt, forall_const, Nat.reduceBEq, Nat.reduceBNe, Nat.reduceMul, Nat.reduceLeDiff, Nat.reduceSub, Int.reduceToNat, td_3, td_4, td_5, td_9, td_22, td_24, td_25, td_27, td_28, td_29, td_31, td_32, td_38, td_44, td_46, td_85])
  refine Run.callP rfl rfl (by kernel_rfl) (c1) rfl rfl rfl ?_
  (refine Run.on ?_; simp only [B0, B1, B2, Lm0, Lm1, Lm2, Lm3, Lm4, Lm5, Lm6, Lm7, Lm8, Lm9, Lm10, Lm11, Lm12, Lm13, Lm14, Lm15, Lm16, Lm17, Lm18, Lm19, Lm20, Lm21, Lm22, Lm23, Lm24, Lm25, Lm26, Lm27, Lm28, Lm29, Nat.reduceLT, Nat.reduceEqDiff, ↓reduceIte, reduceCtorEq, Nat.reduceAdd, ge_iff_le, gt_iff_lt, forall_const, Nat.reduceBEq, Nat.reduceBNe, Nat.reduceMul, Nat.reduceLeDiff, Nat.reduceSub, Int.reduceToNat, td_3, td_4, td_5, td_9, td_22, td_24, td_25, td_27, td_28, td_29, td_31, td_32, td_38, td_44, td_46, td_85, trP, trC, strsP, evsP])
  and_intros; all_goals (try (refine Side.mk ?_; first | first | omega | (intros; omega) | (simp; done) | (simp; omega) | (intro h; simp at h; omega) | (simp_all; done) | rfl | (and_intros <;> first | omega | (intros; omega) | (simp; done) | (simp; omega) | (intro h; simp at h; omega) | (simp_all; done) | rfl)))
  refine Run.callT rfl rfl rfl (by kernel_rfl) (hcm) rfl rfl rfl ?_
  (refine Run.on ?_; simp only [B0, B1, B2, Lm0, Lm1, Lm2, Lm3, Lm4, Lm5, Lm6, Lm7, Lm8, Lm9, Lm10, Lm11, Lm12, Lm13, Lm14, Lm15, Lm16, Lm17, Lm18, Lm19, Lm20, Lm21, Lm22, Lm23, Lm24, Lm25, Lm26, Lm27, Lm28, Lm29, Nat.reduceLT, Nat.reduceEqDiff, ↓reduceIte, reduceCtorEq, Nat.reduceAdd, ge_iff_le, gt_iff_lt, forall_const, Nat.reduceBEq, Nat.reduceBNe, Nat.reduceMul, Nat.reduceLeDiff, Nat.reduceSub, Int.reduceToNat, td_3, td_4, td_5, td_9, td_22, td_24, td_25, td_27, td_28, td_29, td_31, td_32, td_38, td_44, td_46, td_85, trP, trC, strsP, evsP])
  and_intros; all_goals (try (refine Side.mk ?_; first | first | omega | (intros; omega) | (simp; done) | (simp; omega) | (intro h; simp at h; omega) | (simp_all; done) | rfl | (and_intros <;> first | omega | (intros; omega) | (simp; done) | (simp; omega) | (intro h; simp at h; omega) | (simp_all; done) | rfl)))
  have hEl : E.length ≤ 300 := by rw [← hE, List.length_map]; have := kwT_len T; omega
  (refine exeC_ok (f := 60) ?_; simp only [B0, B1, B2, Lm0, Lm1, Lm2, Lm3, Lm4, Lm5, Lm6, Lm7, Lm8, Lm9, Lm10, Lm11, Lm12, Lm13, Lm14, Lm15, Lm16, Lm17, Lm18, Lm19, Lm20, Lm21, Lm22, Lm23, Lm24, Lm25, Lm26, Lm27, Lm28, Lm29, Nat.reduceLT, Nat.reduceEqDiff, ↓reduceIte, reduceCtorEq, Nat.reduceAdd, ge_iff_le, gt_iff_lt, forall_const, Nat.reduceBEq, Nat.reduceBNe, Nat.reduceMul, Nat.reduceLeDiff, Nat.reduceSub, Int.reduceToNat, td_3, td_4, td_5, td_9, td_22, td_24, td_25, td_27, td_28, td_29, td_31, td_32, td_38, td_44, td_46, td_85, trsP, evsP, strsP])
  and_intros; all_goals (try (refine Side.mk ?_; first | first | omega | (intros; omega) | (simp; done) | (simp; omega) | (intro h; simp at h; omega) | (simp_all; done) | rfl | (and_intros <;> first | omega | (intros; omega) | (simp; done) | (simp; omega) | (intro h; simp at h; omega) | (simp_all; done) | rfl)))
  refine WC_loop (fun s : Nat × List Nat => [(3, trsP T), (4, .ad 0 0), (6, .id 1 T.length), (32, evsP E), (33, I E.length), (34, I s.1)])
    (fun s => [some ⟨27, false, 1, [strsP N, evsP E]⟩, some ⟨3, true, 1, s.2.map Nn⟩])
    (fun s => s.1 ≤ E.length ∧ s.2.length = T.length ∧ E.drop s.1 = (kwT (restT T s.2)).map (refEv N T) ∧ tot (restT T s.2) = E.length - s.1 ∧ ∀ k, k < T.length → s.2.getD k default ≤ (T.getD k default).evs.length) (fun s => E.length - s.1) (0, List.replicate T.length 0) ?_ ⟨Nat.zero_le _, by simp, by simp [restT_zero, hE], ?_, ?_⟩ ?_
  · exact Conv.to [0, 1] (nodupB_ok rfl) rfl (by repeat (first | exact trivial | refine ⟨.refl _, ?_⟩ | refine ⟨LeP.osl rfl, ?_⟩ | refine ⟨LeP.oslN rfl (by simp) (by omega), ?_⟩)) ⟨LeO.refl _, LeO.ob (zR _ _) (by rw [List.map_replicate]; rfl), trivial⟩
  · simp only [restT_zero, Nat.sub_zero]
    rw [← hE, List.length_map, kwT_length _ T rfl]
  · intro k hk; simp only [List.getD_eq_getElem?_getD, List.getElem?_replicate]; split <;> simp
  rintro ⟨i, a⟩ ⟨d1, d2, d3, d4, d7⟩
  simp only at d1 d2 d3 d4 d7
  (refine exeC_ok (f := 60) ?_; simp only [B0, B1, B2, Lm0, Lm1, Lm2, Lm3, Lm4, Lm5, Lm6, Lm7, Lm8, Lm9, Lm10, Lm11, Lm12, Lm13, Lm14, Lm15, Lm16, Lm17, Lm18, Lm19, Lm20, Lm21, Lm22, Lm23, Lm24, Lm25, Lm26, Lm27, Lm28, Lm29, Nat.reduceLT, Nat.reduceEqDiff, ↓reduceIte, reduceCtorEq, Nat.reduceAdd, ge_iff_le, gt_iff_lt, forall_const, Nat.reduceBEq, Nat.reduceBNe, Nat.reduceMul, Nat.reduceLeDiff, Nat.reduceSub, Int.reduceToNat, td_3, td_4, td_5, td_9, td_22, td_24, td_25, td_27, td_28, td_29, td_31, td_32, td_38, td_44, td_46, td_85, trsP, evsP, strsP])
  refine ⟨fun h1 => ?_, fun h1 => ?_⟩
  · have hi' : i < E.length := by omega
    have hx := drop_ev E i hi'
    have hw' : IntKind.i64.wrap ((i : Int) + 1) = (i : Int) + 1 := wrap64 (by omega) (by omega)
    rw [drop_cons E i hi'] at d3
    obtain ⟨x, hbx⟩ : ∃ x, bestL 0 (restT T a) = some x := by
      cases hb : bestL 0 (restT T a) with
      | none => rw [kwT_none hb] at d3; cases d3
      | some x => exact ⟨x, rfl⟩
    obtain ⟨b, g1, g2, g3⟩ := linesF_get _ 0 x (bestL_some _ 0 x hbx).1
    have gl := (linesF_no _ 0 x (bestL_some _ 0 x hbx).1).2
    have htot := tot_adv (bestL_some _ 0 x hbx).1
    rw [restT_length d2] at g1
    rw [restT_get g1 (by omega)] at g3
    simp only at g3
    have k3 := restT_adv T a 0 b d2
    rw [← g2] at k3
    rw [kwT_some hbx, List.map_cons] at d3
    rw [k3] at d3 htot
    obtain ⟨d5, d6⟩ := List.cons.inj d3
    have gb : a.getD b default < (T.getD b default).evs.length := by rw [g3, List.length_drop] at gl; omega
    have hEi : E.getD i default = ⟨((T.getD b default).evs.getD (a.getD b default) default).t, refIds N (T.getD b default).names ((T.getD b default).evs.getD (a.getD b default) default).ids⟩ := by
      rw [d5]; unfold refEv; rw [g2, g3]; simp [List.getD_eq_getElem?_getD]
    obtain ⟨⟨et, ei⟩, hee⟩ : ∃ e, E.getD i default = e := ⟨_, rfl⟩
    rw [hee] at hx hEi
    simp only at hx
    (refine exeC_ok (f := 60) ?_; simp only [B0, B1, B2, Lm0, Lm1, Lm2, Lm3, Lm4, Lm5, Lm6, Lm7, Lm8, Lm9, Lm10, Lm11, Lm12, Lm13, Lm14, Lm15, Lm16, Lm17, Lm18, Lm19, Lm20, Lm21, Lm22, Lm23, Lm24, Lm25, Lm26, Lm27, Lm28, Lm29, Nat.reduceLT, Nat.reduceEqDiff, ↓reduceIte, reduceCtorEq, Nat.reduceAdd, ge_iff_le, gt_iff_lt, forall_const, Nat.reduceBEq, Nat.reduceBNe, Nat.reduceMul, Nat.reduceLeDiff, Nat.reduceSub, Int.reduceToNat, td_3, td_4, td_5, td_9, td_22, td_24, td_25, td_27, td_28, td_29, td_31, td_32, td_38, td_44, td_46, td_85, trsP, evsP, strsP, intsP, hx, lE])
    and_intros; all_goals (try (refine Side.mk ?_; first | first | omega | (intros; omega) | (simp; done) | (simp; omega) | (intro h; simp at h; omega) | (simp_all; done) | rfl | (and_intros <;> first | omega | (intros; omega) | (simp; done) | (simp; omega) | (intro h; simp at h; omega) | (simp_all; done) | rfl)))
    refine WC_loop (fun k : Nat => [(3, trsP T), (4, .ad 0 0), (6, .id 1 T.length), (32, evsP E), (33, I E.length), (34, I i), (7, I i), (8, .ad 2 0), (9, Bo (decide (b < k))), (39, trsP T), (40, I T.length), (41, I k)])
      (fun k => [some ⟨27, false, 1, [strsP N, evsP E]⟩, some ⟨3, true, 1, (if b < k then a.set b (a.getD b default + 1) else a).map Nn⟩, some ⟨31, false, 1, [U et, intsP ei]⟩])
      (fun k => k ≤ T.length) (fun k => T.length - k) 0 ?_ (Nat.zero_le _) ?_
    · exact Conv.to [0, 1, 2] (nodupB_ok rfl) rfl (by repeat (first | exact trivial | refine ⟨.refl _, ?_⟩ | refine ⟨LeP.osl rfl, ?_⟩ | refine ⟨LeP.oslN rfl (by simp) (by omega), ?_⟩)) ⟨LeO.refl _, LeO.ob (zN _) (by simp), LeO.refl _, trivial⟩
    intro k hk
    (refine exeC_ok (f := 60) ?_; simp only [B0, B1, B2, Lm0, Lm1, Lm2, Lm3, Lm4, Lm5, Lm6, Lm7, Lm8, Lm9, Lm10, Lm11, Lm12, Lm13, Lm14, Lm15, Lm16, Lm17, Lm18, Lm19, Lm20, Lm21, Lm22, Lm23, Lm24, Lm25, Lm26, Lm27, Lm28, Lm29, Nat.reduceLT, Nat.reduceEqDiff, ↓reduceIte, reduceCtorEq, Nat.reduceAdd, ge_iff_le, gt_iff_lt, forall_const, Nat.reduceBEq, Nat.reduceBNe, Nat.reduceMul, Nat.reduceLeDiff, Nat.reduceSub, Int.reduceToNat, td_3, td_4, td_5, td_9, td_22, td_24, td_25, td_27, td_28, td_29, td_31, td_32, td_38, td_44, td_46, td_85, trsP, evsP, strsP, intsP])
    refine ⟨fun h2 => ?_, fun h2 => ?_⟩
    · have hk' : k < T.length := by omega
      have hy := drop_tr T k hk'
      have hw2 : IntKind.i64.wrap ((k : Int) + 1) = (k : Int) + 1 := wrap64 (by omega) (by omega)
      have hga := getD_ml Nn a k (by omega)
      have hgs := getD_ml Nn (a.set b (a.getD b default + 1)) k (by simp; omega)
      simp only [Nn, I] at hga hgs
      obtain ⟨⟨ns, es⟩, hne⟩ : ∃ t, T.getD k default = t := ⟨_, rfl⟩
      rw [hne] at hy
      refine exeC_ok (f := 6) ?_; simp only [B0, B1, B2, Lm0, Lm1, Lm2, Lm3, Lm4, Lm5, Lm6, Lm7, Lm8, Lm9, Lm10, Lm11, Lm12, Lm13, Lm14, Lm15, Lm16, Lm17, Lm18, Lm19, Lm20, Lm21, Lm22, Lm23, Lm24, Lm25, Lm26, Lm27, Lm28, Lm29, Nat.reduceLT, Nat.reduceEqDiff, ↓reduceIte, reduceCtorEq, Nat.reduceAdd, ge_iff_le, gt_iff_lt, forall_const, Nat.reduceBEq, Nat.reduceBNe, Nat.reduceMul, Nat.reduceLeDiff, Nat.reduceSub, Int.reduceToNat, td_3, td_4, td_5, td_9, td_22, td_24, td_25, td_27, td_28, td_29, td_31, td_32, td_38, td_44, td_46, td_85, strsP, trsP, evsP, hy, lT, intsP]
      and_intros; all_goals (try (refine Side.mk ?_; first | first | omega | (intros; omega) | (simp; done) | (simp; omega) | (intro h; simp at h; omega) | (simp_all; done) | rfl | (and_intros <;> first | omega | (intros; omega) | (simp; done) | (simp; omega) | (intro h; simp at h; omega) | (simp_all; done) | rfl)))
      first | refine WC_reg ?_ | (refine WC_seq ?_; refine WC_reg ?_) | (refine WC_seq ?_; refine WC_seq ?_; refine WC_reg ?_)
      have htx : tm x = et := by
        have : x = ⟨(T.getD b default).evs.drop (a.getD b default), x.no⟩ := by cases x; simp only at g3; rw [g3]
        rw [this, tm_drop]
        exact (congrArg Ev.t hEi).symm
      rcases Nat.lt_trichotomy k b with hkb | hkb | hkb
      · have hb1 : (b < k) = False := eq_false (by omega)
        have hb2 : (b < k + 1) = False := eq_false (by omega)
        have hbf := best_first hbx (k := k) (by rw [g2]; omega) (by rw [restT_length d2]; exact hk')
        rw [restT_get hk' (by omega)] at hbf
        simp only [tm_drop] at hbf
        rw [hne, htx] at hbf
        simp only at hbf
        obtain ⟨ak, hak⟩ : ∃ n, a.getD k default = n := ⟨_, rfl⟩
        rw [hak] at hga hbf
        by_cases hlt : ak < es.length
        · have hlt' : ((es.length : Int) ≤ (ak : Int)) = False := eq_false (by omega)
          have hye := drop_ev es ak hlt
          have htne : ((es.getD ak default).t = et) = False := eq_false (by
            rcases hbf with h | h
            · rw [List.drop_eq_nil_iff] at h; omega
            · exact h)
          (refine Run.on ?_; simp only [B0, B1, B2, Lm0, Lm1, Lm2, Lm3, Lm4, Lm5, Lm6, Lm7, Lm8, Lm9, Lm10, Lm11, Lm12, Lm13, Lm14, Lm15, Lm16, Lm17, Lm18, Lm19, Lm20, Lm21, Lm22, Lm23, Lm24, Lm25, Lm26, Lm27, Lm28, Lm29, Nat.reduceLT, Nat.reduceEqDiff, ↓reduceIte, reduceCtorEq, Nat.reduceAdd, ge_iff_le, gt_iff_lt, forall_const, Nat.reduceBEq, Nat.reduceBNe, Nat.reduceMul, Nat.reduceLeDiff, Nat.reduceSub, Int.reduceToNat, td_3, td_4, td_5, td_9, td_22, td_24, td_25, td_27, td_28, td_29, td_31, td_32, td_38, td_44, td_46, td_85, strsP, trsP, evsP, intsP, List.length_map, lT, lE, hb1, hga, hlt', hye, htne, if_false, decide_false])
          and_intros; all_goals (try (refine Side.mk ?_; first | first | omega | (intros; omega) | (simp; done) | (simp; omega) | (intro h; simp at h; omega) | (simp_all; done) | rfl | (and_intros <;> first | omega | (intros; omega) | (simp; done) | (simp; omega) | (intro h; simp at h; omega) | (simp_all; done) | rfl)))
          (refine exeC_ok (f := 60) ?_; simp only [B0, B1, B2, Lm0, Lm1, Lm2, Lm3, Lm4, Lm5, Lm6, Lm7, Lm8, Lm9, Lm10, Lm11, Lm12, Lm13, Lm14, Lm15, Lm16, Lm17, Lm18, Lm19, Lm20, Lm21, Lm22, Lm23, Lm24, Lm25, Lm26, Lm27, Lm28, Lm29, Nat.reduceLT, Nat.reduceEqDiff, ↓reduceIte, reduceCtorEq, Nat.reduceAdd, ge_iff_le, gt_iff_lt, forall_const, Nat.reduceBEq, Nat.reduceBNe, Nat.reduceMul, Nat.reduceLeDiff, Nat.reduceSub, Int.reduceToNat, td_3, td_4, td_5, td_9, td_22, td_24, td_25, td_27, td_28, td_29, td_31, td_32, td_38, td_44, td_46, td_85, hw2])
          (refine exeC_ok (f := 60) ?_; simp only [B0, B1, B2, Lm0, Lm1, Lm2, Lm3, Lm4, Lm5, Lm6, Lm7, Lm8, Lm9, Lm10, Lm11, Lm12, Lm13, Lm14, Lm15, Lm16, Lm17, Lm18, Lm19, Lm20, Lm21, Lm22, Lm23, Lm24, Lm25, Lm26, Lm27, Lm28, Lm29, Nat.reduceLT, Nat.reduceEqDiff, ↓reduceIte, reduceCtorEq, Nat.reduceAdd, ge_iff_le, gt_iff_lt, forall_const, Nat.reduceBEq, Nat.reduceBNe, Nat.reduceMul, Nat.reduceLeDiff, Nat.reduceSub, Int.reduceToNat, td_3, td_4, td_5, td_9, td_22, td_24, td_25, td_27, td_28, td_29, td_31, td_32, td_38, td_44, td_46, td_85, hw2])
          and_intros; all_goals (try (refine Side.mk ?_; first | first | omega | (intros; omega) | (simp; done) | (simp; omega) | (intro h; simp at h; omega) | (simp_all; done) | rfl | (and_intros <;> first | omega | (intros; omega) | (simp; done) | (simp; omega) | (intro h; simp at h; omega) | (simp_all; done) | rfl)))
          refine ⟨k + 1, ?_, by omega, by omega⟩
          simp only [hb2, if_false, if_true, decide_false, decide_true]
          exact Conv.to [0, 1, 2] (nodupB_ok rfl) rfl (by repeat (first | exact trivial | refine ⟨.refl _, ?_⟩ | refine ⟨LeP.osl rfl, ?_⟩ | refine ⟨LeP.oslN rfl (by simp) (by omega), ?_⟩)) ⟨LeO.refl _, LeO.ob (zN _) rfl, LeO.refl _, trivial⟩
        · have hlt' : ((es.length : Int) ≤ (ak : Int)) = True := eq_true (by omega)
          refine Run.onN 12 ?_; simp only [B0, B1, B2, Lm0, Lm1, Lm2, Lm3, Lm4, Lm5, Lm6, Lm7, Lm8, Lm9, Lm10, Lm11, Lm12, Lm13, Lm14, Lm15, Lm16, Lm17, Lm18, Lm19, Lm20, Lm21, Lm22, Lm23, Lm24, Lm25, Lm26, Lm27, Lm28, Lm29, Nat.reduceLT, Nat.reduceEqDiff, ↓reduceIte, reduceCtorEq, Nat.reduceAdd, ge_iff_le, gt_iff_lt, forall_const, Nat.reduceBEq, Nat.reduceBNe, Nat.reduceMul, Nat.reduceLeDiff, Nat.reduceSub, Int.reduceToNat, td_3, td_4, td_5, td_9, td_22, td_24, td_25, td_27, td_28, td_29, td_31, td_32, td_38, td_44, td_46, td_85, evalN, strsP, trsP, evsP, intsP, List.length_map, lT, lE, hb1, hga, hlt', if_false, decide_false]
          and_intros; all_goals (try (refine Side.mk ?_; first | first | omega | (intros; omega) | (simp; done) | (simp; omega) | (intro h; simp at h; omega) | (simp_all; done) | rfl | (and_intros <;> first | omega | (intros; omega) | (simp; done) | (simp; omega) | (intro h; simp at h; omega) | (simp_all; done) | rfl)))
          iterate 12 refine Run.skip (Bo false) rfl rfl ?_
          (refine Run.on ?_; simp only [B0, B1, B2, Lm0, Lm1, Lm2, Lm3, Lm4, Lm5, Lm6, Lm7, Lm8, Lm9, Lm10, Lm11, Lm12, Lm13, Lm14, Lm15, Lm16, Lm17, Lm18, Lm19, Lm20, Lm21, Lm22, Lm23, Lm24, Lm25, Lm26, Lm27, Lm28, Lm29, Nat.reduceLT, Nat.reduceEqDiff, ↓reduceIte, reduceCtorEq, Nat.reduceAdd, ge_iff_le, gt_iff_lt, forall_const, Nat.reduceBEq, Nat.reduceBNe, Nat.reduceMul, Nat.reduceLeDiff, Nat.reduceSub, Int.reduceToNat, td_3, td_4, td_5, td_9, td_22, td_24, td_25, td_27, td_28, td_29, td_31, td_32, td_38, td_44, td_46, td_85])
          and_intros; all_goals (try (refine Side.mk ?_; first | first | omega | (intros; omega) | (simp; done) | (simp; omega) | (intro h; simp at h; omega) | (simp_all; done) | rfl | (and_intros <;> first | omega | (intros; omega) | (simp; done) | (simp; omega) | (intro h; simp at h; omega) | (simp_all; done) | rfl)))
          (refine exeC_ok (f := 60) ?_; simp only [B0, B1, B2, Lm0, Lm1, Lm2, Lm3, Lm4, Lm5, Lm6, Lm7, Lm8, Lm9, Lm10, Lm11, Lm12, Lm13, Lm14, Lm15, Lm16, Lm17, Lm18, Lm19, Lm20, Lm21, Lm22, Lm23, Lm24, Lm25, Lm26, Lm27, Lm28, Lm29, Nat.reduceLT, Nat.reduceEqDiff, ↓reduceIte, reduceCtorEq, Nat.reduceAdd, ge_iff_le, gt_iff_lt, forall_const, Nat.reduceBEq, Nat.reduceBNe, Nat.reduceMul, Nat.reduceLeDiff, Nat.reduceSub, Int.reduceToNat, td_3, td_4, td_5, td_9, td_22, td_24, td_25, td_27, td_28, td_29, td_31, td_32, td_38, td_44, td_46, td_85, hw2])
          (refine exeC_ok (f := 60) ?_; simp only [B0, B1, B2, Lm0, Lm1, Lm2, Lm3, Lm4, Lm5, Lm6, Lm7, Lm8, Lm9, Lm10, Lm11, Lm12, Lm13, Lm14, Lm15, Lm16, Lm17, Lm18, Lm19, Lm20, Lm21, Lm22, Lm23, Lm24, Lm25, Lm26, Lm27, Lm28, Lm29, Nat.reduceLT, Nat.reduceEqDiff, ↓reduceIte, reduceCtorEq, Nat.reduceAdd, ge_iff_le, gt_iff_lt, forall_const, Nat.reduceBEq, Nat.reduceBNe, Nat.reduceMul, Nat.reduceLeDiff, Nat.reduceSub, Int.reduceToNat, td_3, td_4, td_5, td_9, td_22, td_24, td_25, td_27, td_28, td_29, td_31, td_32, td_38, td_44, td_46, td_85, hw2])
          and_intros; all_goals (try (refine Side.mk ?_; first | first | omega | (intros; omega) | (simp; done) | (simp; omega) | (intro h; simp at h; omega) | (simp_all; done) | rfl | (and_intros <;> first | omega | (intros; omega) | (simp; done) | (simp; omega) | (intro h; simp at h; omega) | (simp_all; done) | rfl)))
          refine ⟨k + 1, ?_, by omega, by omega⟩
          simp only [hb2, if_false, if_true, decide_false, decide_true]
          exact Conv.to [0, 1, 2] (nodupB_ok rfl) rfl (by repeat (first | exact trivial | refine ⟨.refl _, ?_⟩ | refine ⟨LeP.osl rfl, ?_⟩ | refine ⟨LeP.oslN rfl (by simp) (by omega), ?_⟩)) ⟨LeO.refl _, LeO.ob (zN _) rfl, LeO.refl _, trivial⟩
      · subst hkb
        have hb1 : (k < k) = False := eq_false (by omega)
        have hb2 : (k < k + 1) = True := eq_true (by omega)
        rw [hne] at gb hEi
        obtain ⟨ak, hak⟩ : ∃ n, a.getD k default = n := ⟨_, rfl⟩
        rw [hak] at hga gb hEi hgs
        simp only at gb hEi
        have hlt' : ((es.length : Int) ≤ (ak : Int)) = False := eq_false (by omega)
        have hye := drop_ev es ak gb
        have htne : ((es.getD ak default).t = et) = True := eq_true (congrArg Ev.t hEi).symm
        have hmk := List.all_eq_true.1 m2 _ (getD_mem hk')
        rw [hne] at hmk
        have hids : idsOk (es.getD ak default).ids ns.length = true := by
          simp only [mayB, Bool.and_eq_true] at hmk
          exact evTimes_mem _ _ _ hmk.2 _ (getD_mem gb)
        have hn2 := n2 k hk'
        rw [hne, hN] at hn2
        have hsame := hold_same n1 (namesOk_nodup (mayB_names hmk)) hn2 hids
        have heids : (E.getD i default).ids = refIds N ns (es.getD ak default).ids := by rw [hee, hEi]
        have ch1 := c_hold ⟨N, E⟩ i hi' (Nat.le_trans (hWi _ (getD_mem hi')) (by omega)) (fun j hj => mayB_ids hW (getD_mem hi') j hj)
        have ch2 := c_hold ⟨ns, es⟩ ak gb (Nat.le_trans (mi _ (getD_mem hk') _ (by rw [hne]; exact getD_mem gb)) (by omega)) (fun j hj => mayB_ids hmk (getD_mem gb) j hj)
        simp only at ch1 ch2
        rw [heids, hsame] at ch1
        obtain ⟨Q, hQ⟩ : ∃ q, sortS (holdN ns (es.getD ak default).ids) = q := ⟨_, rfl⟩
        rw [hQ] at ch1 ch2
        have hQl : Q.length ≤ 12 := by
          rw [← hQ]; unfold sortS insSort; rw [insAll_length]; unfold holdN; rw [List.length_map]
          exact Nat.le_trans (mi _ (getD_mem hk') _ (by rw [hne]; exact getD_mem gb)) (by omega)
        have hwa : IntKind.i64.wrap ((ak : Int) + 1) = ((ak + 1 : Nat) : Int) := wrap64 (by omega) (by have := (m5 _ (getD_mem hk')).e; rw [hne] at this; simp only at this; omega)
        have kk := over_map1 Nn a k (ak + 1) (by omega)
        simp only [Nn, I] at kk
        (refine Run.on ?_; simp only [B0, B1, B2, Lm0, Lm1, Lm2, Lm3, Lm4, Lm5, Lm6, Lm7, Lm8, Lm9, Lm10, Lm11, Lm12, Lm13, Lm14, Lm15, Lm16, Lm17, Lm18, Lm19, Lm20, Lm21, Lm22, Lm23, Lm24, Lm25, Lm26, Lm27, Lm28, Lm29, Nat.reduceLT, Nat.reduceEqDiff, ↓reduceIte, reduceCtorEq, Nat.reduceAdd, ge_iff_le, gt_iff_lt, forall_const, Nat.reduceBEq, Nat.reduceBNe, Nat.reduceMul, Nat.reduceLeDiff, Nat.reduceSub, Int.reduceToNat, td_3, td_4, td_5, td_9, td_22, td_24, td_25, td_27, td_28, td_29, td_31, td_32, td_38, td_44, td_46, td_85, strsP, trsP, evsP, intsP, List.length_map, lT, lE, hb1, hga, hlt', hye, htne, if_false, decide_false])
        and_intros; all_goals (try (refine Side.mk ?_; first | first | omega | (intros; omega) | (simp; done) | (simp; omega) | (intro h; simp at h; omega) | (simp_all; done) | rfl | (and_intros <;> first | omega | (intros; omega) | (simp; done) | (simp; omega) | (intro h; simp at h; omega) | (simp_all; done) | rfl)))
        (refine exeC_ok (f := 60) ?_; simp only [B0, B1, B2, Lm0, Lm1, Lm2, Lm3, Lm4, Lm5, Lm6, Lm7, Lm8, Lm9, Lm10, Lm11, Lm12, Lm13, Lm14, Lm15, Lm16, Lm17, Lm18, Lm19, Lm20, Lm21, Lm22, Lm23, Lm24, Lm25, Lm26, Lm27, Lm28, Lm29, Nat.reduceLT, Nat.reduceEqDiff, ↓reduceIte, reduceCtorEq, Nat.reduceAdd, ge_iff_le, gt_iff_lt, forall_const, Nat.reduceBEq, Nat.reduceBNe, Nat.reduceMul, Nat.reduceLeDiff, Nat.reduceSub, Int.reduceToNat, td_3, td_4, td_5, td_9, td_22, td_24, td_25, td_27, td_28, td_29, td_31, td_32, td_38, td_44, td_46, td_85, strsP, trsP, evsP, intsP, List.length_map, lT, lE])
        (refine exeC_ok (f := 60) ?_; simp only [B0, B1, B2, Lm0, Lm1, Lm2, Lm3, Lm4, Lm5, Lm6, Lm7, Lm8, Lm9, Lm10, Lm11, Lm12, Lm13, Lm14, Lm15, Lm16, Lm17, Lm18, Lm19, Lm20, Lm21, Lm22, Lm23, Lm24, Lm25, Lm26, Lm27, Lm28, Lm29, Nat.reduceLT, Nat.reduceEqDiff, ↓reduceIte, reduceCtorEq, Nat.reduceAdd, ge_iff_le, gt_iff_lt, forall_const, Nat.reduceBEq, Nat.reduceBNe, Nat.reduceMul, Nat.reduceLeDiff, Nat.reduceSub, Int.reduceToNat, td_3, td_4, td_5, td_9, td_22, td_24, td_25, td_27, td_28, td_29, td_31, td_32, td_38, td_44, td_46, td_85, strsP, trsP, evsP, intsP, List.length_map, lT, lE, hb1, hga, if_false])
        and_intros; all_goals (try (refine Side.mk ?_; first | first | omega | (intros; omega) | (simp; done) | (simp; omega) | (intro h; simp at h; omega) | (simp_all; done) | rfl | (and_intros <;> first | omega | (intros; omega) | (simp; done) | (simp; omega) | (intro h; simp at h; omega) | (simp_all; done) | rfl)))
        refine Run.callP rfl rfl (by kernel_rfl) (ch1) rfl rfl rfl ?_
        (refine Run.on ?_; simp only [B0, B1, B2, Lm0, Lm1, Lm2, Lm3, Lm4, Lm5, Lm6, Lm7, Lm8, Lm9, Lm10, Lm11, Lm12, Lm13, Lm14, Lm15, Lm16, Lm17, Lm18, Lm19, Lm20, Lm21, Lm22, Lm23, Lm24, Lm25, Lm26, Lm27, Lm28, Lm29, Nat.reduceLT, Nat.reduceEqDiff, ↓reduceIte, reduceCtorEq, Nat.reduceAdd, ge_iff_le, gt_iff_lt, forall_const, Nat.reduceBEq, Nat.reduceBNe, Nat.reduceMul, Nat.reduceLeDiff, Nat.reduceSub, Int.reduceToNat, td_3, td_4, td_5, td_9, td_22, td_24, td_25, td_27, td_28, td_29, td_31, td_32, td_38, td_44, td_46, td_85, strsP, trsP, evsP, intsP, List.length_map, lT, lE, hb1, hga, if_false])
        and_intros; all_goals (try (refine Side.mk ?_; first | first | omega | (intros; omega) | (simp; done) | (simp; omega) | (intro h; simp at h; omega) | (simp_all; done) | rfl | (and_intros <;> first | omega | (intros; omega) | (simp; done) | (simp; omega) | (intro h; simp at h; omega) | (simp_all; done) | rfl)))
        refine Run.callP rfl rfl (by kernel_rfl) (ch2) rfl rfl rfl ?_
        (refine Run.on ?_; simp only [B0, B1, B2, Lm0, Lm1, Lm2, Lm3, Lm4, Lm5, Lm6, Lm7, Lm8, Lm9, Lm10, Lm11, Lm12, Lm13, Lm14, Lm15, Lm16, Lm17, Lm18, Lm19, Lm20, Lm21, Lm22, Lm23, Lm24, Lm25, Lm26, Lm27, Lm28, Lm29, Nat.reduceLT, Nat.reduceEqDiff, ↓reduceIte, reduceCtorEq, Nat.reduceAdd, ge_iff_le, gt_iff_lt, forall_const, Nat.reduceBEq, Nat.reduceBNe, Nat.reduceMul, Nat.reduceLeDiff, Nat.reduceSub, Int.reduceToNat, td_3, td_4, td_5, td_9, td_22, td_24, td_25, td_27, td_28, td_29, td_31, td_32, td_38, td_44, td_46, td_85, strsP, trsP, evsP, intsP, List.length_map, lT, lE])
        and_intros; all_goals (try (refine Side.mk ?_; first | first | omega | (intros; omega) | (simp; done) | (simp; omega) | (intro h; simp at h; omega) | (simp_all; done) | rfl | (and_intros <;> first | omega | (intros; omega) | (simp; done) | (simp; omega) | (intro h; simp at h; omega) | (simp_all; done) | rfl)))
        refine Run.callP rfl rfl (by kernel_rfl) (c_eqS Q Q (by omega)) rfl rfl rfl ?_
        (refine Run.on ?_; simp only [B0, B1, B2, Lm0, Lm1, Lm2, Lm3, Lm4, Lm5, Lm6, Lm7, Lm8, Lm9, Lm10, Lm11, Lm12, Lm13, Lm14, Lm15, Lm16, Lm17, Lm18, Lm19, Lm20, Lm21, Lm22, Lm23, Lm24, Lm25, Lm26, Lm27, Lm28, Lm29, Nat.reduceLT, Nat.reduceEqDiff, ↓reduceIte, reduceCtorEq, Nat.reduceAdd, ge_iff_le, gt_iff_lt, forall_const, Nat.reduceBEq, Nat.reduceBNe, Nat.reduceMul, Nat.reduceLeDiff, Nat.reduceSub, Int.reduceToNat, td_3, td_4, td_5, td_9, td_22, td_24, td_25, td_27, td_28, td_29, td_31, td_32, td_38, td_44, td_46, td_85])
        and_intros; all_goals (try (refine Side.mk ?_; first | first | omega | (intros; omega) | (simp; done) | (simp; omega) | (intro h; simp at h; omega) | (simp_all; done) | rfl | (and_intros <;> first | omega | (intros; omega) | (simp; done) | (simp; omega) | (intro h; simp at h; omega) | (simp_all; done) | rfl)))
        (refine exeC_ok (f := 60) ?_; simp only [B0, B1, B2, Lm0, Lm1, Lm2, Lm3, Lm4, Lm5, Lm6, Lm7, Lm8, Lm9, Lm10, Lm11, Lm12, Lm13, Lm14, Lm15, Lm16, Lm17, Lm18, Lm19, Lm20, Lm21, Lm22, Lm23, Lm24, Lm25, Lm26, Lm27, Lm28, Lm29, Nat.reduceLT, Nat.reduceEqDiff, ↓reduceIte, reduceCtorEq, Nat.reduceAdd, ge_iff_le, gt_iff_lt, forall_const, Nat.reduceBEq, Nat.reduceBNe, Nat.reduceMul, Nat.reduceLeDiff, Nat.reduceSub, Int.reduceToNat, td_3, td_4, td_5, td_9, td_22, td_24, td_25, td_27, td_28, td_29, td_31, td_32, td_38, td_44, td_46, td_85, hb1, hga, hwa, kk, hw2, if_false, List.length_map])
        and_intros; all_goals (try (refine Side.mk ?_; first | first | omega | (intros; omega) | (simp; done) | (simp; omega) | (intro h; simp at h; omega) | (simp_all; done) | rfl | (and_intros <;> first | omega | (intros; omega) | (simp; done) | (simp; omega) | (intro h; simp at h; omega) | (simp_all; done) | rfl)))
        refine ⟨k + 1, ?_, by omega, by omega⟩
        simp only [hb2, hak, if_true, decide_true]
        exact Conv.to [0, 1, 2] (nodupB_ok rfl) rfl (by repeat (first | exact trivial | refine ⟨.refl _, ?_⟩ | refine ⟨LeP.osl rfl, ?_⟩ | refine ⟨LeP.oslN rfl (by simp) (by omega), ?_⟩)) ⟨LeO.refl _, LeO.ob (zN _) rfl, LeO.refl _, trivial⟩
      · have hb1 : (b < k) = True := eq_true (by omega)
        refine Run.onN 2 ?_; simp only [B0, B1, B2, Lm0, Lm1, Lm2, Lm3, Lm4, Lm5, Lm6, Lm7, Lm8, Lm9, Lm10, Lm11, Lm12, Lm13, Lm14, Lm15, Lm16, Lm17, Lm18, Lm19, Lm20, Lm21, Lm22, Lm23, Lm24, Lm25, Lm26, Lm27, Lm28, Lm29, Nat.reduceLT, Nat.reduceEqDiff, ↓reduceIte, reduceCtorEq, Nat.reduceAdd, ge_iff_le, gt_iff_lt, forall_const, Nat.reduceBEq, Nat.reduceBNe, Nat.reduceMul, Nat.reduceLeDiff, Nat.reduceSub, Int.reduceToNat, td_3, td_4, td_5, td_9, td_22, td_24, td_25, td_27, td_28, td_29, td_31, td_32, td_38, td_44, td_46, td_85, evalN, strsP, trsP, evsP, intsP, List.length_map, lT, lE, hb1, if_true, decide_true]
        and_intros; all_goals (try (refine Side.mk ?_; first | first | omega | (intros; omega) | (simp; done) | (simp; omega) | (intro h; simp at h; omega) | (simp_all; done) | rfl | (and_intros <;> first | omega | (intros; omega) | (simp; done) | (simp; omega) | (intro h; simp at h; omega) | (simp_all; done) | rfl)))
        iterate 8 refine Run.skip (Bo false) rfl rfl ?_
        refine Run.onN 2 ?_; simp only [B0, B1, B2, Lm0, Lm1, Lm2, Lm3, Lm4, Lm5, Lm6, Lm7, Lm8, Lm9, Lm10, Lm11, Lm12, Lm13, Lm14, Lm15, Lm16, Lm17, Lm18, Lm19, Lm20, Lm21, Lm22, Lm23, Lm24, Lm25, Lm26, Lm27, Lm28, Lm29, Nat.reduceLT, Nat.reduceEqDiff, ↓reduceIte, reduceCtorEq, Nat.reduceAdd, ge_iff_le, gt_iff_lt, forall_const, Nat.reduceBEq, Nat.reduceBNe, Nat.reduceMul, Nat.reduceLeDiff, Nat.reduceSub, Int.reduceToNat, td_3, td_4, td_5, td_9, td_22, td_24, td_25, td_27, td_28, td_29, td_31, td_32, td_38, td_44, td_46, td_85, evalN]
        and_intros; all_goals (try (refine Side.mk ?_; first | first | omega | (intros; omega) | (simp; done) | (simp; omega) | (intro h; simp at h; omega) | (simp_all; done) | rfl | (and_intros <;> first | omega | (intros; omega) | (simp; done) | (simp; omega) | (intro h; simp at h; omega) | (simp_all; done) | rfl)))
        iterate 12 refine Run.skip (Bo false) rfl rfl ?_
        (refine Run.on ?_; simp only [B0, B1, B2, Lm0, Lm1, Lm2, Lm3, Lm4, Lm5, Lm6, Lm7, Lm8, Lm9, Lm10, Lm11, Lm12, Lm13, Lm14, Lm15, Lm16, Lm17, Lm18, Lm19, Lm20, Lm21, Lm22, Lm23, Lm24, Lm25, Lm26, Lm27, Lm28, Lm29, Nat.reduceLT, Nat.reduceEqDiff, ↓reduceIte, reduceCtorEq, Nat.reduceAdd, ge_iff_le, gt_iff_lt, forall_const, Nat.reduceBEq, Nat.reduceBNe, Nat.reduceMul, Nat.reduceLeDiff, Nat.reduceSub, Int.reduceToNat, td_3, td_4, td_5, td_9, td_22, td_24, td_25, td_27, td_28, td_29, td_31, td_32, td_38, td_44, td_46, td_85])
        and_intros; all_goals (try (refine Side.mk ?_; first | first | omega | (intros; omega) | (simp; done) | (simp; omega) | (intro h; simp at h; omega) | (simp_all; done) | rfl | (and_intros <;> first | omega | (intros; omega) | (simp; done) | (simp; omega) | (intro h; simp at h; omega) | (simp_all; done) | rfl)))
        have hb2 : (b < k + 1) = True := eq_true (by omega)
        (refine exeC_ok (f := 60) ?_; simp only [B0, B1, B2, Lm0, Lm1, Lm2, Lm3, Lm4, Lm5, Lm6, Lm7, Lm8, Lm9, Lm10, Lm11, Lm12, Lm13, Lm14, Lm15, Lm16, Lm17, Lm18, Lm19, Lm20, Lm21, Lm22, Lm23, Lm24, Lm25, Lm26, Lm27, Lm28, Lm29, Nat.reduceLT, Nat.reduceEqDiff, ↓reduceIte, reduceCtorEq, Nat.reduceAdd, ge_iff_le, gt_iff_lt, forall_const, Nat.reduceBEq, Nat.reduceBNe, Nat.reduceMul, Nat.reduceLeDiff, Nat.reduceSub, Int.reduceToNat, td_3, td_4, td_5, td_9, td_22, td_24, td_25, td_27, td_28, td_29, td_31, td_32, td_38, td_44, td_46, td_85, hw2])
        (refine exeC_ok (f := 60) ?_; simp only [B0, B1, B2, Lm0, Lm1, Lm2, Lm3, Lm4, Lm5, Lm6, Lm7, Lm8, Lm9, Lm10, Lm11, Lm12, Lm13, Lm14, Lm15, Lm16, Lm17, Lm18, Lm19, Lm20, Lm21, Lm22, Lm23, Lm24, Lm25, Lm26, Lm27, Lm28, Lm29, Nat.reduceLT, Nat.reduceEqDiff, ↓reduceIte, reduceCtorEq, Nat.reduceAdd, ge_iff_le, gt_iff_lt, forall_const, Nat.reduceBEq, Nat.reduceBNe, Nat.reduceMul, Nat.reduceLeDiff, Nat.reduceSub, Int.reduceToNat, td_3, td_4, td_5, td_9, td_22, td_24, td_25, td_27, td_28, td_29, td_31, td_32, td_38, td_44, td_46, td_85, hw2])
        and_intros; all_goals (try (refine Side.mk ?_; first | first | omega | (intros; omega) | (simp; done) | (simp; omega) | (intro h; simp at h; omega) | (simp_all; done) | rfl | (and_intros <;> first | omega | (intros; omega) | (simp; done) | (simp; omega) | (intro h; simp at h; omega) | (simp_all; done) | rfl)))
        refine ⟨k + 1, ?_, by omega, by omega⟩
        simp only [hb2, if_false, if_true, decide_false, decide_true]
        exact Conv.to [0, 1, 2] (nodupB_ok rfl) rfl (by repeat (first | exact trivial | refine ⟨.refl _, ?_⟩ | refine ⟨LeP.osl rfl, ?_⟩ | refine ⟨LeP.oslN rfl (by simp) (by omega), ?_⟩)) ⟨LeO.refl _, LeO.ob (zN _) rfl, LeO.refl _, trivial⟩
    · have hk' : k = T.length := by omega
      subst hk'
      simp only [g1, if_true]
      (refine exeC_ok (f := 60) ?_; simp only [B0, B1, B2, Lm0, Lm1, Lm2, Lm3, Lm4, Lm5, Lm6, Lm7, Lm8, Lm9, Lm10, Lm11, Lm12, Lm13, Lm14, Lm15, Lm16, Lm17, Lm18, Lm19, Lm20, Lm21, Lm22, Lm23, Lm24, Lm25, Lm26, Lm27, Lm28, Lm29, Nat.reduceLT, Nat.reduceEqDiff, ↓reduceIte, reduceCtorEq, Nat.reduceAdd, ge_iff_le, gt_iff_lt, forall_const, Nat.reduceBEq, Nat.reduceBNe, Nat.reduceMul, Nat.reduceLeDiff, Nat.reduceSub, Int.reduceToNat, td_3, td_4, td_5, td_9, td_22, td_24, td_25, td_27, td_28, td_29, td_31, td_32, td_38, td_44, td_46, td_85, trsP, evsP, strsP, intsP, hw'])
      and_intros; all_goals (try (refine Side.mk ?_; first | first | omega | (intros; omega) | (simp; done) | (simp; omega) | (intro h; simp at h; omega) | (simp_all; done) | rfl | (and_intros <;> first | omega | (intros; omega) | (simp; done) | (simp; omega) | (intro h; simp at h; omega) | (simp_all; done) | rfl)))
      (refine exeC_ok (f := 60) ?_; simp only [B0, B1, B2, Lm0, Lm1, Lm2, Lm3, Lm4, Lm5, Lm6, Lm7, Lm8, Lm9, Lm10, Lm11, Lm12, Lm13, Lm14, Lm15, Lm16, Lm17, Lm18, Lm19, Lm20, Lm21, Lm22, Lm23, Lm24, Lm25, Lm26, Lm27, Lm28, Lm29, Nat.reduceLT, Nat.reduceEqDiff, ↓reduceIte, reduceCtorEq, Nat.reduceAdd, ge_iff_le, gt_iff_lt, forall_const, Nat.reduceBEq, Nat.reduceBNe, Nat.reduceMul, Nat.reduceLeDiff, Nat.reduceSub, Int.reduceToNat, td_3, td_4, td_5, td_9, td_22, td_24, td_25, td_27, td_28, td_29, td_31, td_32, td_38, td_44, td_46, td_85, trsP, evsP, strsP, intsP, hw'])
      and_intros; all_goals (try (refine Side.mk ?_; first | first | omega | (intros; omega) | (simp; done) | (simp; omega) | (intro h; simp at h; omega) | (simp_all; done) | rfl | (and_intros <;> first | omega | (intros; omega) | (simp; done) | (simp; omega) | (intro h; simp at h; omega) | (simp_all; done) | rfl)))
      refine ⟨(i + 1, a.set b (a.getD b default + 1)), Conv.to [0, 1] (nodupB_ok rfl) rfl (by repeat (first | exact trivial | refine ⟨.refl _, ?_⟩ | refine ⟨LeP.osl rfl, ?_⟩ | refine ⟨LeP.oslN rfl (by simp) (by omega), ?_⟩)) ⟨LeO.refl _, LeO.ob (zN _) rfl, trivial⟩, ⟨by simp; omega, by simp [d2], d6, by simp only; omega, fun k hk => ?_⟩, by simp; omega⟩
      have := d7 k hk
      by_cases hkb : k = b
      · subst hkb; simp [List.getD_eq_getElem?_getD, show k < a.length by omega] at gb ⊢; omega
      · simp [List.getD_eq_getElem?_getD, List.getElem?_set, Ne.symm hkb] at this ⊢; exact this
  · have hi' : i = E.length := by omega
    subst hi'
    rw [Nat.sub_self] at d4
    have hend : ∀ k, k < T.length → a.getD k default = (T.getD k default).evs.length := by
      intro k hk
      have h7 := d7 k hk
      have h0 : linesF 0 (restT T a) = [] := by
        unfold tot at d4
        cases hL : linesF 0 (restT T a) with
        | nil => rfl
        | cons x L =>
          have := (linesF_no (restT T a) 0 x (by rw [hL]; exact List.mem_cons_self)).2
          rw [hL] at d4
          simp only [sumE, List.map_cons, List.sum_cons] at d4; omega
      have hsum := sumE_lines (restT T a) 0
      rw [h0] at hsum
      have hall : ∀ L : List Tr, (L.map fun t => t.evs.length).sum = 0 → ∀ t, t ∈ L → t.evs.length = 0 := by
        intro L
        induction L with
        | nil => intro _ t ht; cases ht
        | cons y L ih =>
          intro h t ht
          rw [List.map_cons, List.sum_cons] at h
          rcases List.mem_cons.1 ht with rfl | ht
          · omega
          · exact ih (by omega) t ht
      have := hall _ hsum.symm _ (getD_mem (l := restT T a) (k := k) (by rw [restT_length d2]; exact hk))
      rw [restT_get hk (by omega)] at this
      simp only [List.length_drop] at this
      omega
    (refine exeC_ok (f := 60) ?_; simp only [B0, B1, B2, Lm0, Lm1, Lm2, Lm3, Lm4, Lm5, Lm6, Lm7, Lm8, Lm9, Lm10, Lm11, Lm12, Lm13, Lm14, Lm15, Lm16, Lm17, Lm18, Lm19, Lm20, Lm21, Lm22, Lm23, Lm24, Lm25, Lm26, Lm27, Lm28, Lm29, Nat.reduceLT, Nat.reduceEqDiff, ↓reduceIte, reduceCtorEq, Nat.reduceAdd, ge_iff_le, gt_iff_lt, forall_const, Nat.reduceBEq, Nat.reduceBNe, Nat.reduceMul, Nat.reduceLeDiff, Nat.reduceSub, Int.reduceToNat, td_3, td_4, td_5, td_9, td_22, td_24, td_25, td_27, td_28, td_29, td_31, td_32, td_38, td_44, td_46, td_85, trsP, evsP, strsP])
    refine WC_loop (fun k : Nat => [(6, .id 1 T.length), (92, trsP T), (93, I T.length), (94, I k)])
      (fun _ => [some ⟨27, false, 1, [strsP N, evsP E]⟩, some ⟨3, true, 1, a.map Nn⟩])
      (fun k => k ≤ T.length) (fun k => T.length - k) 0 ?_ (Nat.zero_le _) ?_
    · exact Conv.to [0, 1] (nodupB_ok rfl) rfl (by repeat (first | exact trivial | refine ⟨.refl _, ?_⟩ | refine ⟨LeP.osl rfl, ?_⟩ | refine ⟨LeP.oslN rfl (by simp) (by omega), ?_⟩)) ⟨LeO.refl _, LeO.ob (zN _) rfl, trivial⟩
    intro k hk
    (refine exeC_ok (f := 60) ?_; simp only [B0, B1, B2, Lm0, Lm1, Lm2, Lm3, Lm4, Lm5, Lm6, Lm7, Lm8, Lm9, Lm10, Lm11, Lm12, Lm13, Lm14, Lm15, Lm16, Lm17, Lm18, Lm19, Lm20, Lm21, Lm22, Lm23, Lm24, Lm25, Lm26, Lm27, Lm28, Lm29, Nat.reduceLT, Nat.reduceEqDiff, ↓reduceIte, reduceCtorEq, Nat.reduceAdd, ge_iff_le, gt_iff_lt, forall_const, Nat.reduceBEq, Nat.reduceBNe, Nat.reduceMul, Nat.reduceLeDiff, Nat.reduceSub, Int.reduceToNat, td_3, td_4, td_5, td_9, td_22, td_24, td_25, td_27, td_28, td_29, td_31, td_32, td_38, td_44, td_46, td_85, trsP, evsP, strsP])
    refine ⟨fun h2 => ?_, fun h2 => ?_⟩
    · have hk' : k < T.length := by omega
      have hy := drop_tr T k hk'
      have hw2 : IntKind.i64.wrap ((k : Int) + 1) = (k : Int) + 1 := wrap64 (by omega) (by omega)
      have hga := getD_ml Nn a k (by omega)
      have hek := hend k hk'
      obtain ⟨⟨ns, es⟩, hne⟩ : ∃ t, T.getD k default = t := ⟨_, rfl⟩
      rw [hne] at hy hek
      simp only at hek
      rw [hek] at hga
      simp only [Nn, I] at hga
      (refine exeC_ok (f := 60) ?_; simp only [B0, B1, B2, Lm0, Lm1, Lm2, Lm3, Lm4, Lm5, Lm6, Lm7, Lm8, Lm9, Lm10, Lm11, Lm12, Lm13, Lm14, Lm15, Lm16, Lm17, Lm18, Lm19, Lm20, Lm21, Lm22, Lm23, Lm24, Lm25, Lm26, Lm27, Lm28, Lm29, Nat.reduceLT, Nat.reduceEqDiff, ↓reduceIte, reduceCtorEq, Nat.reduceAdd, ge_iff_le, gt_iff_lt, forall_const, Nat.reduceBEq, Nat.reduceBNe, Nat.reduceMul, Nat.reduceLeDiff, Nat.reduceSub, Int.reduceToNat, td_3, td_4, td_5, td_9, td_22, td_24, td_25, td_27, td_28, td_29, td_31, td_32, td_38, td_44, td_46, td_85, trsP, evsP, strsP, hy, lT, hga, List.length_map])
      and_intros; all_goals (try (refine Side.mk ?_; first | first | omega | (intros; omega) | (simp; done) | (simp; omega) | (intro h; simp at h; omega) | (simp_all; done) | rfl | (and_intros <;> first | omega | (intros; omega) | (simp; done) | (simp; omega) | (intro h; simp at h; omega) | (simp_all; done) | rfl)))
      (refine exeC_ok (f := 60) ?_; simp only [B0, B1, B2, Lm0, Lm1, Lm2, Lm3, Lm4, Lm5, Lm6, Lm7, Lm8, Lm9, Lm10, Lm11, Lm12, Lm13, Lm14, Lm15, Lm16, Lm17, Lm18, Lm19, Lm20, Lm21, Lm22, Lm23, Lm24, Lm25, Lm26, Lm27, Lm28, Lm29, Nat.reduceLT, Nat.reduceEqDiff, ↓reduceIte, reduceCtorEq, Nat.reduceAdd, ge_iff_le, gt_iff_lt, forall_const, Nat.reduceBEq, Nat.reduceBNe, Nat.reduceMul, Nat.reduceLeDiff, Nat.reduceSub, Int.reduceToNat, td_3, td_4, td_5, td_9, td_22, td_24, td_25, td_27, td_28, td_29, td_31, td_32, td_38, td_44, td_46, td_85, hw2])
      and_intros; all_goals (try (refine Side.mk ?_; first | first | omega | (intros; omega) | (simp; done) | (simp; omega) | (intro h; simp at h; omega) | (simp_all; done) | rfl | (and_intros <;> first | omega | (intros; omega) | (simp; done) | (simp; omega) | (intro h; simp at h; omega) | (simp_all; done) | rfl)))
      exact ⟨k + 1, Conv.to [0, 1] (nodupB_ok rfl) rfl (by repeat (first | exact trivial | refine ⟨.refl _, ?_⟩ | refine ⟨LeP.osl rfl, ?_⟩ | refine ⟨LeP.oslN rfl (by simp) (by omega), ?_⟩)) ⟨LeO.refl _, LeO.ob (zN _) rfl, trivial⟩, by omega, by omega⟩
    · (refine exeC_ok (f := 60) ?_; simp only [B0, B1, B2, Lm0, Lm1, Lm2, Lm3, Lm4, Lm5, Lm6, Lm7, Lm8, Lm9, Lm10, Lm11, Lm12, Lm13, Lm14, Lm15, Lm16, Lm17, Lm18, Lm19, Lm20, Lm21, Lm22, Lm23, Lm24, Lm25, Lm26, Lm27, Lm28, Lm29, Nat.reduceLT, Nat.reduceEqDiff, ↓reduceIte, reduceCtorEq, Nat.reduceAdd, ge_iff_le, gt_iff_lt, forall_const, Nat.reduceBEq, Nat.reduceBNe, Nat.reduceMul, Nat.reduceLeDiff, Nat.reduceSub, Int.reduceToNat, td_3, td_4, td_5, td_9, td_22, td_24, td_25, td_27, td_28, td_29, td_31, td_32, td_38, td_44, td_46, td_85])
      refine Run.callP rfl rfl (by kernel_rfl) (c_awake) rfl rfl rfl ?_
      (refine Run.on ?_; simp only [B0, B1, B2, Lm0, Lm1, Lm2, Lm3, Lm4, Lm5, Lm6, Lm7, Lm8, Lm9, Lm10, Lm11, Lm12, Lm13, Lm14, Lm15, Lm16, Lm17, Lm18, Lm19, Lm20, Lm21, Lm22, Lm23, Lm24, Lm25, Lm26, Lm27, Lm28, Lm29, Nat.reduceLT, Nat.reduceEqDiff, ↓reduceIte, reduceCtorEq, Nat.reduceAdd, ge_iff_le, gt_iff_lt, forall_const, Nat.reduceBEq, Nat.reduceBNe, Nat.reduceMul, Nat.reduceLeDiff, Nat.reduceSub, Int.reduceToNat, td_3, td_4, td_5, td_9, td_22, td_24, td_25, td_27, td_28, td_29, td_31, td_32, td_38, td_44, td_46, td_85])
      exact RetV.p rfl trivial (rB rfl)
end Go.Proofs.Ytbbjmfkmjjinnaa.V
