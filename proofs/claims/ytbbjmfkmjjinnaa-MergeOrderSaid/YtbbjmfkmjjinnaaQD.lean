/- Contracts of functions that hold traces against each other, that make traces. No law of the program is proved here. -/
import Derived.Test.YtbbjmfkmjjinnaaQC
set_option linter.all false
namespace Go.Proofs.Ytbbjmfkmjjinnaa.V
open Go Go.Proofs

def trP (t : Tr) : PV := .ag (trC t)
theorem c_sameEvent (a b : Ev) (ha : a.ids.length ≤ 9223372036854775807) : GC Try.prog 40 [.ag (evC a), .ag (evC b)] [] (Bo (decide (a = b))) [] := by
  obtain ⟨t, l⟩ := a
  obtain ⟨u, m⟩ := b
  have e : decide ((⟨t, l⟩ : Ev) = ⟨u, m⟩) = (decide (t = u) && decide (l = m)) := by
    by_cases h1 : t = u <;> by_cases h2 : l = m <;> simp [h1, h2]
  rw [e]
  refine GC_fn [] Try.func40 rfl rfl (by kernel_rfl) ?_
  (refine exeC_ok (f := 60) ?_; simp only [B0, B1, B2, Lm0, Lm1, Lm2, Lm3, Lm4, Lm5, Lm6, Lm7, Lm8, Lm9, Lm10, Lm11, Lm12, Lm13, Lm14, Lm15, Lm16, Lm17, Lm18, Lm19, Lm20, Lm21, Lm22, Lm23, Lm24, Lm25, Lm26, Lm27, Lm28, Lm29, Nat.reduceLT, Nat.reduceEqDiff, ↓reduceIte, reduceCtorEq, Nat.reduceAdd, ge_iff_le, gt_iff_lt, forall_const, Nat.reduceBEq, Nat.reduceBNe, Nat.reduceMul, Nat.reduceLeDiff, Nat.reduceSub, Int.reduceToNat, td_3, td_28, td_29, td_31, evC, intsP])
  and_intros; all_goals (try (refine Side.mk ?_; first | first | omega | (intros; omega) | (simp; done) | (simp; omega) | (intro h; simp at h; omega) | (simp_all; done) | rfl | (and_intros <;> first | omega | (intros; omega) | (simp; done) | (simp; omega) | (intro h; simp at h; omega) | (simp_all; done) | rfl)))
  refine Run.callF rfl rfl rfl (by kernel_rfl) (by repeat (first | exact trivial | refine ⟨fun h => h, ?_⟩ | refine ⟨fun _ => rfl, ?_⟩ | refine ⟨fun h => (Bool.and_eq_true_iff.1 h).1, ?_⟩ | refine ⟨fun h => (Bool.and_eq_true_iff.1 h).2, ?_⟩ | refine ⟨fun h => by simpa [holdP, evalO, look] using h, ?_⟩)) (fun _ => c_eqI l m ha) rfl rfl rfl ?_
  (refine Run.on ?_; simp only [B0, B1, B2, Lm0, Lm1, Lm2, Lm3, Lm4, Lm5, Lm6, Lm7, Lm8, Lm9, Lm10, Lm11, Lm12, Lm13, Lm14, Lm15, Lm16, Lm17, Lm18, Lm19, Lm20, Lm21, Lm22, Lm23, Lm24, Lm25, Lm26, Lm27, Lm28, Lm29, Nat.reduceLT, Nat.reduceEqDiff, ↓reduceIte, reduceCtorEq, Nat.reduceAdd, ge_iff_le, gt_iff_lt, forall_const, Nat.reduceBEq, Nat.reduceBNe, Nat.reduceMul, Nat.reduceLeDiff, Nat.reduceSub, Int.reduceToNat, td_3, td_28, td_29, td_31])
  and_intros; all_goals (try (refine Side.mk ?_; first | first | omega | (intros; omega) | (simp; done) | (simp; omega) | (intro h; simp at h; omega) | (simp_all; done) | rfl | (and_intros <;> first | omega | (intros; omega) | (simp; done) | (simp; omega) | (intro h; simp at h; omega) | (simp_all; done) | rfl)))
  exact RetV.p rfl trivial (rB rfl)

theorem c_sameEvents (l m : List Ev) (hl : l.length ≤ 9223372036854775807) (hi : ∀ e, e ∈ l → e.ids.length ≤ 9223372036854775807) : GC Try.prog 28 [evsP l, evsP m] [] (Bo (decide (l = m))) [] := by
  refine GC_fn [] Try.func28 rfl rfl (by kernel_rfl) ?_
  (refine exeC_ok (f := 60) ?_; simp only [B0, B1, B2, Lm0, Lm1, Lm2, Lm3, Lm4, Lm5, Lm6, Lm7, Lm8, Lm9, Lm10, Lm11, Lm12, Lm13, Lm14, Lm15, Lm16, Lm17, Lm18, Lm19, Lm20, Lm21, Lm22, Lm23, Lm24, Lm25, Lm26, Lm27, Lm28, Lm29, Nat.reduceLT, Nat.reduceEqDiff, ↓reduceIte, reduceCtorEq, Nat.reduceAdd, ge_iff_le, gt_iff_lt, forall_const, Nat.reduceBEq, Nat.reduceBNe, Nat.reduceMul, Nat.reduceLeDiff, Nat.reduceSub, Int.reduceToNat, td_3, td_4, td_25, td_28, td_29, td_31, evsP])
  refine ⟨fun h => ?_, fun h => ?_⟩
  · (refine exeC_ok (f := 60) ?_; simp only [B0, B1, B2, Lm0, Lm1, Lm2, Lm3, Lm4, Lm5, Lm6, Lm7, Lm8, Lm9, Lm10, Lm11, Lm12, Lm13, Lm14, Lm15, Lm16, Lm17, Lm18, Lm19, Lm20, Lm21, Lm22, Lm23, Lm24, Lm25, Lm26, Lm27, Lm28, Lm29, Nat.reduceLT, Nat.reduceEqDiff, ↓reduceIte, reduceCtorEq, Nat.reduceAdd, ge_iff_le, gt_iff_lt, forall_const, Nat.reduceBEq, Nat.reduceBNe, Nat.reduceMul, Nat.reduceLeDiff, Nat.reduceSub, Int.reduceToNat, td_3, td_4, td_25, td_28, td_29, td_31])
    exact RetV.p rfl trivial (rB (decide_eq_false (fun e => h (by rw [e]))).symm)
  · have hlen : l.length = m.length := by omega
    (refine exeC_ok (f := 60) ?_; simp only [B0, B1, B2, Lm0, Lm1, Lm2, Lm3, Lm4, Lm5, Lm6, Lm7, Lm8, Lm9, Lm10, Lm11, Lm12, Lm13, Lm14, Lm15, Lm16, Lm17, Lm18, Lm19, Lm20, Lm21, Lm22, Lm23, Lm24, Lm25, Lm26, Lm27, Lm28, Lm29, Nat.reduceLT, Nat.reduceEqDiff, ↓reduceIte, reduceCtorEq, Nat.reduceAdd, ge_iff_le, gt_iff_lt, forall_const, Nat.reduceBEq, Nat.reduceBNe, Nat.reduceMul, Nat.reduceLeDiff, Nat.reduceSub, Int.reduceToNat, td_3, td_4, td_25, td_28, td_29, td_31, evsP])
    refine WC_loop (fun k : Nat => [(0, evsP l), (1, evsP m), (12, I l.length), (13, I k)]) (fun _ => []) (fun k => k ≤ l.length ∧ l.take k = m.take k) (fun k => l.length - k) 0 (Conv.less (by repeat (first | exact trivial | refine ⟨.refl _, ?_⟩)) trivial) ⟨Nat.zero_le _, rfl⟩ ?_
    rintro k ⟨hk, ht⟩
    (refine exeC_ok (f := 60) ?_; simp only [B0, B1, B2, Lm0, Lm1, Lm2, Lm3, Lm4, Lm5, Lm6, Lm7, Lm8, Lm9, Lm10, Lm11, Lm12, Lm13, Lm14, Lm15, Lm16, Lm17, Lm18, Lm19, Lm20, Lm21, Lm22, Lm23, Lm24, Lm25, Lm26, Lm27, Lm28, Lm29, Nat.reduceLT, Nat.reduceEqDiff, ↓reduceIte, reduceCtorEq, Nat.reduceAdd, ge_iff_le, gt_iff_lt, forall_const, Nat.reduceBEq, Nat.reduceBNe, Nat.reduceMul, Nat.reduceLeDiff, Nat.reduceSub, Int.reduceToNat, td_3, td_4, td_25, td_28, td_29, td_31, evsP])
    refine ⟨fun h1 => ?_, fun h1 => ?_⟩
    · have hk' : k < l.length := by omega
      have hx := drop_ev l k hk'
      have hy := drop_ev m k (by omega)
      have hw' : IntKind.i64.wrap ((k : Int) + 1) = (k : Int) + 1 := wrap64 (by omega) (by omega)
      (refine exeC_ok (f := 60) ?_; simp only [B0, B1, B2, Lm0, Lm1, Lm2, Lm3, Lm4, Lm5, Lm6, Lm7, Lm8, Lm9, Lm10, Lm11, Lm12, Lm13, Lm14, Lm15, Lm16, Lm17, Lm18, Lm19, Lm20, Lm21, Lm22, Lm23, Lm24, Lm25, Lm26, Lm27, Lm28, Lm29, Nat.reduceLT, Nat.reduceEqDiff, ↓reduceIte, reduceCtorEq, Nat.reduceAdd, ge_iff_le, gt_iff_lt, forall_const, Nat.reduceBEq, Nat.reduceBNe, Nat.reduceMul, Nat.reduceLeDiff, Nat.reduceSub, Int.reduceToNat, td_3, td_4, td_25, td_28, td_29, td_31, evsP, hx, hy])
      and_intros; all_goals (try (refine Side.mk ?_; first | first | omega | (intros; omega) | (simp; done) | (simp; omega) | (intro h; simp at h; omega) | (simp_all; done) | rfl | (and_intros <;> first | omega | (intros; omega) | (simp; done) | (simp; omega) | (intro h; simp at h; omega) | (simp_all; done) | rfl)))
      refine Run.callP rfl rfl (by kernel_rfl) (c_sameEvent (l.getD k default) (m.getD k default) (hi _ (getD_mem hk'))) rfl rfl rfl ?_
      (refine Run.on ?_; simp only [B0, B1, B2, Lm0, Lm1, Lm2, Lm3, Lm4, Lm5, Lm6, Lm7, Lm8, Lm9, Lm10, Lm11, Lm12, Lm13, Lm14, Lm15, Lm16, Lm17, Lm18, Lm19, Lm20, Lm21, Lm22, Lm23, Lm24, Lm25, Lm26, Lm27, Lm28, Lm29, Nat.reduceLT, Nat.reduceEqDiff, ↓reduceIte, reduceCtorEq, Nat.reduceAdd, ge_iff_le, gt_iff_lt, forall_const, Nat.reduceBEq, Nat.reduceBNe, Nat.reduceMul, Nat.reduceLeDiff, Nat.reduceSub, Int.reduceToNat, td_3, td_4, td_25, td_28, td_29, td_31])
      and_intros; all_goals (try (refine Side.mk ?_; first | first | omega | (intros; omega) | (simp; done) | (simp; omega) | (intro h; simp at h; omega) | (simp_all; done) | rfl | (and_intros <;> first | omega | (intros; omega) | (simp; done) | (simp; omega) | (intro h; simp at h; omega) | (simp_all; done) | rfl)))
      · intro hb
        (refine exeC_ok (f := 60) ?_; simp only [B0, B1, B2, Lm0, Lm1, Lm2, Lm3, Lm4, Lm5, Lm6, Lm7, Lm8, Lm9, Lm10, Lm11, Lm12, Lm13, Lm14, Lm15, Lm16, Lm17, Lm18, Lm19, Lm20, Lm21, Lm22, Lm23, Lm24, Lm25, Lm26, Lm27, Lm28, Lm29, Nat.reduceLT, Nat.reduceEqDiff, ↓reduceIte, reduceCtorEq, Nat.reduceAdd, ge_iff_le, gt_iff_lt, forall_const, Nat.reduceBEq, Nat.reduceBNe, Nat.reduceMul, Nat.reduceLeDiff, Nat.reduceSub, Int.reduceToNat, td_3, td_4, td_25, td_28, td_29, td_31])
        exact RetV.p rfl trivial (rB (decide_eq_false (fun e => hb (by rw [e]))).symm)
      · intro hb
        (refine exeC_ok (f := 60) ?_; simp only [B0, B1, B2, Lm0, Lm1, Lm2, Lm3, Lm4, Lm5, Lm6, Lm7, Lm8, Lm9, Lm10, Lm11, Lm12, Lm13, Lm14, Lm15, Lm16, Lm17, Lm18, Lm19, Lm20, Lm21, Lm22, Lm23, Lm24, Lm25, Lm26, Lm27, Lm28, Lm29, Nat.reduceLT, Nat.reduceEqDiff, ↓reduceIte, reduceCtorEq, Nat.reduceAdd, ge_iff_le, gt_iff_lt, forall_const, Nat.reduceBEq, Nat.reduceBNe, Nat.reduceMul, Nat.reduceLeDiff, Nat.reduceSub, Int.reduceToNat, td_3, td_4, td_25, td_28, td_29, td_31, hw'])
        refine ⟨k + 1, Conv.less (by repeat (first | exact trivial | refine ⟨.refl _, ?_⟩)) trivial, ⟨by omega, ?_⟩, by omega⟩
        rw [take_snoc l k hk', take_snoc m k (by omega), ht, hb]
    · (refine exeC_ok (f := 60) ?_; simp only [B0, B1, B2, Lm0, Lm1, Lm2, Lm3, Lm4, Lm5, Lm6, Lm7, Lm8, Lm9, Lm10, Lm11, Lm12, Lm13, Lm14, Lm15, Lm16, Lm17, Lm18, Lm19, Lm20, Lm21, Lm22, Lm23, Lm24, Lm25, Lm26, Lm27, Lm28, Lm29, Nat.reduceLT, Nat.reduceEqDiff, ↓reduceIte, reduceCtorEq, Nat.reduceAdd, ge_iff_le, gt_iff_lt, forall_const, Nat.reduceBEq, Nat.reduceBNe, Nat.reduceMul, Nat.reduceLeDiff, Nat.reduceSub, Int.reduceToNat, td_3, td_4, td_25, td_28, td_29, td_31])
      have hk' : k = l.length := by omega
      rw [hk', List.take_length, hlen, List.take_length] at ht
      exact RetV.p rfl trivial (rB (decide_eq_true ht).symm)

instance : DecidableEq Tr := fun a b => match a, b with
  | ⟨n, e⟩, ⟨m, f⟩ => if h : n = m ∧ e = f then .isTrue (by rw [h.1, h.2]) else .isFalse (fun k => h (by cases k; exact ⟨rfl, rfl⟩))
theorem c_sameTrace (a b : Tr) (ha : a.Ok) : GC Try.prog 11 [trP a, trP b] [] (Bo (decide (a = b))) [] := by
  obtain ⟨n, e⟩ := a
  obtain ⟨m, f⟩ := b
  obtain ⟨h1, h2, h3, h4⟩ := ha
  have he : decide ((⟨n, e⟩ : Tr) = ⟨m, f⟩) = (decide (n = m) && decide (e = f)) := by
    by_cases h1 : n = m <;> by_cases h2 : e = f <;> simp [h1, h2]
  rw [he]
  refine GC_fn [] Try.func11 rfl rfl (by kernel_rfl) ?_
  (refine exeC_ok (f := 60) ?_; simp only [B0, B1, B2, Lm0, Lm1, Lm2, Lm3, Lm4, Lm5, Lm6, Lm7, Lm8, Lm9, Lm10, Lm11, Lm12, Lm13, Lm14, Lm15, Lm16, Lm17, Lm18, Lm19, Lm20, Lm21, Lm22, Lm23, Lm24, Lm25, Lm26, Lm27, Lm28, Lm29, Nat.reduceLT, Nat.reduceEqDiff, ↓reduceIte, reduceCtorEq, Nat.reduceAdd, ge_iff_le, gt_iff_lt, forall_const, Nat.reduceBEq, Nat.reduceBNe, Nat.reduceMul, Nat.reduceLeDiff, Nat.reduceSub, Int.reduceToNat, td_3, td_9, td_24, td_25, td_27, td_28, td_29, td_31, trP, trC, strsP, evsP])
  and_intros; all_goals (try (refine Side.mk ?_; first | first | omega | (intros; omega) | (simp; done) | (simp; omega) | (intro h; simp at h; omega) | (simp_all; done) | rfl | (and_intros <;> first | omega | (intros; omega) | (simp; done) | (simp; omega) | (intro h; simp at h; omega) | (simp_all; done) | rfl)))
  refine Run.callP rfl rfl (by kernel_rfl) (c_eqS n m h1) rfl rfl rfl ?_
  (refine Run.on ?_; simp only [B0, B1, B2, Lm0, Lm1, Lm2, Lm3, Lm4, Lm5, Lm6, Lm7, Lm8, Lm9, Lm10, Lm11, Lm12, Lm13, Lm14, Lm15, Lm16, Lm17, Lm18, Lm19, Lm20, Lm21, Lm22, Lm23, Lm24, Lm25, Lm26, Lm27, Lm28, Lm29, Nat.reduceLT, Nat.reduceEqDiff, ↓reduceIte, reduceCtorEq, Nat.reduceAdd, ge_iff_le, gt_iff_lt, forall_const, Nat.reduceBEq, Nat.reduceBNe, Nat.reduceMul, Nat.reduceLeDiff, Nat.reduceSub, Int.reduceToNat, td_3, td_9, td_24, td_25, td_27, td_28, td_29, td_31])
  and_intros; all_goals (try (refine Side.mk ?_; first | first | omega | (intros; omega) | (simp; done) | (simp; omega) | (intro h; simp at h; omega) | (simp_all; done) | rfl | (and_intros <;> first | omega | (intros; omega) | (simp; done) | (simp; omega) | (intro h; simp at h; omega) | (simp_all; done) | rfl)))
  refine Run.callF rfl rfl rfl (by kernel_rfl) (by repeat (first | exact trivial | refine ⟨fun h => h, ?_⟩ | refine ⟨fun _ => rfl, ?_⟩ | refine ⟨fun h => (Bool.and_eq_true_iff.1 h).1, ?_⟩ | refine ⟨fun h => (Bool.and_eq_true_iff.1 h).2, ?_⟩ | refine ⟨fun h => by simpa [holdP, evalO, look] using h, ?_⟩)) (fun _ => c_sameEvents e f h3 h4) rfl rfl rfl ?_
  (refine Run.on ?_; simp only [B0, B1, B2, Lm0, Lm1, Lm2, Lm3, Lm4, Lm5, Lm6, Lm7, Lm8, Lm9, Lm10, Lm11, Lm12, Lm13, Lm14, Lm15, Lm16, Lm17, Lm18, Lm19, Lm20, Lm21, Lm22, Lm23, Lm24, Lm25, Lm26, Lm27, Lm28, Lm29, Nat.reduceLT, Nat.reduceEqDiff, ↓reduceIte, reduceCtorEq, Nat.reduceAdd, ge_iff_le, gt_iff_lt, forall_const, Nat.reduceBEq, Nat.reduceBNe, Nat.reduceMul, Nat.reduceLeDiff, Nat.reduceSub, Int.reduceToNat, td_3, td_9, td_24, td_25, td_27, td_28, td_29, td_31])
  and_intros; all_goals (try (refine Side.mk ?_; first | first | omega | (intros; omega) | (simp; done) | (simp; omega) | (intro h; simp at h; omega) | (simp_all; done) | rfl | (and_intros <;> first | omega | (intros; omega) | (simp; done) | (simp; omega) | (intro h; simp at h; omega) | (simp_all; done) | rfl)))
  exact RetV.p rfl trivial (rB rfl)

def holdN (names : List ByteArray) (l : List Int) : List ByteArray := l.map fun i => names.getD i.toNat default
theorem c_rhold (names : List ByteArray) (e : Ev) (hl : e.ids.length ≤ 1000) (hi : ∀ i, i ∈ e.ids → 0 ≤ i ∧ i < names.length) : GC Try.prog 31 [strsP names, .ag (evC e)] [] (strsP (holdN names e.ids)) [] := by
  obtain ⟨t, l⟩ := e
  simp only at hl hi
  refine GC_fn [] Try.func31 rfl rfl (by kernel_rfl) ?_
  (refine exeC_ok (f := 60) ?_; simp only [B0, B1, B2, Lm0, Lm1, Lm2, Lm3, Lm4, Lm5, Lm6, Lm7, Lm8, Lm9, Lm10, Lm11, Lm12, Lm13, Lm14, Lm15, Lm16, Lm17, Lm18, Lm19, Lm20, Lm21, Lm22, Lm23, Lm24, Lm25, Lm26, Lm27, Lm28, Lm29, Nat.reduceLT, Nat.reduceEqDiff, ↓reduceIte, reduceCtorEq, Nat.reduceAdd, ge_iff_le, gt_iff_lt, forall_const, Nat.reduceBEq, Nat.reduceBNe, Nat.reduceMul, Nat.reduceLeDiff, Nat.reduceSub, Int.reduceToNat, td_3, td_9, td_24, td_28, td_29, td_31, evC, intsP, strsP])
  refine WC_loop (fun k : Nat => [(0, strsP names), (9, intsP l), (10, I l.length), (11, I k), (5, osl 0 k)]) (fun k => [oob 9 1 ((holdN names (l.take k)).map S)]) (fun k => k ≤ l.length) (fun k => l.length - k) 0 (Conv.to [1] (nodupB_ok rfl) rfl (by repeat (first | exact trivial | refine ⟨.refl _, ?_⟩)) ⟨trivial, trivial⟩) (Nat.zero_le _) ?_
  intro k hk
  have hcs : ((holdN names (l.take k)).map S).length = k * 1 := by simp [holdN]; omega
  (refine exeC_ok (f := 60) ?_; simp only [B0, B1, B2, Lm0, Lm1, Lm2, Lm3, Lm4, Lm5, Lm6, Lm7, Lm8, Lm9, Lm10, Lm11, Lm12, Lm13, Lm14, Lm15, Lm16, Lm17, Lm18, Lm19, Lm20, Lm21, Lm22, Lm23, Lm24, Lm25, Lm26, Lm27, Lm28, Lm29, Nat.reduceLT, Nat.reduceEqDiff, ↓reduceIte, reduceCtorEq, Nat.reduceAdd, ge_iff_le, gt_iff_lt, forall_const, Nat.reduceBEq, Nat.reduceBNe, Nat.reduceMul, Nat.reduceLeDiff, Nat.reduceSub, Int.reduceToNat, td_3, td_9, td_24, td_28, td_29, td_31, intsP])
  refine ⟨fun h1 => ?_, fun h1 => ?_⟩
  · have hk' : k < l.length := by omega
    have hm := hi _ (getD_mem hk')
    have hx := drop_map I default l k hk'
    have hy := drop_map S default names (l.getD k default).toNat (by omega)
    have hw' : IntKind.i64.wrap ((k : Int) + 1) = (k : Int) + 1 := wrap64 (by omega) (by omega)
    have ht : ((holdN names (l.take k)).map S).take k = (holdN names (l.take k)).map S := List.take_of_length_le (by omega)
    have hs : (holdN names (l.take (k + 1))).map S = (holdN names (l.take k)).map S ++ [S (names.getD (l.getD k default).toNat default)] := by rw [take_snoc l k hk']; unfold holdN; rw [List.map_append, List.map_append]; rfl
    rcases osl_cases 0 k 9 1 _ hcs (by omega) with ⟨ho, hoo, h0, hn⟩ | ⟨ho, hoo, h0⟩
    all_goals
      (refine exeC_ok (f := 60) ?_; simp only [B0, B1, B2, Lm0, Lm1, Lm2, Lm3, Lm4, Lm5, Lm6, Lm7, Lm8, Lm9, Lm10, Lm11, Lm12, Lm13, Lm14, Lm15, Lm16, Lm17, Lm18, Lm19, Lm20, Lm21, Lm22, Lm23, Lm24, Lm25, Lm26, Lm27, Lm28, Lm29, Nat.reduceLT, Nat.reduceEqDiff, ↓reduceIte, reduceCtorEq, Nat.reduceAdd, ge_iff_le, gt_iff_lt, forall_const, Nat.reduceBEq, Nat.reduceBNe, Nat.reduceMul, Nat.reduceLeDiff, Nat.reduceSub, Int.reduceToNat, td_3, td_9, td_24, td_28, td_29, td_31, intsP, strsP, hx, hy, ho, hoo, ht, hw'])
      and_intros; all_goals (try (refine Side.mk ?_; first | first | omega | (intros; omega) | (simp; done) | (simp; omega) | (intro h; simp at h; omega) | (simp_all; done) | rfl | (and_intros <;> first | omega | (intros; omega) | (simp; done) | (simp; omega) | (intro h; simp at h; omega) | (simp_all; done) | rfl)))
    · subst h0
      exact ⟨0 + 1, Conv.to [2] (nodupB_ok rfl) rfl (by repeat (first | exact trivial | refine ⟨.refl _, ?_⟩ | refine ⟨LeP.osl rfl, ?_⟩ | refine ⟨LeP.oslN rfl (by simp) (by omega), ?_⟩)) ⟨LeO.app rfl (by rw [hs, hn]; rfl) (by rw [hs]; simp), trivial⟩, by omega, by omega⟩
    · exact ⟨k + 1, Conv.to [2] (nodupB_ok rfl) rfl (by repeat (first | exact trivial | refine ⟨.refl _, ?_⟩ | refine ⟨LeP.osl rfl, ?_⟩ | refine ⟨LeP.oslN rfl (by simp) (by omega), ?_⟩)) ⟨LeO.app (zLB_append (zLB_mapC S _ fun _ => rfl) rfl) hs.symm (by rw [hs]; simp), trivial⟩, by omega, by omega⟩
  · (refine exeC_ok (f := 60) ?_; simp only [B0, B1, B2, Lm0, Lm1, Lm2, Lm3, Lm4, Lm5, Lm6, Lm7, Lm8, Lm9, Lm10, Lm11, Lm12, Lm13, Lm14, Lm15, Lm16, Lm17, Lm18, Lm19, Lm20, Lm21, Lm22, Lm23, Lm24, Lm25, Lm26, Lm27, Lm28, Lm29, Nat.reduceLT, Nat.reduceEqDiff, ↓reduceIte, reduceCtorEq, Nat.reduceAdd, ge_iff_le, gt_iff_lt, forall_const, Nat.reduceBEq, Nat.reduceBNe, Nat.reduceMul, Nat.reduceLeDiff, Nat.reduceSub, Int.reduceToNat, td_3, td_9, td_24, td_28, td_29, td_31])
    have hk' : k = l.length := by omega
    subst hk'
    rw [List.take_length] at hcs ⊢
    rw [show (holdN names l).length = l.length by simp [holdN]]
    exact RetV.sl (t := 4) rfl rfl hcs (by omega) (zLB_mapC S _ fun _ => rfl)
end Go.Proofs.Ytbbjmfkmjjinnaa.V
