/- The contract of Merge. No law of the program is proved here. -/
import Derived.Test.YtbbjmfkmjjinnaaQK
set_option linter.all false
namespace Go.Proofs.Ytbbjmfkmjjinnaa.V
open Go Go.Proofs

structure MOk (M : Nat) (l : List Tr) : Prop where
  n : l.length ≤ 100000
  s : sumN l ≤ 1000000
  e : sumE (linesF 0 l) ≤ 1000000
  t : ∀ t, t ∈ l → t.Ok
  i : ∀ t, t ∈ l → mayB t = true → ∀ e, e ∈ t.evs → e.ids.length ≤ M
theorem linesF_len : ∀ (i : Nat) (l : List Tr), (linesF i l).length ≤ l.length
  | _, [] => Nat.le_refl _
  | i, t :: l => by rw [linesF]; split <;> simp <;> have := linesF_len (i + 1) l <;> omega

theorem lively_of {l : List Tr} {A : List Ln} {m : Nat} (hm : m ≤ A.length) (h : ∀ x, x ∈ A.take m → OkL l x) : Lively m A := by
  intro i hi
  have : (A.getD i default) ∈ A.take m := by
    rw [getD_get (by omega : i < A.length)]
    exact List.mem_take_iff_getElem.2 ⟨i, by omega, rfl⟩
  exact (h _ this).1
theorem take_evs (l : List Ev) : ((l.flatMap evC).drop 2).take ((l.length - 1) * 2) = (l.drop 1).flatMap evC := by
  cases l with
  | nil => rfl
  | cons e l =>
    rw [List.flatMap_cons]
    show (l.flatMap evC).take _ = _
    exact List.take_of_length_le (by rw [length_flat evC 2 (fun _ => rfl)]; simp)
theorem lE (l : List Ev) : (l.flatMap evC).length = l.length * 2 := length_flat evC 2 (fun _ => rfl) l
theorem drop_rows (l : List (List Int)) (k : Nat) (h : k < l.length) : (l.map intsP).drop k = intsP (l.getD k default) :: (l.drop (k + 1)).map intsP := drop_map intsP default l k h

theorem LeP.oslM {σ : Nat → Option Nat} {i j n m : Nat} (h : σ i = some j) (e : n = m) (hp : 0 < n) : LeP (V.ren σ (.id i n)) (V.osl j m) := LeP.oslN h e hp

theorem c_Merge {M : Nat} {srt : List Int → List Int} (hs : Srt M srt) (l : List Tr) (hM : MOk M l) : GC Try.prog 9 [trsP l] [] (.tu [trP (mergeF srt l).1, I (mergeF srt l).2]) [] := by
  obtain ⟨hl, hsum, hev, hok, hids⟩ := hM
  refine GC_fn [(17, true, [])] Try.func9 rfl rfl (by kernel_rfl) ?_
  (refine exeC_ok (f := 60) ?_; simp only [B0, B1, B2, Lm0, Lm1, Lm2, Lm3, Lm4, Lm5, Lm6, Lm7, Lm8, Lm9, Lm10, Lm11, Lm12, Lm13, Lm14, Lm15, Lm16, Lm17, Lm18, Lm19, Lm20, Lm21, Lm22, Lm23, Lm24, Lm25, Lm26, Lm27, Lm28, Lm29, Nat.reduceLT, Nat.reduceEqDiff, ↓reduceIte, reduceCtorEq, Nat.reduceAdd, ge_iff_le, gt_iff_lt, forall_const, Nat.reduceBEq, Nat.reduceBNe, Nat.reduceMul, Nat.reduceLeDiff, Nat.reduceSub, Int.reduceToNat, td_3, td_4, td_9, td_22, td_24, td_25, td_27, td_28, td_29, td_31, td_51, td_53, td_55, td_56, td_74, strsP, evsP, intsP, trsP, trsP])
  and_intros; all_goals (try (refine Side.mk ?_; first | first | omega | (intros; omega) | (simp; done) | (simp; omega) | (intro h; simp at h; omega) | (simp_all; done) | rfl | (and_intros <;> first | omega | (intros; omega) | (simp; done) | (simp; omega) | (intro h; simp at h; omega) | (simp_all; done) | rfl)))
  refine WC_loop (fun s : Nat × List Ln => [(0, trsP l), (2, .ad 0 0), (4, .ad 1 0), (13, trsP l), (14, I l.length), (15, I s.1)])
    (fun s => [some ⟨27, false, 1, [.sc (.slice none 0 0), .sc (.slice none 0 0)]⟩, some ⟨53, false, 1, [.id 2 s.2.length]⟩, some ⟨55, true, 2, s.2.flatMap qc⟩])
    (fun s => s.1 ≤ l.length ∧ s.2.length ≤ s.1 ∧ s.2 ++ linesF s.1 (l.drop s.1) = linesF 0 l ∧ (l.take s.1).all mayB = true) (fun s => l.length - s.1) (0, []) ?_ ⟨Nat.zero_le _, Nat.le_refl _, rfl, rfl⟩ ?_
  · exact Conv.to [0, 2, 1] (nodupB_ok rfl) rfl (by repeat (first | exact trivial | refine ⟨.refl _, ?_⟩ | refine ⟨LeP.osl rfl, ?_⟩ | refine ⟨LeP.oslN rfl (by simp) (by omega), ?_⟩)) ⟨LeO.refl _, LeO.refl _, LeO.refl _, trivial⟩
  rintro ⟨k, A⟩ ⟨a1, a2, a3, a4⟩
  simp only at a1 a2 a3 a4
  (refine exeC_ok (f := 60) ?_; simp only [B0, B1, B2, Lm0, Lm1, Lm2, Lm3, Lm4, Lm5, Lm6, Lm7, Lm8, Lm9, Lm10, Lm11, Lm12, Lm13, Lm14, Lm15, Lm16, Lm17, Lm18, Lm19, Lm20, Lm21, Lm22, Lm23, Lm24, Lm25, Lm26, Lm27, Lm28, Lm29, Nat.reduceLT, Nat.reduceEqDiff, ↓reduceIte, reduceCtorEq, Nat.reduceAdd, ge_iff_le, gt_iff_lt, forall_const, Nat.reduceBEq, Nat.reduceBNe, Nat.reduceMul, Nat.reduceLeDiff, Nat.reduceSub, Int.reduceToNat, td_3, td_4, td_9, td_22, td_24, td_25, td_27, td_28, td_29, td_31, td_51, td_53, td_55, td_56, td_74, strsP, evsP, intsP, trsP, trsP])
  refine ⟨fun h1 => ?_, fun h1 => ?_⟩
  · have hk' : k < l.length := by omega
    have hx := drop_tr l k hk'
    have hT := hok _ (getD_mem hk')
    have hw' : IntKind.i64.wrap ((k : Int) + 1) = (k : Int) + 1 := wrap64 (by omega) (by omega)
    have hd := drop_cons l k hk'
    have htk := take_snoc l k hk'
    obtain ⟨⟨ns, es⟩, hne⟩ : ∃ t, l.getD k default = t := ⟨_, rfl⟩
    rw [hne] at hT hx hd htk
    (refine exeC_ok (f := 60) ?_; simp only [B0, B1, B2, Lm0, Lm1, Lm2, Lm3, Lm4, Lm5, Lm6, Lm7, Lm8, Lm9, Lm10, Lm11, Lm12, Lm13, Lm14, Lm15, Lm16, Lm17, Lm18, Lm19, Lm20, Lm21, Lm22, Lm23, Lm24, Lm25, Lm26, Lm27, Lm28, Lm29, Nat.reduceLT, Nat.reduceEqDiff, ↓reduceIte, reduceCtorEq, Nat.reduceAdd, ge_iff_le, gt_iff_lt, forall_const, Nat.reduceBEq, Nat.reduceBNe, Nat.reduceMul, Nat.reduceLeDiff, Nat.reduceSub, Int.reduceToNat, td_3, td_4, td_9, td_22, td_24, td_25, td_27, td_28, td_29, td_31, td_51, td_53, td_55, td_56, td_74, strsP, evsP, intsP, trsP, trsP, hx, lT, strsP, evsP])
    and_intros; all_goals (try (refine Side.mk ?_; first | first | omega | (intros; omega) | (simp; done) | (simp; omega) | (intro h; simp at h; omega) | (simp_all; done) | rfl | (and_intros <;> first | omega | (intros; omega) | (simp; done) | (simp; omega) | (intro h; simp at h; omega) | (simp_all; done) | rfl)))
    refine Run.callP rfl rfl (by kernel_rfl) (c_tmay ⟨ns, es⟩ hT) rfl rfl rfl ?_
    (refine Run.on ?_; simp only [B0, B1, B2, Lm0, Lm1, Lm2, Lm3, Lm4, Lm5, Lm6, Lm7, Lm8, Lm9, Lm10, Lm11, Lm12, Lm13, Lm14, Lm15, Lm16, Lm17, Lm18, Lm19, Lm20, Lm21, Lm22, Lm23, Lm24, Lm25, Lm26, Lm27, Lm28, Lm29, Nat.reduceLT, Nat.reduceEqDiff, ↓reduceIte, reduceCtorEq, Nat.reduceAdd, ge_iff_le, gt_iff_lt, forall_const, Nat.reduceBEq, Nat.reduceBNe, Nat.reduceMul, Nat.reduceLeDiff, Nat.reduceSub, Int.reduceToNat, td_3, td_4, td_9, td_22, td_24, td_25, td_27, td_28, td_29, td_31, td_51, td_53, td_55, td_56, td_74, strsP, evsP, intsP, trsP])
    refine ⟨fun hm => ?_, fun hm => ?_⟩
    · (refine exeC_ok (f := 60) ?_; simp only [B0, B1, B2, Lm0, Lm1, Lm2, Lm3, Lm4, Lm5, Lm6, Lm7, Lm8, Lm9, Lm10, Lm11, Lm12, Lm13, Lm14, Lm15, Lm16, Lm17, Lm18, Lm19, Lm20, Lm21, Lm22, Lm23, Lm24, Lm25, Lm26, Lm27, Lm28, Lm29, Nat.reduceLT, Nat.reduceEqDiff, ↓reduceIte, reduceCtorEq, Nat.reduceAdd, ge_iff_le, gt_iff_lt, forall_const, Nat.reduceBEq, Nat.reduceBNe, Nat.reduceMul, Nat.reduceLeDiff, Nat.reduceSub, Int.reduceToNat, td_3, td_4, td_9, td_22, td_24, td_25, td_27, td_28, td_29, td_31, td_51, td_53, td_55, td_56, td_74, strsP, evsP, intsP, trsP])
      and_intros; all_goals (try (refine Side.mk ?_; first | first | omega | (intros; omega) | (simp; done) | (simp; omega) | (intro h; simp at h; omega) | (simp_all; done) | rfl | (and_intros <;> first | omega | (intros; omega) | (simp; done) | (simp; omega) | (intro h; simp at h; omega) | (simp_all; done) | rfl)))
      have hf : mergeF srt l = (⟨[], []⟩, 1) := by
        unfold mergeF
        rw [if_neg]
        rw [← List.take_append_drop k l, hd, List.all_append, List.all_cons, hm]; simp
      rw [hf]
      exact RetV.ct (i := 0) (u := 3) [] rfl rfl (by rw [td_27]; rfl) (by rw [td_27]; rfl) (by rw [td_27]; rfl) rfl rfl (LeP.tu (LeL.cons (LeP.ag (LeL.cons .nil (LeL.cons .nil .nil))) (LeL.cons (.refl _) .nil))) trivial
    · (refine exeC_ok (f := 60) ?_; simp only [B0, B1, B2, Lm0, Lm1, Lm2, Lm3, Lm4, Lm5, Lm6, Lm7, Lm8, Lm9, Lm10, Lm11, Lm12, Lm13, Lm14, Lm15, Lm16, Lm17, Lm18, Lm19, Lm20, Lm21, Lm22, Lm23, Lm24, Lm25, Lm26, Lm27, Lm28, Lm29, Nat.reduceLT, Nat.reduceEqDiff, ↓reduceIte, reduceCtorEq, Nat.reduceAdd, ge_iff_le, gt_iff_lt, forall_const, Nat.reduceBEq, Nat.reduceBNe, Nat.reduceMul, Nat.reduceLeDiff, Nat.reduceSub, Int.reduceToNat, td_3, td_4, td_9, td_22, td_24, td_25, td_27, td_28, td_29, td_31, td_51, td_53, td_55, td_56, td_74, strsP, evsP, intsP, trsP])
      refine ⟨fun he => ?_, fun he => ?_⟩
      · have ht : ((A.flatMap qc)).take (A.length * 2) = A.flatMap qc := List.take_of_length_le (by rw [lQ]; omega)
        (refine exeC_ok (f := 60) ?_; simp only [B0, B1, B2, Lm0, Lm1, Lm2, Lm3, Lm4, Lm5, Lm6, Lm7, Lm8, Lm9, Lm10, Lm11, Lm12, Lm13, Lm14, Lm15, Lm16, Lm17, Lm18, Lm19, Lm20, Lm21, Lm22, Lm23, Lm24, Lm25, Lm26, Lm27, Lm28, Lm29, Nat.reduceLT, Nat.reduceEqDiff, ↓reduceIte, reduceCtorEq, Nat.reduceAdd, ge_iff_le, gt_iff_lt, forall_const, Nat.reduceBEq, Nat.reduceBNe, Nat.reduceMul, Nat.reduceLeDiff, Nat.reduceSub, Int.reduceToNat, td_3, td_4, td_9, td_22, td_24, td_25, td_27, td_28, td_29, td_31, td_51, td_53, td_55, td_56, td_74, strsP, evsP, intsP, trsP, ht, hw', lQ])
        and_intros; all_goals (try (refine Side.mk ?_; first | first | omega | (intros; omega) | (simp; done) | (simp; omega) | (intro h; simp at h; omega) | (simp_all; done) | rfl | (and_intros <;> first | omega | (intros; omega) | (simp; done) | (simp; omega) | (intro h; simp at h; omega) | (simp_all; done) | rfl)))
        have hne' : es ≠ [] := fun e => by subst e; simp at he
        refine ⟨(k + 1, A ++ [⟨es, k⟩]), Conv.to [0, 1, 5] (nodupB_ok rfl) rfl (by repeat (first | exact trivial | refine ⟨.refl _, ?_⟩ | refine ⟨LeP.osl rfl, ?_⟩ | refine ⟨LeP.oslN rfl (by simp) (by omega), ?_⟩)) ⟨LeO.refl _, ⟨rfl, rfl, rfl, LeL.cons (.of_eq (by show PV.id 2 (A.length + 1) = _; simp)) .nil⟩, LeO.ob (zLB_append (zQ _) rfl) (by simp [qc, evsP, I]), trivial⟩, ⟨by simp; omega, by simp; omega, ?_, by rw [htk, List.all_append, a4]; simp [hm]⟩, by simp; omega⟩
        rw [← a3, hd, linesF, if_neg hne']; simp
      · (refine exeC_ok (f := 60) ?_; simp only [B0, B1, B2, Lm0, Lm1, Lm2, Lm3, Lm4, Lm5, Lm6, Lm7, Lm8, Lm9, Lm10, Lm11, Lm12, Lm13, Lm14, Lm15, Lm16, Lm17, Lm18, Lm19, Lm20, Lm21, Lm22, Lm23, Lm24, Lm25, Lm26, Lm27, Lm28, Lm29, Nat.reduceLT, Nat.reduceEqDiff, ↓reduceIte, reduceCtorEq, Nat.reduceAdd, ge_iff_le, gt_iff_lt, forall_const, Nat.reduceBEq, Nat.reduceBNe, Nat.reduceMul, Nat.reduceLeDiff, Nat.reduceSub, Int.reduceToNat, td_3, td_4, td_9, td_22, td_24, td_25, td_27, td_28, td_29, td_31, td_51, td_53, td_55, td_56, td_74, strsP, evsP, intsP, trsP, hw'])
        and_intros; all_goals (try (refine Side.mk ?_; first | first | omega | (intros; omega) | (simp; done) | (simp; omega) | (intro h; simp at h; omega) | (simp_all; done) | rfl | (and_intros <;> first | omega | (intros; omega) | (simp; done) | (simp; omega) | (intro h; simp at h; omega) | (simp_all; done) | rfl)))
        have hne' : es = [] := List.eq_nil_of_length_eq_zero (by omega)
        refine ⟨(k + 1, A), Conv.to [0, 1, 2] (nodupB_ok rfl) rfl (by repeat (first | exact trivial | refine ⟨.refl _, ?_⟩ | refine ⟨LeP.osl rfl, ?_⟩ | refine ⟨LeP.oslN rfl (by simp) (by omega), ?_⟩)) ⟨LeO.refl _, LeO.refl _, LeO.ob (zQ _) rfl, trivial⟩, ⟨by simp; omega, by simp; omega, ?_, by rw [htk, List.all_append, a4]; simp [hm]⟩, by simp; omega⟩
        rw [← a3, hd, linesF, if_pos hne']
  · have hk' : k = l.length := by omega
    subst hk'
    rw [List.drop_length] at a3
    rw [List.take_length] at a4
    simp only [linesF, List.append_nil] at a3
    have hN := c_names l (by omega) hsum hok
    (refine exeC_ok (f := 60) ?_; simp only [B0, B1, B2, Lm0, Lm1, Lm2, Lm3, Lm4, Lm5, Lm6, Lm7, Lm8, Lm9, Lm10, Lm11, Lm12, Lm13, Lm14, Lm15, Lm16, Lm17, Lm18, Lm19, Lm20, Lm21, Lm22, Lm23, Lm24, Lm25, Lm26, Lm27, Lm28, Lm29, Nat.reduceLT, Nat.reduceEqDiff, ↓reduceIte, reduceCtorEq, Nat.reduceAdd, ge_iff_le, gt_iff_lt, forall_const, Nat.reduceBEq, Nat.reduceBNe, Nat.reduceMul, Nat.reduceLeDiff, Nat.reduceSub, Int.reduceToNat, td_3, td_4, td_9, td_22, td_24, td_25, td_27, td_28, td_29, td_31, td_51, td_53, td_55, td_56, td_74, strsP, evsP, intsP, trsP, trsP])
    refine Run.callP rfl rfl (by kernel_rfl) (hN) rfl rfl rfl ?_
    (refine Run.on ?_; simp only [B0, B1, B2, Lm0, Lm1, Lm2, Lm3, Lm4, Lm5, Lm6, Lm7, Lm8, Lm9, Lm10, Lm11, Lm12, Lm13, Lm14, Lm15, Lm16, Lm17, Lm18, Lm19, Lm20, Lm21, Lm22, Lm23, Lm24, Lm25, Lm26, Lm27, Lm28, Lm29, Nat.reduceLT, Nat.reduceEqDiff, ↓reduceIte, reduceCtorEq, Nat.reduceAdd, ge_iff_le, gt_iff_lt, forall_const, Nat.reduceBEq, Nat.reduceBNe, Nat.reduceMul, Nat.reduceLeDiff, Nat.reduceSub, Int.reduceToNat, td_3, td_4, td_9, td_22, td_24, td_25, td_27, td_28, td_29, td_31, td_51, td_53, td_55, td_56, td_74, strsP, evsP, intsP, trsP])
    and_intros; all_goals (try (refine Side.mk ?_; first | first | omega | (intros; omega) | (simp; done) | (simp; omega) | (intro h; simp at h; omega) | (simp_all; done) | rfl | (and_intros <;> first | omega | (intros; omega) | (simp; done) | (simp; omega) | (intro h; simp at h; omega) | (simp_all; done) | rfl)))
    · intro hbig
      try simp only [decide_eq_true_eq, decide_eq_false_iff_not] at hbig
      (refine exeC_ok (f := 60) ?_; simp only [B0, B1, B2, Lm0, Lm1, Lm2, Lm3, Lm4, Lm5, Lm6, Lm7, Lm8, Lm9, Lm10, Lm11, Lm12, Lm13, Lm14, Lm15, Lm16, Lm17, Lm18, Lm19, Lm20, Lm21, Lm22, Lm23, Lm24, Lm25, Lm26, Lm27, Lm28, Lm29, Nat.reduceLT, Nat.reduceEqDiff, ↓reduceIte, reduceCtorEq, Nat.reduceAdd, ge_iff_le, gt_iff_lt, forall_const, Nat.reduceBEq, Nat.reduceBNe, Nat.reduceMul, Nat.reduceLeDiff, Nat.reduceSub, Int.reduceToNat, td_3, td_4, td_9, td_22, td_24, td_25, td_27, td_28, td_29, td_31, td_51, td_53, td_55, td_56, td_74, strsP, evsP, intsP, trsP])
      and_intros; all_goals (try (refine Side.mk ?_; first | first | omega | (intros; omega) | (simp; done) | (simp; omega) | (intro h; simp at h; omega) | (simp_all; done) | rfl | (and_intros <;> first | omega | (intros; omega) | (simp; done) | (simp; omega) | (intro h; simp at h; omega) | (simp_all; done) | rfl)))
      have hf : mergeF srt l = (⟨[], []⟩, 4) := by unfold mergeF; rw [if_pos a4, if_pos (by omega)]
      rw [hf]
      exact RetV.ct (i := 0) (u := 3) [] rfl rfl (by rw [td_27]; rfl) (by rw [td_27]; rfl) (by rw [td_27]; rfl) rfl rfl (LeP.tu (LeL.cons (LeP.ag (LeL.cons .nil (LeL.cons .nil .nil))) (LeL.cons (.refl _) .nil))) trivial
    · intro hbig
      try simp only [decide_eq_true_eq, decide_eq_false_iff_not] at hbig
      have hf : mergeF srt l = (⟨(allN [] l).1, mevs srt l⟩, 0) := by unfold mergeF; rw [if_pos a4, if_neg (by omega)]
      have hA : ∀ x, x ∈ A → OkL l x := by rw [a3]; exact linesF_ok l l 0 rfl
      have hAl : A.length ≤ l.length := by rw [a3]; exact linesF_len 0 l
      have hLv : Lively A.length A := lively_of (Nat.le_refl _) (by rw [List.take_length]; exact hA)
      obtain ⟨pm, pl⟩ := initA_perm A.length (A.length / 2) A (Nat.le_refl _)
      rw [List.take_of_length_le (by omega), List.take_length] at pm
      (refine exeC_ok (f := 60) ?_; simp only [B0, B1, B2, Lm0, Lm1, Lm2, Lm3, Lm4, Lm5, Lm6, Lm7, Lm8, Lm9, Lm10, Lm11, Lm12, Lm13, Lm14, Lm15, Lm16, Lm17, Lm18, Lm19, Lm20, Lm21, Lm22, Lm23, Lm24, Lm25, Lm26, Lm27, Lm28, Lm29, Nat.reduceLT, Nat.reduceEqDiff, ↓reduceIte, reduceCtorEq, Nat.reduceAdd, ge_iff_le, gt_iff_lt, forall_const, Nat.reduceBEq, Nat.reduceBNe, Nat.reduceMul, Nat.reduceLeDiff, Nat.reduceSub, Int.reduceToNat, td_3, td_4, td_9, td_22, td_24, td_25, td_27, td_28, td_29, td_31, td_51, td_53, td_55, td_56, td_74, strsP, evsP, intsP, trsP])
      and_intros; all_goals (try (refine Side.mk ?_; first | first | omega | (intros; omega) | (simp; done) | (simp; omega) | (intro h; simp at h; omega) | (simp_all; done) | rfl | (and_intros <;> first | omega | (intros; omega) | (simp; done) | (simp; omega) | (intro h; simp at h; omega) | (simp_all; done) | rfl)))
      refine Run.callS (f := 19) (ps := [.ifc 51 (.ad 1 0)]) false [1, 2] rfl (by kernel_rfl) (by kernel_rfl) rfl rfl (fun h => by first | (cases h; done) | exact ⟨rfl, rfl⟩) (c_init A.length A rfl (by omega) hLv) (by first | rfl | (simp only [B0, B1, B2, Lm0, Lm1, Lm2, Lm3, Lm4, Lm5, Lm6, Lm7, Lm8, Lm9, Lm10, Lm11, Lm12, Lm13, Lm14, Lm15, Lm16, Lm17, Lm18, Lm19, Lm20, Lm21, Lm22, Lm23, Lm24, Lm25, Lm26, Lm27, Lm28, Lm29, Nat.reduceLT, Nat.reduceEqDiff, ↓reduceIte, reduceCtorEq, Nat.reduceAdd, ge_iff_le, gt_iff_lt, forall_const, Nat.reduceBEq, Nat.reduceBNe, Nat.reduceMul, Nat.reduceLeDiff, Nat.reduceSub, Int.reduceToNat, BO, tQ, nQ, vQt, frz_oob, HQ, QP]; done) | (simp only [B0, B1, B2, Lm0, Lm1, Lm2, Lm3, Lm4, Lm5, Lm6, Lm7, Lm8, Lm9, Lm10, Lm11, Lm12, Lm13, Lm14, Lm15, Lm16, Lm17, Lm18, Lm19, Lm20, Lm21, Lm22, Lm23, Lm24, Lm25, Lm26, Lm27, Lm28, Lm29, Nat.reduceLT, Nat.reduceEqDiff, ↓reduceIte, reduceCtorEq, Nat.reduceAdd, ge_iff_le, gt_iff_lt, forall_const, Nat.reduceBEq, Nat.reduceBNe, Nat.reduceMul, Nat.reduceLeDiff, Nat.reduceSub, Int.reduceToNat, BO, tQ, nQ, vQt, frz_oob, HQ, QP]; rfl)) (by first | rfl | (simp only [B0, B1, B2, Lm0, Lm1, Lm2, Lm3, Lm4, Lm5, Lm6, Lm7, Lm8, Lm9, Lm10, Lm11, Lm12, Lm13, Lm14, Lm15, Lm16, Lm17, Lm18, Lm19, Lm20, Lm21, Lm22, Lm23, Lm24, Lm25, Lm26, Lm27, Lm28, Lm29, Nat.reduceLT, Nat.reduceEqDiff, ↓reduceIte, reduceCtorEq, Nat.reduceAdd, ge_iff_le, gt_iff_lt, forall_const, Nat.reduceBEq, Nat.reduceBNe, Nat.reduceMul, Nat.reduceLeDiff, Nat.reduceSub, Int.reduceToNat, BO, tQ, nQ, vQt, frz_oob, HQ, QP]; done) | (simp only [B0, B1, B2, Lm0, Lm1, Lm2, Lm3, Lm4, Lm5, Lm6, Lm7, Lm8, Lm9, Lm10, Lm11, Lm12, Lm13, Lm14, Lm15, Lm16, Lm17, Lm18, Lm19, Lm20, Lm21, Lm22, Lm23, Lm24, Lm25, Lm26, Lm27, Lm28, Lm29, Nat.reduceLT, Nat.reduceEqDiff, ↓reduceIte, reduceCtorEq, Nat.reduceAdd, ge_iff_le, gt_iff_lt, forall_const, Nat.reduceBEq, Nat.reduceBNe, Nat.reduceMul, Nat.reduceLeDiff, Nat.reduceSub, Int.reduceToNat, BO, tQ, nQ, vQt, frz_oob, HQ, QP]; rfl)) (fun h => by cases h) ?_
      (refine Run.on ?_; simp only [B0, B1, B2, Lm0, Lm1, Lm2, Lm3, Lm4, Lm5, Lm6, Lm7, Lm8, Lm9, Lm10, Lm11, Lm12, Lm13, Lm14, Lm15, Lm16, Lm17, Lm18, Lm19, Lm20, Lm21, Lm22, Lm23, Lm24, Lm25, Lm26, Lm27, Lm28, Lm29, Nat.reduceLT, Nat.reduceEqDiff, ↓reduceIte, reduceCtorEq, Nat.reduceAdd, ge_iff_le, gt_iff_lt, forall_const, Nat.reduceBEq, Nat.reduceBNe, Nat.reduceMul, Nat.reduceLeDiff, Nat.reduceSub, Int.reduceToNat, td_3, td_4, td_9, td_22, td_24, td_25, td_27, td_28, td_29, td_31, td_51, td_53, td_55, td_56, td_74, strsP, evsP, intsP, trsP, BO, tQ, nQ, HQ])
      refine WC_loop (fun s : Nat × List Ln × Nat × List Ev => [(0, trsP l), (2, .ad 0 0), (4, .ad 1 0), (8, .im false l.length ((allN [] l).2.map intsP)), (9, .ad 3 0)])
        (fun s => [some ⟨27, false, 1, [.sc (.slice none 0 0), .sc (.slice none 0 0)]⟩, some ⟨53, false, 1, [.id 2 s.2.2.1]⟩, some ⟨55, true, 2, s.2.1.flatMap qc⟩, some ⟨27, false, 1, [strsP (allN [] l).1, osl 4 s.2.2.2.length]⟩, oob 31 2 (s.2.2.2.flatMap evC)])
        (fun s => s.2.2.1 ≤ s.2.1.length ∧ s.2.1.length ≤ 100000 ∧ (∀ x, x ∈ s.2.1.take s.2.2.1 → OkL l x) ∧ sumE (s.2.1.take s.2.2.1) = s.1 ∧ s.2.2.2.length + s.1 ≤ 1000000 ∧ mloopF srt (allN [] l).2 s.1 s.2.1 s.2.2.1 s.2.2.2 = mevs srt l) (fun s => s.1)
        (sumE A, initA A.length (A.length / 2) A, A.length, []) ?_ ⟨by simp [pl], by simp [pl]; omega, ?_, ?_, ?_, ?_⟩ ?_
      · exact Conv.to [0, 1, 2, 3, 4] (nodupB_ok rfl) rfl (by repeat (first | exact trivial | refine ⟨.refl _, ?_⟩ | refine ⟨LeP.osl rfl, ?_⟩ | refine ⟨LeP.oslN rfl (by simp) (by omega), ?_⟩)) ⟨LeO.refl _, LeO.refl _, LeO.ob (zQ _) rfl, LeO.refl _, trivial, trivial⟩
      · intro x hx
        exact hA x (pm.subset (List.mem_of_mem_take hx))
      · show sumE ((initA A.length (A.length / 2) A).take A.length) = sumE A
        rw [List.take_of_length_le (by omega)]
        exact sumE_perm pm
      · rw [a3]; simpa using hev
      · show mloopF srt _ (sumE A) _ _ _ = _
        unfold mevs
        rw [← a3]
      rintro ⟨f, B, m, out⟩ ⟨b1, b2, b3, b4, b5, b6⟩
      simp only at b1 b2 b3 b4 b5 b6
      have hLv := lively_of b1 b3
      (refine exeC_ok (f := 60) ?_; simp only [B0, B1, B2, Lm0, Lm1, Lm2, Lm3, Lm4, Lm5, Lm6, Lm7, Lm8, Lm9, Lm10, Lm11, Lm12, Lm13, Lm14, Lm15, Lm16, Lm17, Lm18, Lm19, Lm20, Lm21, Lm22, Lm23, Lm24, Lm25, Lm26, Lm27, Lm28, Lm29, Nat.reduceLT, Nat.reduceEqDiff, ↓reduceIte, reduceCtorEq, Nat.reduceAdd, ge_iff_le, gt_iff_lt, forall_const, Nat.reduceBEq, Nat.reduceBNe, Nat.reduceMul, Nat.reduceLeDiff, Nat.reduceSub, Int.reduceToNat, td_3, td_4, td_9, td_22, td_24, td_25, td_27, td_28, td_29, td_31, td_51, td_53, td_55, td_56, td_74, strsP, evsP, intsP, trsP, HQ])
      refine Run.callL rfl rfl (by kernel_rfl) (c_qLen true m ((B.flatMap qc).take (m * 2))) (by first | rfl | (simp only [B0, B1, B2, Lm0, Lm1, Lm2, Lm3, Lm4, Lm5, Lm6, Lm7, Lm8, Lm9, Lm10, Lm11, Lm12, Lm13, Lm14, Lm15, Lm16, Lm17, Lm18, Lm19, Lm20, Lm21, Lm22, Lm23, Lm24, Lm25, Lm26, Lm27, Lm28, Lm29, Nat.reduceLT, Nat.reduceEqDiff, ↓reduceIte, reduceCtorEq, Nat.reduceAdd, ge_iff_le, gt_iff_lt, forall_const, Nat.reduceBEq, Nat.reduceBNe, Nat.reduceMul, Nat.reduceLeDiff, Nat.reduceSub, Int.reduceToNat, BO, tQ, nQ, vQt, frz_oob, HQ, QP]; done) | (simp only [B0, B1, B2, Lm0, Lm1, Lm2, Lm3, Lm4, Lm5, Lm6, Lm7, Lm8, Lm9, Lm10, Lm11, Lm12, Lm13, Lm14, Lm15, Lm16, Lm17, Lm18, Lm19, Lm20, Lm21, Lm22, Lm23, Lm24, Lm25, Lm26, Lm27, Lm28, Lm29, Nat.reduceLT, Nat.reduceEqDiff, ↓reduceIte, reduceCtorEq, Nat.reduceAdd, ge_iff_le, gt_iff_lt, forall_const, Nat.reduceBEq, Nat.reduceBNe, Nat.reduceMul, Nat.reduceLeDiff, Nat.reduceSub, Int.reduceToNat, BO, tQ, nQ, vQt, frz_oob, HQ, QP]; rfl)) rfl rfl ?_
      (refine Run.on ?_; simp only [B0, B1, B2, Lm0, Lm1, Lm2, Lm3, Lm4, Lm5, Lm6, Lm7, Lm8, Lm9, Lm10, Lm11, Lm12, Lm13, Lm14, Lm15, Lm16, Lm17, Lm18, Lm19, Lm20, Lm21, Lm22, Lm23, Lm24, Lm25, Lm26, Lm27, Lm28, Lm29, Nat.reduceLT, Nat.reduceEqDiff, ↓reduceIte, reduceCtorEq, Nat.reduceAdd, ge_iff_le, gt_iff_lt, forall_const, Nat.reduceBEq, Nat.reduceBNe, Nat.reduceMul, Nat.reduceLeDiff, Nat.reduceSub, Int.reduceToNat, td_3, td_4, td_9, td_22, td_24, td_25, td_27, td_28, td_29, td_31, td_51, td_53, td_55, td_56, td_74, strsP, evsP, intsP, trsP, HQ])
      refine ⟨fun h2 => ?_, fun h2 => ?_⟩
      · have hm : 0 < m := by omega
        have hx0 : B.getD 0 default ∈ B.take m := by rw [getD_get (by omega : 0 < B.length)]; exact List.mem_take_iff_getElem.2 ⟨0, by omega, rfl⟩
        obtain ⟨k1, k2, k3, k4⟩ := b3 _ hx0
        obtain ⟨⟨xe, xn⟩, hB0⟩ : ∃ x, B.getD 0 default = x := ⟨_, rfl⟩
        rw [hB0] at k1 k2 k3 k4
        simp only at k1 k2 k3 k4
        have htk : B.take m = ⟨xe, xn⟩ :: (B.take m).drop 1 := by
          rw [← hB0]
          cases B with
          | nil => simp at b1; omega
          | cons y B => obtain ⟨q, rfl⟩ : ∃ q, m = q + 1 := ⟨m - 1, by omega⟩; rfl
        obtain ⟨f, rfl⟩ : ∃ g, f = g + 1 := by
          refine ⟨f - 1, ?_⟩
          have : 0 < sumE (B.take m) := by
            rw [htk]
            simp only [sumE, List.map_cons, List.sum_cons]; omega
          omega
        obtain ⟨e0, he0⟩ : ∃ e, xe.getD 0 default = e := ⟨_, rfl⟩
        obtain ⟨row, hrow⟩ : ∃ r, (allN [] l).2.getD xn.toNat default = r := ⟨_, rfl⟩
        have hin : e0 ∈ (l.getD xn.toNat default).evs := k4 _ (by rw [← he0]; exact getD_mem k1)
        have hno : xn.toNat < l.length := by omega
        have hmay : mayB (l.getD xn.toNat default) = true := List.all_eq_true.1 a4 _ (getD_mem hno)
        have hmv := c_moved hs e0 row (hids _ (getD_mem hno) hmay _ hin) (fun i hi => by rw [← hrow, allN_row [] l _ hno]; exact mayB_ids hmay hin i hi)
        have hrw := drop_rows (allN [] l).2 xn.toNat (by rw [allN_len]; exact hno)
        rw [hrow] at hrw
        have ht2 : List.take 2 (B.flatMap qc) = [evsP xe, I xn] := by
          have := drop_q B 0 (by omega)
          rw [Nat.zero_mul, List.drop_zero, hB0] at this
          rw [this]; rfl
        have ht3 : List.take 2 (xe.flatMap evC) = evC e0 := by
          have := drop_ev xe 0 k1
          rw [Nat.zero_mul, List.drop_zero, he0] at this
          rw [this]; rfl
        have hsl := take_evs xe
        have hto : List.take (out.length * 2) (out.flatMap evC) = out.flatMap evC := List.take_of_length_le (by rw [lE]; omega)
        have o1 := over_flat2 qc (fun _ => rfl) B 0 ⟨xe.drop 1, xn⟩ (by omega)
        simp only [qc, evsP, I, Nat.zero_mul, List.length_drop] at o1
        have h0m : (0 : Int) < m := by omega
        have hn1 : allN [] l = allN [] l := rfl
        have pp := popA_perm m B hm b1
        have pq := popA_length m B hm b1
        have hset : (B.set 0 ⟨xe.drop 1, xn⟩).take m = ⟨xe.drop 1, xn⟩ :: (B.take m).drop 1 := by
          cases B with
          | nil => simp at b1; omega
          | cons y B => obtain ⟨q, rfl⟩ : ∃ q, m = q + 1 := ⟨m - 1, by omega⟩; rfl
        have d1 := downF_perm m m m (B.set 0 ⟨xe.drop 1, xn⟩) 0 (Nat.le_refl _) (by simp; omega)
        have hok2 : xe.length ≠ 1 → ∀ x, x ∈ (B.set 0 ⟨xe.drop 1, xn⟩).take m → OkL l x := fun hx1 x hx => by
          rw [hset] at hx
          rcases List.mem_cons.1 hx with rfl | hx
          · exact ⟨by simp; omega, k2, k3, fun e he => k4 e (List.mem_of_mem_drop he)⟩
          · exact b3 x (List.mem_of_mem_drop hx)
        have d2 : (downF m m (B.set 0 ⟨xe.drop 1, xn⟩) 0).1.length = B.length := by
          have h1 := d1.length_eq
          have h2 := congrArg List.length (downF_drop m m m (B.set 0 ⟨xe.drop 1, xn⟩) 0 (Nat.le_refl _) (by simp; omega))
          have h3 := len_td (downF m m (B.set 0 ⟨xe.drop 1, xn⟩) 0).1 m
          have h4 := len_td (B.set 0 ⟨xe.drop 1, xn⟩) m
          simp only [List.length_set] at h4
          omega
        rcases osl_cases 4 out.length 31 2 (out.flatMap evC) (lE _) (by omega) with ⟨ho, hoo, ho0, hon⟩ | ⟨ho, hoo, ho0⟩
        · have hout : out = [] := List.eq_nil_of_length_eq_zero ho0
          (refine exeC_ok (f := 60) ?_; simp only [B0, B1, B2, Lm0, Lm1, Lm2, Lm3, Lm4, Lm5, Lm6, Lm7, Lm8, Lm9, Lm10, Lm11, Lm12, Lm13, Lm14, Lm15, Lm16, Lm17, Lm18, Lm19, Lm20, Lm21, Lm22, Lm23, Lm24, Lm25, Lm26, Lm27, Lm28, Lm29, Nat.reduceLT, Nat.reduceEqDiff, ↓reduceIte, reduceCtorEq, Nat.reduceAdd, ge_iff_le, gt_iff_lt, forall_const, Nat.reduceBEq, Nat.reduceBNe, Nat.reduceMul, Nat.reduceLeDiff, Nat.reduceSub, Int.reduceToNat, td_3, td_4, td_9, td_22, td_24, td_25, td_27, td_28, td_29, td_31, td_51, td_53, td_55, td_56, td_74, strsP, evsP, intsP, trsP, evC, ht2, ht3, hrw, lQ, lE, h0m, hn1, List.length_map, ho, hoo])
          and_intros; all_goals (try (refine Side.mk ?_; first | first | omega | (intros; omega) | (simp; done) | (simp; omega) | (intro h; simp at h; omega) | (simp_all; done) | rfl | (and_intros <;> first | omega | (intros; omega) | (simp; done) | (simp; omega) | (intro h; simp at h; omega) | (simp_all; done) | rfl)))
          refine Run.callP rfl rfl (by kernel_rfl) (hmv) rfl rfl rfl ?_
          (refine Run.on ?_; simp only [B0, B1, B2, Lm0, Lm1, Lm2, Lm3, Lm4, Lm5, Lm6, Lm7, Lm8, Lm9, Lm10, Lm11, Lm12, Lm13, Lm14, Lm15, Lm16, Lm17, Lm18, Lm19, Lm20, Lm21, Lm22, Lm23, Lm24, Lm25, Lm26, Lm27, Lm28, Lm29, Nat.reduceLT, Nat.reduceEqDiff, ↓reduceIte, reduceCtorEq, Nat.reduceAdd, ge_iff_le, gt_iff_lt, forall_const, Nat.reduceBEq, Nat.reduceBNe, Nat.reduceMul, Nat.reduceLeDiff, Nat.reduceSub, Int.reduceToNat, td_3, td_4, td_9, td_22, td_24, td_25, td_27, td_28, td_29, td_31, td_51, td_53, td_55, td_56, td_74, strsP, evsP, intsP, trsP, evC, hsl, hto, lE, ho, hoo])
          and_intros; all_goals (try (refine Side.mk ?_; first | first | omega | (intros; omega) | (simp; done) | (simp; omega) | (intro h; simp at h; omega) | (simp_all; done) | rfl | (and_intros <;> first | omega | (intros; omega) | (simp; done) | (simp; omega) | (intro h; simp at h; omega) | (simp_all; done) | rfl)))
          · intro h3
            have hx1 : xe.length = 1 := by omega
            (refine exeC_ok (f := 60) ?_; simp only [B0, B1, B2, Lm0, Lm1, Lm2, Lm3, Lm4, Lm5, Lm6, Lm7, Lm8, Lm9, Lm10, Lm11, Lm12, Lm13, Lm14, Lm15, Lm16, Lm17, Lm18, Lm19, Lm20, Lm21, Lm22, Lm23, Lm24, Lm25, Lm26, Lm27, Lm28, Lm29, Nat.reduceLT, Nat.reduceEqDiff, ↓reduceIte, reduceCtorEq, Nat.reduceAdd, ge_iff_le, gt_iff_lt, forall_const, Nat.reduceBEq, Nat.reduceBNe, Nat.reduceMul, Nat.reduceLeDiff, Nat.reduceSub, Int.reduceToNat, td_3, td_4, td_9, td_22, td_24, td_25, td_27, td_28, td_29, td_31, td_51, td_53, td_55, td_56, td_74, strsP, evsP, intsP, trsP, evC, HQ])
            and_intros; all_goals (try (refine Side.mk ?_; first | first | omega | (intros; omega) | (simp; done) | (simp; omega) | (intro h; simp at h; omega) | (simp_all; done) | rfl | (and_intros <;> first | omega | (intros; omega) | (simp; done) | (simp; omega) | (intro h; simp at h; omega) | (simp_all; done) | rfl)))
            refine Run.callS (f := 22) (ps := [.ifc 51 (.ad 1 0)]) false [1, 2] rfl (by kernel_rfl) (by kernel_rfl) rfl rfl (fun h => by first | (cases h; done) | exact ⟨rfl, rfl⟩) (c_hPop m B hm b1 (by omega) hLv) (by first | rfl | (simp only [B0, B1, B2, Lm0, Lm1, Lm2, Lm3, Lm4, Lm5, Lm6, Lm7, Lm8, Lm9, Lm10, Lm11, Lm12, Lm13, Lm14, Lm15, Lm16, Lm17, Lm18, Lm19, Lm20, Lm21, Lm22, Lm23, Lm24, Lm25, Lm26, Lm27, Lm28, Lm29, Nat.reduceLT, Nat.reduceEqDiff, ↓reduceIte, reduceCtorEq, Nat.reduceAdd, ge_iff_le, gt_iff_lt, forall_const, Nat.reduceBEq, Nat.reduceBNe, Nat.reduceMul, Nat.reduceLeDiff, Nat.reduceSub, Int.reduceToNat, BO, tQ, nQ, vQt, frz_oob, HQ, QP]; done) | (simp only [B0, B1, B2, Lm0, Lm1, Lm2, Lm3, Lm4, Lm5, Lm6, Lm7, Lm8, Lm9, Lm10, Lm11, Lm12, Lm13, Lm14, Lm15, Lm16, Lm17, Lm18, Lm19, Lm20, Lm21, Lm22, Lm23, Lm24, Lm25, Lm26, Lm27, Lm28, Lm29, Nat.reduceLT, Nat.reduceEqDiff, ↓reduceIte, reduceCtorEq, Nat.reduceAdd, ge_iff_le, gt_iff_lt, forall_const, Nat.reduceBEq, Nat.reduceBNe, Nat.reduceMul, Nat.reduceLeDiff, Nat.reduceSub, Int.reduceToNat, BO, tQ, nQ, vQt, frz_oob, HQ, QP]; rfl)) (by first | rfl | (simp only [B0, B1, B2, Lm0, Lm1, Lm2, Lm3, Lm4, Lm5, Lm6, Lm7, Lm8, Lm9, Lm10, Lm11, Lm12, Lm13, Lm14, Lm15, Lm16, Lm17, Lm18, Lm19, Lm20, Lm21, Lm22, Lm23, Lm24, Lm25, Lm26, Lm27, Lm28, Lm29, Nat.reduceLT, Nat.reduceEqDiff, ↓reduceIte, reduceCtorEq, Nat.reduceAdd, ge_iff_le, gt_iff_lt, forall_const, Nat.reduceBEq, Nat.reduceBNe, Nat.reduceMul, Nat.reduceLeDiff, Nat.reduceSub, Int.reduceToNat, BO, tQ, nQ, vQt, frz_oob, HQ, QP]; done) | (simp only [B0, B1, B2, Lm0, Lm1, Lm2, Lm3, Lm4, Lm5, Lm6, Lm7, Lm8, Lm9, Lm10, Lm11, Lm12, Lm13, Lm14, Lm15, Lm16, Lm17, Lm18, Lm19, Lm20, Lm21, Lm22, Lm23, Lm24, Lm25, Lm26, Lm27, Lm28, Lm29, Nat.reduceLT, Nat.reduceEqDiff, ↓reduceIte, reduceCtorEq, Nat.reduceAdd, ge_iff_le, gt_iff_lt, forall_const, Nat.reduceBEq, Nat.reduceBNe, Nat.reduceMul, Nat.reduceLeDiff, Nat.reduceSub, Int.reduceToNat, BO, tQ, nQ, vQt, frz_oob, HQ, QP]; rfl)) (fun h => by cases h) ?_
            (refine Run.on ?_; simp only [B0, B1, B2, Lm0, Lm1, Lm2, Lm3, Lm4, Lm5, Lm6, Lm7, Lm8, Lm9, Lm10, Lm11, Lm12, Lm13, Lm14, Lm15, Lm16, Lm17, Lm18, Lm19, Lm20, Lm21, Lm22, Lm23, Lm24, Lm25, Lm26, Lm27, Lm28, Lm29, Nat.reduceLT, Nat.reduceEqDiff, ↓reduceIte, reduceCtorEq, Nat.reduceAdd, ge_iff_le, gt_iff_lt, forall_const, Nat.reduceBEq, Nat.reduceBNe, Nat.reduceMul, Nat.reduceLeDiff, Nat.reduceSub, Int.reduceToNat, td_3, td_4, td_9, td_22, td_24, td_25, td_27, td_28, td_29, td_31, td_51, td_53, td_55, td_56, td_74, strsP, evsP, intsP, trsP, evC, BO, tQ, nQ, HQ])
            and_intros; all_goals (try (refine Side.mk ?_; first | first | omega | (intros; omega) | (simp; done) | (simp; omega) | (intro h; simp at h; omega) | (simp_all; done) | rfl | (and_intros <;> first | omega | (intros; omega) | (simp; done) | (simp; omega) | (intro h; simp at h; omega) | (simp_all; done) | rfl)))
            refine ⟨(f, popA m B, m - 1, out ++ [movedE srt e0 row]), Conv.to [0, 1, 2, 3, 7] (nodupB_ok rfl) rfl (by repeat (first | exact trivial | refine ⟨.refl _, ?_⟩ | refine ⟨LeP.osl rfl, ?_⟩ | refine ⟨LeP.oslN rfl (by simp) (by omega), ?_⟩)) ⟨LeO.refl _, LeO.refl _, LeO.ob (zQ _) rfl, ⟨rfl, rfl, rfl, LeL.cons (.refl _) (LeL.cons (LeP.oslM rfl (by simp [ho0]) (by simp)) .nil)⟩, LeO.app rfl (by rw [hout]; simp [evC, intsP, U]) (by simp [evC]), trivial⟩, ⟨by simp [pq]; omega, by simp [pq]; omega, ?_, ?_, ?_, ?_⟩, by simp⟩
            · intro x hx
              exact b3 x (pp.subset (List.mem_cons_of_mem _ hx))
            · have := sumE_perm pp
              rw [hB0] at this
              simp only [sumE, List.map_cons, List.sum_cons, hx1] at this b4 ⊢
              omega
            · simp; omega
            · rw [← b6, mloopF, if_neg (by omega), if_pos (by rw [hB0]; exact hx1), hB0]
              simp only [he0, hrow]
          · intro h3
            have hx1 : xe.length ≠ 1 := by omega
            have hLv2 := lively_of (by simp; omega) (hok2 hx1)
            (refine exeC_ok (f := 60) ?_; simp only [B0, B1, B2, Lm0, Lm1, Lm2, Lm3, Lm4, Lm5, Lm6, Lm7, Lm8, Lm9, Lm10, Lm11, Lm12, Lm13, Lm14, Lm15, Lm16, Lm17, Lm18, Lm19, Lm20, Lm21, Lm22, Lm23, Lm24, Lm25, Lm26, Lm27, Lm28, Lm29, Nat.reduceLT, Nat.reduceEqDiff, ↓reduceIte, reduceCtorEq, Nat.reduceAdd, ge_iff_le, gt_iff_lt, forall_const, Nat.reduceBEq, Nat.reduceBNe, Nat.reduceMul, Nat.reduceLeDiff, Nat.reduceSub, Int.reduceToNat, td_3, td_4, td_9, td_22, td_24, td_25, td_27, td_28, td_29, td_31, td_51, td_53, td_55, td_56, td_74, strsP, evsP, intsP, trsP, evC, o1, lQ, HQ])
            and_intros; all_goals (try (refine Side.mk ?_; first | first | omega | (intros; omega) | (simp; done) | (simp; omega) | (intro h; simp at h; omega) | (simp_all; done) | rfl | (and_intros <;> first | omega | (intros; omega) | (simp; done) | (simp; omega) | (intro h; simp at h; omega) | (simp_all; done) | rfl)))
            refine Run.callS (f := 23) (ps := [.ifc 51 (.ad 1 0), I 0]) false [1, 2] rfl (by kernel_rfl) (by kernel_rfl) rfl rfl (fun h => by first | (cases h; done) | exact ⟨rfl, rfl⟩) (c_fix m (B.set 0 ⟨xe.drop 1, xn⟩) (by simp; omega) (by simp; omega) hLv2) (by first | rfl | (simp only [B0, B1, B2, Lm0, Lm1, Lm2, Lm3, Lm4, Lm5, Lm6, Lm7, Lm8, Lm9, Lm10, Lm11, Lm12, Lm13, Lm14, Lm15, Lm16, Lm17, Lm18, Lm19, Lm20, Lm21, Lm22, Lm23, Lm24, Lm25, Lm26, Lm27, Lm28, Lm29, Nat.reduceLT, Nat.reduceEqDiff, ↓reduceIte, reduceCtorEq, Nat.reduceAdd, ge_iff_le, gt_iff_lt, forall_const, Nat.reduceBEq, Nat.reduceBNe, Nat.reduceMul, Nat.reduceLeDiff, Nat.reduceSub, Int.reduceToNat, BO, tQ, nQ, vQt, frz_oob, HQ, QP]; done) | (simp only [B0, B1, B2, Lm0, Lm1, Lm2, Lm3, Lm4, Lm5, Lm6, Lm7, Lm8, Lm9, Lm10, Lm11, Lm12, Lm13, Lm14, Lm15, Lm16, Lm17, Lm18, Lm19, Lm20, Lm21, Lm22, Lm23, Lm24, Lm25, Lm26, Lm27, Lm28, Lm29, Nat.reduceLT, Nat.reduceEqDiff, ↓reduceIte, reduceCtorEq, Nat.reduceAdd, ge_iff_le, gt_iff_lt, forall_const, Nat.reduceBEq, Nat.reduceBNe, Nat.reduceMul, Nat.reduceLeDiff, Nat.reduceSub, Int.reduceToNat, BO, tQ, nQ, vQt, frz_oob, HQ, QP]; rfl)) (by first | rfl | (simp only [B0, B1, B2, Lm0, Lm1, Lm2, Lm3, Lm4, Lm5, Lm6, Lm7, Lm8, Lm9, Lm10, Lm11, Lm12, Lm13, Lm14, Lm15, Lm16, Lm17, Lm18, Lm19, Lm20, Lm21, Lm22, Lm23, Lm24, Lm25, Lm26, Lm27, Lm28, Lm29, Nat.reduceLT, Nat.reduceEqDiff, ↓reduceIte, reduceCtorEq, Nat.reduceAdd, ge_iff_le, gt_iff_lt, forall_const, Nat.reduceBEq, Nat.reduceBNe, Nat.reduceMul, Nat.reduceLeDiff, Nat.reduceSub, Int.reduceToNat, BO, tQ, nQ, vQt, frz_oob, HQ, QP]; done) | (simp only [B0, B1, B2, Lm0, Lm1, Lm2, Lm3, Lm4, Lm5, Lm6, Lm7, Lm8, Lm9, Lm10, Lm11, Lm12, Lm13, Lm14, Lm15, Lm16, Lm17, Lm18, Lm19, Lm20, Lm21, Lm22, Lm23, Lm24, Lm25, Lm26, Lm27, Lm28, Lm29, Nat.reduceLT, Nat.reduceEqDiff, ↓reduceIte, reduceCtorEq, Nat.reduceAdd, ge_iff_le, gt_iff_lt, forall_const, Nat.reduceBEq, Nat.reduceBNe, Nat.reduceMul, Nat.reduceLeDiff, Nat.reduceSub, Int.reduceToNat, BO, tQ, nQ, vQt, frz_oob, HQ, QP]; rfl)) (fun h => by cases h) ?_
            (refine Run.on ?_; simp only [B0, B1, B2, Lm0, Lm1, Lm2, Lm3, Lm4, Lm5, Lm6, Lm7, Lm8, Lm9, Lm10, Lm11, Lm12, Lm13, Lm14, Lm15, Lm16, Lm17, Lm18, Lm19, Lm20, Lm21, Lm22, Lm23, Lm24, Lm25, Lm26, Lm27, Lm28, Lm29, Nat.reduceLT, Nat.reduceEqDiff, ↓reduceIte, reduceCtorEq, Nat.reduceAdd, ge_iff_le, gt_iff_lt, forall_const, Nat.reduceBEq, Nat.reduceBNe, Nat.reduceMul, Nat.reduceLeDiff, Nat.reduceSub, Int.reduceToNat, td_3, td_4, td_9, td_22, td_24, td_25, td_27, td_28, td_29, td_31, td_51, td_53, td_55, td_56, td_74, strsP, evsP, intsP, trsP, evC, BO, tQ, nQ, HQ])
            and_intros; all_goals (try (refine Side.mk ?_; first | first | omega | (intros; omega) | (simp; done) | (simp; omega) | (intro h; simp at h; omega) | (simp_all; done) | rfl | (and_intros <;> first | omega | (intros; omega) | (simp; done) | (simp; omega) | (intro h; simp at h; omega) | (simp_all; done) | rfl)))
            refine ⟨(f, (downF m m (B.set 0 ⟨xe.drop 1, xn⟩) 0).1, m, out ++ [movedE srt e0 row]), Conv.to [0, 1, 2, 3, 7] (nodupB_ok rfl) rfl (by repeat (first | exact trivial | refine ⟨.refl _, ?_⟩ | refine ⟨LeP.osl rfl, ?_⟩ | refine ⟨LeP.oslN rfl (by simp) (by omega), ?_⟩)) ⟨LeO.refl _, LeO.refl _, LeO.ob (zQ _) rfl, ⟨rfl, rfl, rfl, LeL.cons (.refl _) (LeL.cons (LeP.oslM rfl (by simp [ho0]) (by simp)) .nil)⟩, LeO.app rfl (by rw [hout]; simp [evC, intsP, U]) (by simp [evC]), trivial⟩, ⟨by show m ≤ (downF _ _ _ _).1.length; rw [d2]; exact b1, by show (downF _ _ _ _).1.length ≤ 100000; rw [d2]; exact b2, ?_, ?_, ?_, ?_⟩, by simp⟩
            · intro x hx
              exact hok2 hx1 x (d1.subset hx)
            · show sumE ((downF m m _ 0).1.take m) = f
              rw [sumE_perm d1, hset]
              rw [htk] at b4
              simp only [sumE, List.map_cons, List.sum_cons, List.length_drop] at b4 ⊢
              omega
            · simp; omega
            · rw [← b6, mloopF, if_neg (by omega), if_neg (by rw [hB0]; exact hx1), hB0]
              simp only [he0, hrow]
        · skip
          (refine exeC_ok (f := 60) ?_; simp only [B0, B1, B2, Lm0, Lm1, Lm2, Lm3, Lm4, Lm5, Lm6, Lm7, Lm8, Lm9, Lm10, Lm11, Lm12, Lm13, Lm14, Lm15, Lm16, Lm17, Lm18, Lm19, Lm20, Lm21, Lm22, Lm23, Lm24, Lm25, Lm26, Lm27, Lm28, Lm29, Nat.reduceLT, Nat.reduceEqDiff, ↓reduceIte, reduceCtorEq, Nat.reduceAdd, ge_iff_le, gt_iff_lt, forall_const, Nat.reduceBEq, Nat.reduceBNe, Nat.reduceMul, Nat.reduceLeDiff, Nat.reduceSub, Int.reduceToNat, td_3, td_4, td_9, td_22, td_24, td_25, td_27, td_28, td_29, td_31, td_51, td_53, td_55, td_56, td_74, strsP, evsP, intsP, trsP, evC, ht2, ht3, hrw, lQ, lE, h0m, hn1, List.length_map, ho, hoo])
          and_intros; all_goals (try (refine Side.mk ?_; first | first | omega | (intros; omega) | (simp; done) | (simp; omega) | (intro h; simp at h; omega) | (simp_all; done) | rfl | (and_intros <;> first | omega | (intros; omega) | (simp; done) | (simp; omega) | (intro h; simp at h; omega) | (simp_all; done) | rfl)))
          refine Run.callP rfl rfl (by kernel_rfl) (hmv) rfl rfl rfl ?_
          (refine Run.on ?_; simp only [B0, B1, B2, Lm0, Lm1, Lm2, Lm3, Lm4, Lm5, Lm6, Lm7, Lm8, Lm9, Lm10, Lm11, Lm12, Lm13, Lm14, Lm15, Lm16, Lm17, Lm18, Lm19, Lm20, Lm21, Lm22, Lm23, Lm24, Lm25, Lm26, Lm27, Lm28, Lm29, Nat.reduceLT, Nat.reduceEqDiff, ↓reduceIte, reduceCtorEq, Nat.reduceAdd, ge_iff_le, gt_iff_lt, forall_const, Nat.reduceBEq, Nat.reduceBNe, Nat.reduceMul, Nat.reduceLeDiff, Nat.reduceSub, Int.reduceToNat, td_3, td_4, td_9, td_22, td_24, td_25, td_27, td_28, td_29, td_31, td_51, td_53, td_55, td_56, td_74, strsP, evsP, intsP, trsP, evC, hsl, hto, lE, ho, hoo])
          and_intros; all_goals (try (refine Side.mk ?_; first | first | omega | (intros; omega) | (simp; done) | (simp; omega) | (intro h; simp at h; omega) | (simp_all; done) | rfl | (and_intros <;> first | omega | (intros; omega) | (simp; done) | (simp; omega) | (intro h; simp at h; omega) | (simp_all; done) | rfl)))
          · intro h3
            have hx1 : xe.length = 1 := by omega
            (refine exeC_ok (f := 60) ?_; simp only [B0, B1, B2, Lm0, Lm1, Lm2, Lm3, Lm4, Lm5, Lm6, Lm7, Lm8, Lm9, Lm10, Lm11, Lm12, Lm13, Lm14, Lm15, Lm16, Lm17, Lm18, Lm19, Lm20, Lm21, Lm22, Lm23, Lm24, Lm25, Lm26, Lm27, Lm28, Lm29, Nat.reduceLT, Nat.reduceEqDiff, ↓reduceIte, reduceCtorEq, Nat.reduceAdd, ge_iff_le, gt_iff_lt, forall_const, Nat.reduceBEq, Nat.reduceBNe, Nat.reduceMul, Nat.reduceLeDiff, Nat.reduceSub, Int.reduceToNat, td_3, td_4, td_9, td_22, td_24, td_25, td_27, td_28, td_29, td_31, td_51, td_53, td_55, td_56, td_74, strsP, evsP, intsP, trsP, evC, HQ])
            and_intros; all_goals (try (refine Side.mk ?_; first | first | omega | (intros; omega) | (simp; done) | (simp; omega) | (intro h; simp at h; omega) | (simp_all; done) | rfl | (and_intros <;> first | omega | (intros; omega) | (simp; done) | (simp; omega) | (intro h; simp at h; omega) | (simp_all; done) | rfl)))
            refine Run.callS (f := 22) (ps := [.ifc 51 (.ad 1 0)]) false [1, 2] rfl (by kernel_rfl) (by kernel_rfl) rfl rfl (fun h => by first | (cases h; done) | exact ⟨rfl, rfl⟩) (c_hPop m B hm b1 (by omega) hLv) (by first | rfl | (simp only [B0, B1, B2, Lm0, Lm1, Lm2, Lm3, Lm4, Lm5, Lm6, Lm7, Lm8, Lm9, Lm10, Lm11, Lm12, Lm13, Lm14, Lm15, Lm16, Lm17, Lm18, Lm19, Lm20, Lm21, Lm22, Lm23, Lm24, Lm25, Lm26, Lm27, Lm28, Lm29, Nat.reduceLT, Nat.reduceEqDiff, ↓reduceIte, reduceCtorEq, Nat.reduceAdd, ge_iff_le, gt_iff_lt, forall_const, Nat.reduceBEq, Nat.reduceBNe, Nat.reduceMul, Nat.reduceLeDiff, Nat.reduceSub, Int.reduceToNat, BO, tQ, nQ, vQt, frz_oob, HQ, QP]; done) | (simp only [B0, B1, B2, Lm0, Lm1, Lm2, Lm3, Lm4, Lm5, Lm6, Lm7, Lm8, Lm9, Lm10, Lm11, Lm12, Lm13, Lm14, Lm15, Lm16, Lm17, Lm18, Lm19, Lm20, Lm21, Lm22, Lm23, Lm24, Lm25, Lm26, Lm27, Lm28, Lm29, Nat.reduceLT, Nat.reduceEqDiff, ↓reduceIte, reduceCtorEq, Nat.reduceAdd, ge_iff_le, gt_iff_lt, forall_const, Nat.reduceBEq, Nat.reduceBNe, Nat.reduceMul, Nat.reduceLeDiff, Nat.reduceSub, Int.reduceToNat, BO, tQ, nQ, vQt, frz_oob, HQ, QP]; rfl)) (by first | rfl | (simp only [B0, B1, B2, Lm0, Lm1, Lm2, Lm3, Lm4, Lm5, Lm6, Lm7, Lm8, Lm9, Lm10, Lm11, Lm12, Lm13, Lm14, Lm15, Lm16, Lm17, Lm18, Lm19, Lm20, Lm21, Lm22, Lm23, Lm24, Lm25, Lm26, Lm27, Lm28, Lm29, Nat.reduceLT, Nat.reduceEqDiff, ↓reduceIte, reduceCtorEq, Nat.reduceAdd, ge_iff_le, gt_iff_lt, forall_const, Nat.reduceBEq, Nat.reduceBNe, Nat.reduceMul, Nat.reduceLeDiff, Nat.reduceSub, Int.reduceToNat, BO, tQ, nQ, vQt, frz_oob, HQ, QP]; done) | (simp only [B0, B1, B2, Lm0, Lm1, Lm2, Lm3, Lm4, Lm5, Lm6, Lm7, Lm8, Lm9, Lm10, Lm11, Lm12, Lm13, Lm14, Lm15, Lm16, Lm17, Lm18, Lm19, Lm20, Lm21, Lm22, Lm23, Lm24, Lm25, Lm26, Lm27, Lm28, Lm29, Nat.reduceLT, Nat.reduceEqDiff, ↓reduceIte, reduceCtorEq, Nat.reduceAdd, ge_iff_le, gt_iff_lt, forall_const, Nat.reduceBEq, Nat.reduceBNe, Nat.reduceMul, Nat.reduceLeDiff, Nat.reduceSub, Int.reduceToNat, BO, tQ, nQ, vQt, frz_oob, HQ, QP]; rfl)) (fun h => by cases h) ?_
            (refine Run.on ?_; simp only [B0, B1, B2, Lm0, Lm1, Lm2, Lm3, Lm4, Lm5, Lm6, Lm7, Lm8, Lm9, Lm10, Lm11, Lm12, Lm13, Lm14, Lm15, Lm16, Lm17, Lm18, Lm19, Lm20, Lm21, Lm22, Lm23, Lm24, Lm25, Lm26, Lm27, Lm28, Lm29, Nat.reduceLT, Nat.reduceEqDiff, ↓reduceIte, reduceCtorEq, Nat.reduceAdd, ge_iff_le, gt_iff_lt, forall_const, Nat.reduceBEq, Nat.reduceBNe, Nat.reduceMul, Nat.reduceLeDiff, Nat.reduceSub, Int.reduceToNat, td_3, td_4, td_9, td_22, td_24, td_25, td_27, td_28, td_29, td_31, td_51, td_53, td_55, td_56, td_74, strsP, evsP, intsP, trsP, evC, BO, tQ, nQ, HQ])
            and_intros; all_goals (try (refine Side.mk ?_; first | first | omega | (intros; omega) | (simp; done) | (simp; omega) | (intro h; simp at h; omega) | (simp_all; done) | rfl | (and_intros <;> first | omega | (intros; omega) | (simp; done) | (simp; omega) | (intro h; simp at h; omega) | (simp_all; done) | rfl)))
            refine ⟨(f, popA m B, m - 1, out ++ [movedE srt e0 row]), Conv.to [0, 1, 2, 3, 7] (nodupB_ok rfl) rfl (by repeat (first | exact trivial | refine ⟨.refl _, ?_⟩ | refine ⟨LeP.osl rfl, ?_⟩ | refine ⟨LeP.oslN rfl (by simp) (by omega), ?_⟩)) ⟨LeO.refl _, LeO.refl _, LeO.ob (zQ _) rfl, ⟨rfl, rfl, rfl, LeL.cons (.refl _) (LeL.cons (LeP.oslM rfl (by simp) (by simp)) .nil)⟩, LeO.app (zLB_append (zE _) rfl) (by rw [List.flatMap_append]; simp [evC, intsP, U]) (by simp [evC]), trivial⟩, ⟨by simp [pq]; omega, by simp [pq]; omega, ?_, ?_, ?_, ?_⟩, by simp⟩
            · intro x hx
              exact b3 x (pp.subset (List.mem_cons_of_mem _ hx))
            · have := sumE_perm pp
              rw [hB0] at this
              simp only [sumE, List.map_cons, List.sum_cons, hx1] at this b4 ⊢
              omega
            · simp; omega
            · rw [← b6, mloopF, if_neg (by omega), if_pos (by rw [hB0]; exact hx1), hB0]
              simp only [he0, hrow]
          · intro h3
            have hx1 : xe.length ≠ 1 := by omega
            have hLv2 := lively_of (by simp; omega) (hok2 hx1)
            (refine exeC_ok (f := 60) ?_; simp only [B0, B1, B2, Lm0, Lm1, Lm2, Lm3, Lm4, Lm5, Lm6, Lm7, Lm8, Lm9, Lm10, Lm11, Lm12, Lm13, Lm14, Lm15, Lm16, Lm17, Lm18, Lm19, Lm20, Lm21, Lm22, Lm23, Lm24, Lm25, Lm26, Lm27, Lm28, Lm29, Nat.reduceLT, Nat.reduceEqDiff, ↓reduceIte, reduceCtorEq, Nat.reduceAdd, ge_iff_le, gt_iff_lt, forall_const, Nat.reduceBEq, Nat.reduceBNe, Nat.reduceMul, Nat.reduceLeDiff, Nat.reduceSub, Int.reduceToNat, td_3, td_4, td_9, td_22, td_24, td_25, td_27, td_28, td_29, td_31, td_51, td_53, td_55, td_56, td_74, strsP, evsP, intsP, trsP, evC, o1, lQ, HQ])
            and_intros; all_goals (try (refine Side.mk ?_; first | first | omega | (intros; omega) | (simp; done) | (simp; omega) | (intro h; simp at h; omega) | (simp_all; done) | rfl | (and_intros <;> first | omega | (intros; omega) | (simp; done) | (simp; omega) | (intro h; simp at h; omega) | (simp_all; done) | rfl)))
            refine Run.callS (f := 23) (ps := [.ifc 51 (.ad 1 0), I 0]) false [1, 2] rfl (by kernel_rfl) (by kernel_rfl) rfl rfl (fun h => by first | (cases h; done) | exact ⟨rfl, rfl⟩) (c_fix m (B.set 0 ⟨xe.drop 1, xn⟩) (by simp; omega) (by simp; omega) hLv2) (by first | rfl | (simp only [B0, B1, B2, Lm0, Lm1, Lm2, Lm3, Lm4, Lm5, Lm6, Lm7, Lm8, Lm9, Lm10, Lm11, Lm12, Lm13, Lm14, Lm15, Lm16, Lm17, Lm18, Lm19, Lm20, Lm21, Lm22, Lm23, Lm24, Lm25, Lm26, Lm27, Lm28, Lm29, Nat.reduceLT, Nat.reduceEqDiff, ↓reduceIte, reduceCtorEq, Nat.reduceAdd, ge_iff_le, gt_iff_lt, forall_const, Nat.reduceBEq, Nat.reduceBNe, Nat.reduceMul, Nat.reduceLeDiff, Nat.reduceSub, Int.reduceToNat, BO, tQ, nQ, vQt, frz_oob, HQ, QP]; done) | (simp only [B0, B1, B2, Lm0, Lm1, Lm2, Lm3, Lm4, Lm5, Lm6, Lm7, Lm8, Lm9, Lm10, Lm11, Lm12, Lm13, Lm14, Lm15, Lm16, Lm17, Lm18, Lm19, Lm20, Lm21, Lm22, Lm23, Lm24, Lm25, Lm26, Lm27, Lm28, Lm29, Nat.reduceLT, Nat.reduceEqDiff, ↓reduceIte, reduceCtorEq, Nat.reduceAdd, ge_iff_le, gt_iff_lt, forall_const, Nat.reduceBEq, Nat.reduceBNe, Nat.reduceMul, Nat.reduceLeDiff, Nat.reduceSub, Int.reduceToNat, BO, tQ, nQ, vQt, frz_oob, HQ, QP]; rfl)) (by first | rfl | (simp only [B0, B1, B2, Lm0, Lm1, Lm2, Lm3, Lm4, Lm5, Lm6, Lm7, Lm8, Lm9, Lm10, Lm11, Lm12, Lm13, Lm14, Lm15, Lm16, Lm17, Lm18, Lm19, Lm20, Lm21, Lm22, Lm23, Lm24, Lm25, Lm26, Lm27, Lm28, Lm29, Nat.reduceLT, Nat.reduceEqDiff, ↓reduceIte, reduceCtorEq, Nat.reduceAdd, ge_iff_le, gt_iff_lt, forall_const, Nat.reduceBEq, Nat.reduceBNe, Nat.reduceMul, Nat.reduceLeDiff, Nat.reduceSub, Int.reduceToNat, BO, tQ, nQ, vQt, frz_oob, HQ, QP]; done) | (simp only [B0, B1, B2, Lm0, Lm1, Lm2, Lm3, Lm4, Lm5, Lm6, Lm7, Lm8, Lm9, Lm10, Lm11, Lm12, Lm13, Lm14, Lm15, Lm16, Lm17, Lm18, Lm19, Lm20, Lm21, Lm22, Lm23, Lm24, Lm25, Lm26, Lm27, Lm28, Lm29, Nat.reduceLT, Nat.reduceEqDiff, ↓reduceIte, reduceCtorEq, Nat.reduceAdd, ge_iff_le, gt_iff_lt, forall_const, Nat.reduceBEq, Nat.reduceBNe, Nat.reduceMul, Nat.reduceLeDiff, Nat.reduceSub, Int.reduceToNat, BO, tQ, nQ, vQt, frz_oob, HQ, QP]; rfl)) (fun h => by cases h) ?_
            (refine Run.on ?_; simp only [B0, B1, B2, Lm0, Lm1, Lm2, Lm3, Lm4, Lm5, Lm6, Lm7, Lm8, Lm9, Lm10, Lm11, Lm12, Lm13, Lm14, Lm15, Lm16, Lm17, Lm18, Lm19, Lm20, Lm21, Lm22, Lm23, Lm24, Lm25, Lm26, Lm27, Lm28, Lm29, Nat.reduceLT, Nat.reduceEqDiff, ↓reduceIte, reduceCtorEq, Nat.reduceAdd, ge_iff_le, gt_iff_lt, forall_const, Nat.reduceBEq, Nat.reduceBNe, Nat.reduceMul, Nat.reduceLeDiff, Nat.reduceSub, Int.reduceToNat, td_3, td_4, td_9, td_22, td_24, td_25, td_27, td_28, td_29, td_31, td_51, td_53, td_55, td_56, td_74, strsP, evsP, intsP, trsP, evC, BO, tQ, nQ, HQ])
            and_intros; all_goals (try (refine Side.mk ?_; first | first | omega | (intros; omega) | (simp; done) | (simp; omega) | (intro h; simp at h; omega) | (simp_all; done) | rfl | (and_intros <;> first | omega | (intros; omega) | (simp; done) | (simp; omega) | (intro h; simp at h; omega) | (simp_all; done) | rfl)))
            refine ⟨(f, (downF m m (B.set 0 ⟨xe.drop 1, xn⟩) 0).1, m, out ++ [movedE srt e0 row]), Conv.to [0, 1, 2, 3, 7] (nodupB_ok rfl) rfl (by repeat (first | exact trivial | refine ⟨.refl _, ?_⟩ | refine ⟨LeP.osl rfl, ?_⟩ | refine ⟨LeP.oslN rfl (by simp) (by omega), ?_⟩)) ⟨LeO.refl _, LeO.refl _, LeO.ob (zQ _) rfl, ⟨rfl, rfl, rfl, LeL.cons (.refl _) (LeL.cons (LeP.oslM rfl (by simp) (by simp)) .nil)⟩, LeO.app (zLB_append (zE _) rfl) (by rw [List.flatMap_append]; simp [evC, intsP, U]) (by simp [evC]), trivial⟩, ⟨by show m ≤ (downF _ _ _ _).1.length; rw [d2]; exact b1, by show (downF _ _ _ _).1.length ≤ 100000; rw [d2]; exact b2, ?_, ?_, ?_, ?_⟩, by simp⟩
            · intro x hx
              exact hok2 hx1 x (d1.subset hx)
            · show sumE ((downF m m _ 0).1.take m) = f
              rw [sumE_perm d1, hset]
              rw [htk] at b4
              simp only [sumE, List.map_cons, List.sum_cons, List.length_drop] at b4 ⊢
              omega
            · simp; omega
            · rw [← b6, mloopF, if_neg (by omega), if_neg (by rw [hB0]; exact hx1), hB0]
              simp only [he0, hrow]
      · have hm : m = 0 := by omega
        subst hm
        have hr : out = mevs srt l := by
          rw [← b6]
          cases f with
          | zero => rfl
          | succ f => rw [mloopF, if_pos rfl]
        subst hr
        rw [hf]
        rcases osl_cases 4 (mevs srt l).length 31 2 ((mevs srt l).flatMap evC) (lE _) (by omega) with ⟨ho, hoo, ho0, hon⟩ | ⟨ho, hoo, ho0⟩
        · (refine exeC_ok (f := 60) ?_; simp only [B0, B1, B2, Lm0, Lm1, Lm2, Lm3, Lm4, Lm5, Lm6, Lm7, Lm8, Lm9, Lm10, Lm11, Lm12, Lm13, Lm14, Lm15, Lm16, Lm17, Lm18, Lm19, Lm20, Lm21, Lm22, Lm23, Lm24, Lm25, Lm26, Lm27, Lm28, Lm29, Nat.reduceLT, Nat.reduceEqDiff, ↓reduceIte, reduceCtorEq, Nat.reduceAdd, ge_iff_le, gt_iff_lt, forall_const, Nat.reduceBEq, Nat.reduceBNe, Nat.reduceMul, Nat.reduceLeDiff, Nat.reduceSub, Int.reduceToNat, td_3, td_4, td_9, td_22, td_24, td_25, td_27, td_28, td_29, td_31, td_51, td_53, td_55, td_56, td_74, strsP, evsP, intsP, trsP, HQ, ho, hoo])
          and_intros; all_goals (try (refine Side.mk ?_; first | first | omega | (intros; omega) | (simp; done) | (simp; omega) | (intro h; simp at h; omega) | (simp_all; done) | rfl | (and_intros <;> first | omega | (intros; omega) | (simp; done) | (simp; omega) | (intro h; simp at h; omega) | (simp_all; done) | rfl)))
          exact RetV.ct (i := 0) (u := 3) [] rfl rfl (by rw [td_27]; rfl) (by rw [td_27]; rfl) (by rw [td_27]; rfl) rfl rfl (LeP.tu (LeL.cons (LeP.ag (LeL.cons (.refl _) (LeL.cons (LeP.nil' ho0 hon) .nil))) (LeL.cons (.refl _) .nil))) trivial
        · (refine exeC_ok (f := 60) ?_; simp only [B0, B1, B2, Lm0, Lm1, Lm2, Lm3, Lm4, Lm5, Lm6, Lm7, Lm8, Lm9, Lm10, Lm11, Lm12, Lm13, Lm14, Lm15, Lm16, Lm17, Lm18, Lm19, Lm20, Lm21, Lm22, Lm23, Lm24, Lm25, Lm26, Lm27, Lm28, Lm29, Nat.reduceLT, Nat.reduceEqDiff, ↓reduceIte, reduceCtorEq, Nat.reduceAdd, ge_iff_le, gt_iff_lt, forall_const, Nat.reduceBEq, Nat.reduceBNe, Nat.reduceMul, Nat.reduceLeDiff, Nat.reduceSub, Int.reduceToNat, td_3, td_4, td_9, td_22, td_24, td_25, td_27, td_28, td_29, td_31, td_51, td_53, td_55, td_56, td_74, strsP, evsP, intsP, trsP, HQ, ho, hoo])
          and_intros; all_goals (try (refine Side.mk ?_; first | first | omega | (intros; omega) | (simp; done) | (simp; omega) | (intro h; simp at h; omega) | (simp_all; done) | rfl | (and_intros <;> first | omega | (intros; omega) | (simp; done) | (simp; omega) | (intro h; simp at h; omega) | (simp_all; done) | rfl)))
          (refine RetV.conv (Conv.frz 4 rfl (zE _)) ?_; simp only [B0, B1, B2, Lm0, Lm1, Lm2, Lm3, Lm4, Lm5, Lm6, Lm7, Lm8, Lm9, Lm10, Lm11, Lm12, Lm13, Lm14, Lm15, Lm16, Lm17, Lm18, Lm19, Lm20, Lm21, Lm22, Lm23, Lm24, Lm25, Lm26, Lm27, Lm28, Lm29, Nat.reduceLT, Nat.reduceEqDiff, ↓reduceIte, reduceCtorEq, Nat.reduceAdd, ge_iff_le, gt_iff_lt, forall_const, Nat.reduceBEq, Nat.reduceBNe, Nat.reduceMul, Nat.reduceLeDiff, Nat.reduceSub, Int.reduceToNat, BO, tQ, nQ, vQt, frz_oob, HQ, QP])
          exact RetV.ct (i := 0) (u := 3) [] rfl rfl (by rw [td_27]; rfl) (by rw [td_27]; rfl) (by rw [td_27]; rfl) rfl rfl (LeP.tu (LeL.cons (LeP.ag (LeL.cons (.refl _) (LeL.cons (LeP.im' rfl (List.take_of_length_le (by rw [lE]; omega))) .nil))) (LeL.cons (.refl _) .nil))) trivial
end Go.Proofs.Ytbbjmfkmjjinnaa.V
