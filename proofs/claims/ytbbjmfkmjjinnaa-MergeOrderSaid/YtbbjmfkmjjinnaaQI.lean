/- Contracts of an event moved to other names. No law of the program is proved here. -/
import Derived.Test.YtbbjmfkmjjinnaaQH
set_option linter.all false
namespace Go.Proofs.Ytbbjmfkmjjinnaa.V
open Go Go.Proofs

/-- How numbers are sorted, as far as M of them. -/
structure Srt (M : Nat) (srt : List Int → List Int) : Prop where
  h : ∀ l : List Int, l.length ≤ M → GC Try.prog 35 [.id 0 l.length] [some ⟨3, true, 1, l.map I⟩] (.tu []) [some ⟨3, true, 1, (srt l).map I⟩]
  n : ∀ l, (srt l).length = l.length
  m : M ≤ 1000000

theorem c_sortNil : GC Try.prog 35 [.sc (.slice none 0 0)] [] (.tu []) [] := GC_run 1000 10 (by kernel_rfl)

def movedE (srt : List Int → List Int) (e : Ev) (at_ : List Int) : Ev := ⟨e.t, srt (e.ids.map fun i => at_.getD i.toNat default)⟩
theorem c_moved {M : Nat} {srt : List Int → List Int} (hs : Srt M srt) (e : Ev) (a : List Int) (hl : e.ids.length ≤ M) (hi : ∀ i, i ∈ e.ids → 0 ≤ i ∧ i < a.length) : GC Try.prog 21 [.ag (evC e), intsP a] [] (.ag (evC (movedE srt e a))) [] := by
  obtain ⟨t, l⟩ := e
  have hM := hs.m
  simp only at hl hi
  let mv : List Int → List Int := fun l => l.map fun i => a.getD i.toNat default
  refine GC_fn [] Try.func21 rfl rfl (by kernel_rfl) ?_
  (refine exeC_ok (f := 60) ?_; simp only [B0, B1, B2, Lm0, Lm1, Lm2, Lm3, Lm4, Lm5, Lm6, Lm7, Lm8, Lm9, Lm10, Lm11, Lm12, Lm13, Lm14, Lm15, Lm16, Lm17, Lm18, Lm19, Lm20, Lm21, Lm22, Lm23, Lm24, Lm25, Lm26, Lm27, Lm28, Lm29, Nat.reduceLT, Nat.reduceEqDiff, ↓reduceIte, reduceCtorEq, Nat.reduceAdd, ge_iff_le, gt_iff_lt, forall_const, Nat.reduceBEq, Nat.reduceBNe, Nat.reduceMul, Nat.reduceLeDiff, Nat.reduceSub, Int.reduceToNat, td_3, td_28, td_29, td_31, evC, intsP])
  and_intros; all_goals (try (refine Side.mk ?_; first | first | omega | (intros; omega) | (simp; done) | (simp; omega) | (intro h; simp at h; omega) | (simp_all; done) | rfl | (and_intros <;> first | omega | (intros; omega) | (simp; done) | (simp; omega) | (intro h; simp at h; omega) | (simp_all; done) | rfl)))
  refine WC_loop (fun k : Nat => [(1, intsP a), (2, .ad 0 0), (4, .ad 1 0), (5, .ad 2 0), (12, intsP l), (13, I l.length), (14, I k)]) (fun k => [some ⟨31, false, 1, [U t, intsP l]⟩, some ⟨31, false, 1, [U 0, .sc (.slice none 0 0)]⟩, some ⟨31, false, 1, [U t, osl 3 k]⟩, oob 3 1 ((mv (l.take k)).map I)]) (fun k => k ≤ l.length) (fun k => l.length - k) 0 ?_ (Nat.zero_le _) ?_
  · exact Conv.to [0, 1, 2, 3] (nodupB_ok rfl) rfl (by repeat (first | exact trivial | refine ⟨.refl _, ?_⟩ | refine ⟨LeP.osl rfl, ?_⟩ | refine ⟨LeP.oslN rfl (by simp) (by omega), ?_⟩)) ⟨LeO.refl _, LeO.refl _, LeO.refl _, trivial, trivial⟩
  intro k hk
  have hcs : ((mv (l.take k)).map I).length = k * 1 := by simp [mv]; omega
  (refine exeC_ok (f := 60) ?_; simp only [B0, B1, B2, Lm0, Lm1, Lm2, Lm3, Lm4, Lm5, Lm6, Lm7, Lm8, Lm9, Lm10, Lm11, Lm12, Lm13, Lm14, Lm15, Lm16, Lm17, Lm18, Lm19, Lm20, Lm21, Lm22, Lm23, Lm24, Lm25, Lm26, Lm27, Lm28, Lm29, Nat.reduceLT, Nat.reduceEqDiff, ↓reduceIte, reduceCtorEq, Nat.reduceAdd, ge_iff_le, gt_iff_lt, forall_const, Nat.reduceBEq, Nat.reduceBNe, Nat.reduceMul, Nat.reduceLeDiff, Nat.reduceSub, Int.reduceToNat, td_3, td_28, td_29, td_31, intsP])
  refine ⟨fun h1 => ?_, fun h1 => ?_⟩
  · have hk' : k < l.length := by omega
    have hm := hi _ (getD_mem hk')
    have hx := drop_map I default l k hk'
    have hy := drop_map I default a (l.getD k default).toNat (by omega)
    have hw' : IntKind.i64.wrap ((k : Int) + 1) = (k : Int) + 1 := wrap64 (by omega) (by omega)
    have ht : ((mv (l.take k)).map I).take k = (mv (l.take k)).map I := List.take_of_length_le (by omega)
    have hq : (mv (l.take (k + 1))).map I = (mv (l.take k)).map I ++ [I (a.getD (l.getD k default).toNat default)] := by
      show ((l.take (k + 1)).map _).map I = ((l.take k).map _).map I ++ _
      rw [take_snoc l k hk', List.map_append, List.map_append]; rfl
    rcases osl_cases 3 k 3 1 _ hcs (by omega) with ⟨ho, hoo, h0, hn⟩ | ⟨ho, hoo, h0⟩
    all_goals
      (refine exeC_ok (f := 60) ?_; simp only [B0, B1, B2, Lm0, Lm1, Lm2, Lm3, Lm4, Lm5, Lm6, Lm7, Lm8, Lm9, Lm10, Lm11, Lm12, Lm13, Lm14, Lm15, Lm16, Lm17, Lm18, Lm19, Lm20, Lm21, Lm22, Lm23, Lm24, Lm25, Lm26, Lm27, Lm28, Lm29, Nat.reduceLT, Nat.reduceEqDiff, ↓reduceIte, reduceCtorEq, Nat.reduceAdd, ge_iff_le, gt_iff_lt, forall_const, Nat.reduceBEq, Nat.reduceBNe, Nat.reduceMul, Nat.reduceLeDiff, Nat.reduceSub, Int.reduceToNat, td_3, td_28, td_29, td_31, intsP, hx, hy, ho, hoo, ht, hw'])
      and_intros; all_goals (try (refine Side.mk ?_; first | first | omega | (intros; omega) | (simp; done) | (simp; omega) | (intro h; simp at h; omega) | (simp_all; done) | rfl | (and_intros <;> first | omega | (intros; omega) | (simp; done) | (simp; omega) | (intro h; simp at h; omega) | (simp_all; done) | rfl)))
    · subst h0
      exact ⟨0 + 1, Conv.to [0, 1, 2, 5] (nodupB_ok rfl) rfl (by repeat (first | exact trivial | refine ⟨.refl _, ?_⟩ | refine ⟨LeP.osl rfl, ?_⟩ | refine ⟨LeP.oslN rfl (by simp) (by omega), ?_⟩)) ⟨LeO.refl _, LeO.refl _, LeO.refl _, LeO.app rfl (by rw [hq, hn]; rfl) (by rw [hq]; simp), trivial⟩, by omega, by omega⟩
    · exact ⟨k + 1, Conv.to [0, 1, 2, 5] (nodupB_ok rfl) rfl (by repeat (first | exact trivial | refine ⟨.refl _, ?_⟩ | refine ⟨LeP.osl rfl, ?_⟩ | refine ⟨LeP.oslN rfl (by simp) (by omega), ?_⟩)) ⟨LeO.refl _, LeO.refl _, LeO.refl _, LeO.app (zLB_append (zI _) rfl) hq.symm (by rw [hq]; simp), trivial⟩, by omega, by omega⟩
  · have hk' : k = l.length := by omega
    subst hk'
    rw [List.take_length] at hcs ⊢
    have hlen : (mv l).length = l.length := by simp [mv]
    rcases osl_cases 3 l.length 3 1 _ hcs (by omega) with ⟨ho, hoo, h0, hn⟩ | ⟨ho, hoo, h0⟩
    · (refine exeC_ok (f := 60) ?_; simp only [B0, B1, B2, Lm0, Lm1, Lm2, Lm3, Lm4, Lm5, Lm6, Lm7, Lm8, Lm9, Lm10, Lm11, Lm12, Lm13, Lm14, Lm15, Lm16, Lm17, Lm18, Lm19, Lm20, Lm21, Lm22, Lm23, Lm24, Lm25, Lm26, Lm27, Lm28, Lm29, Nat.reduceLT, Nat.reduceEqDiff, ↓reduceIte, reduceCtorEq, Nat.reduceAdd, ge_iff_le, gt_iff_lt, forall_const, Nat.reduceBEq, Nat.reduceBNe, Nat.reduceMul, Nat.reduceLeDiff, Nat.reduceSub, Int.reduceToNat, td_3, td_28, td_29, td_31, ho, hoo])
      refine Run.callP rfl rfl (by kernel_rfl) (c_sortNil) rfl rfl rfl ?_
      (refine Run.on ?_; simp only [B0, B1, B2, Lm0, Lm1, Lm2, Lm3, Lm4, Lm5, Lm6, Lm7, Lm8, Lm9, Lm10, Lm11, Lm12, Lm13, Lm14, Lm15, Lm16, Lm17, Lm18, Lm19, Lm20, Lm21, Lm22, Lm23, Lm24, Lm25, Lm26, Lm27, Lm28, Lm29, Nat.reduceLT, Nat.reduceEqDiff, ↓reduceIte, reduceCtorEq, Nat.reduceAdd, ge_iff_le, gt_iff_lt, forall_const, Nat.reduceBEq, Nat.reduceBNe, Nat.reduceMul, Nat.reduceLeDiff, Nat.reduceSub, Int.reduceToNat, td_3, td_28, td_29, td_31])
      and_intros; all_goals (try (refine Side.mk ?_; first | first | omega | (intros; omega) | (simp; done) | (simp; omega) | (intro h; simp at h; omega) | (simp_all; done) | rfl | (and_intros <;> first | omega | (intros; omega) | (simp; done) | (simp; omega) | (intro h; simp at h; omega) | (simp_all; done) | rfl)))
      refine RetV.c (i := 1) [] rfl rfl (by rw [td_31]; rfl) (by rw [td_31]; rfl) (by rw [td_31]; rfl) rfl rfl (LeP.ag (LeL.cons (.refl _) (LeL.cons (LeP.nil' ?_ ?_) .nil))) trivial
      · rw [← h0, ← hlen]; exact hs.n _
      · rw [List.map_eq_nil_iff]; exact List.eq_nil_of_length_eq_zero ((hs.n _).trans (hlen.trans h0))
    · have hsr := hs.h (mv l) (by omega)
      rw [hlen] at hsr
      (refine exeC_ok (f := 60) ?_; simp only [B0, B1, B2, Lm0, Lm1, Lm2, Lm3, Lm4, Lm5, Lm6, Lm7, Lm8, Lm9, Lm10, Lm11, Lm12, Lm13, Lm14, Lm15, Lm16, Lm17, Lm18, Lm19, Lm20, Lm21, Lm22, Lm23, Lm24, Lm25, Lm26, Lm27, Lm28, Lm29, Nat.reduceLT, Nat.reduceEqDiff, ↓reduceIte, reduceCtorEq, Nat.reduceAdd, ge_iff_le, gt_iff_lt, forall_const, Nat.reduceBEq, Nat.reduceBNe, Nat.reduceMul, Nat.reduceLeDiff, Nat.reduceSub, Int.reduceToNat, td_3, td_28, td_29, td_31, ho, hoo])
      refine Run.callS false [3] rfl rfl (by kernel_rfl) rfl rfl (fun h => by first | (cases h; done) | exact ⟨rfl, rfl⟩) (hsr) (by first | rfl | (simp only [B0, B1, B2, Lm0, Lm1, Lm2, Lm3, Lm4, Lm5, Lm6, Lm7, Lm8, Lm9, Lm10, Lm11, Lm12, Lm13, Lm14, Lm15, Lm16, Lm17, Lm18, Lm19, Lm20, Lm21, Lm22, Lm23, Lm24, Lm25, Lm26, Lm27, Lm28, Lm29, Nat.reduceLT, Nat.reduceEqDiff, ↓reduceIte, reduceCtorEq, Nat.reduceAdd, ge_iff_le, gt_iff_lt, forall_const, Nat.reduceBEq, Nat.reduceBNe, Nat.reduceMul, Nat.reduceLeDiff, Nat.reduceSub, Int.reduceToNat, BO]; done) | (simp only [B0, B1, B2, Lm0, Lm1, Lm2, Lm3, Lm4, Lm5, Lm6, Lm7, Lm8, Lm9, Lm10, Lm11, Lm12, Lm13, Lm14, Lm15, Lm16, Lm17, Lm18, Lm19, Lm20, Lm21, Lm22, Lm23, Lm24, Lm25, Lm26, Lm27, Lm28, Lm29, Nat.reduceLT, Nat.reduceEqDiff, ↓reduceIte, reduceCtorEq, Nat.reduceAdd, ge_iff_le, gt_iff_lt, forall_const, Nat.reduceBEq, Nat.reduceBNe, Nat.reduceMul, Nat.reduceLeDiff, Nat.reduceSub, Int.reduceToNat, BO]; rfl)) (by first | rfl | (simp only [B0, B1, B2, Lm0, Lm1, Lm2, Lm3, Lm4, Lm5, Lm6, Lm7, Lm8, Lm9, Lm10, Lm11, Lm12, Lm13, Lm14, Lm15, Lm16, Lm17, Lm18, Lm19, Lm20, Lm21, Lm22, Lm23, Lm24, Lm25, Lm26, Lm27, Lm28, Lm29, Nat.reduceLT, Nat.reduceEqDiff, ↓reduceIte, reduceCtorEq, Nat.reduceAdd, ge_iff_le, gt_iff_lt, forall_const, Nat.reduceBEq, Nat.reduceBNe, Nat.reduceMul, Nat.reduceLeDiff, Nat.reduceSub, Int.reduceToNat, BO]; done) | (simp only [B0, B1, B2, Lm0, Lm1, Lm2, Lm3, Lm4, Lm5, Lm6, Lm7, Lm8, Lm9, Lm10, Lm11, Lm12, Lm13, Lm14, Lm15, Lm16, Lm17, Lm18, Lm19, Lm20, Lm21, Lm22, Lm23, Lm24, Lm25, Lm26, Lm27, Lm28, Lm29, Nat.reduceLT, Nat.reduceEqDiff, ↓reduceIte, reduceCtorEq, Nat.reduceAdd, ge_iff_le, gt_iff_lt, forall_const, Nat.reduceBEq, Nat.reduceBNe, Nat.reduceMul, Nat.reduceLeDiff, Nat.reduceSub, Int.reduceToNat, BO]; rfl)) (fun h => by cases h) ?_
      (refine Run.on ?_; simp only [B0, B1, B2, Lm0, Lm1, Lm2, Lm3, Lm4, Lm5, Lm6, Lm7, Lm8, Lm9, Lm10, Lm11, Lm12, Lm13, Lm14, Lm15, Lm16, Lm17, Lm18, Lm19, Lm20, Lm21, Lm22, Lm23, Lm24, Lm25, Lm26, Lm27, Lm28, Lm29, Nat.reduceLT, Nat.reduceEqDiff, ↓reduceIte, reduceCtorEq, Nat.reduceAdd, ge_iff_le, gt_iff_lt, forall_const, Nat.reduceBEq, Nat.reduceBNe, Nat.reduceMul, Nat.reduceLeDiff, Nat.reduceSub, Int.reduceToNat, td_3, td_28, td_29, td_31, BO])
      and_intros; all_goals (try (refine Side.mk ?_; first | first | omega | (intros; omega) | (simp; done) | (simp; omega) | (intro h; simp at h; omega) | (simp_all; done) | rfl | (and_intros <;> first | omega | (intros; omega) | (simp; done) | (simp; omega) | (intro h; simp at h; omega) | (simp_all; done) | rfl)))
      have hn : (srt (mv l)).length = l.length := by rw [hs.n, hlen]
      (refine RetV.conv (Conv.frz 3 rfl (zI _)) ?_; simp only [B0, B1, B2, Lm0, Lm1, Lm2, Lm3, Lm4, Lm5, Lm6, Lm7, Lm8, Lm9, Lm10, Lm11, Lm12, Lm13, Lm14, Lm15, Lm16, Lm17, Lm18, Lm19, Lm20, Lm21, Lm22, Lm23, Lm24, Lm25, Lm26, Lm27, Lm28, Lm29, Nat.reduceLT, Nat.reduceEqDiff, ↓reduceIte, reduceCtorEq, Nat.reduceAdd, ge_iff_le, gt_iff_lt, forall_const, Nat.reduceBEq, Nat.reduceBNe, Nat.reduceMul, Nat.reduceLeDiff, Nat.reduceSub, Int.reduceToNat, BO, tQ, nQ, vQt])
      refine RetV.c (i := 1) [] rfl rfl (by rw [td_31]; rfl) (by rw [td_31]; rfl) (by rw [td_31]; rfl) rfl rfl (LeP.ag (LeL.cons (.refl _) (LeL.cons (LeP.im' hn.symm ?_) .nil))) trivial
      exact List.take_of_length_le (by simp; omega)
end Go.Proofs.Ytbbjmfkmjjinnaa.V
