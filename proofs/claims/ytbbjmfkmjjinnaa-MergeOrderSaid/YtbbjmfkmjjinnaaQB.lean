/- Contracts of functions over names. No law of the program is proved here. -/
import Derived.Test.YtbbjmfkmjjinnaaQA
set_option linter.all false
namespace Go.Proofs.Ytbbjmfkmjjinnaa.V
open Go Go.Proofs

theorem ixOf_nonneg {α : Type} [DecidableEq α] (v : α) : ∀ (l : List α) (k : Nat), 0 ≤ ixOf v l k ↔ v ∈ l
  | [], k => by simp [ixOf]
  | x :: l, k => by
    rw [ixOf]
    split
    · rename_i h; simp [h]
    · rename_i h; rw [ixOf_nonneg v l (k + 1)]; simp [h]

def hasB {α : Type} [DecidableEq α] (v : α) (l : List α) : Bool := l.any fun x => decide (v = x)
theorem hasB_iff {α : Type} [DecidableEq α] {v : α} {l : List α} : hasB v l = true ↔ v ∈ l := by simp [hasB]

theorem c_inS (l : List ByteArray) (v : ByteArray) (hl : l.length ≤ 9223372036854775807) : GC Try.prog 25 [strsP l, S v] [] (Bo (hasB v l)) [] := by
  refine GC_fn [] Try.func25 rfl rfl (by kernel_rfl) ?_
  (refine exeC_ok (f := 60) ?_; simp only [B0, B1, B2, Lm0, Lm1, Lm2, Lm3, Lm4, Lm5, Lm6, Lm7, Lm8, Lm9, Lm10, Lm11, Lm12, Lm13, Lm14, Lm15, Lm16, Lm17, Lm18, Lm19, Lm20, Lm21, Lm22, Lm23, Lm24, Lm25, Lm26, Lm27, Lm28, Lm29, Nat.reduceLT, Nat.reduceEqDiff, ↓reduceIte, reduceCtorEq, Nat.reduceAdd, ge_iff_le, gt_iff_lt, forall_const, Nat.reduceBEq, Nat.reduceBNe, Nat.reduceMul, Nat.reduceLeDiff, Nat.reduceSub, Int.reduceToNat, td_3, td_9, td_24, strsP])
  refine Run.callP rfl rfl (by kernel_rfl) (c_ixS l v hl) rfl rfl rfl ?_
  (refine Run.on ?_; simp only [B0, B1, B2, Lm0, Lm1, Lm2, Lm3, Lm4, Lm5, Lm6, Lm7, Lm8, Lm9, Lm10, Lm11, Lm12, Lm13, Lm14, Lm15, Lm16, Lm17, Lm18, Lm19, Lm20, Lm21, Lm22, Lm23, Lm24, Lm25, Lm26, Lm27, Lm28, Lm29, Nat.reduceLT, Nat.reduceEqDiff, ↓reduceIte, reduceCtorEq, Nat.reduceAdd, ge_iff_le, gt_iff_lt, forall_const, Nat.reduceBEq, Nat.reduceBNe, Nat.reduceMul, Nat.reduceLeDiff, Nat.reduceSub, Int.reduceToNat, td_3, td_9, td_24])
  refine RetV.p rfl trivial (rB (Bool.eq_iff_iff.2 (by rw [hasB_iff, decide_eq_true_eq]; exact ixOf_nonneg v l 0)))
theorem c_inI (l : List Int) (v : Int) (hl : l.length ≤ 9223372036854775807) : GC Try.prog 27 [intsP l, I v] [] (Bo (hasB v l)) [] := by
  refine GC_fn [] Try.func27 rfl rfl (by kernel_rfl) ?_
  (refine exeC_ok (f := 60) ?_; simp only [B0, B1, B2, Lm0, Lm1, Lm2, Lm3, Lm4, Lm5, Lm6, Lm7, Lm8, Lm9, Lm10, Lm11, Lm12, Lm13, Lm14, Lm15, Lm16, Lm17, Lm18, Lm19, Lm20, Lm21, Lm22, Lm23, Lm24, Lm25, Lm26, Lm27, Lm28, Lm29, Nat.reduceLT, Nat.reduceEqDiff, ↓reduceIte, reduceCtorEq, Nat.reduceAdd, ge_iff_le, gt_iff_lt, forall_const, Nat.reduceBEq, Nat.reduceBNe, Nat.reduceMul, Nat.reduceLeDiff, Nat.reduceSub, Int.reduceToNat, td_3, td_29, intsP])
  refine Run.callP rfl rfl (by kernel_rfl) (c_ixI l v hl) rfl rfl rfl ?_
  (refine Run.on ?_; simp only [B0, B1, B2, Lm0, Lm1, Lm2, Lm3, Lm4, Lm5, Lm6, Lm7, Lm8, Lm9, Lm10, Lm11, Lm12, Lm13, Lm14, Lm15, Lm16, Lm17, Lm18, Lm19, Lm20, Lm21, Lm22, Lm23, Lm24, Lm25, Lm26, Lm27, Lm28, Lm29, Nat.reduceLT, Nat.reduceEqDiff, ↓reduceIte, reduceCtorEq, Nat.reduceAdd, ge_iff_le, gt_iff_lt, forall_const, Nat.reduceBEq, Nat.reduceBNe, Nat.reduceMul, Nat.reduceLeDiff, Nat.reduceSub, Int.reduceToNat, td_3, td_29])
  refine RetV.p rfl trivial (rB (Bool.eq_iff_iff.2 (by rw [hasB_iff, decide_eq_true_eq]; exact ixOf_nonneg v l 0)))

def C8 (c : Int) : PV := .sc (.int .u8 c)
def isLo (c : Int) : Bool := decide (97 ≤ c) && decide (c ≤ 122)
def isDi (c : Int) : Bool := decide (48 ≤ c) && decide (c ≤ 57)
def isMo (c : Int) : Bool := isLo c || isDi c || decide (c = 95)

theorem c_letter (c : Int) : GC Try.prog 47 [C8 c] [] (Bo (isLo c)) [] := by
  refine GC_fn [] Try.func47 rfl rfl (by kernel_rfl) ?_
  (refine exeC_ok (f := 60) ?_; simp only [B0, B1, B2, Lm0, Lm1, Lm2, Lm3, Lm4, Lm5, Lm6, Lm7, Lm8, Lm9, Lm10, Lm11, Lm12, Lm13, Lm14, Lm15, Lm16, Lm17, Lm18, Lm19, Lm20, Lm21, Lm22, Lm23, Lm24, Lm25, Lm26, Lm27, Lm28, Lm29, Nat.reduceLT, Nat.reduceEqDiff, ↓reduceIte, reduceCtorEq, Nat.reduceAdd, ge_iff_le, gt_iff_lt, forall_const, Nat.reduceBEq, Nat.reduceBNe, Nat.reduceMul, Nat.reduceLeDiff, Nat.reduceSub, Int.reduceToNat, td_5, C8])
  and_intros; all_goals (try (refine Side.mk ?_; first | first | omega | (intros; omega) | (simp; done) | (simp; omega) | (intro h; simp at h; omega) | (simp_all; done) | rfl | (and_intros <;> first | omega | (intros; omega) | (simp; done) | (simp; omega) | (intro h; simp at h; omega) | (simp_all; done) | rfl)))
  exact RetV.p rfl trivial (rB rfl)
theorem c_digit (c : Int) : GC Try.prog 73 [C8 c] [] (Bo (isDi c)) [] := by
  refine GC_fn [] Try.func73 rfl rfl (by kernel_rfl) ?_
  (refine exeC_ok (f := 60) ?_; simp only [B0, B1, B2, Lm0, Lm1, Lm2, Lm3, Lm4, Lm5, Lm6, Lm7, Lm8, Lm9, Lm10, Lm11, Lm12, Lm13, Lm14, Lm15, Lm16, Lm17, Lm18, Lm19, Lm20, Lm21, Lm22, Lm23, Lm24, Lm25, Lm26, Lm27, Lm28, Lm29, Nat.reduceLT, Nat.reduceEqDiff, ↓reduceIte, reduceCtorEq, Nat.reduceAdd, ge_iff_le, gt_iff_lt, forall_const, Nat.reduceBEq, Nat.reduceBNe, Nat.reduceMul, Nat.reduceLeDiff, Nat.reduceSub, Int.reduceToNat, td_5, C8])
  and_intros; all_goals (try (refine Side.mk ?_; first | first | omega | (intros; omega) | (simp; done) | (simp; omega) | (intro h; simp at h; omega) | (simp_all; done) | rfl | (and_intros <;> first | omega | (intros; omega) | (simp; done) | (simp; omega) | (intro h; simp at h; omega) | (simp_all; done) | rfl)))
  exact RetV.p rfl trivial (rB rfl)
theorem c_small (c : Int) : GC Try.prog 70 [C8 c] [] (Bo (isLo c)) [] := by
  refine GC_fn [] Try.func70 rfl rfl (by kernel_rfl) ?_
  (refine exeC_ok (f := 60) ?_; simp only [B0, B1, B2, Lm0, Lm1, Lm2, Lm3, Lm4, Lm5, Lm6, Lm7, Lm8, Lm9, Lm10, Lm11, Lm12, Lm13, Lm14, Lm15, Lm16, Lm17, Lm18, Lm19, Lm20, Lm21, Lm22, Lm23, Lm24, Lm25, Lm26, Lm27, Lm28, Lm29, Nat.reduceLT, Nat.reduceEqDiff, ↓reduceIte, reduceCtorEq, Nat.reduceAdd, ge_iff_le, gt_iff_lt, forall_const, Nat.reduceBEq, Nat.reduceBNe, Nat.reduceMul, Nat.reduceLeDiff, Nat.reduceSub, Int.reduceToNat, td_5, C8])
  and_intros; all_goals (try (refine Side.mk ?_; first | first | omega | (intros; omega) | (simp; done) | (simp; omega) | (intro h; simp at h; omega) | (simp_all; done) | rfl | (and_intros <;> first | omega | (intros; omega) | (simp; done) | (simp; omega) | (intro h; simp at h; omega) | (simp_all; done) | rfl)))
  exact RetV.p rfl trivial (rB rfl)
theorem c_rdigit (c : Int) : GC Try.prog 84 [C8 c] [] (Bo (isDi c)) [] := by
  refine GC_fn [] Try.func84 rfl rfl (by kernel_rfl) ?_
  (refine exeC_ok (f := 60) ?_; simp only [B0, B1, B2, Lm0, Lm1, Lm2, Lm3, Lm4, Lm5, Lm6, Lm7, Lm8, Lm9, Lm10, Lm11, Lm12, Lm13, Lm14, Lm15, Lm16, Lm17, Lm18, Lm19, Lm20, Lm21, Lm22, Lm23, Lm24, Lm25, Lm26, Lm27, Lm28, Lm29, Nat.reduceLT, Nat.reduceEqDiff, ↓reduceIte, reduceCtorEq, Nat.reduceAdd, ge_iff_le, gt_iff_lt, forall_const, Nat.reduceBEq, Nat.reduceBNe, Nat.reduceMul, Nat.reduceLeDiff, Nat.reduceSub, Int.reduceToNat, td_5, C8])
  and_intros; all_goals (try (refine Side.mk ?_; first | first | omega | (intros; omega) | (simp; done) | (simp; omega) | (intro h; simp at h; omega) | (simp_all; done) | rfl | (and_intros <;> first | omega | (intros; omega) | (simp; done) | (simp; omega) | (intro h; simp at h; omega) | (simp_all; done) | rfl)))
  exact RetV.p rfl trivial (rB rfl)

theorem c_more (c : Int) : GC Try.prog 49 [C8 c] [] (Bo (isMo c)) [] := by
  refine GC_fn [] Try.func49 rfl rfl (by kernel_rfl) ?_
  (refine exeC_ok (f := 60) ?_; simp only [B0, B1, B2, Lm0, Lm1, Lm2, Lm3, Lm4, Lm5, Lm6, Lm7, Lm8, Lm9, Lm10, Lm11, Lm12, Lm13, Lm14, Lm15, Lm16, Lm17, Lm18, Lm19, Lm20, Lm21, Lm22, Lm23, Lm24, Lm25, Lm26, Lm27, Lm28, Lm29, Nat.reduceLT, Nat.reduceEqDiff, ↓reduceIte, reduceCtorEq, Nat.reduceAdd, ge_iff_le, gt_iff_lt, forall_const, Nat.reduceBEq, Nat.reduceBNe, Nat.reduceMul, Nat.reduceLeDiff, Nat.reduceSub, Int.reduceToNat, td_5, C8])
  refine Run.callP rfl rfl (by kernel_rfl) (c_letter c) rfl rfl rfl ?_
  (refine Run.on ?_; simp only [B0, B1, B2, Lm0, Lm1, Lm2, Lm3, Lm4, Lm5, Lm6, Lm7, Lm8, Lm9, Lm10, Lm11, Lm12, Lm13, Lm14, Lm15, Lm16, Lm17, Lm18, Lm19, Lm20, Lm21, Lm22, Lm23, Lm24, Lm25, Lm26, Lm27, Lm28, Lm29, Nat.reduceLT, Nat.reduceEqDiff, ↓reduceIte, reduceCtorEq, Nat.reduceAdd, ge_iff_le, gt_iff_lt, forall_const, Nat.reduceBEq, Nat.reduceBNe, Nat.reduceMul, Nat.reduceLeDiff, Nat.reduceSub, Int.reduceToNat, td_5])
  refine Run.callF rfl rfl rfl (by kernel_rfl) (by repeat (first | exact trivial | refine ⟨fun h => h, ?_⟩ | refine ⟨fun _ => rfl, ?_⟩ | refine ⟨fun h => (Bool.and_eq_true_iff.1 h).1, ?_⟩ | refine ⟨fun h => (Bool.and_eq_true_iff.1 h).2, ?_⟩ | refine ⟨fun h => by simpa [holdP, evalO, look] using h, ?_⟩)) (fun _ => c_digit c) rfl rfl rfl ?_
  (refine Run.on ?_; simp only [B0, B1, B2, Lm0, Lm1, Lm2, Lm3, Lm4, Lm5, Lm6, Lm7, Lm8, Lm9, Lm10, Lm11, Lm12, Lm13, Lm14, Lm15, Lm16, Lm17, Lm18, Lm19, Lm20, Lm21, Lm22, Lm23, Lm24, Lm25, Lm26, Lm27, Lm28, Lm29, Nat.reduceLT, Nat.reduceEqDiff, ↓reduceIte, reduceCtorEq, Nat.reduceAdd, ge_iff_le, gt_iff_lt, forall_const, Nat.reduceBEq, Nat.reduceBNe, Nat.reduceMul, Nat.reduceLeDiff, Nat.reduceSub, Int.reduceToNat, td_5])
  and_intros; all_goals (try (refine Side.mk ?_; first | first | omega | (intros; omega) | (simp; done) | (simp; omega) | (intro h; simp at h; omega) | (simp_all; done) | rfl | (and_intros <;> first | omega | (intros; omega) | (simp; done) | (simp; omega) | (intro h; simp at h; omega) | (simp_all; done) | rfl)))
  exact RetV.p rfl trivial (rB rfl)

def runB (p : Int → Bool) : List UInt8 → Nat
  | [] => 0
  | c :: t => if p (c.toNat : Int) then runB p t + 1 else 0
theorem runB_le (p : Int → Bool) : ∀ l, runB p l ≤ l.length
  | [] => Nat.le_refl _
  | c :: t => by rw [runB]; split <;> simp <;> have := runB_le p t <;> omega
def bytes (s : ByteArray) : List UInt8 := s.data.toList
theorem bytes_length (s : ByteArray) : (bytes s).length = s.size := by unfold bytes; rw [Array.length_toList]; rfl
theorem byteAt_drop (s : ByteArray) (k : Nat) (h : k < s.size) : ∃ c : UInt8, (bytes s).drop k = c :: (bytes s).drop (k + 1) ∧ byteAt s k = (c.toNat : Int) := by
  have hl : k < (bytes s).length := by rw [bytes_length]; exact h
  refine ⟨(bytes s)[k], List.drop_eq_getElem_cons hl, ?_⟩
  unfold byteAt bytes at *
  rw [List.getD_eq_getElem?_getD, List.getElem?_eq_getElem hl]; rfl

theorem c_end (s : ByteArray) (a : Nat) (hs : s.size ≤ 9223372036854775807) (ha : a ≤ s.size) : GC Try.prog 48 [S s, I a, .sc (.func (.func 49) #[] #[])] [] (I ((a + runB isMo ((bytes s).drop a) : Nat) : Int)) [] := by
  refine GC_fn [] Try.func48 rfl rfl (by kernel_rfl) ?_
  (refine exeC_ok (f := 60) ?_; simp only [B0, B1, B2, Lm0, Lm1, Lm2, Lm3, Lm4, Lm5, Lm6, Lm7, Lm8, Lm9, Lm10, Lm11, Lm12, Lm13, Lm14, Lm15, Lm16, Lm17, Lm18, Lm19, Lm20, Lm21, Lm22, Lm23, Lm24, Lm25, Lm26, Lm27, Lm28, Lm29, Nat.reduceLT, Nat.reduceEqDiff, ↓reduceIte, reduceCtorEq, Nat.reduceAdd, ge_iff_le, gt_iff_lt, forall_const, Nat.reduceBEq, Nat.reduceBNe, Nat.reduceMul, Nat.reduceLeDiff, Nat.reduceSub, Int.reduceToNat, td_3, td_5, td_9])
  refine WC_loop (fun k : Nat => [(0, S s), (1, I k), (2, .sc (.func (.func 49) #[] #[]))]) (fun _ => []) (fun k => k ≤ s.size ∧ k + runB isMo ((bytes s).drop k) = a + runB isMo ((bytes s).drop a)) (fun k => s.size - k) a (Conv.less (by repeat (first | exact trivial | refine ⟨.refl _, ?_⟩)) trivial) ⟨ha, rfl⟩ ?_
  rintro k ⟨hk, hi⟩
  by_cases h : k < s.size
  · obtain ⟨c, hc, hb⟩ := byteAt_drop s k h
    have h1 : ((k : Int) < s.size) = True := by simp; exact h
    have hw' : IntKind.i64.wrap ((k : Int) + 1) = (k : Int) + 1 := wrap64 (by omega) (by omega)
    (refine exeC_ok (f := 60) ?_; simp only [B0, B1, B2, Lm0, Lm1, Lm2, Lm3, Lm4, Lm5, Lm6, Lm7, Lm8, Lm9, Lm10, Lm11, Lm12, Lm13, Lm14, Lm15, Lm16, Lm17, Lm18, Lm19, Lm20, Lm21, Lm22, Lm23, Lm24, Lm25, Lm26, Lm27, Lm28, Lm29, Nat.reduceLT, Nat.reduceEqDiff, ↓reduceIte, reduceCtorEq, Nat.reduceAdd, ge_iff_le, gt_iff_lt, forall_const, Nat.reduceBEq, Nat.reduceBNe, Nat.reduceMul, Nat.reduceLeDiff, Nat.reduceSub, Int.reduceToNat, td_3, td_5, td_9, h1, decide_true, true_implies])
    and_intros; all_goals (try (refine Side.mk ?_; first | first | omega | (intros; omega) | (simp; done) | (simp; omega) | (intro h; simp at h; omega) | (simp_all; done) | rfl | (and_intros <;> first | omega | (intros; omega) | (simp; done) | (simp; omega) | (intro h; simp at h; omega) | (simp_all; done) | rfl)))
    refine Run.callT rfl rfl rfl (by kernel_rfl) (c_more _) rfl rfl rfl ?_
    (refine Run.on ?_; simp only [B0, B1, B2, Lm0, Lm1, Lm2, Lm3, Lm4, Lm5, Lm6, Lm7, Lm8, Lm9, Lm10, Lm11, Lm12, Lm13, Lm14, Lm15, Lm16, Lm17, Lm18, Lm19, Lm20, Lm21, Lm22, Lm23, Lm24, Lm25, Lm26, Lm27, Lm28, Lm29, Nat.reduceLT, Nat.reduceEqDiff, ↓reduceIte, reduceCtorEq, Nat.reduceAdd, ge_iff_le, gt_iff_lt, forall_const, Nat.reduceBEq, Nat.reduceBNe, Nat.reduceMul, Nat.reduceLeDiff, Nat.reduceSub, Int.reduceToNat, td_3, td_5, td_9])
    and_intros; all_goals (try (refine Side.mk ?_; first | first | omega | (intros; omega) | (simp; done) | (simp; omega) | (intro h; simp at h; omega) | (simp_all; done) | rfl | (and_intros <;> first | omega | (intros; omega) | (simp; done) | (simp; omega) | (intro h; simp at h; omega) | (simp_all; done) | rfl)))
    · intro hx
      (refine exeC_ok (f := 60) ?_; simp only [B0, B1, B2, Lm0, Lm1, Lm2, Lm3, Lm4, Lm5, Lm6, Lm7, Lm8, Lm9, Lm10, Lm11, Lm12, Lm13, Lm14, Lm15, Lm16, Lm17, Lm18, Lm19, Lm20, Lm21, Lm22, Lm23, Lm24, Lm25, Lm26, Lm27, Lm28, Lm29, Nat.reduceLT, Nat.reduceEqDiff, ↓reduceIte, reduceCtorEq, Nat.reduceAdd, ge_iff_le, gt_iff_lt, forall_const, Nat.reduceBEq, Nat.reduceBNe, Nat.reduceMul, Nat.reduceLeDiff, Nat.reduceSub, Int.reduceToNat, td_3, td_5, td_9, hw'])
      refine ⟨k + 1, Conv.less (by repeat (first | exact trivial | refine ⟨.refl _, ?_⟩)) trivial, ⟨by omega, ?_⟩, by omega⟩
      rw [← hi, hc, runB, if_pos (by rw [← hb]; exact hx)]; omega
    · intro hx
      (refine exeC_ok (f := 60) ?_; simp only [B0, B1, B2, Lm0, Lm1, Lm2, Lm3, Lm4, Lm5, Lm6, Lm7, Lm8, Lm9, Lm10, Lm11, Lm12, Lm13, Lm14, Lm15, Lm16, Lm17, Lm18, Lm19, Lm20, Lm21, Lm22, Lm23, Lm24, Lm25, Lm26, Lm27, Lm28, Lm29, Nat.reduceLT, Nat.reduceEqDiff, ↓reduceIte, reduceCtorEq, Nat.reduceAdd, ge_iff_le, gt_iff_lt, forall_const, Nat.reduceBEq, Nat.reduceBNe, Nat.reduceMul, Nat.reduceLeDiff, Nat.reduceSub, Int.reduceToNat, td_3, td_5, td_9])
      refine RetV.p rfl trivial (rI ?_)
      rw [← hi, hc, runB, if_neg (by rw [← hb, hx]; simp)]; rfl
  · have h1 : ((k : Int) < s.size) = False := by simp; omega
    (refine exeC_ok (f := 60) ?_; simp only [B0, B1, B2, Lm0, Lm1, Lm2, Lm3, Lm4, Lm5, Lm6, Lm7, Lm8, Lm9, Lm10, Lm11, Lm12, Lm13, Lm14, Lm15, Lm16, Lm17, Lm18, Lm19, Lm20, Lm21, Lm22, Lm23, Lm24, Lm25, Lm26, Lm27, Lm28, Lm29, Nat.reduceLT, Nat.reduceEqDiff, ↓reduceIte, reduceCtorEq, Nat.reduceAdd, ge_iff_le, gt_iff_lt, forall_const, Nat.reduceBEq, Nat.reduceBNe, Nat.reduceMul, Nat.reduceLeDiff, Nat.reduceSub, Int.reduceToNat, td_3, td_5, td_9, h1, decide_false, Bool.false_eq_true, false_implies])
    refine Run.skipG (Bo false) rfl rfl ⟨_, rfl, fun b h => by cases h⟩ ?_
    (refine Run.on ?_; simp only [B0, B1, B2, Lm0, Lm1, Lm2, Lm3, Lm4, Lm5, Lm6, Lm7, Lm8, Lm9, Lm10, Lm11, Lm12, Lm13, Lm14, Lm15, Lm16, Lm17, Lm18, Lm19, Lm20, Lm21, Lm22, Lm23, Lm24, Lm25, Lm26, Lm27, Lm28, Lm29, Nat.reduceLT, Nat.reduceEqDiff, ↓reduceIte, reduceCtorEq, Nat.reduceAdd, ge_iff_le, gt_iff_lt, forall_const, Nat.reduceBEq, Nat.reduceBNe, Nat.reduceMul, Nat.reduceLeDiff, Nat.reduceSub, Int.reduceToNat, td_3, td_5, td_9, Bool.false_eq_true, false_implies])
    and_intros; all_goals (try (refine Side.mk ?_; first | first | omega | (intros; omega) | (simp; done) | (simp; omega) | (intro h; simp at h; omega) | (simp_all; done) | rfl | (and_intros <;> first | omega | (intros; omega) | (simp; done) | (simp; omega) | (intro h; simp at h; omega) | (simp_all; done) | rfl)))
    (refine exeC_ok (f := 60) ?_; simp only [B0, B1, B2, Lm0, Lm1, Lm2, Lm3, Lm4, Lm5, Lm6, Lm7, Lm8, Lm9, Lm10, Lm11, Lm12, Lm13, Lm14, Lm15, Lm16, Lm17, Lm18, Lm19, Lm20, Lm21, Lm22, Lm23, Lm24, Lm25, Lm26, Lm27, Lm28, Lm29, Nat.reduceLT, Nat.reduceEqDiff, ↓reduceIte, reduceCtorEq, Nat.reduceAdd, ge_iff_le, gt_iff_lt, forall_const, Nat.reduceBEq, Nat.reduceBNe, Nat.reduceMul, Nat.reduceLeDiff, Nat.reduceSub, Int.reduceToNat, td_3, td_5, td_9])
    refine RetV.p rfl trivial (rI ?_)
    rw [← hi, List.drop_eq_nil_of_le (by rw [bytes_length]; omega)]; rfl

def resv : List ByteArray := [⟨#[116, 114, 117, 101]⟩, ⟨#[102, 97, 108, 115, 101]⟩, ⟨#[112, 114, 101, 118]⟩, ⟨#[110, 101, 120, 116]⟩, ⟨#[111, 110, 99, 101]⟩, ⟨#[104, 105, 115, 116]⟩, ⟨#[115, 111, 109, 101]⟩, ⟨#[97, 108, 108]⟩, ⟨#[115, 105, 110, 99, 101]⟩, ⟨#[117, 110, 116, 105, 108]⟩, ⟨#[98, 97, 99, 107]⟩, ⟨#[102, 111, 114, 101]⟩]
def nameB (s : ByteArray) : Bool := !(decide (s = ByteArray.empty) || decide (16 < (s.size : Int)) || !isLo (byteAt s 0) || !decide (((0 + runB isMo ((bytes s).drop 0) : Nat) : Int) = s.size)) && !hasB s resv

theorem c_lexName (s : ByteArray) (hs : s.size ≤ 9223372036854775807) : GC Try.prog 41 [S s] [] (Bo (nameB s)) [] := by
  refine GC_fn [] Try.func41 rfl rfl (by kernel_rfl) ?_
  (refine exeC_ok (f := 60) ?_; simp only [B0, B1, B2, Lm0, Lm1, Lm2, Lm3, Lm4, Lm5, Lm6, Lm7, Lm8, Lm9, Lm10, Lm11, Lm12, Lm13, Lm14, Lm15, Lm16, Lm17, Lm18, Lm19, Lm20, Lm21, Lm22, Lm23, Lm24, Lm25, Lm26, Lm27, Lm28, Lm29, Nat.reduceLT, Nat.reduceEqDiff, ↓reduceIte, reduceCtorEq, Nat.reduceAdd, ge_iff_le, gt_iff_lt, forall_const, Nat.reduceBEq, Nat.reduceBNe, Nat.reduceMul, Nat.reduceLeDiff, Nat.reduceSub, Int.reduceToNat, td_3, td_4, td_5, td_9, td_24, td_89])
  and_intros; all_goals (try (refine Side.mk ?_; first | first | omega | (intros; omega) | (simp; done) | (simp; omega) | (intro h; simp at h; omega) | (simp_all; done) | rfl | (and_intros <;> first | omega | (intros; omega) | (simp; done) | (simp; omega) | (intro h; simp at h; omega) | (simp_all; done) | rfl)))
  · refine ⟨fun h => ?_⟩
    simp only [Bool.or_eq_false_iff, decide_eq_false_iff_not] at h
    have : s.size ≠ 0 := fun e => h.1 (by cases s with | mk d => have : d = #[] := Array.eq_empty_of_size_eq_zero e; rw [this])
    omega
  refine Run.callF rfl rfl rfl (by kernel_rfl) (by repeat (first | exact trivial | refine ⟨fun h => h, ?_⟩ | refine ⟨fun _ => rfl, ?_⟩ | refine ⟨fun h => (Bool.and_eq_true_iff.1 h).1, ?_⟩ | refine ⟨fun h => (Bool.and_eq_true_iff.1 h).2, ?_⟩ | refine ⟨fun h => by simpa [holdP, evalO, look] using h, ?_⟩)) (fun _ => c_letter _) rfl rfl rfl ?_
  (refine Run.on ?_; simp only [B0, B1, B2, Lm0, Lm1, Lm2, Lm3, Lm4, Lm5, Lm6, Lm7, Lm8, Lm9, Lm10, Lm11, Lm12, Lm13, Lm14, Lm15, Lm16, Lm17, Lm18, Lm19, Lm20, Lm21, Lm22, Lm23, Lm24, Lm25, Lm26, Lm27, Lm28, Lm29, Nat.reduceLT, Nat.reduceEqDiff, ↓reduceIte, reduceCtorEq, Nat.reduceAdd, ge_iff_le, gt_iff_lt, forall_const, Nat.reduceBEq, Nat.reduceBNe, Nat.reduceMul, Nat.reduceLeDiff, Nat.reduceSub, Int.reduceToNat, td_3, td_4, td_5, td_9, td_24, td_89])
  and_intros; all_goals (try (refine Side.mk ?_; first | first | omega | (intros; omega) | (simp; done) | (simp; omega) | (intro h; simp at h; omega) | (simp_all; done) | rfl | (and_intros <;> first | omega | (intros; omega) | (simp; done) | (simp; omega) | (intro h; simp at h; omega) | (simp_all; done) | rfl)))
  refine Run.callF rfl rfl rfl (by kernel_rfl) (by repeat (first | exact trivial | refine ⟨fun h => h, ?_⟩ | refine ⟨fun _ => rfl, ?_⟩ | refine ⟨fun h => (Bool.and_eq_true_iff.1 h).1, ?_⟩ | refine ⟨fun h => (Bool.and_eq_true_iff.1 h).2, ?_⟩ | refine ⟨fun h => by simpa [holdP, evalO, look] using h, ?_⟩)) (fun _ => c_end s 0 hs (Nat.zero_le _)) rfl rfl rfl ?_
  (refine Run.on ?_; simp only [B0, B1, B2, Lm0, Lm1, Lm2, Lm3, Lm4, Lm5, Lm6, Lm7, Lm8, Lm9, Lm10, Lm11, Lm12, Lm13, Lm14, Lm15, Lm16, Lm17, Lm18, Lm19, Lm20, Lm21, Lm22, Lm23, Lm24, Lm25, Lm26, Lm27, Lm28, Lm29, Nat.reduceLT, Nat.reduceEqDiff, ↓reduceIte, reduceCtorEq, Nat.reduceAdd, ge_iff_le, gt_iff_lt, forall_const, Nat.reduceBEq, Nat.reduceBNe, Nat.reduceMul, Nat.reduceLeDiff, Nat.reduceSub, Int.reduceToNat, td_3, td_4, td_5, td_9, td_24, td_89])
  and_intros; all_goals (try (refine Side.mk ?_; first | first | omega | (intros; omega) | (simp; done) | (simp; omega) | (intro h; simp at h; omega) | (simp_all; done) | rfl | (and_intros <;> first | omega | (intros; omega) | (simp; done) | (simp; omega) | (intro h; simp at h; omega) | (simp_all; done) | rfl)))
  · intro h
    (refine exeC_ok (f := 60) ?_; simp only [B0, B1, B2, Lm0, Lm1, Lm2, Lm3, Lm4, Lm5, Lm6, Lm7, Lm8, Lm9, Lm10, Lm11, Lm12, Lm13, Lm14, Lm15, Lm16, Lm17, Lm18, Lm19, Lm20, Lm21, Lm22, Lm23, Lm24, Lm25, Lm26, Lm27, Lm28, Lm29, Nat.reduceLT, Nat.reduceEqDiff, ↓reduceIte, reduceCtorEq, Nat.reduceAdd, ge_iff_le, gt_iff_lt, forall_const, Nat.reduceBEq, Nat.reduceBNe, Nat.reduceMul, Nat.reduceLeDiff, Nat.reduceSub, Int.reduceToNat, td_3, td_4, td_5, td_9, td_24, td_89])
    refine RetV.p rfl trivial (rB ?_)
    have : nameB s = (!(decide (s = ByteArray.empty) || decide (16 < (s.size : Int)) || !isLo (byteAt s 0) || !decide (((runB isMo (bytes s) : Nat) : Int) = s.size)) && !hasB s resv) := by
      unfold nameB; simp only [Nat.zero_add, List.drop_zero]
    rw [this]; clear this
    show false = (!(_) && _)
    rw [show (decide (s = ByteArray.empty) || decide (16 < (s.size : Int)) || !isLo (byteAt s 0) || !decide (((runB isMo (bytes s) : Nat) : Int) = s.size)) = true from h]; rfl
  · intro h
    (refine exeC_ok (f := 60) ?_; simp only [B0, B1, B2, Lm0, Lm1, Lm2, Lm3, Lm4, Lm5, Lm6, Lm7, Lm8, Lm9, Lm10, Lm11, Lm12, Lm13, Lm14, Lm15, Lm16, Lm17, Lm18, Lm19, Lm20, Lm21, Lm22, Lm23, Lm24, Lm25, Lm26, Lm27, Lm28, Lm29, Nat.reduceLT, Nat.reduceEqDiff, ↓reduceIte, reduceCtorEq, Nat.reduceAdd, ge_iff_le, gt_iff_lt, forall_const, Nat.reduceBEq, Nat.reduceBNe, Nat.reduceMul, Nat.reduceLeDiff, Nat.reduceSub, Int.reduceToNat, td_3, td_4, td_5, td_9, td_24, td_89])
    and_intros; all_goals (try (refine Side.mk ?_; first | first | omega | (intros; omega) | (simp; done) | (simp; omega) | (intro h; simp at h; omega) | (simp_all; done) | rfl | (and_intros <;> first | omega | (intros; omega) | (simp; done) | (simp; omega) | (intro h; simp at h; omega) | (simp_all; done) | rfl)))
    refine Run.callL rfl rfl (by kernel_rfl) ((c_inS resv s (by decide)).more (LeL.cons (LeP.im _ _ _) (LeL.cons (.refl _) .nil))) rfl rfl rfl ?_
    (refine Run.on ?_; simp only [B0, B1, B2, Lm0, Lm1, Lm2, Lm3, Lm4, Lm5, Lm6, Lm7, Lm8, Lm9, Lm10, Lm11, Lm12, Lm13, Lm14, Lm15, Lm16, Lm17, Lm18, Lm19, Lm20, Lm21, Lm22, Lm23, Lm24, Lm25, Lm26, Lm27, Lm28, Lm29, Nat.reduceLT, Nat.reduceEqDiff, ↓reduceIte, reduceCtorEq, Nat.reduceAdd, ge_iff_le, gt_iff_lt, forall_const, Nat.reduceBEq, Nat.reduceBNe, Nat.reduceMul, Nat.reduceLeDiff, Nat.reduceSub, Int.reduceToNat, td_3, td_4, td_5, td_9, td_24, td_89])
    refine RetV.p rfl trivial (rB ?_)
    have : nameB s = (!(decide (s = ByteArray.empty) || decide (16 < (s.size : Int)) || !isLo (byteAt s 0) || !decide (((runB isMo (bytes s) : Nat) : Int) = s.size)) && !hasB s resv) := by
      unfold nameB; simp only [Nat.zero_add, List.drop_zero]
    rw [this, show (decide (s = ByteArray.empty) || decide (16 < (s.size : Int)) || !isLo (byteAt s 0) || !decide (((runB isMo (bytes s) : Nat) : Int) = s.size)) = false from h]; rfl
end Go.Proofs.Ytbbjmfkmjjinnaa.V
