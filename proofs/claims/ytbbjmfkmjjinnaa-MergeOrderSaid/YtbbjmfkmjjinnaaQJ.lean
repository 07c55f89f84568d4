/- Contracts of all names of some traces. No law of the program is proved here. -/
import Derived.Test.YtbbjmfkmjjinnaaQI
set_option linter.all false
namespace Go.Proofs.Ytbbjmfkmjjinnaa.V
open Go Go.Proofs

def addName (out : List ByteArray) (s : ByteArray) : List ByteArray := if ixOf s out 0 < 0 then out ++ [s] else out
def nameNo (out : List ByteArray) (s : ByteArray) : Int := if ixOf s out 0 < 0 then (out.length : Int) else ixOf s out 0
def rowN : List ByteArray → List ByteArray → List ByteArray × List Int
  | out, [] => (out, [])
  | out, s :: t => ((rowN (addName out s) t).1, nameNo out s :: (rowN (addName out s) t).2)
def allN : List ByteArray → List Tr → List ByteArray × List (List Int)
  | out, [] => (out, [])
  | out, t :: l => ((allN (rowN out t.names).1 l).1, (rowN out t.names).2 :: (allN (rowN out t.names).1 l).2)
def sumN (l : List Tr) : Nat := (l.map fun t => t.names.length).sum
theorem addName_le (out : List ByteArray) (s : ByteArray) : (addName out s).length ≤ out.length + 1 := by unfold addName; split <;> simp
theorem rowN_len : ∀ (out t : List ByteArray), (rowN out t).2.length = t.length ∧ (rowN out t).1.length ≤ out.length + t.length
  | out, [] => ⟨rfl, Nat.le_refl _⟩
  | out, s :: t => by
    have := rowN_len (addName out s) t
    have := addName_le out s
    simp only [rowN, List.length_cons]; omega
theorem drop_tr (l : List Tr) (k : Nat) (h : k < l.length) : (l.flatMap trC).drop (k * 2) = strsP (l.getD k default).names :: evsP (l.getD k default).evs :: (l.drop (k + 1)).flatMap trC := drop_flat trC 2 (fun _ => rfl) l k h
theorem lT (l : List Tr) : (l.flatMap trC).length = l.length * 2 := length_flat trC 2 (fun _ => rfl) l

theorem LeP.oslN {σ : Nat → Option Nat} {i j n m : Nat} (h : σ i = some j) (e : n = m) (hp : 0 < n) : LeP (V.ren σ (.id i n)) (V.osl j m) := by
  subst e
  rw [osl_pos hp]
  exact .of_eq (by simp [ren, h])

theorem frz_oob (i sz : Nat) (cs : List PV) (ty : TypeId) (sz' : Nat) (cells : List PV) : Option.map (GObj.frz i sz cs) (oob ty sz' cells) = oob ty sz' (frzL i sz cs cells) := by
  cases cells with
  | nil => rfl
  | cons c l => rfl

theorem c_names (l : List Tr) (hl : l.length ≤ 1000000) (hs : sumN l ≤ 1000000) (hok : ∀ t, t ∈ l → t.Ok) : GC Try.prog 18 [trsP l] [] (.tu [strsP (allN [] l).1, .im false l.length ((allN [] l).2.map intsP)]) [] := by
  refine GC_fn [] Try.func18 rfl rfl (by kernel_rfl) ?_
  (refine exeC_ok (f := 60) ?_; simp only [B0, B1, B2, Lm0, Lm1, Lm2, Lm3, Lm4, Lm5, Lm6, Lm7, Lm8, Lm9, Lm10, Lm11, Lm12, Lm13, Lm14, Lm15, Lm16, Lm17, Lm18, Lm19, Lm20, Lm21, Lm22, Lm23, Lm24, Lm25, Lm26, Lm27, Lm28, Lm29, Nat.reduceLT, Nat.reduceEqDiff, ↓reduceIte, reduceCtorEq, Nat.reduceAdd, ge_iff_le, gt_iff_lt, forall_const, Nat.reduceBEq, Nat.reduceBNe, Nat.reduceMul, Nat.reduceLeDiff, Nat.reduceSub, Int.reduceToNat, td_3, td_9, td_22, td_24, td_25, td_27, td_28, td_29, td_31, td_56, trsP])
  and_intros; all_goals (try (refine Side.mk ?_; first | first | omega | (intros; omega) | (simp; done) | (simp; omega) | (intro h; simp at h; omega) | (simp_all; done) | rfl | (and_intros <;> first | omega | (intros; omega) | (simp; done) | (simp; omega) | (intro h; simp at h; omega) | (simp_all; done) | rfl)))
  refine WC_loop (fun s : Nat × List ByteArray × List (List Int) => [(0, trsP l), (4, osl 0 s.2.1.length), (5, .id 1 l.length), (14, trsP l), (15, I l.length), (16, I s.1)])
    (fun s => [oob 9 1 (s.2.1.map S), some ⟨29, true, 1, s.2.2.map intsP ++ List.replicate (l.length - s.1) (.sc (.slice none 0 0))⟩])
    (fun s => s.1 ≤ l.length ∧ s.2.2.length = s.1 ∧ s.2.1.length + sumN (l.drop s.1) ≤ 1000000 ∧ (allN s.2.1 (l.drop s.1)).1 = (allN [] l).1 ∧ s.2.2 ++ (allN s.2.1 (l.drop s.1)).2 = (allN [] l).2) (fun s => l.length - s.1) (0, [], []) ?_ ⟨Nat.zero_le _, rfl, by simpa using hs, rfl, rfl⟩ ?_
  · exact Conv.to [1, 0] (nodupB_ok rfl) rfl (by repeat (first | exact trivial | refine ⟨.refl _, ?_⟩ | refine ⟨LeP.osl rfl, ?_⟩ | refine ⟨LeP.oslN rfl (by simp) (by omega), ?_⟩)) ⟨trivial, LeO.ob (zR _ _) rfl, trivial⟩
  rintro ⟨i, out, rows⟩ ⟨a1, a2, a3, a4, a5⟩
  simp only at a1 a2 a3 a4 a5
  (refine exeC_ok (f := 60) ?_; simp only [B0, B1, B2, Lm0, Lm1, Lm2, Lm3, Lm4, Lm5, Lm6, Lm7, Lm8, Lm9, Lm10, Lm11, Lm12, Lm13, Lm14, Lm15, Lm16, Lm17, Lm18, Lm19, Lm20, Lm21, Lm22, Lm23, Lm24, Lm25, Lm26, Lm27, Lm28, Lm29, Nat.reduceLT, Nat.reduceEqDiff, ↓reduceIte, reduceCtorEq, Nat.reduceAdd, ge_iff_le, gt_iff_lt, forall_const, Nat.reduceBEq, Nat.reduceBNe, Nat.reduceMul, Nat.reduceLeDiff, Nat.reduceSub, Int.reduceToNat, td_3, td_9, td_22, td_24, td_25, td_27, td_28, td_29, td_31, td_56, trsP])
  refine ⟨fun h1 => ?_, fun h1 => ?_⟩
  · have hi' : i < l.length := by omega
    have hx := drop_tr l i hi'
    have hT := hok _ (getD_mem hi')
    obtain ⟨⟨ns, es⟩, hne⟩ : ∃ t, l.getD i default = t := ⟨_, rfl⟩
    rw [hne] at hT hx
    obtain ⟨g1, g2, -, -⟩ := hT
    simp only at g1 g2
    have hw' : IntKind.i64.wrap ((i : Int) + 1) = (i : Int) + 1 := wrap64 (by omega) (by omega)
    have hsum : sumN (l.drop i) = ns.length + sumN (l.drop (i + 1)) := by rw [drop_cons l i hi', hne]; simp [sumN]
    have hrep : List.replicate (l.length - i) (PV.sc (.slice none 0 0)) = PV.sc (.slice none 0 0) :: List.replicate (l.length - (i + 1)) (PV.sc (.slice none 0 0)) := by rw [show l.length - i = (l.length - (i + 1)) + 1 by omega, List.replicate_succ]
    have hall : allN out (l.drop i) = ((allN (rowN out ns).1 (l.drop (i + 1))).1, (rowN out ns).2 :: (allN (rowN out ns).1 (l.drop (i + 1))).2) := by rw [drop_cons l i hi', hne]; rfl
    (refine exeC_ok (f := 60) ?_; simp only [B0, B1, B2, Lm0, Lm1, Lm2, Lm3, Lm4, Lm5, Lm6, Lm7, Lm8, Lm9, Lm10, Lm11, Lm12, Lm13, Lm14, Lm15, Lm16, Lm17, Lm18, Lm19, Lm20, Lm21, Lm22, Lm23, Lm24, Lm25, Lm26, Lm27, Lm28, Lm29, Nat.reduceLT, Nat.reduceEqDiff, ↓reduceIte, reduceCtorEq, Nat.reduceAdd, ge_iff_le, gt_iff_lt, forall_const, Nat.reduceBEq, Nat.reduceBNe, Nat.reduceMul, Nat.reduceLeDiff, Nat.reduceSub, Int.reduceToNat, td_3, td_9, td_22, td_24, td_25, td_27, td_28, td_29, td_31, td_56, trsP, hx, lT, strsP, evsP, hrep])
    and_intros; all_goals (try (refine Side.mk ?_; first | first | omega | (intros; omega) | (simp; done) | (simp; omega) | (intro h; simp at h; omega) | (simp_all; done) | rfl | (and_intros <;> first | omega | (intros; omega) | (simp; done) | (simp; omega) | (intro h; simp at h; omega) | (simp_all; done) | rfl)))
    refine WC_loop (fun s : Nat × List ByteArray × List Int => [(0, trsP l), (4, osl 0 s.2.1.length), (5, .id 1 l.length), (14, trsP l), (15, I l.length), (16, I i), (6, I i), (7, .ad 2 0), (22, strsP ns), (23, I ns.length), (24, I s.1)])
      (fun s => [oob 9 1 (s.2.1.map S), some ⟨29, true, 1, rows.map intsP ++ osl 3 s.1 :: List.replicate (l.length - (i + 1)) (.sc (.slice none 0 0))⟩, some ⟨27, false, 1, [strsP ns, evsP es]⟩, oob 3 1 (s.2.2.map I)])
      (fun s => s.1 ≤ ns.length ∧ s.2.2.length = s.1 ∧ s.2.1.length ≤ out.length + s.1 ∧ (rowN s.2.1 (ns.drop s.1)).1 = (rowN out ns).1 ∧ s.2.2 ++ (rowN s.2.1 (ns.drop s.1)).2 = (rowN out ns).2) (fun s => ns.length - s.1) (0, out, []) ?_ ⟨Nat.zero_le _, rfl, Nat.le_refl _, rfl, rfl⟩ ?_
    · exact Conv.to [0, 1, 2, 3] (nodupB_ok rfl) rfl (by repeat (first | exact trivial | refine ⟨.refl _, ?_⟩ | refine ⟨LeP.osl rfl, ?_⟩ | refine ⟨LeP.oslN rfl (by simp) (by omega), ?_⟩)) ⟨LeO.oo (zS _), LeO.mid (zP _) (zR _ _) (.refl _), LeO.refl _, trivial, trivial⟩
    rintro ⟨k, o, row⟩ ⟨b1, b2, b3, b4, b5⟩
    simp only at b1 b2 b3 b4 b5
    have hR : (rows.map intsP).length = i := by simp [a2]
    have hmid : ∀ x, (rows.map intsP ++ x :: List.replicate (l.length - (i + 1)) (PV.sc (.slice none 0 0))).getD i .dead = x := fun x => getD_mid hR
    have hov : ∀ x y, over (rows.map intsP ++ x :: List.replicate (l.length - (i + 1)) (PV.sc (.slice none 0 0))) i [y] = rows.map intsP ++ y :: List.replicate (l.length - (i + 1)) (PV.sc (.slice none 0 0)) := fun x y => over_mid hR
    have hrt : (row.map I).take k = row.map I := List.take_of_length_le (by simp; omega)
    (refine exeC_ok (f := 60) ?_; simp only [B0, B1, B2, Lm0, Lm1, Lm2, Lm3, Lm4, Lm5, Lm6, Lm7, Lm8, Lm9, Lm10, Lm11, Lm12, Lm13, Lm14, Lm15, Lm16, Lm17, Lm18, Lm19, Lm20, Lm21, Lm22, Lm23, Lm24, Lm25, Lm26, Lm27, Lm28, Lm29, Nat.reduceLT, Nat.reduceEqDiff, ↓reduceIte, reduceCtorEq, Nat.reduceAdd, ge_iff_le, gt_iff_lt, forall_const, Nat.reduceBEq, Nat.reduceBNe, Nat.reduceMul, Nat.reduceLeDiff, Nat.reduceSub, Int.reduceToNat, td_3, td_9, td_22, td_24, td_25, td_27, td_28, td_29, td_31, td_56, trsP, strsP])
    refine ⟨fun h2 => ?_, fun h2 => ?_⟩
    · have hk' : k < ns.length := by omega
      have hy := drop_map S default ns k hk'
      have hw2 : IntKind.i64.wrap ((k : Int) + 1) = (k : Int) + 1 := wrap64 (by omega) (by omega)
      obtain ⟨s, hse⟩ : ∃ s, ns.getD k default = s := ⟨_, rfl⟩
      rw [hse] at hy
      have hrow : rowN o (ns.drop k) = ((rowN (addName o s) (ns.drop (k + 1))).1, nameNo o s :: (rowN (addName o s) (ns.drop (k + 1))).2) := by rw [drop_cons ns k hk', hse]; rfl
      rcases osl_cases 3 k 3 1 (row.map I) (by simp; omega) (by omega) with ⟨hr, hrr, hr0, hrn⟩ | ⟨hr, hrr, hr0⟩
      · rcases osl_cases 0 o.length 9 1 (o.map S) (by simp) (by omega) with ⟨ho, hoo, ho0, hon⟩ | ⟨ho, hoo, ho0⟩
        · have ho' : o = [] := List.eq_nil_of_length_eq_zero ho0
          have hix : ixOf s o 0 < 0 := by rw [ho', ixOf]; decide
          (refine exeC_ok (f := 60) ?_; simp only [B0, B1, B2, Lm0, Lm1, Lm2, Lm3, Lm4, Lm5, Lm6, Lm7, Lm8, Lm9, Lm10, Lm11, Lm12, Lm13, Lm14, Lm15, Lm16, Lm17, Lm18, Lm19, Lm20, Lm21, Lm22, Lm23, Lm24, Lm25, Lm26, Lm27, Lm28, Lm29, Nat.reduceLT, Nat.reduceEqDiff, ↓reduceIte, reduceCtorEq, Nat.reduceAdd, ge_iff_le, gt_iff_lt, forall_const, Nat.reduceBEq, Nat.reduceBNe, Nat.reduceMul, Nat.reduceLeDiff, Nat.reduceSub, Int.reduceToNat, td_3, td_9, td_22, td_24, td_25, td_27, td_28, td_29, td_31, td_56, trsP, strsP, hy, ho, hoo, hr, hrr])
          and_intros; all_goals (try (refine Side.mk ?_; first | first | omega | (intros; omega) | (simp; done) | (simp; omega) | (intro h; simp at h; omega) | (simp_all; done) | rfl | (and_intros <;> first | omega | (intros; omega) | (simp; done) | (simp; omega) | (intro h; simp at h; omega) | (simp_all; done) | rfl)))
          refine Run.callP rfl rfl (by kernel_rfl) ((c_ixS o s (by omega)).more (LeL.cons (LeP.nil' ho0 hon) (LeL.cons (.refl _) .nil))) rfl rfl rfl ?_
          (refine Run.on ?_; simp only [B0, B1, B2, Lm0, Lm1, Lm2, Lm3, Lm4, Lm5, Lm6, Lm7, Lm8, Lm9, Lm10, Lm11, Lm12, Lm13, Lm14, Lm15, Lm16, Lm17, Lm18, Lm19, Lm20, Lm21, Lm22, Lm23, Lm24, Lm25, Lm26, Lm27, Lm28, Lm29, Nat.reduceLT, Nat.reduceEqDiff, ↓reduceIte, reduceCtorEq, Nat.reduceAdd, ge_iff_le, gt_iff_lt, forall_const, Nat.reduceBEq, Nat.reduceBNe, Nat.reduceMul, Nat.reduceLeDiff, Nat.reduceSub, Int.reduceToNat, td_3, td_9, td_22, td_24, td_25, td_27, td_28, td_29, td_31, td_56, ho0])
          refine ⟨fun h3 => ?_, fun h3 => absurd hix h3⟩
          · have hadd : addName o s = o ++ [s] := if_pos h3
            have hno : nameNo o s = (o.length : Int) := if_pos h3
            (refine exeC_ok (f := 60) ?_; simp only [B0, B1, B2, Lm0, Lm1, Lm2, Lm3, Lm4, Lm5, Lm6, Lm7, Lm8, Lm9, Lm10, Lm11, Lm12, Lm13, Lm14, Lm15, Lm16, Lm17, Lm18, Lm19, Lm20, Lm21, Lm22, Lm23, Lm24, Lm25, Lm26, Lm27, Lm28, Lm29, Nat.reduceLT, Nat.reduceEqDiff, ↓reduceIte, reduceCtorEq, Nat.reduceAdd, ge_iff_le, gt_iff_lt, forall_const, Nat.reduceBEq, Nat.reduceBNe, Nat.reduceMul, Nat.reduceLeDiff, Nat.reduceSub, Int.reduceToNat, td_3, td_9, td_22, td_24, td_25, td_27, td_28, td_29, td_31, td_56, hmid, hov, hrt, hw2])
            and_intros; all_goals (try (refine Side.mk ?_; first | first | omega | (intros; omega) | (simp; done) | (simp; omega) | (intro h; simp at h; omega) | (simp_all; done) | rfl | (and_intros <;> first | omega | (intros; omega) | (simp; done) | (simp; omega) | (intro h; simp at h; omega) | (simp_all; done) | rfl)))
            refine ⟨(k + 1, o ++ [s], row ++ [(o.length : Int)]), ?_, ⟨by simp; omega, by simp; omega, by simp; omega, ?_, ?_⟩, by simp; omega⟩
            · obtain rfl : row = [] := (by simpa using hrn); subst ho' hr0
              exact Conv.to [5, 1, 2, 7] (nodupB_ok rfl) rfl (by repeat (first | exact trivial | refine ⟨.refl _, ?_⟩ | refine ⟨LeP.osl rfl, ?_⟩ | refine ⟨LeP.oslN rfl (by simp) (by omega), ?_⟩)) ⟨LeO.app rfl (by first | rfl | simp [S, I]) (by simp), LeO.mid (zP _) (zR _ _) (.refl _), LeO.refl _, LeO.app rfl (by first | rfl | simp [S, I]) (by simp), trivial⟩
            · rw [← b4, hrow, hadd]
            · rw [← b5, hrow, hadd, hno]; simp
        · (refine exeC_ok (f := 60) ?_; simp only [B0, B1, B2, Lm0, Lm1, Lm2, Lm3, Lm4, Lm5, Lm6, Lm7, Lm8, Lm9, Lm10, Lm11, Lm12, Lm13, Lm14, Lm15, Lm16, Lm17, Lm18, Lm19, Lm20, Lm21, Lm22, Lm23, Lm24, Lm25, Lm26, Lm27, Lm28, Lm29, Nat.reduceLT, Nat.reduceEqDiff, ↓reduceIte, reduceCtorEq, Nat.reduceAdd, ge_iff_le, gt_iff_lt, forall_const, Nat.reduceBEq, Nat.reduceBNe, Nat.reduceMul, Nat.reduceLeDiff, Nat.reduceSub, Int.reduceToNat, td_3, td_9, td_22, td_24, td_25, td_27, td_28, td_29, td_31, td_56, trsP, strsP, hy, ho, hoo, hr, hrr])
          and_intros; all_goals (try (refine Side.mk ?_; first | first | omega | (intros; omega) | (simp; done) | (simp; omega) | (intro h; simp at h; omega) | (simp_all; done) | rfl | (and_intros <;> first | omega | (intros; omega) | (simp; done) | (simp; omega) | (intro h; simp at h; omega) | (simp_all; done) | rfl)))
          refine Run.callL rfl rfl (by kernel_rfl) ((c_ixS o s (by omega)).more (LeL.cons (LeP.im true _ _) (LeL.cons (.refl _) .nil))) (by first | rfl | (simp only [B0, B1, B2, Lm0, Lm1, Lm2, Lm3, Lm4, Lm5, Lm6, Lm7, Lm8, Lm9, Lm10, Lm11, Lm12, Lm13, Lm14, Lm15, Lm16, Lm17, Lm18, Lm19, Lm20, Lm21, Lm22, Lm23, Lm24, Lm25, Lm26, Lm27, Lm28, Lm29, Nat.reduceLT, Nat.reduceEqDiff, ↓reduceIte, reduceCtorEq, Nat.reduceAdd, ge_iff_le, gt_iff_lt, forall_const, Nat.reduceBEq, Nat.reduceBNe, Nat.reduceMul, Nat.reduceLeDiff, Nat.reduceSub, Int.reduceToNat, BO, frz_oob]; done) | (simp only [B0, B1, B2, Lm0, Lm1, Lm2, Lm3, Lm4, Lm5, Lm6, Lm7, Lm8, Lm9, Lm10, Lm11, Lm12, Lm13, Lm14, Lm15, Lm16, Lm17, Lm18, Lm19, Lm20, Lm21, Lm22, Lm23, Lm24, Lm25, Lm26, Lm27, Lm28, Lm29, Nat.reduceLT, Nat.reduceEqDiff, ↓reduceIte, reduceCtorEq, Nat.reduceAdd, ge_iff_le, gt_iff_lt, forall_const, Nat.reduceBEq, Nat.reduceBNe, Nat.reduceMul, Nat.reduceLeDiff, Nat.reduceSub, Int.reduceToNat, BO, frz_oob]; rfl)) rfl rfl ?_
          (refine Run.on ?_; simp only [B0, B1, B2, Lm0, Lm1, Lm2, Lm3, Lm4, Lm5, Lm6, Lm7, Lm8, Lm9, Lm10, Lm11, Lm12, Lm13, Lm14, Lm15, Lm16, Lm17, Lm18, Lm19, Lm20, Lm21, Lm22, Lm23, Lm24, Lm25, Lm26, Lm27, Lm28, Lm29, Nat.reduceLT, Nat.reduceEqDiff, ↓reduceIte, reduceCtorEq, Nat.reduceAdd, ge_iff_le, gt_iff_lt, forall_const, Nat.reduceBEq, Nat.reduceBNe, Nat.reduceMul, Nat.reduceLeDiff, Nat.reduceSub, Int.reduceToNat, td_3, td_9, td_22, td_24, td_25, td_27, td_28, td_29, td_31, td_56])
          refine ⟨fun h3 => ?_, fun h3 => ?_⟩
          · have hadd : addName o s = o ++ [s] := if_pos h3
            have hno : nameNo o s = (o.length : Int) := if_pos h3
            (refine exeC_ok (f := 60) ?_; simp only [B0, B1, B2, Lm0, Lm1, Lm2, Lm3, Lm4, Lm5, Lm6, Lm7, Lm8, Lm9, Lm10, Lm11, Lm12, Lm13, Lm14, Lm15, Lm16, Lm17, Lm18, Lm19, Lm20, Lm21, Lm22, Lm23, Lm24, Lm25, Lm26, Lm27, Lm28, Lm29, Nat.reduceLT, Nat.reduceEqDiff, ↓reduceIte, reduceCtorEq, Nat.reduceAdd, ge_iff_le, gt_iff_lt, forall_const, Nat.reduceBEq, Nat.reduceBNe, Nat.reduceMul, Nat.reduceLeDiff, Nat.reduceSub, Int.reduceToNat, td_3, td_9, td_22, td_24, td_25, td_27, td_28, td_29, td_31, td_56, hmid, hov, hrt, hw2])
            and_intros; all_goals (try (refine Side.mk ?_; first | first | omega | (intros; omega) | (simp; done) | (simp; omega) | (intro h; simp at h; omega) | (simp_all; done) | rfl | (and_intros <;> first | omega | (intros; omega) | (simp; done) | (simp; omega) | (intro h; simp at h; omega) | (simp_all; done) | rfl)))
            refine ⟨(k + 1, o ++ [s], row ++ [(o.length : Int)]), ?_, ⟨by simp; omega, by simp; omega, by simp; omega, ?_, ?_⟩, by simp; omega⟩
            · obtain rfl : row = [] := (by simpa using hrn); subst hr0
              exact Conv.to [5, 1, 2, 7] (nodupB_ok rfl) rfl (by repeat (first | exact trivial | refine ⟨.refl _, ?_⟩ | refine ⟨LeP.osl rfl, ?_⟩ | refine ⟨LeP.oslN rfl (by simp) (by omega), ?_⟩)) ⟨LeO.app (zLB_append (zS _) rfl) (by first | rfl | simp [S, I]) (by simp), LeO.mid (zP _) (zR _ _) (.refl _), LeO.refl _, LeO.app rfl (by first | rfl | simp [S, I]) (by simp), trivial⟩
            · rw [← b4, hrow, hadd]
            · rw [← b5, hrow, hadd, hno]; simp
          · have hadd : addName o s = o := if_neg h3
            have hno : nameNo o s = ixOf s o 0 := if_neg h3
            (refine exeC_ok (f := 60) ?_; simp only [B0, B1, B2, Lm0, Lm1, Lm2, Lm3, Lm4, Lm5, Lm6, Lm7, Lm8, Lm9, Lm10, Lm11, Lm12, Lm13, Lm14, Lm15, Lm16, Lm17, Lm18, Lm19, Lm20, Lm21, Lm22, Lm23, Lm24, Lm25, Lm26, Lm27, Lm28, Lm29, Nat.reduceLT, Nat.reduceEqDiff, ↓reduceIte, reduceCtorEq, Nat.reduceAdd, ge_iff_le, gt_iff_lt, forall_const, Nat.reduceBEq, Nat.reduceBNe, Nat.reduceMul, Nat.reduceLeDiff, Nat.reduceSub, Int.reduceToNat, td_3, td_9, td_22, td_24, td_25, td_27, td_28, td_29, td_31, td_56, hmid, hov, hrt, hw2])
            and_intros; all_goals (try (refine Side.mk ?_; first | first | omega | (intros; omega) | (simp; done) | (simp; omega) | (intro h; simp at h; omega) | (simp_all; done) | rfl | (and_intros <;> first | omega | (intros; omega) | (simp; done) | (simp; omega) | (intro h; simp at h; omega) | (simp_all; done) | rfl)))
            refine ⟨(k + 1, o, row ++ [ixOf s o 0]), ?_, ⟨by simp; omega, by simp; omega, by simp; omega, ?_, ?_⟩, by simp; omega⟩
            · obtain rfl : row = [] := (by simpa using hrn); subst hr0
              exact Conv.to [0, 1, 2, 5] (nodupB_ok rfl) rfl (by repeat (first | exact trivial | refine ⟨.refl _, ?_⟩ | refine ⟨LeP.osl rfl, ?_⟩ | refine ⟨LeP.oslN rfl (by simp) (by omega), ?_⟩)) ⟨LeO.app (zS _) rfl (by simp; omega), LeO.mid (zP _) (zR _ _) (.refl _), LeO.refl _, LeO.app rfl (by first | rfl | simp [S, I]) (by simp), trivial⟩
            · rw [← b4, hrow, hadd]
            · rw [← b5, hrow, hadd, hno]; simp
      · rcases osl_cases 0 o.length 9 1 (o.map S) (by simp) (by omega) with ⟨ho, hoo, ho0, hon⟩ | ⟨ho, hoo, ho0⟩
        · have ho' : o = [] := List.eq_nil_of_length_eq_zero ho0
          have hix : ixOf s o 0 < 0 := by rw [ho', ixOf]; decide
          (refine exeC_ok (f := 60) ?_; simp only [B0, B1, B2, Lm0, Lm1, Lm2, Lm3, Lm4, Lm5, Lm6, Lm7, Lm8, Lm9, Lm10, Lm11, Lm12, Lm13, Lm14, Lm15, Lm16, Lm17, Lm18, Lm19, Lm20, Lm21, Lm22, Lm23, Lm24, Lm25, Lm26, Lm27, Lm28, Lm29, Nat.reduceLT, Nat.reduceEqDiff, ↓reduceIte, reduceCtorEq, Nat.reduceAdd, ge_iff_le, gt_iff_lt, forall_const, Nat.reduceBEq, Nat.reduceBNe, Nat.reduceMul, Nat.reduceLeDiff, Nat.reduceSub, Int.reduceToNat, td_3, td_9, td_22, td_24, td_25, td_27, td_28, td_29, td_31, td_56, trsP, strsP, hy, ho, hoo, hr, hrr])
          and_intros; all_goals (try (refine Side.mk ?_; first | first | omega | (intros; omega) | (simp; done) | (simp; omega) | (intro h; simp at h; omega) | (simp_all; done) | rfl | (and_intros <;> first | omega | (intros; omega) | (simp; done) | (simp; omega) | (intro h; simp at h; omega) | (simp_all; done) | rfl)))
          refine Run.callP rfl rfl (by kernel_rfl) ((c_ixS o s (by omega)).more (LeL.cons (LeP.nil' ho0 hon) (LeL.cons (.refl _) .nil))) rfl rfl rfl ?_
          (refine Run.on ?_; simp only [B0, B1, B2, Lm0, Lm1, Lm2, Lm3, Lm4, Lm5, Lm6, Lm7, Lm8, Lm9, Lm10, Lm11, Lm12, Lm13, Lm14, Lm15, Lm16, Lm17, Lm18, Lm19, Lm20, Lm21, Lm22, Lm23, Lm24, Lm25, Lm26, Lm27, Lm28, Lm29, Nat.reduceLT, Nat.reduceEqDiff, ↓reduceIte, reduceCtorEq, Nat.reduceAdd, ge_iff_le, gt_iff_lt, forall_const, Nat.reduceBEq, Nat.reduceBNe, Nat.reduceMul, Nat.reduceLeDiff, Nat.reduceSub, Int.reduceToNat, td_3, td_9, td_22, td_24, td_25, td_27, td_28, td_29, td_31, td_56, ho0])
          refine ⟨fun h3 => ?_, fun h3 => absurd hix h3⟩
          · have hadd : addName o s = o ++ [s] := if_pos h3
            have hno : nameNo o s = (o.length : Int) := if_pos h3
            (refine exeC_ok (f := 60) ?_; simp only [B0, B1, B2, Lm0, Lm1, Lm2, Lm3, Lm4, Lm5, Lm6, Lm7, Lm8, Lm9, Lm10, Lm11, Lm12, Lm13, Lm14, Lm15, Lm16, Lm17, Lm18, Lm19, Lm20, Lm21, Lm22, Lm23, Lm24, Lm25, Lm26, Lm27, Lm28, Lm29, Nat.reduceLT, Nat.reduceEqDiff, ↓reduceIte, reduceCtorEq, Nat.reduceAdd, ge_iff_le, gt_iff_lt, forall_const, Nat.reduceBEq, Nat.reduceBNe, Nat.reduceMul, Nat.reduceLeDiff, Nat.reduceSub, Int.reduceToNat, td_3, td_9, td_22, td_24, td_25, td_27, td_28, td_29, td_31, td_56, hmid, hov, hrt, hw2])
            and_intros; all_goals (try (refine Side.mk ?_; first | first | omega | (intros; omega) | (simp; done) | (simp; omega) | (intro h; simp at h; omega) | (simp_all; done) | rfl | (and_intros <;> first | omega | (intros; omega) | (simp; done) | (simp; omega) | (intro h; simp at h; omega) | (simp_all; done) | rfl)))
            refine ⟨(k + 1, o ++ [s], row ++ [(o.length : Int)]), ?_, ⟨by simp; omega, by simp; omega, by simp; omega, ?_, ?_⟩, by simp; omega⟩
            · subst ho'
              exact Conv.to [5, 1, 2, 7] (nodupB_ok rfl) rfl (by repeat (first | exact trivial | refine ⟨.refl _, ?_⟩ | refine ⟨LeP.osl rfl, ?_⟩ | refine ⟨LeP.oslN rfl (by simp) (by omega), ?_⟩)) ⟨LeO.app rfl (by first | rfl | simp [S, I]) (by simp), LeO.mid (zP _) (zR _ _) (.refl _), LeO.refl _, LeO.app (zLB_append (zI _) rfl) (by first | rfl | simp [S, I]) (by simp), trivial⟩
            · rw [← b4, hrow, hadd]
            · rw [← b5, hrow, hadd, hno]; simp
        · (refine exeC_ok (f := 60) ?_; simp only [B0, B1, B2, Lm0, Lm1, Lm2, Lm3, Lm4, Lm5, Lm6, Lm7, Lm8, Lm9, Lm10, Lm11, Lm12, Lm13, Lm14, Lm15, Lm16, Lm17, Lm18, Lm19, Lm20, Lm21, Lm22, Lm23, Lm24, Lm25, Lm26, Lm27, Lm28, Lm29, Nat.reduceLT, Nat.reduceEqDiff, ↓reduceIte, reduceCtorEq, Nat.reduceAdd, ge_iff_le, gt_iff_lt, forall_const, Nat.reduceBEq, Nat.reduceBNe, Nat.reduceMul, Nat.reduceLeDiff, Nat.reduceSub, Int.reduceToNat, td_3, td_9, td_22, td_24, td_25, td_27, td_28, td_29, td_31, td_56, trsP, strsP, hy, ho, hoo, hr, hrr])
          and_intros; all_goals (try (refine Side.mk ?_; first | first | omega | (intros; omega) | (simp; done) | (simp; omega) | (intro h; simp at h; omega) | (simp_all; done) | rfl | (and_intros <;> first | omega | (intros; omega) | (simp; done) | (simp; omega) | (intro h; simp at h; omega) | (simp_all; done) | rfl)))
          refine Run.callL rfl rfl (by kernel_rfl) ((c_ixS o s (by omega)).more (LeL.cons (LeP.im true _ _) (LeL.cons (.refl _) .nil))) (by first | rfl | (simp only [B0, B1, B2, Lm0, Lm1, Lm2, Lm3, Lm4, Lm5, Lm6, Lm7, Lm8, Lm9, Lm10, Lm11, Lm12, Lm13, Lm14, Lm15, Lm16, Lm17, Lm18, Lm19, Lm20, Lm21, Lm22, Lm23, Lm24, Lm25, Lm26, Lm27, Lm28, Lm29, Nat.reduceLT, Nat.reduceEqDiff, ↓reduceIte, reduceCtorEq, Nat.reduceAdd, ge_iff_le, gt_iff_lt, forall_const, Nat.reduceBEq, Nat.reduceBNe, Nat.reduceMul, Nat.reduceLeDiff, Nat.reduceSub, Int.reduceToNat, BO, frz_oob]; done) | (simp only [B0, B1, B2, Lm0, Lm1, Lm2, Lm3, Lm4, Lm5, Lm6, Lm7, Lm8, Lm9, Lm10, Lm11, Lm12, Lm13, Lm14, Lm15, Lm16, Lm17, Lm18, Lm19, Lm20, Lm21, Lm22, Lm23, Lm24, Lm25, Lm26, Lm27, Lm28, Lm29, Nat.reduceLT, Nat.reduceEqDiff, ↓reduceIte, reduceCtorEq, Nat.reduceAdd, ge_iff_le, gt_iff_lt, forall_const, Nat.reduceBEq, Nat.reduceBNe, Nat.reduceMul, Nat.reduceLeDiff, Nat.reduceSub, Int.reduceToNat, BO, frz_oob]; rfl)) rfl rfl ?_
          (refine Run.on ?_; simp only [B0, B1, B2, Lm0, Lm1, Lm2, Lm3, Lm4, Lm5, Lm6, Lm7, Lm8, Lm9, Lm10, Lm11, Lm12, Lm13, Lm14, Lm15, Lm16, Lm17, Lm18, Lm19, Lm20, Lm21, Lm22, Lm23, Lm24, Lm25, Lm26, Lm27, Lm28, Lm29, Nat.reduceLT, Nat.reduceEqDiff, ↓reduceIte, reduceCtorEq, Nat.reduceAdd, ge_iff_le, gt_iff_lt, forall_const, Nat.reduceBEq, Nat.reduceBNe, Nat.reduceMul, Nat.reduceLeDiff, Nat.reduceSub, Int.reduceToNat, td_3, td_9, td_22, td_24, td_25, td_27, td_28, td_29, td_31, td_56])
          refine ⟨fun h3 => ?_, fun h3 => ?_⟩
          · have hadd : addName o s = o ++ [s] := if_pos h3
            have hno : nameNo o s = (o.length : Int) := if_pos h3
            (refine exeC_ok (f := 60) ?_; simp only [B0, B1, B2, Lm0, Lm1, Lm2, Lm3, Lm4, Lm5, Lm6, Lm7, Lm8, Lm9, Lm10, Lm11, Lm12, Lm13, Lm14, Lm15, Lm16, Lm17, Lm18, Lm19, Lm20, Lm21, Lm22, Lm23, Lm24, Lm25, Lm26, Lm27, Lm28, Lm29, Nat.reduceLT, Nat.reduceEqDiff, ↓reduceIte, reduceCtorEq, Nat.reduceAdd, ge_iff_le, gt_iff_lt, forall_const, Nat.reduceBEq, Nat.reduceBNe, Nat.reduceMul, Nat.reduceLeDiff, Nat.reduceSub, Int.reduceToNat, td_3, td_9, td_22, td_24, td_25, td_27, td_28, td_29, td_31, td_56, hmid, hov, hrt, hw2])
            and_intros; all_goals (try (refine Side.mk ?_; first | first | omega | (intros; omega) | (simp; done) | (simp; omega) | (intro h; simp at h; omega) | (simp_all; done) | rfl | (and_intros <;> first | omega | (intros; omega) | (simp; done) | (simp; omega) | (intro h; simp at h; omega) | (simp_all; done) | rfl)))
            refine ⟨(k + 1, o ++ [s], row ++ [(o.length : Int)]), ?_, ⟨by simp; omega, by simp; omega, by simp; omega, ?_, ?_⟩, by simp; omega⟩
            · skip
              exact Conv.to [5, 1, 2, 7] (nodupB_ok rfl) rfl (by repeat (first | exact trivial | refine ⟨.refl _, ?_⟩ | refine ⟨LeP.osl rfl, ?_⟩ | refine ⟨LeP.oslN rfl (by simp) (by omega), ?_⟩)) ⟨LeO.app (zLB_append (zS _) rfl) (by first | rfl | simp [S, I]) (by simp), LeO.mid (zP _) (zR _ _) (.refl _), LeO.refl _, LeO.app (zLB_append (zI _) rfl) (by first | rfl | simp [S, I]) (by simp), trivial⟩
            · rw [← b4, hrow, hadd]
            · rw [← b5, hrow, hadd, hno]; simp
          · have hadd : addName o s = o := if_neg h3
            have hno : nameNo o s = ixOf s o 0 := if_neg h3
            (refine exeC_ok (f := 60) ?_; simp only [B0, B1, B2, Lm0, Lm1, Lm2, Lm3, Lm4, Lm5, Lm6, Lm7, Lm8, Lm9, Lm10, Lm11, Lm12, Lm13, Lm14, Lm15, Lm16, Lm17, Lm18, Lm19, Lm20, Lm21, Lm22, Lm23, Lm24, Lm25, Lm26, Lm27, Lm28, Lm29, Nat.reduceLT, Nat.reduceEqDiff, ↓reduceIte, reduceCtorEq, Nat.reduceAdd, ge_iff_le, gt_iff_lt, forall_const, Nat.reduceBEq, Nat.reduceBNe, Nat.reduceMul, Nat.reduceLeDiff, Nat.reduceSub, Int.reduceToNat, td_3, td_9, td_22, td_24, td_25, td_27, td_28, td_29, td_31, td_56, hmid, hov, hrt, hw2])
            and_intros; all_goals (try (refine Side.mk ?_; first | first | omega | (intros; omega) | (simp; done) | (simp; omega) | (intro h; simp at h; omega) | (simp_all; done) | rfl | (and_intros <;> first | omega | (intros; omega) | (simp; done) | (simp; omega) | (intro h; simp at h; omega) | (simp_all; done) | rfl)))
            refine ⟨(k + 1, o, row ++ [ixOf s o 0]), Conv.to [0, 1, 2, 5] (nodupB_ok rfl) rfl (by repeat (first | exact trivial | refine ⟨.refl _, ?_⟩ | refine ⟨LeP.osl rfl, ?_⟩ | refine ⟨LeP.oslN rfl (by simp) (by omega), ?_⟩)) ⟨LeO.app (zS _) rfl (by simp; omega), LeO.mid (zP _) (zR _ _) (.refl _), LeO.refl _, LeO.app (zLB_append (zI _) rfl) (by first | rfl | simp [S, I]) (by simp), trivial⟩, ⟨by simp; omega, by simp; omega, by simp; omega, ?_, ?_⟩, by simp; omega⟩
            · rw [← b4, hrow, hadd]
            · rw [← b5, hrow, hadd, hno]; simp
    · have hk' : k = ns.length := by omega
      subst hk'
      rw [List.drop_length] at b4 b5
      rcases osl_cases 3 ns.length 3 1 (row.map I) (by simp; omega) (by omega) with ⟨hr, hrr, hr0, hrn⟩ | ⟨hr, hrr, hr0⟩
      all_goals
        have hmp : (rows ++ [row]).map intsP ++ List.replicate (l.length - (i + 1)) (PV.sc (.slice none 0 0)) = rows.map intsP ++ intsP row :: List.replicate (l.length - (i + 1)) (PV.sc (.slice none 0 0)) := by simp
        have e4 : (allN o (l.drop (i + 1))).1 = (allN [] l).1 := by rw [← a4, hall, ← b4]; rfl
        have e5 : (rows ++ [row]) ++ (allN o (l.drop (i + 1))).2 = (allN [] l).2 := by rw [← a5, hall, ← b4, ← b5]; simp [rowN]
      · (refine exeC_ok (f := 60) ?_; simp only [B0, B1, B2, Lm0, Lm1, Lm2, Lm3, Lm4, Lm5, Lm6, Lm7, Lm8, Lm9, Lm10, Lm11, Lm12, Lm13, Lm14, Lm15, Lm16, Lm17, Lm18, Lm19, Lm20, Lm21, Lm22, Lm23, Lm24, Lm25, Lm26, Lm27, Lm28, Lm29, Nat.reduceLT, Nat.reduceEqDiff, ↓reduceIte, reduceCtorEq, Nat.reduceAdd, ge_iff_le, gt_iff_lt, forall_const, Nat.reduceBEq, Nat.reduceBNe, Nat.reduceMul, Nat.reduceLeDiff, Nat.reduceSub, Int.reduceToNat, td_3, td_9, td_22, td_24, td_25, td_27, td_28, td_29, td_31, td_56, hr, hrr, hw'])
        and_intros; all_goals (try (refine Side.mk ?_; first | first | omega | (intros; omega) | (simp; done) | (simp; omega) | (intro h; simp at h; omega) | (simp_all; done) | rfl | (and_intros <;> first | omega | (intros; omega) | (simp; done) | (simp; omega) | (intro h; simp at h; omega) | (simp_all; done) | rfl)))
        exact ⟨(i + 1, o, rows ++ [row]), Conv.to [0, 1] (nodupB_ok rfl) rfl (by repeat (first | exact trivial | refine ⟨.refl _, ?_⟩ | refine ⟨LeP.osl rfl, ?_⟩ | refine ⟨LeP.oslN rfl (by simp) (by omega), ?_⟩)) ⟨LeO.oo (zS _), (by
          show LeO _ (some (GObj.mk _ _ _ (List.map intsP (rows ++ [row]) ++ _)))
          rw [hmp]; exact LeO.mid (zP _) (zR _ _) (LeP.nil' (by omega) hrn)), trivial⟩, ⟨by simp; omega, by simp [a2], by simp; omega, e4, e5⟩, by simp; omega⟩
      · (refine exeC_ok (f := 60) ?_; simp only [B0, B1, B2, Lm0, Lm1, Lm2, Lm3, Lm4, Lm5, Lm6, Lm7, Lm8, Lm9, Lm10, Lm11, Lm12, Lm13, Lm14, Lm15, Lm16, Lm17, Lm18, Lm19, Lm20, Lm21, Lm22, Lm23, Lm24, Lm25, Lm26, Lm27, Lm28, Lm29, Nat.reduceLT, Nat.reduceEqDiff, ↓reduceIte, reduceCtorEq, Nat.reduceAdd, ge_iff_le, gt_iff_lt, forall_const, Nat.reduceBEq, Nat.reduceBNe, Nat.reduceMul, Nat.reduceLeDiff, Nat.reduceSub, Int.reduceToNat, td_3, td_9, td_22, td_24, td_25, td_27, td_28, td_29, td_31, td_56, hr, hrr, hw'])
        and_intros; all_goals (try (refine Side.mk ?_; first | first | omega | (intros; omega) | (simp; done) | (simp; omega) | (intro h; simp at h; omega) | (simp_all; done) | rfl | (and_intros <;> first | omega | (intros; omega) | (simp; done) | (simp; omega) | (intro h; simp at h; omega) | (simp_all; done) | rfl)))
        refine ⟨(i + 1, o, rows ++ [row]), ?_, ⟨by simp; omega, by simp [a2], by simp; omega, e4, e5⟩, by simp; omega⟩
        (refine Conv.trans (Conv.frz 3 rfl (zI row)) ?_; simp only [B0, B1, B2, Lm0, Lm1, Lm2, Lm3, Lm4, Lm5, Lm6, Lm7, Lm8, Lm9, Lm10, Lm11, Lm12, Lm13, Lm14, Lm15, Lm16, Lm17, Lm18, Lm19, Lm20, Lm21, Lm22, Lm23, Lm24, Lm25, Lm26, Lm27, Lm28, Lm29, Nat.reduceLT, Nat.reduceEqDiff, ↓reduceIte, reduceCtorEq, Nat.reduceAdd, ge_iff_le, gt_iff_lt, forall_const, Nat.reduceBEq, Nat.reduceBNe, Nat.reduceMul, Nat.reduceLeDiff, Nat.reduceSub, Int.reduceToNat, BO, frz_oob])
        exact Conv.to [0, 1] (nodupB_ok rfl) rfl (by repeat (first | exact trivial | refine ⟨.refl _, ?_⟩ | refine ⟨LeP.osl rfl, ?_⟩ | refine ⟨LeP.oslN rfl (by simp) (by omega), ?_⟩)) ⟨LeO.oo (zS _), (by
          show LeO _ (some (GObj.mk _ _ _ (List.map intsP (rows ++ [row]) ++ _)))
          rw [hmp]; exact LeO.mid (zP _) (zR _ _) (LeP.im' b2.symm hrt)), trivial⟩
  · (refine exeC_ok (f := 60) ?_; simp only [B0, B1, B2, Lm0, Lm1, Lm2, Lm3, Lm4, Lm5, Lm6, Lm7, Lm8, Lm9, Lm10, Lm11, Lm12, Lm13, Lm14, Lm15, Lm16, Lm17, Lm18, Lm19, Lm20, Lm21, Lm22, Lm23, Lm24, Lm25, Lm26, Lm27, Lm28, Lm29, Nat.reduceLT, Nat.reduceEqDiff, ↓reduceIte, reduceCtorEq, Nat.reduceAdd, ge_iff_le, gt_iff_lt, forall_const, Nat.reduceBEq, Nat.reduceBNe, Nat.reduceMul, Nat.reduceLeDiff, Nat.reduceSub, Int.reduceToNat, td_3, td_9, td_22, td_24, td_25, td_27, td_28, td_29, td_31, td_56])
    have hi' : i = l.length := by omega
    subst hi'
    rw [List.drop_length] at a4 a5
    rw [Nat.sub_self, List.replicate_zero, List.append_nil]
    simp only [allN, List.append_nil] at a4 a5
    rcases osl_cases 0 out.length 9 1 (out.map S) (by simp) (by omega) with ⟨ho, hoo, ho0, hon⟩ | ⟨ho, hoo, ho0⟩
    · simp only [ho, hoo]
      (refine RetV.conv (Conv.frz 1 rfl (zP rows)) ?_; simp only [B0, B1, B2, Lm0, Lm1, Lm2, Lm3, Lm4, Lm5, Lm6, Lm7, Lm8, Lm9, Lm10, Lm11, Lm12, Lm13, Lm14, Lm15, Lm16, Lm17, Lm18, Lm19, Lm20, Lm21, Lm22, Lm23, Lm24, Lm25, Lm26, Lm27, Lm28, Lm29, Nat.reduceLT, Nat.reduceEqDiff, ↓reduceIte, reduceCtorEq, Nat.reduceAdd, ge_iff_le, gt_iff_lt, forall_const, Nat.reduceBEq, Nat.reduceBNe, Nat.reduceMul, Nat.reduceLeDiff, Nat.reduceSub, Int.reduceToNat, BO, frz_oob])
      refine RetV.o [] rfl trivial rfl rfl (LeP.tu (LeL.cons (LeP.nil' ?_ ?_) (LeL.cons (LeP.im' rfl ?_) .nil))) trivial
      · rw [← a4]; exact ho0
      · rw [← a4]; exact hon
      · rw [← a5]; exact List.take_of_length_le (by simp; omega)
    · simp only [ho, hoo]
      (refine RetV.conv (Conv.frz 1 rfl (zP rows)) ?_; simp only [B0, B1, B2, Lm0, Lm1, Lm2, Lm3, Lm4, Lm5, Lm6, Lm7, Lm8, Lm9, Lm10, Lm11, Lm12, Lm13, Lm14, Lm15, Lm16, Lm17, Lm18, Lm19, Lm20, Lm21, Lm22, Lm23, Lm24, Lm25, Lm26, Lm27, Lm28, Lm29, Nat.reduceLT, Nat.reduceEqDiff, ↓reduceIte, reduceCtorEq, Nat.reduceAdd, ge_iff_le, gt_iff_lt, forall_const, Nat.reduceBEq, Nat.reduceBNe, Nat.reduceMul, Nat.reduceLeDiff, Nat.reduceSub, Int.reduceToNat, BO, frz_oob])
      (refine RetV.conv (Conv.frz 0 rfl (zS out)) ?_; simp only [B0, B1, B2, Lm0, Lm1, Lm2, Lm3, Lm4, Lm5, Lm6, Lm7, Lm8, Lm9, Lm10, Lm11, Lm12, Lm13, Lm14, Lm15, Lm16, Lm17, Lm18, Lm19, Lm20, Lm21, Lm22, Lm23, Lm24, Lm25, Lm26, Lm27, Lm28, Lm29, Nat.reduceLT, Nat.reduceEqDiff, ↓reduceIte, reduceCtorEq, Nat.reduceAdd, ge_iff_le, gt_iff_lt, forall_const, Nat.reduceBEq, Nat.reduceBNe, Nat.reduceMul, Nat.reduceLeDiff, Nat.reduceSub, Int.reduceToNat, BO, frz_oob])
      refine RetV.o [] rfl trivial rfl rfl (LeP.tu (LeL.cons (LeP.im' ?_ ?_) (LeL.cons (LeP.im' rfl ?_) .nil))) trivial
      · rw [← a4]
      · rw [← a4]
      · rw [← a5]; exact List.take_of_length_le (by simp; omega)
end Go.Proofs.Ytbbjmfkmjjinnaa.V
