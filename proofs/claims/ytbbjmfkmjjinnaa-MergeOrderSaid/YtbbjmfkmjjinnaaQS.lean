/- The contract of the document's Merge. No law of the program is proved here. -/
import Derived.Test.YtbbjmfkmjjinnaaQL
import Derived.Test.YtbbjmfkmjjinnaaPC
import Derived.Test.YtbbjmfkmjjinnaaVY
set_option linter.all false
namespace Go.Proofs.Ytbbjmfkmjjinnaa.V
open Go Go.Proofs

theorem addName_has (out : List ByteArray) (s : ByteArray) : addName out s = if hasB s out = true then out else out ++ [s] := by
  unfold addName
  by_cases h : hasB s out = true
  · rw [if_pos h, if_neg (by have := (ixOf_nonneg s out 0).2 (hasB_iff.1 h); omega)]
  · rw [if_neg h, if_pos]
    rcases Int.lt_or_le (ixOf s out 0) 0 with k | k
    · exact k
    · exact absurd (hasB_iff.2 ((ixOf_nonneg s out 0).1 k)) h
def namesN (out : List ByteArray) : List Tr → List ByteArray
  | [] => out
  | t :: l => namesN (rowN out t.names).1 l
theorem namesN_allN : ∀ (l : List Tr) (out : List ByteArray), (allN out l).1 = namesN out l
  | [], _ => rfl
  | t :: l, out => by simp only [allN, namesN]; exact namesN_allN l _

/-! ### the rests of the traces -/
def restT (l : List Tr) (a : List Nat) : List Tr := List.zipWith (fun t k => ⟨t.names, t.evs.drop k⟩) l a
theorem restT_length {l : List Tr} {a : List Nat} (h : a.length = l.length) : (restT l a).length = l.length := by simp [restT, h]
theorem restT_get : ∀ {l : List Tr} {a : List Nat} {k : Nat}, k < l.length → k < a.length → (restT l a).getD k default = ⟨(l.getD k default).names, (l.getD k default).evs.drop (a.getD k default)⟩
  | t :: l, x :: a, 0, _, _ => rfl
  | t :: l, x :: a, k + 1, h, h' => restT_get (l := l) (a := a) (k := k) (by simpa using h) (by simpa using h')
theorem restT_zero : ∀ (l : List Tr), restT l (List.replicate l.length 0) = l
  | [] => rfl
  | t :: l => by
    have := restT_zero l
    unfold restT at this ⊢
    rw [List.length_cons, List.replicate_succ, List.zipWith_cons_cons, this]; simp
theorem restT_adv : ∀ (l : List Tr) (a : List Nat) (i b : Nat), a.length = l.length → advT i ((i + b : Nat) : Int) (restT l a) = restT l (a.set b (a.getD b default + 1))
  | [], [], _, _, _ => rfl
  | t :: l, x :: a, i, 0, _ => by
    show advT i _ (_ :: restT l a) = _
    rw [advT, if_pos (by simp)]
    simp [restT, List.drop_drop]
  | t :: l, x :: a, i, b + 1, h => by
    show advT i _ (_ :: restT l a) = _
    rw [advT, if_neg (by omega), show i + (b + 1) = i + 1 + b by omega, restT_adv l a (i + 1) b (by simpa using h)]
    simp [restT]
def bI : Option Ln → Int
  | none => -1
  | some x => x.no
def CurOk (l : List Tr) (a : List Nat) (cur : Option Ln) : Prop := ∀ x, cur = some x → ∃ b : Nat, b < l.length ∧ x.no = b ∧ a.getD b default < (l.getD b default).evs.length ∧ x.evs = (l.getD b default).evs.drop (a.getD b default)
theorem tm_drop (es : List Ev) (k : Nat) (i : Int) : tm ⟨es.drop k, i⟩ = (es.getD k default).t := by simp [tm, List.getD_eq_getElem?_getD]
def condB (N ns : List ByteArray) (ids : List Int) (id : Nat) : Bool := decide (0 ≤ ixOf (N.getD id default) ns 0) && hasB (ixOf (N.getD id default) ns 0) ids
def refK (N ns : List ByteArray) (ids : List Int) (k : Nat) : List Int := ((List.range k).filter (condB N ns ids)).map Int.ofNat
theorem refK_all (N ns : List ByteArray) (ids : List Int) : refK N ns ids N.length = refIds N ns ids := rfl
theorem refK_snoc (N ns : List ByteArray) (ids : List Int) (k : Nat) : refK N ns ids (k + 1) = if condB N ns ids k = true then refK N ns ids k ++ [(k : Int)] else refK N ns ids k := by
  unfold refK
  rw [List.range_succ, List.filter_append]
  by_cases h : condB N ns ids k = true
  · rw [if_pos h, List.filter_cons_of_pos h]; simp
  · rw [if_neg h, List.filter_cons_of_neg h]; simp
theorem refK_len (N ns : List ByteArray) (ids : List Int) (k : Nat) : (refK N ns ids k).length ≤ k := by
  unfold refK
  rw [List.length_map]
  exact Nat.le_trans (List.length_filter_le _ _) (by simp)
def Nn (n : Nat) : PV := I n
theorem fN (i sz : Nat) (cs : List PV) (l : List Nat) : frzL i sz cs (l.map Nn) = l.map Nn := frzL_closed _ _ _ (zLB_mapC Nn l fun _ => rfl)
theorem zN (l : List Nat) : zLB (l.map Nn) = true := zLB_mapC Nn l fun _ => rfl

set_option maxHeartbeats 1000000 in
theorem c_refMerge {M : Nat} (l : List Tr) (hM : MOk M l) : GC Try.prog 10 [trsP l] [] (.tu [trP (refM l).1, I (refM l).2]) [] := by
  obtain ⟨hl, hsum, hev, hok, hids⟩ := hM
  refine GC_fn [] Try.func10 rfl rfl (by kernel_rfl) ?_
  (refine exeC_ok (f := 60) ?_; simp only [B0, B1, B2, Lm0, Lm1, Lm2, Lm3, Lm4, Lm5, Lm6, Lm7, Lm8, Lm9, Lm10, Lm11, Lm12, Lm13, Lm14, Lm15, Lm16, Lm17, Lm18, Lm19, Lm20, Lm21, Lm22, Lm23, Lm24, Lm25, Lm26, Lm27, Lm28, Lm29, Nat.reduceLT, Nat.reduceEqDiff, ↓reduceIte, reduceCtorEq, Nat.reduceAdd, ge_iff_le, gt_iff_lt, forall_const, Nat.reduceBEq, Nat.reduceBNe, Nat.reduceMul, Nat.reduceLeDiff, Nat.reduceSub, Int.reduceToNat, td_3, td_4, td_9, td_22, td_24, td_25, td_27, td_28, td_29, td_31, trsP])
  and_intros; all_goals (try (refine Side.mk ?_; first | first | omega | (intros; omega) | (simp; done) | (simp; omega) | (intro h; simp at h; omega) | (simp_all; done) | rfl | (and_intros <;> first | omega | (intros; omega) | (simp; done) | (simp; omega) | (intro h; simp at h; omega) | (simp_all; done) | rfl)))
  refine WC_loop (fun k : Nat => [(0, trsP l), (2, .ad 0 0), (4, .ad 1 0), (21, trsP l), (22, I l.length), (23, I k)])
    (fun _ => [some ⟨27, false, 1, [.sc (.slice none 0 0), .sc (.slice none 0 0)]⟩, some ⟨27, false, 1, [.sc (.slice none 0 0), .sc (.slice none 0 0)]⟩])
    (fun k => k ≤ l.length ∧ (l.take k).all mayB = true) (fun k => l.length - k) 0 ?_ ⟨Nat.zero_le _, rfl⟩ ?_
  · exact Conv.to [0, 1] (nodupB_ok rfl) rfl (by repeat (first | exact trivial | refine ⟨.refl _, ?_⟩ | refine ⟨LeP.osl rfl, ?_⟩ | refine ⟨LeP.oslN rfl (by simp) (by omega), ?_⟩)) ⟨LeO.refl _, LeO.refl _, trivial⟩
  rintro k ⟨a1, a4⟩
  (refine exeC_ok (f := 60) ?_; simp only [B0, B1, B2, Lm0, Lm1, Lm2, Lm3, Lm4, Lm5, Lm6, Lm7, Lm8, Lm9, Lm10, Lm11, Lm12, Lm13, Lm14, Lm15, Lm16, Lm17, Lm18, Lm19, Lm20, Lm21, Lm22, Lm23, Lm24, Lm25, Lm26, Lm27, Lm28, Lm29, Nat.reduceLT, Nat.reduceEqDiff, ↓reduceIte, reduceCtorEq, Nat.reduceAdd, ge_iff_le, gt_iff_lt, forall_const, Nat.reduceBEq, Nat.reduceBNe, Nat.reduceMul, Nat.reduceLeDiff, Nat.reduceSub, Int.reduceToNat, td_3, td_4, td_9, td_22, td_24, td_25, td_27, td_28, td_29, td_31, trsP])
  refine ⟨fun h1 => ?_, fun h1 => ?_⟩
  · have hk' : k < l.length := by omega
    have hx := drop_tr l k hk'
    have hT := hok _ (getD_mem hk')
    have hw' : IntKind.i64.wrap ((k : Int) + 1) = (k : Int) + 1 := wrap64 (by omega) (by omega)
    have hd := drop_cons l k hk'
    have htk := take_snoc l k hk'
    obtain ⟨⟨ns, es⟩, hne⟩ : ∃ t, l.getD k default = t := ⟨_, rfl⟩
    rw [hne] at hT hx hd htk
    (refine exeC_ok (f := 60) ?_; simp only [B0, B1, B2, Lm0, Lm1, Lm2, Lm3, Lm4, Lm5, Lm6, Lm7, Lm8, Lm9, Lm10, Lm11, Lm12, Lm13, Lm14, Lm15, Lm16, Lm17, Lm18, Lm19, Lm20, Lm21, Lm22, Lm23, Lm24, Lm25, Lm26, Lm27, Lm28, Lm29, Nat.reduceLT, Nat.reduceEqDiff, ↓reduceIte, reduceCtorEq, Nat.reduceAdd, ge_iff_le, gt_iff_lt, forall_const, Nat.reduceBEq, Nat.reduceBNe, Nat.reduceMul, Nat.reduceLeDiff, Nat.reduceSub, Int.reduceToNat, td_3, td_4, td_9, td_22, td_24, td_25, td_27, td_28, td_29, td_31, strsP, evsP, trsP, hx, lT])
    and_intros; all_goals (try (refine Side.mk ?_; first | first | omega | (intros; omega) | (simp; done) | (simp; omega) | (intro h; simp at h; omega) | (simp_all; done) | rfl | (and_intros <;> first | omega | (intros; omega) | (simp; done) | (simp; omega) | (intro h; simp at h; omega) | (simp_all; done) | rfl)))
    refine Run.callP rfl rfl (by kernel_rfl) (c_rmay ⟨ns, es⟩ hT) rfl rfl rfl ?_
    (refine Run.on ?_; simp only [B0, B1, B2, Lm0, Lm1, Lm2, Lm3, Lm4, Lm5, Lm6, Lm7, Lm8, Lm9, Lm10, Lm11, Lm12, Lm13, Lm14, Lm15, Lm16, Lm17, Lm18, Lm19, Lm20, Lm21, Lm22, Lm23, Lm24, Lm25, Lm26, Lm27, Lm28, Lm29, Nat.reduceLT, Nat.reduceEqDiff, ↓reduceIte, reduceCtorEq, Nat.reduceAdd, ge_iff_le, gt_iff_lt, forall_const, Nat.reduceBEq, Nat.reduceBNe, Nat.reduceMul, Nat.reduceLeDiff, Nat.reduceSub, Int.reduceToNat, td_3, td_4, td_9, td_22, td_24, td_25, td_27, td_28, td_29, td_31, strsP, evsP, trsP])
    refine ⟨fun hm => ?_, fun hm => ?_⟩
    · (refine exeC_ok (f := 60) ?_; simp only [B0, B1, B2, Lm0, Lm1, Lm2, Lm3, Lm4, Lm5, Lm6, Lm7, Lm8, Lm9, Lm10, Lm11, Lm12, Lm13, Lm14, Lm15, Lm16, Lm17, Lm18, Lm19, Lm20, Lm21, Lm22, Lm23, Lm24, Lm25, Lm26, Lm27, Lm28, Lm29, Nat.reduceLT, Nat.reduceEqDiff, ↓reduceIte, reduceCtorEq, Nat.reduceAdd, ge_iff_le, gt_iff_lt, forall_const, Nat.reduceBEq, Nat.reduceBNe, Nat.reduceMul, Nat.reduceLeDiff, Nat.reduceSub, Int.reduceToNat, td_3, td_4, td_9, td_22, td_24, td_25, td_27, td_28, td_29, td_31, strsP, evsP, trsP])
      and_intros; all_goals (try (refine Side.mk ?_; first | first | omega | (intros; omega) | (simp; done) | (simp; omega) | (intro h; simp at h; omega) | (simp_all; done) | rfl | (and_intros <;> first | omega | (intros; omega) | (simp; done) | (simp; omega) | (intro h; simp at h; omega) | (simp_all; done) | rfl)))
      have hf : refM l = (⟨[], []⟩, 1) := by
        unfold refM
        rw [if_neg]
        rw [← List.take_append_drop k l, hd, List.all_append, List.all_cons, hm]; simp
      rw [hf]
      exact RetV.ct (i := 0) (u := 3) [] rfl rfl (by rw [td_27]; rfl) (by rw [td_27]; rfl) (by rw [td_27]; rfl) rfl rfl (LeP.tu (LeL.cons (LeP.ag (LeL.cons .nil (LeL.cons .nil .nil))) (LeL.cons (.refl _) .nil))) trivial
    · (refine exeC_ok (f := 60) ?_; simp only [B0, B1, B2, Lm0, Lm1, Lm2, Lm3, Lm4, Lm5, Lm6, Lm7, Lm8, Lm9, Lm10, Lm11, Lm12, Lm13, Lm14, Lm15, Lm16, Lm17, Lm18, Lm19, Lm20, Lm21, Lm22, Lm23, Lm24, Lm25, Lm26, Lm27, Lm28, Lm29, Nat.reduceLT, Nat.reduceEqDiff, ↓reduceIte, reduceCtorEq, Nat.reduceAdd, ge_iff_le, gt_iff_lt, forall_const, Nat.reduceBEq, Nat.reduceBNe, Nat.reduceMul, Nat.reduceLeDiff, Nat.reduceSub, Int.reduceToNat, td_3, td_4, td_9, td_22, td_24, td_25, td_27, td_28, td_29, td_31, strsP, evsP, trsP, hw'])
      and_intros; all_goals (try (refine Side.mk ?_; first | first | omega | (intros; omega) | (simp; done) | (simp; omega) | (intro h; simp at h; omega) | (simp_all; done) | rfl | (and_intros <;> first | omega | (intros; omega) | (simp; done) | (simp; omega) | (intro h; simp at h; omega) | (simp_all; done) | rfl)))
      exact ⟨k + 1, Conv.to [0, 1] (nodupB_ok rfl) rfl (by repeat (first | exact trivial | refine ⟨.refl _, ?_⟩ | refine ⟨LeP.osl rfl, ?_⟩ | refine ⟨LeP.oslN rfl (by simp) (by omega), ?_⟩)) ⟨LeO.refl _, LeO.refl _, trivial⟩, ⟨by omega, by rw [htk, List.all_append, a4]; simp [hm]⟩, by omega⟩
  have hk' : k = l.length := by omega
  subst hk'
  rw [List.take_length] at a4
  (refine exeC_ok (f := 60) ?_; simp only [B0, B1, B2, Lm0, Lm1, Lm2, Lm3, Lm4, Lm5, Lm6, Lm7, Lm8, Lm9, Lm10, Lm11, Lm12, Lm13, Lm14, Lm15, Lm16, Lm17, Lm18, Lm19, Lm20, Lm21, Lm22, Lm23, Lm24, Lm25, Lm26, Lm27, Lm28, Lm29, Nat.reduceLT, Nat.reduceEqDiff, ↓reduceIte, reduceCtorEq, Nat.reduceAdd, ge_iff_le, gt_iff_lt, forall_const, Nat.reduceBEq, Nat.reduceBNe, Nat.reduceMul, Nat.reduceLeDiff, Nat.reduceSub, Int.reduceToNat, td_3, td_4, td_9, td_22, td_24, td_25, td_27, td_28, td_29, td_31, trsP])
  refine WC_loop (fun s : Nat × List ByteArray => [(0, trsP l), (2, .ad 0 0), (4, .ad 1 0), (32, trsP l), (33, I l.length), (34, I s.1)])
    (fun s => [some ⟨27, false, 1, [.sc (.slice none 0 0), .sc (.slice none 0 0)]⟩, some ⟨27, false, 1, [osl 2 s.2.length, .sc (.slice none 0 0)]⟩, oob 9 1 (s.2.map S)])
    (fun s => s.1 ≤ l.length ∧ s.2.length + sumN (l.drop s.1) ≤ 1000000 ∧ namesN s.2 (l.drop s.1) = (allN [] l).1) (fun s => l.length - s.1) (0, []) ?_ ⟨Nat.zero_le _, by simpa using hsum, by simp [namesN_allN]⟩ ?_
  · exact Conv.to [0, 1, 2] (nodupB_ok rfl) rfl (by repeat (first | exact trivial | refine ⟨.refl _, ?_⟩ | refine ⟨LeP.osl rfl, ?_⟩ | refine ⟨LeP.oslN rfl (by simp) (by omega), ?_⟩)) ⟨LeO.refl _, LeO.refl _, trivial, trivial⟩
  rintro ⟨i, out⟩ ⟨b1, b2, b3⟩
  simp only at b1 b2 b3
  (refine exeC_ok (f := 60) ?_; simp only [B0, B1, B2, Lm0, Lm1, Lm2, Lm3, Lm4, Lm5, Lm6, Lm7, Lm8, Lm9, Lm10, Lm11, Lm12, Lm13, Lm14, Lm15, Lm16, Lm17, Lm18, Lm19, Lm20, Lm21, Lm22, Lm23, Lm24, Lm25, Lm26, Lm27, Lm28, Lm29, Nat.reduceLT, Nat.reduceEqDiff, ↓reduceIte, reduceCtorEq, Nat.reduceAdd, ge_iff_le, gt_iff_lt, forall_const, Nat.reduceBEq, Nat.reduceBNe, Nat.reduceMul, Nat.reduceLeDiff, Nat.reduceSub, Int.reduceToNat, td_3, td_4, td_9, td_22, td_24, td_25, td_27, td_28, td_29, td_31, trsP])
  refine ⟨fun h2 => ?_, fun h2 => ?_⟩
  · have hi' : i < l.length := by omega
    have hx := drop_tr l i hi'
    have hT := hok _ (getD_mem hi')
    have hw' : IntKind.i64.wrap ((i : Int) + 1) = (i : Int) + 1 := wrap64 (by omega) (by omega)
    have hd := drop_cons l i hi'
    obtain ⟨⟨ns, es⟩, hne⟩ : ∃ t, l.getD i default = t := ⟨_, rfl⟩
    rw [hne] at hT hx hd
    rw [hd] at b2 b3
    simp only [sumN, List.map_cons, List.sum_cons, namesN] at b2 b3
    (refine exeC_ok (f := 60) ?_; simp only [B0, B1, B2, Lm0, Lm1, Lm2, Lm3, Lm4, Lm5, Lm6, Lm7, Lm8, Lm9, Lm10, Lm11, Lm12, Lm13, Lm14, Lm15, Lm16, Lm17, Lm18, Lm19, Lm20, Lm21, Lm22, Lm23, Lm24, Lm25, Lm26, Lm27, Lm28, Lm29, Nat.reduceLT, Nat.reduceEqDiff, ↓reduceIte, reduceCtorEq, Nat.reduceAdd, ge_iff_le, gt_iff_lt, forall_const, Nat.reduceBEq, Nat.reduceBNe, Nat.reduceMul, Nat.reduceLeDiff, Nat.reduceSub, Int.reduceToNat, td_3, td_4, td_9, td_22, td_24, td_25, td_27, td_28, td_29, td_31, strsP, evsP, trsP, hx, lT])
    and_intros; all_goals (try (refine Side.mk ?_; first | first | omega | (intros; omega) | (simp; done) | (simp; omega) | (intro h; simp at h; omega) | (simp_all; done) | rfl | (and_intros <;> first | omega | (intros; omega) | (simp; done) | (simp; omega) | (intro h; simp at h; omega) | (simp_all; done) | rfl)))
    refine WC_loop (fun s : Nat × List ByteArray => [(0, trsP l), (2, .ad 0 0), (4, .ad 1 0), (32, trsP l), (33, I l.length), (34, I i), (39, strsP ns), (40, I ns.length), (41, I s.1)])
      (fun s => [some ⟨27, false, 1, [.sc (.slice none 0 0), .sc (.slice none 0 0)]⟩, some ⟨27, false, 1, [osl 2 s.2.length, .sc (.slice none 0 0)]⟩, oob 9 1 (s.2.map S)])
      (fun s => s.1 ≤ ns.length ∧ s.2.length ≤ out.length + s.1 ∧ (rowN s.2 (ns.drop s.1)).1 = (rowN out ns).1) (fun s => ns.length - s.1) (0, out) ?_ ⟨Nat.zero_le _, Nat.le_refl _, rfl⟩ ?_
    · exact Conv.to [0, 1, 2] (nodupB_ok rfl) rfl (by repeat (first | exact trivial | refine ⟨.refl _, ?_⟩ | refine ⟨LeP.osl rfl, ?_⟩ | refine ⟨LeP.oslN rfl (by simp) (by omega), ?_⟩)) ⟨LeO.refl _, ⟨rfl, rfl, rfl, LeL.cons (LeP.osl rfl) (LeL.cons (.refl _) .nil)⟩, LeO.oo (zS _), trivial⟩
    rintro ⟨k, o⟩ ⟨c1, c2, c3⟩
    simp only at c1 c2 c3
    (refine exeC_ok (f := 60) ?_; simp only [B0, B1, B2, Lm0, Lm1, Lm2, Lm3, Lm4, Lm5, Lm6, Lm7, Lm8, Lm9, Lm10, Lm11, Lm12, Lm13, Lm14, Lm15, Lm16, Lm17, Lm18, Lm19, Lm20, Lm21, Lm22, Lm23, Lm24, Lm25, Lm26, Lm27, Lm28, Lm29, Nat.reduceLT, Nat.reduceEqDiff, ↓reduceIte, reduceCtorEq, Nat.reduceAdd, ge_iff_le, gt_iff_lt, forall_const, Nat.reduceBEq, Nat.reduceBNe, Nat.reduceMul, Nat.reduceLeDiff, Nat.reduceSub, Int.reduceToNat, td_3, td_4, td_9, td_22, td_24, td_25, td_27, td_28, td_29, td_31, trsP, strsP])
    refine ⟨fun h3 => ?_, fun h3 => ?_⟩
    · have hk' : k < ns.length := by omega
      have hy := drop_map S default ns k hk'
      have hw2 : IntKind.i64.wrap ((k : Int) + 1) = (k : Int) + 1 := wrap64 (by omega) (by omega)
      obtain ⟨s, hse⟩ : ∃ s, ns.getD k default = s := ⟨_, rfl⟩
      rw [hse] at hy
      have hadd := addName_has o s
      have hrow : (rowN (addName o s) (ns.drop (k + 1))).1 = (rowN out ns).1 := by rw [← c3, drop_cons ns k hk', hse]; rfl
      have hto : (o.map S).take o.length = o.map S := List.take_of_length_le (by simp)
      rcases osl_cases 2 o.length 9 1 (o.map S) (by simp) (by omega) with ⟨ho, hoo, ho0, hon⟩ | ⟨ho, hoo, ho0⟩
      · have ho' : o = [] := List.eq_nil_of_length_eq_zero ho0
        have hix : hasB s o = false := by rw [ho']; rfl
        rw [if_neg (by rw [hix]; simp)] at hadd
        (refine exeC_ok (f := 60) ?_; simp only [B0, B1, B2, Lm0, Lm1, Lm2, Lm3, Lm4, Lm5, Lm6, Lm7, Lm8, Lm9, Lm10, Lm11, Lm12, Lm13, Lm14, Lm15, Lm16, Lm17, Lm18, Lm19, Lm20, Lm21, Lm22, Lm23, Lm24, Lm25, Lm26, Lm27, Lm28, Lm29, Nat.reduceLT, Nat.reduceEqDiff, ↓reduceIte, reduceCtorEq, Nat.reduceAdd, ge_iff_le, gt_iff_lt, forall_const, Nat.reduceBEq, Nat.reduceBNe, Nat.reduceMul, Nat.reduceLeDiff, Nat.reduceSub, Int.reduceToNat, td_3, td_4, td_9, td_22, td_24, td_25, td_27, td_28, td_29, td_31, strsP, evsP, trsP, hy, lT, ho, hoo])
        and_intros; all_goals (try (refine Side.mk ?_; first | first | omega | (intros; omega) | (simp; done) | (simp; omega) | (intro h; simp at h; omega) | (simp_all; done) | rfl | (and_intros <;> first | omega | (intros; omega) | (simp; done) | (simp; omega) | (intro h; simp at h; omega) | (simp_all; done) | rfl)))
        refine Run.callP rfl rfl (by kernel_rfl) ((c_inS o s (by omega)).more (LeL.cons (LeP.nil' ho0 hon) (LeL.cons (.refl _) .nil))) rfl rfl rfl ?_
        (refine Run.on ?_; simp only [B0, B1, B2, Lm0, Lm1, Lm2, Lm3, Lm4, Lm5, Lm6, Lm7, Lm8, Lm9, Lm10, Lm11, Lm12, Lm13, Lm14, Lm15, Lm16, Lm17, Lm18, Lm19, Lm20, Lm21, Lm22, Lm23, Lm24, Lm25, Lm26, Lm27, Lm28, Lm29, Nat.reduceLT, Nat.reduceEqDiff, ↓reduceIte, reduceCtorEq, Nat.reduceAdd, ge_iff_le, gt_iff_lt, forall_const, Nat.reduceBEq, Nat.reduceBNe, Nat.reduceMul, Nat.reduceLeDiff, Nat.reduceSub, Int.reduceToNat, td_3, td_4, td_9, td_22, td_24, td_25, td_27, td_28, td_29, td_31, hix])
        (refine exeC_ok (f := 60) ?_; simp only [B0, B1, B2, Lm0, Lm1, Lm2, Lm3, Lm4, Lm5, Lm6, Lm7, Lm8, Lm9, Lm10, Lm11, Lm12, Lm13, Lm14, Lm15, Lm16, Lm17, Lm18, Lm19, Lm20, Lm21, Lm22, Lm23, Lm24, Lm25, Lm26, Lm27, Lm28, Lm29, Nat.reduceLT, Nat.reduceEqDiff, ↓reduceIte, reduceCtorEq, Nat.reduceAdd, ge_iff_le, gt_iff_lt, forall_const, Nat.reduceBEq, Nat.reduceBNe, Nat.reduceMul, Nat.reduceLeDiff, Nat.reduceSub, Int.reduceToNat, td_3, td_4, td_9, td_22, td_24, td_25, td_27, td_28, td_29, td_31, hw2, ho, hoo])
        and_intros; all_goals (try (refine Side.mk ?_; first | first | omega | (intros; omega) | (simp; done) | (simp; omega) | (intro h; simp at h; omega) | (simp_all; done) | rfl | (and_intros <;> first | omega | (intros; omega) | (simp; done) | (simp; omega) | (intro h; simp at h; omega) | (simp_all; done) | rfl)))
        refine ⟨(k + 1, addName o s), Conv.to [0, 1, 4] (nodupB_ok rfl) rfl (by repeat (first | exact trivial | refine ⟨.refl _, ?_⟩ | refine ⟨LeP.osl rfl, ?_⟩ | refine ⟨LeP.oslN rfl (by simp) (by omega), ?_⟩)) ⟨LeO.refl _, ⟨rfl, rfl, rfl, LeL.cons (LeP.oslN rfl (by rw [hadd, ho']; rfl) (by omega)) (LeL.cons (.refl _) .nil)⟩, LeO.app rfl (by rw [hadd, List.map_append, hon]; rfl) (by rw [hadd]; simp), trivial⟩, ⟨by simp; omega, by simp only [hadd, List.length_append, List.length_singleton]; omega, hrow⟩, by simp; omega⟩
      · by_cases hix : hasB s o = true
        · rw [if_pos hix] at hadd
          (refine exeC_ok (f := 60) ?_; simp only [B0, B1, B2, Lm0, Lm1, Lm2, Lm3, Lm4, Lm5, Lm6, Lm7, Lm8, Lm9, Lm10, Lm11, Lm12, Lm13, Lm14, Lm15, Lm16, Lm17, Lm18, Lm19, Lm20, Lm21, Lm22, Lm23, Lm24, Lm25, Lm26, Lm27, Lm28, Lm29, Nat.reduceLT, Nat.reduceEqDiff, ↓reduceIte, reduceCtorEq, Nat.reduceAdd, ge_iff_le, gt_iff_lt, forall_const, Nat.reduceBEq, Nat.reduceBNe, Nat.reduceMul, Nat.reduceLeDiff, Nat.reduceSub, Int.reduceToNat, td_3, td_4, td_9, td_22, td_24, td_25, td_27, td_28, td_29, td_31, strsP, evsP, trsP, hy, lT, ho, hoo])
          and_intros; all_goals (try (refine Side.mk ?_; first | first | omega | (intros; omega) | (simp; done) | (simp; omega) | (intro h; simp at h; omega) | (simp_all; done) | rfl | (and_intros <;> first | omega | (intros; omega) | (simp; done) | (simp; omega) | (intro h; simp at h; omega) | (simp_all; done) | rfl)))
          refine Run.callL rfl rfl (by kernel_rfl) ((c_inS o s (by omega)).more (LeL.cons (LeP.im true _ _) (LeL.cons (.refl _) .nil))) (by first | rfl | (simp only [B0, B1, B2, Lm0, Lm1, Lm2, Lm3, Lm4, Lm5, Lm6, Lm7, Lm8, Lm9, Lm10, Lm11, Lm12, Lm13, Lm14, Lm15, Lm16, Lm17, Lm18, Lm19, Lm20, Lm21, Lm22, Lm23, Lm24, Lm25, Lm26, Lm27, Lm28, Lm29, Nat.reduceLT, Nat.reduceEqDiff, ↓reduceIte, reduceCtorEq, Nat.reduceAdd, ge_iff_le, gt_iff_lt, forall_const, Nat.reduceBEq, Nat.reduceBNe, Nat.reduceMul, Nat.reduceLeDiff, Nat.reduceSub, Int.reduceToNat, BO, frz_oob, fN]; done) | (simp only [B0, B1, B2, Lm0, Lm1, Lm2, Lm3, Lm4, Lm5, Lm6, Lm7, Lm8, Lm9, Lm10, Lm11, Lm12, Lm13, Lm14, Lm15, Lm16, Lm17, Lm18, Lm19, Lm20, Lm21, Lm22, Lm23, Lm24, Lm25, Lm26, Lm27, Lm28, Lm29, Nat.reduceLT, Nat.reduceEqDiff, ↓reduceIte, reduceCtorEq, Nat.reduceAdd, ge_iff_le, gt_iff_lt, forall_const, Nat.reduceBEq, Nat.reduceBNe, Nat.reduceMul, Nat.reduceLeDiff, Nat.reduceSub, Int.reduceToNat, BO, frz_oob, fN]; rfl)) rfl rfl ?_
          (refine Run.on ?_; simp only [B0, B1, B2, Lm0, Lm1, Lm2, Lm3, Lm4, Lm5, Lm6, Lm7, Lm8, Lm9, Lm10, Lm11, Lm12, Lm13, Lm14, Lm15, Lm16, Lm17, Lm18, Lm19, Lm20, Lm21, Lm22, Lm23, Lm24, Lm25, Lm26, Lm27, Lm28, Lm29, Nat.reduceLT, Nat.reduceEqDiff, ↓reduceIte, reduceCtorEq, Nat.reduceAdd, ge_iff_le, gt_iff_lt, forall_const, Nat.reduceBEq, Nat.reduceBNe, Nat.reduceMul, Nat.reduceLeDiff, Nat.reduceSub, Int.reduceToNat, td_3, td_4, td_9, td_22, td_24, td_25, td_27, td_28, td_29, td_31, hix])
          (refine exeC_ok (f := 60) ?_; simp only [B0, B1, B2, Lm0, Lm1, Lm2, Lm3, Lm4, Lm5, Lm6, Lm7, Lm8, Lm9, Lm10, Lm11, Lm12, Lm13, Lm14, Lm15, Lm16, Lm17, Lm18, Lm19, Lm20, Lm21, Lm22, Lm23, Lm24, Lm25, Lm26, Lm27, Lm28, Lm29, Nat.reduceLT, Nat.reduceEqDiff, ↓reduceIte, reduceCtorEq, Nat.reduceAdd, ge_iff_le, gt_iff_lt, forall_const, Nat.reduceBEq, Nat.reduceBNe, Nat.reduceMul, Nat.reduceLeDiff, Nat.reduceSub, Int.reduceToNat, td_3, td_4, td_9, td_22, td_24, td_25, td_27, td_28, td_29, td_31, hw2, ho, hoo])
          and_intros; all_goals (try (refine Side.mk ?_; first | first | omega | (intros; omega) | (simp; done) | (simp; omega) | (intro h; simp at h; omega) | (simp_all; done) | rfl | (and_intros <;> first | omega | (intros; omega) | (simp; done) | (simp; omega) | (intro h; simp at h; omega) | (simp_all; done) | rfl)))
          refine ⟨(k + 1, addName o s), Conv.to [0, 1, 2] (nodupB_ok rfl) rfl (by repeat (first | exact trivial | refine ⟨.refl _, ?_⟩ | refine ⟨LeP.osl rfl, ?_⟩ | refine ⟨LeP.oslN rfl (by simp) (by omega), ?_⟩)) ⟨LeO.refl _, ⟨rfl, rfl, rfl, LeL.cons (LeP.oslN rfl (by rw [hadd]) (by omega)) (LeL.cons (.refl _) .nil)⟩, LeO.app (zS _) (by rw [hadd]) (by rw [hadd]; simp; omega), trivial⟩, ⟨by simp; omega, by simp only [hadd]; omega, hrow⟩, by simp; omega⟩
        · rw [if_neg hix] at hadd
          rw [Bool.not_eq_true] at hix
          (refine exeC_ok (f := 60) ?_; simp only [B0, B1, B2, Lm0, Lm1, Lm2, Lm3, Lm4, Lm5, Lm6, Lm7, Lm8, Lm9, Lm10, Lm11, Lm12, Lm13, Lm14, Lm15, Lm16, Lm17, Lm18, Lm19, Lm20, Lm21, Lm22, Lm23, Lm24, Lm25, Lm26, Lm27, Lm28, Lm29, Nat.reduceLT, Nat.reduceEqDiff, ↓reduceIte, reduceCtorEq, Nat.reduceAdd, ge_iff_le, gt_iff_lt, forall_const, Nat.reduceBEq, Nat.reduceBNe, Nat.reduceMul, Nat.reduceLeDiff, Nat.reduceSub, Int.reduceToNat, td_3, td_4, td_9, td_22, td_24, td_25, td_27, td_28, td_29, td_31, strsP, evsP, trsP, hy, lT, ho, hoo])
          and_intros; all_goals (try (refine Side.mk ?_; first | first | omega | (intros; omega) | (simp; done) | (simp; omega) | (intro h; simp at h; omega) | (simp_all; done) | rfl | (and_intros <;> first | omega | (intros; omega) | (simp; done) | (simp; omega) | (intro h; simp at h; omega) | (simp_all; done) | rfl)))
          refine Run.callL rfl rfl (by kernel_rfl) ((c_inS o s (by omega)).more (LeL.cons (LeP.im true _ _) (LeL.cons (.refl _) .nil))) (by first | rfl | (simp only [B0, B1, B2, Lm0, Lm1, Lm2, Lm3, Lm4, Lm5, Lm6, Lm7, Lm8, Lm9, Lm10, Lm11, Lm12, Lm13, Lm14, Lm15, Lm16, Lm17, Lm18, Lm19, Lm20, Lm21, Lm22, Lm23, Lm24, Lm25, Lm26, Lm27, Lm28, Lm29, Nat.reduceLT, Nat.reduceEqDiff, ↓reduceIte, reduceCtorEq, Nat.reduceAdd, ge_iff_le, gt_iff_lt, forall_const, Nat.reduceBEq, Nat.reduceBNe, Nat.reduceMul, Nat.reduceLeDiff, Nat.reduceSub, Int.reduceToNat, BO, frz_oob, fN]; done) | (simp only [B0, B1, B2, Lm0, Lm1, Lm2, Lm3, Lm4, Lm5, Lm6, Lm7, Lm8, Lm9, Lm10, Lm11, Lm12, Lm13, Lm14, Lm15, Lm16, Lm17, Lm18, Lm19, Lm20, Lm21, Lm22, Lm23, Lm24, Lm25, Lm26, Lm27, Lm28, Lm29, Nat.reduceLT, Nat.reduceEqDiff, ↓reduceIte, reduceCtorEq, Nat.reduceAdd, ge_iff_le, gt_iff_lt, forall_const, Nat.reduceBEq, Nat.reduceBNe, Nat.reduceMul, Nat.reduceLeDiff, Nat.reduceSub, Int.reduceToNat, BO, frz_oob, fN]; rfl)) rfl rfl ?_
          (refine Run.on ?_; simp only [B0, B1, B2, Lm0, Lm1, Lm2, Lm3, Lm4, Lm5, Lm6, Lm7, Lm8, Lm9, Lm10, Lm11, Lm12, Lm13, Lm14, Lm15, Lm16, Lm17, Lm18, Lm19, Lm20, Lm21, Lm22, Lm23, Lm24, Lm25, Lm26, Lm27, Lm28, Lm29, Nat.reduceLT, Nat.reduceEqDiff, ↓reduceIte, reduceCtorEq, Nat.reduceAdd, ge_iff_le, gt_iff_lt, forall_const, Nat.reduceBEq, Nat.reduceBNe, Nat.reduceMul, Nat.reduceLeDiff, Nat.reduceSub, Int.reduceToNat, td_3, td_4, td_9, td_22, td_24, td_25, td_27, td_28, td_29, td_31, hix])
          (refine exeC_ok (f := 60) ?_; simp only [B0, B1, B2, Lm0, Lm1, Lm2, Lm3, Lm4, Lm5, Lm6, Lm7, Lm8, Lm9, Lm10, Lm11, Lm12, Lm13, Lm14, Lm15, Lm16, Lm17, Lm18, Lm19, Lm20, Lm21, Lm22, Lm23, Lm24, Lm25, Lm26, Lm27, Lm28, Lm29, Nat.reduceLT, Nat.reduceEqDiff, ↓reduceIte, reduceCtorEq, Nat.reduceAdd, ge_iff_le, gt_iff_lt, forall_const, Nat.reduceBEq, Nat.reduceBNe, Nat.reduceMul, Nat.reduceLeDiff, Nat.reduceSub, Int.reduceToNat, td_3, td_4, td_9, td_22, td_24, td_25, td_27, td_28, td_29, td_31, hw2, ho, hoo, hto, List.length_map])
          and_intros; all_goals (try (refine Side.mk ?_; first | first | omega | (intros; omega) | (simp; done) | (simp; omega) | (intro h; simp at h; omega) | (simp_all; done) | rfl | (and_intros <;> first | omega | (intros; omega) | (simp; done) | (simp; omega) | (intro h; simp at h; omega) | (simp_all; done) | rfl)))
          refine ⟨(k + 1, addName o s), Conv.to [0, 1, 4] (nodupB_ok rfl) rfl (by repeat (first | exact trivial | refine ⟨.refl _, ?_⟩ | refine ⟨LeP.osl rfl, ?_⟩ | refine ⟨LeP.oslN rfl (by simp) (by omega), ?_⟩)) ⟨LeO.refl _, ⟨rfl, rfl, rfl, LeL.cons (LeP.oslN rfl (by rw [hadd]; simp) (by omega)) (LeL.cons (.refl _) .nil)⟩, LeO.app (zLB_append (zS _) rfl) (by rw [hadd, List.map_append]; rfl) (by rw [hadd]; simp), trivial⟩, ⟨by simp; omega, by simp only [hadd, List.length_append, List.length_singleton]; omega, hrow⟩, by simp; omega⟩
    · have hk' : k = ns.length := by omega
      subst hk'
      rw [List.drop_length] at c3
      simp only [rowN] at c3
      (refine exeC_ok (f := 60) ?_; simp only [B0, B1, B2, Lm0, Lm1, Lm2, Lm3, Lm4, Lm5, Lm6, Lm7, Lm8, Lm9, Lm10, Lm11, Lm12, Lm13, Lm14, Lm15, Lm16, Lm17, Lm18, Lm19, Lm20, Lm21, Lm22, Lm23, Lm24, Lm25, Lm26, Lm27, Lm28, Lm29, Nat.reduceLT, Nat.reduceEqDiff, ↓reduceIte, reduceCtorEq, Nat.reduceAdd, ge_iff_le, gt_iff_lt, forall_const, Nat.reduceBEq, Nat.reduceBNe, Nat.reduceMul, Nat.reduceLeDiff, Nat.reduceSub, Int.reduceToNat, td_3, td_4, td_9, td_22, td_24, td_25, td_27, td_28, td_29, td_31, strsP, evsP, trsP, hw'])
      and_intros; all_goals (try (refine Side.mk ?_; first | first | omega | (intros; omega) | (simp; done) | (simp; omega) | (intro h; simp at h; omega) | (simp_all; done) | rfl | (and_intros <;> first | omega | (intros; omega) | (simp; done) | (simp; omega) | (intro h; simp at h; omega) | (simp_all; done) | rfl)))
      exact ⟨(i + 1, o), Conv.to [0, 1, 2] (nodupB_ok rfl) rfl (by repeat (first | exact trivial | refine ⟨.refl _, ?_⟩ | refine ⟨LeP.osl rfl, ?_⟩ | refine ⟨LeP.oslN rfl (by simp) (by omega), ?_⟩)) ⟨LeO.refl _, ⟨rfl, rfl, rfl, LeL.cons (LeP.osl rfl) (LeL.cons (.refl _) .nil)⟩, LeO.oo (zS _), trivial⟩, ⟨by simp; omega, by simp only [sumN]; omega, by rw [← b3, c3]⟩, by simp; omega⟩
  have hi' : i = l.length := by omega
  subst hi'
  rw [List.drop_length] at b3
  simp only [namesN] at b3
  have hNl : out.length ≤ 1000000 := by omega
  have hto : (out.map S).take out.length = out.map S := List.take_of_length_le (by simp)
  refine WC_conv (env' := [(0, trsP l), (2, .ad 0 0), (4, .ad 1 0)]) (H' := [some ⟨27, false, 1, [.sc (.slice none 0 0), .sc (.slice none 0 0)]⟩, some ⟨27, false, 1, [strsP out, .sc (.slice none 0 0)]⟩]) ?_ ?_
  · rcases osl_cases 2 out.length 9 1 (out.map S) (by simp) (by omega) with ⟨ho, hoo, ho0, hon⟩ | ⟨ho, hoo, ho0⟩
    · rw [ho, hoo]
      exact Conv.to [0, 1] (nodupB_ok rfl) rfl (by repeat (first | exact trivial | refine ⟨.refl _, ?_⟩ | refine ⟨LeP.osl rfl, ?_⟩ | refine ⟨LeP.oslN rfl (by simp) (by omega), ?_⟩)) ⟨LeO.refl _, ⟨rfl, rfl, rfl, LeL.cons (LeP.nil' ho0 hon) (LeL.cons (.refl _) .nil)⟩, trivial⟩
    · rw [ho, hoo]
      (refine Conv.trans (Conv.frz 2 rfl (zS _)) ?_; simp only [B0, B1, B2, Lm0, Lm1, Lm2, Lm3, Lm4, Lm5, Lm6, Lm7, Lm8, Lm9, Lm10, Lm11, Lm12, Lm13, Lm14, Lm15, Lm16, Lm17, Lm18, Lm19, Lm20, Lm21, Lm22, Lm23, Lm24, Lm25, Lm26, Lm27, Lm28, Lm29, Nat.reduceLT, Nat.reduceEqDiff, ↓reduceIte, reduceCtorEq, Nat.reduceAdd, ge_iff_le, gt_iff_lt, forall_const, Nat.reduceBEq, Nat.reduceBNe, Nat.reduceMul, Nat.reduceLeDiff, Nat.reduceSub, Int.reduceToNat, BO, frz_oob, fN])
      exact Conv.to [0, 1] (nodupB_ok rfl) rfl (by repeat (first | exact trivial | refine ⟨.refl _, ?_⟩ | refine ⟨LeP.osl rfl, ?_⟩ | refine ⟨LeP.oslN rfl (by simp) (by omega), ?_⟩)) ⟨LeO.refl _, ⟨rfl, rfl, rfl, LeL.cons (LeP.im' rfl (by first | rfl | exact hto)) (LeL.cons (.refl _) .nil)⟩, trivial⟩
  (refine exeC_ok (f := 60) ?_; simp only [B0, B1, B2, Lm0, Lm1, Lm2, Lm3, Lm4, Lm5, Lm6, Lm7, Lm8, Lm9, Lm10, Lm11, Lm12, Lm13, Lm14, Lm15, Lm16, Lm17, Lm18, Lm19, Lm20, Lm21, Lm22, Lm23, Lm24, Lm25, Lm26, Lm27, Lm28, Lm29, Nat.reduceLT, Nat.reduceEqDiff, ↓reduceIte, reduceCtorEq, Nat.reduceAdd, ge_iff_le, gt_iff_lt, forall_const, Nat.reduceBEq, Nat.reduceBNe, Nat.reduceMul, Nat.reduceLeDiff, Nat.reduceSub, Int.reduceToNat, td_3, td_4, td_9, td_22, td_24, td_25, td_27, td_28, td_29, td_31, strsP, trsP])
  refine ⟨fun hbig => ?_, fun hbig => ?_⟩
  · (refine exeC_ok (f := 60) ?_; simp only [B0, B1, B2, Lm0, Lm1, Lm2, Lm3, Lm4, Lm5, Lm6, Lm7, Lm8, Lm9, Lm10, Lm11, Lm12, Lm13, Lm14, Lm15, Lm16, Lm17, Lm18, Lm19, Lm20, Lm21, Lm22, Lm23, Lm24, Lm25, Lm26, Lm27, Lm28, Lm29, Nat.reduceLT, Nat.reduceEqDiff, ↓reduceIte, reduceCtorEq, Nat.reduceAdd, ge_iff_le, gt_iff_lt, forall_const, Nat.reduceBEq, Nat.reduceBNe, Nat.reduceMul, Nat.reduceLeDiff, Nat.reduceSub, Int.reduceToNat, td_3, td_4, td_9, td_22, td_24, td_25, td_27, td_28, td_29, td_31, strsP, trsP])
    and_intros; all_goals (try (refine Side.mk ?_; first | first | omega | (intros; omega) | (simp; done) | (simp; omega) | (intro h; simp at h; omega) | (simp_all; done) | rfl | (and_intros <;> first | omega | (intros; omega) | (simp; done) | (simp; omega) | (intro h; simp at h; omega) | (simp_all; done) | rfl)))
    have hf : refM l = (⟨[], []⟩, 4) := by unfold refM; rw [if_pos a4, if_pos (by rw [← b3]; omega)]
    rw [hf]
    exact RetV.ct (i := 0) (u := 3) [] rfl rfl (by rw [td_27]; rfl) (by rw [td_27]; rfl) (by rw [td_27]; rfl) rfl rfl (LeP.tu (LeL.cons (LeP.ag (LeL.cons .nil (LeL.cons .nil .nil))) (LeL.cons (.refl _) .nil))) trivial
  have hf : refM l = (⟨out, (kwT l).map (refEv out l)⟩, 0) := by unfold refM; rw [if_pos a4, if_neg (by rw [← b3]; omega), ← b3]
  rw [hf]
  (refine exeC_ok (f := 60) ?_; simp only [B0, B1, B2, Lm0, Lm1, Lm2, Lm3, Lm4, Lm5, Lm6, Lm7, Lm8, Lm9, Lm10, Lm11, Lm12, Lm13, Lm14, Lm15, Lm16, Lm17, Lm18, Lm19, Lm20, Lm21, Lm22, Lm23, Lm24, Lm25, Lm26, Lm27, Lm28, Lm29, Nat.reduceLT, Nat.reduceEqDiff, ↓reduceIte, reduceCtorEq, Nat.reduceAdd, ge_iff_le, gt_iff_lt, forall_const, Nat.reduceBEq, Nat.reduceBNe, Nat.reduceMul, Nat.reduceLeDiff, Nat.reduceSub, Int.reduceToNat, td_3, td_4, td_9, td_22, td_24, td_25, td_27, td_28, td_29, td_31, strsP, trsP])
  and_intros; all_goals (try (refine Side.mk ?_; first | first | omega | (intros; omega) | (simp; done) | (simp; omega) | (intro h; simp at h; omega) | (simp_all; done) | rfl | (and_intros <;> first | omega | (intros; omega) | (simp; done) | (simp; omega) | (intro h; simp at h; omega) | (simp_all; done) | rfl)))
  refine WC_loop (fun _ : List Nat × List Ev => [(0, trsP l), (2, .ad 0 0), (4, .ad 1 0), (11, .id 2 l.length)])
    (fun s => [some ⟨27, false, 1, [.sc (.slice none 0 0), .sc (.slice none 0 0)]⟩, some ⟨27, false, 1, [strsP out, osl 3 s.2.length]⟩, some ⟨3, true, 1, s.1.map Nn⟩, oob 31 2 (s.2.flatMap evC)])
    (fun s => s.1.length = l.length ∧ s.2 ++ (kwT (restT l s.1)).map (refEv out l) = (kwT l).map (refEv out l) ∧ s.2.length + tot (restT l s.1) = tot l) (fun s => tot (restT l s.1)) (List.replicate l.length 0, []) ?_ ⟨by simp, by simp [restT_zero], by simp [restT_zero]⟩ ?_
  · exact Conv.to [0, 1, 2, 3] (nodupB_ok rfl) rfl (by repeat (first | exact trivial | refine ⟨.refl _, ?_⟩ | refine ⟨LeP.osl rfl, ?_⟩ | refine ⟨LeP.oslN rfl (by simp) (by omega), ?_⟩)) ⟨LeO.refl _, LeO.refl _, LeO.ob (zR _ _) (by rw [List.map_replicate]; rfl), trivial, trivial⟩
  rintro ⟨a, evs⟩ ⟨d1, d2, d3⟩
  simp only at d1 d2 d3
  have hevl : evs.length ≤ 1000000 := by have : tot l ≤ 1000000 := hev; omega
  (refine exeC_ok (f := 60) ?_; simp only [B0, B1, B2, Lm0, Lm1, Lm2, Lm3, Lm4, Lm5, Lm6, Lm7, Lm8, Lm9, Lm10, Lm11, Lm12, Lm13, Lm14, Lm15, Lm16, Lm17, Lm18, Lm19, Lm20, Lm21, Lm22, Lm23, Lm24, Lm25, Lm26, Lm27, Lm28, Lm29, Nat.reduceLT, Nat.reduceEqDiff, ↓reduceIte, reduceCtorEq, Nat.reduceAdd, ge_iff_le, gt_iff_lt, forall_const, Nat.reduceBEq, Nat.reduceBNe, Nat.reduceMul, Nat.reduceLeDiff, Nat.reduceSub, Int.reduceToNat, td_3, td_4, td_9, td_22, td_24, td_25, td_27, td_28, td_29, td_31, strsP, trsP])
  and_intros; all_goals (try (refine Side.mk ?_; first | first | omega | (intros; omega) | (simp; done) | (simp; omega) | (intro h; simp at h; omega) | (simp_all; done) | rfl | (and_intros <;> first | omega | (intros; omega) | (simp; done) | (simp; omega) | (intro h; simp at h; omega) | (simp_all; done) | rfl)))
  refine WC_loop (fun s : Nat × Option Ln => [(0, trsP l), (2, .ad 0 0), (4, .ad 1 0), (11, .id 2 l.length), (12, I (bI s.2)), (66, trsP l), (67, I l.length), (68, I s.1)])
    (fun _ => [some ⟨27, false, 1, [.sc (.slice none 0 0), .sc (.slice none 0 0)]⟩, some ⟨27, false, 1, [strsP out, osl 3 evs.length]⟩, some ⟨3, true, 1, a.map Nn⟩, oob 31 2 (evs.flatMap evC)])
    (fun s => s.1 ≤ l.length ∧ scan s.2 s.1 ((restT l a).drop s.1) = bestL 0 (restT l a) ∧ CurOk l a s.2) (fun s => l.length - s.1) (0, none) ?_ ⟨Nat.zero_le _, scan_none _ _, fun x h => by cases h⟩ ?_
  · exact Conv.to [0, 1, 2, 3] (nodupB_ok rfl) rfl (by repeat (first | exact trivial | refine ⟨.refl _, ?_⟩ | refine ⟨LeP.osl rfl, ?_⟩ | refine ⟨LeP.oslN rfl (by simp) (by omega), ?_⟩)) ⟨LeO.refl _, ⟨rfl, rfl, rfl, LeL.cons (.refl _) (LeL.cons (LeP.osl rfl) .nil)⟩, LeO.ob (zN _) rfl, LeO.oo (zE _), trivial⟩
  rintro ⟨i, cur⟩ ⟨e1, e2, e3⟩
  simp only at e1 e2 e3
  (refine exeC_ok (f := 60) ?_; simp only [B0, B1, B2, Lm0, Lm1, Lm2, Lm3, Lm4, Lm5, Lm6, Lm7, Lm8, Lm9, Lm10, Lm11, Lm12, Lm13, Lm14, Lm15, Lm16, Lm17, Lm18, Lm19, Lm20, Lm21, Lm22, Lm23, Lm24, Lm25, Lm26, Lm27, Lm28, Lm29, Nat.reduceLT, Nat.reduceEqDiff, ↓reduceIte, reduceCtorEq, Nat.reduceAdd, ge_iff_le, gt_iff_lt, forall_const, Nat.reduceBEq, Nat.reduceBNe, Nat.reduceMul, Nat.reduceLeDiff, Nat.reduceSub, Int.reduceToNat, td_3, td_4, td_9, td_22, td_24, td_25, td_27, td_28, td_29, td_31, strsP, trsP])
  refine ⟨fun h2 => ?_, fun h2 => ?_⟩
  · have hi' : i < l.length := by omega
    have hx := drop_tr l i hi'
    have hw' : IntKind.i64.wrap ((i : Int) + 1) = (i : Int) + 1 := wrap64 (by omega) (by omega)
    have hrg := restT_get hi' (by omega : i < a.length)
    have hrd := drop_cons (restT l a) i (by rw [restT_length d1]; exact hi')
    have hga := getD_ml Nn a i (by omega)
    obtain ⟨⟨ns, es⟩, hne⟩ : ∃ t, l.getD i default = t := ⟨_, rfl⟩
    obtain ⟨ai, hai⟩ : ∃ n, a.getD i default = n := ⟨_, rfl⟩
    rw [hne, hai] at hrg
    rw [hne] at hx
    rw [hai] at hga
    simp only [Nn, I] at hga
    simp only at hrg
    rw [hrd, hrg, scan_cons] at e2
    simp only at e2
    refine exeC_ok (f := 6) ?_; simp only [B0, B1, B2, Lm0, Lm1, Lm2, Lm3, Lm4, Lm5, Lm6, Lm7, Lm8, Lm9, Lm10, Lm11, Lm12, Lm13, Lm14, Lm15, Lm16, Lm17, Lm18, Lm19, Lm20, Lm21, Lm22, Lm23, Lm24, Lm25, Lm26, Lm27, Lm28, Lm29, Nat.reduceLT, Nat.reduceEqDiff, ↓reduceIte, reduceCtorEq, Nat.reduceAdd, ge_iff_le, gt_iff_lt, forall_const, Nat.reduceBEq, Nat.reduceBNe, Nat.reduceMul, Nat.reduceLeDiff, Nat.reduceSub, Int.reduceToNat, td_3, td_4, td_9, td_22, td_24, td_25, td_27, td_28, td_29, td_31, strsP, trsP, evsP, hx, lT]
    and_intros; all_goals (try (refine Side.mk ?_; first | first | omega | (intros; omega) | (simp; done) | (simp; omega) | (intro h; simp at h; omega) | (simp_all; done) | rfl | (and_intros <;> first | omega | (intros; omega) | (simp; done) | (simp; omega) | (intro h; simp at h; omega) | (simp_all; done) | rfl)))
    refine WC_reg ?_
    by_cases hlt : ai < es.length
    · have hlt' : ((ai : Int) < (es.length : Int)) = True := eq_true (by omega)
      rw [if_neg (fun e => by rw [List.drop_eq_nil_iff] at e; omega)] at e2
      have hy := drop_ev es ai hlt
      have hnew : CurOk l a (some ⟨es.drop ai, i⟩) := fun x h => by
        cases h
        exact ⟨i, hi', rfl, by rw [hne, hai]; exact hlt, by rw [hne, hai]⟩
      cases cur with
      | none =>
        simp only at e2
        have hbn : bI none = -1 := rfl
        refine Run.onN 12 ?_; simp only [B0, B1, B2, Lm0, Lm1, Lm2, Lm3, Lm4, Lm5, Lm6, Lm7, Lm8, Lm9, Lm10, Lm11, Lm12, Lm13, Lm14, Lm15, Lm16, Lm17, Lm18, Lm19, Lm20, Lm21, Lm22, Lm23, Lm24, Lm25, Lm26, Lm27, Lm28, Lm29, Nat.reduceLT, Nat.reduceEqDiff, ↓reduceIte, reduceCtorEq, Nat.reduceAdd, ge_iff_le, gt_iff_lt, forall_const, Nat.reduceBEq, Nat.reduceBNe, Nat.reduceMul, Nat.reduceLeDiff, Nat.reduceSub, Int.reduceToNat, td_3, td_4, td_9, td_22, td_24, td_25, td_27, td_28, td_29, td_31, evalN, strsP, trsP, evsP, hga, hlt', List.length_map, hbn]
        and_intros; all_goals (try (refine Side.mk ?_; first | first | omega | (intros; omega) | (simp; done) | (simp; omega) | (intro h; simp at h; omega) | (simp_all; done) | rfl | (and_intros <;> first | omega | (intros; omega) | (simp; done) | (simp; omega) | (intro h; simp at h; omega) | (simp_all; done) | rfl)))
        iterate 22 refine Run.skip (Bo false) rfl rfl ?_
        (refine Run.on ?_; simp only [B0, B1, B2, Lm0, Lm1, Lm2, Lm3, Lm4, Lm5, Lm6, Lm7, Lm8, Lm9, Lm10, Lm11, Lm12, Lm13, Lm14, Lm15, Lm16, Lm17, Lm18, Lm19, Lm20, Lm21, Lm22, Lm23, Lm24, Lm25, Lm26, Lm27, Lm28, Lm29, Nat.reduceLT, Nat.reduceEqDiff, ↓reduceIte, reduceCtorEq, Nat.reduceAdd, ge_iff_le, gt_iff_lt, forall_const, Nat.reduceBEq, Nat.reduceBNe, Nat.reduceMul, Nat.reduceLeDiff, Nat.reduceSub, Int.reduceToNat, td_3, td_4, td_9, td_22, td_24, td_25, td_27, td_28, td_29, td_31, hw'])
        and_intros; all_goals (try (refine Side.mk ?_; first | first | omega | (intros; omega) | (simp; done) | (simp; omega) | (intro h; simp at h; omega) | (simp_all; done) | rfl | (and_intros <;> first | omega | (intros; omega) | (simp; done) | (simp; omega) | (intro h; simp at h; omega) | (simp_all; done) | rfl)))
        (refine exeC_ok (f := 60) ?_; simp only [B0, B1, B2, Lm0, Lm1, Lm2, Lm3, Lm4, Lm5, Lm6, Lm7, Lm8, Lm9, Lm10, Lm11, Lm12, Lm13, Lm14, Lm15, Lm16, Lm17, Lm18, Lm19, Lm20, Lm21, Lm22, Lm23, Lm24, Lm25, Lm26, Lm27, Lm28, Lm29, Nat.reduceLT, Nat.reduceEqDiff, ↓reduceIte, reduceCtorEq, Nat.reduceAdd, ge_iff_le, gt_iff_lt, forall_const, Nat.reduceBEq, Nat.reduceBNe, Nat.reduceMul, Nat.reduceLeDiff, Nat.reduceSub, Int.reduceToNat, td_3, td_4, td_9, td_22, td_24, td_25, td_27, td_28, td_29, td_31, hw'])
        refine ⟨fun _ => ?_, fun h => absurd (by decide) h⟩
        (refine exeC_ok (f := 60) ?_; simp only [B0, B1, B2, Lm0, Lm1, Lm2, Lm3, Lm4, Lm5, Lm6, Lm7, Lm8, Lm9, Lm10, Lm11, Lm12, Lm13, Lm14, Lm15, Lm16, Lm17, Lm18, Lm19, Lm20, Lm21, Lm22, Lm23, Lm24, Lm25, Lm26, Lm27, Lm28, Lm29, Nat.reduceLT, Nat.reduceEqDiff, ↓reduceIte, reduceCtorEq, Nat.reduceAdd, ge_iff_le, gt_iff_lt, forall_const, Nat.reduceBEq, Nat.reduceBNe, Nat.reduceMul, Nat.reduceLeDiff, Nat.reduceSub, Int.reduceToNat, td_3, td_4, td_9, td_22, td_24, td_25, td_27, td_28, td_29, td_31, hw'])
        exact ⟨(i + 1, some ⟨es.drop ai, i⟩), Conv.to [0, 1, 2, 3] (nodupB_ok rfl) rfl (by repeat (first | exact trivial | refine ⟨.refl _, ?_⟩ | refine ⟨LeP.osl rfl, ?_⟩ | refine ⟨LeP.oslN rfl (by simp) (by omega), ?_⟩)) ⟨LeO.refl _, ⟨rfl, rfl, rfl, LeL.cons (.refl _) (LeL.cons (LeP.osl rfl) .nil)⟩, LeO.ob (zN _) rfl, LeO.oo (zE _), trivial⟩, ⟨by simp; omega, e2, hnew⟩, by simp; omega⟩
      | some x =>
        obtain ⟨b, g1, g2, g3, g4⟩ := e3 x rfl
        obtain ⟨xe, xn⟩ := x
        simp only at g2 g4
        subst g2 g4
        have hxb := drop_tr l b g1
        have hgb := getD_ml Nn a b (by omega)
        have hyb := drop_ev _ _ g3
        simp only [tm_drop] at e2
        obtain ⟨⟨bs, eb⟩, hbe⟩ : ∃ t, l.getD b default = t := ⟨_, rfl⟩
        obtain ⟨ab, hab⟩ : ∃ n, a.getD b default = n := ⟨_, rfl⟩
        rw [hbe] at hxb
        rw [hab] at hgb
        rw [hbe, hab] at hyb g3 e2
        simp only at hyb g3 e2
        simp only [Nn, I] at hgb
        have hb0 : ((b : Int) < 0) = False := eq_false (by omega)
        have hbs : bI (some ⟨eb.drop ab, (b : Int)⟩) = b := rfl
        rw [hbe, hab]
        simp only [hbs]
        (refine Run.on ?_; simp only [B0, B1, B2, Lm0, Lm1, Lm2, Lm3, Lm4, Lm5, Lm6, Lm7, Lm8, Lm9, Lm10, Lm11, Lm12, Lm13, Lm14, Lm15, Lm16, Lm17, Lm18, Lm19, Lm20, Lm21, Lm22, Lm23, Lm24, Lm25, Lm26, Lm27, Lm28, Lm29, Nat.reduceLT, Nat.reduceEqDiff, ↓reduceIte, reduceCtorEq, Nat.reduceAdd, ge_iff_le, gt_iff_lt, forall_const, Nat.reduceBEq, Nat.reduceBNe, Nat.reduceMul, Nat.reduceLeDiff, Nat.reduceSub, Int.reduceToNat, td_3, td_4, td_9, td_22, td_24, td_25, td_27, td_28, td_29, td_31, strsP, trsP, evsP, hga, hlt', List.length_map, hb0, hgb, hxb, hyb, hy, lT, lE, intsP])
        and_intros; all_goals (try (refine Side.mk ?_; first | first | omega | (intros; omega) | (simp; done) | (simp; omega) | (intro h; simp at h; omega) | (simp_all; done) | rfl | (and_intros <;> first | omega | (intros; omega) | (simp; done) | (simp; omega) | (intro h; simp at h; omega) | (simp_all; done) | rfl)))
        refine exeC_ok (f := 1) ?_; simp only [B0, B1, B2, Lm0, Lm1, Lm2, Lm3, Lm4, Lm5, Lm6, Lm7, Lm8, Lm9, Lm10, Lm11, Lm12, Lm13, Lm14, Lm15, Lm16, Lm17, Lm18, Lm19, Lm20, Lm21, Lm22, Lm23, Lm24, Lm25, Lm26, Lm27, Lm28, Lm29, Nat.reduceLT, Nat.reduceEqDiff, ↓reduceIte, reduceCtorEq, Nat.reduceAdd, ge_iff_le, gt_iff_lt, forall_const, Nat.reduceBEq, Nat.reduceBNe, Nat.reduceMul, Nat.reduceLeDiff, Nat.reduceSub, Int.reduceToNat, td_3, td_4, td_9, td_22, td_24, td_25, td_27, td_28, td_29, td_31]
        refine ⟨fun h5 => ?_, fun h5 => ?_⟩
        · rw [if_pos h5] at e2
          (refine exeC_ok (f := 60) ?_; simp only [B0, B1, B2, Lm0, Lm1, Lm2, Lm3, Lm4, Lm5, Lm6, Lm7, Lm8, Lm9, Lm10, Lm11, Lm12, Lm13, Lm14, Lm15, Lm16, Lm17, Lm18, Lm19, Lm20, Lm21, Lm22, Lm23, Lm24, Lm25, Lm26, Lm27, Lm28, Lm29, Nat.reduceLT, Nat.reduceEqDiff, ↓reduceIte, reduceCtorEq, Nat.reduceAdd, ge_iff_le, gt_iff_lt, forall_const, Nat.reduceBEq, Nat.reduceBNe, Nat.reduceMul, Nat.reduceLeDiff, Nat.reduceSub, Int.reduceToNat, td_3, td_4, td_9, td_22, td_24, td_25, td_27, td_28, td_29, td_31, hw'])
          exact ⟨(i + 1, some ⟨es.drop ai, i⟩), Conv.to [0, 1, 2, 3] (nodupB_ok rfl) rfl (by repeat (first | exact trivial | refine ⟨.refl _, ?_⟩ | refine ⟨LeP.osl rfl, ?_⟩ | refine ⟨LeP.oslN rfl (by simp) (by omega), ?_⟩)) ⟨LeO.refl _, ⟨rfl, rfl, rfl, LeL.cons (.refl _) (LeL.cons (LeP.osl rfl) .nil)⟩, LeO.ob (zN _) rfl, LeO.oo (zE _), trivial⟩, ⟨by simp; omega, e2, hnew⟩, by simp; omega⟩
        · rw [if_neg h5] at e2
          (refine exeC_ok (f := 60) ?_; simp only [B0, B1, B2, Lm0, Lm1, Lm2, Lm3, Lm4, Lm5, Lm6, Lm7, Lm8, Lm9, Lm10, Lm11, Lm12, Lm13, Lm14, Lm15, Lm16, Lm17, Lm18, Lm19, Lm20, Lm21, Lm22, Lm23, Lm24, Lm25, Lm26, Lm27, Lm28, Lm29, Nat.reduceLT, Nat.reduceEqDiff, ↓reduceIte, reduceCtorEq, Nat.reduceAdd, ge_iff_le, gt_iff_lt, forall_const, Nat.reduceBEq, Nat.reduceBNe, Nat.reduceMul, Nat.reduceLeDiff, Nat.reduceSub, Int.reduceToNat, td_3, td_4, td_9, td_22, td_24, td_25, td_27, td_28, td_29, td_31, hw'])
          exact ⟨(i + 1, some ⟨eb.drop ab, b⟩), Conv.to [0, 1, 2, 3] (nodupB_ok rfl) rfl (by repeat (first | exact trivial | refine ⟨.refl _, ?_⟩ | refine ⟨LeP.osl rfl, ?_⟩ | refine ⟨LeP.oslN rfl (by simp) (by omega), ?_⟩)) ⟨LeO.refl _, ⟨rfl, rfl, rfl, LeL.cons (.refl _) (LeL.cons (LeP.osl rfl) .nil)⟩, LeO.ob (zN _) rfl, LeO.oo (zE _), trivial⟩, ⟨by simp; omega, e2, by rw [hbe, hab] at e3; exact e3⟩, by simp; omega⟩
    · have hlt' : ((ai : Int) < (es.length : Int)) = False := eq_false (by omega)
      rw [if_pos (List.drop_eq_nil_of_le (by omega))] at e2
      refine Run.onN 9 ?_; simp only [B0, B1, B2, Lm0, Lm1, Lm2, Lm3, Lm4, Lm5, Lm6, Lm7, Lm8, Lm9, Lm10, Lm11, Lm12, Lm13, Lm14, Lm15, Lm16, Lm17, Lm18, Lm19, Lm20, Lm21, Lm22, Lm23, Lm24, Lm25, Lm26, Lm27, Lm28, Lm29, Nat.reduceLT, Nat.reduceEqDiff, ↓reduceIte, reduceCtorEq, Nat.reduceAdd, ge_iff_le, gt_iff_lt, forall_const, Nat.reduceBEq, Nat.reduceBNe, Nat.reduceMul, Nat.reduceLeDiff, Nat.reduceSub, Int.reduceToNat, td_3, td_4, td_9, td_22, td_24, td_25, td_27, td_28, td_29, td_31, evalN, strsP, trsP, evsP, hga, hlt', List.length_map]
      and_intros; all_goals (try (refine Side.mk ?_; first | first | omega | (intros; omega) | (simp; done) | (simp; omega) | (intro h; simp at h; omega) | (simp_all; done) | rfl | (and_intros <;> first | omega | (intros; omega) | (simp; done) | (simp; omega) | (intro h; simp at h; omega) | (simp_all; done) | rfl)))
      iterate 26 refine Run.skip (Bo false) rfl rfl ?_
      (refine Run.on ?_; simp only [B0, B1, B2, Lm0, Lm1, Lm2, Lm3, Lm4, Lm5, Lm6, Lm7, Lm8, Lm9, Lm10, Lm11, Lm12, Lm13, Lm14, Lm15, Lm16, Lm17, Lm18, Lm19, Lm20, Lm21, Lm22, Lm23, Lm24, Lm25, Lm26, Lm27, Lm28, Lm29, Nat.reduceLT, Nat.reduceEqDiff, ↓reduceIte, reduceCtorEq, Nat.reduceAdd, ge_iff_le, gt_iff_lt, forall_const, Nat.reduceBEq, Nat.reduceBNe, Nat.reduceMul, Nat.reduceLeDiff, Nat.reduceSub, Int.reduceToNat, td_3, td_4, td_9, td_22, td_24, td_25, td_27, td_28, td_29, td_31, hw'])
      (refine exeC_ok (f := 60) ?_; simp only [B0, B1, B2, Lm0, Lm1, Lm2, Lm3, Lm4, Lm5, Lm6, Lm7, Lm8, Lm9, Lm10, Lm11, Lm12, Lm13, Lm14, Lm15, Lm16, Lm17, Lm18, Lm19, Lm20, Lm21, Lm22, Lm23, Lm24, Lm25, Lm26, Lm27, Lm28, Lm29, Nat.reduceLT, Nat.reduceEqDiff, ↓reduceIte, reduceCtorEq, Nat.reduceAdd, ge_iff_le, gt_iff_lt, forall_const, Nat.reduceBEq, Nat.reduceBNe, Nat.reduceMul, Nat.reduceLeDiff, Nat.reduceSub, Int.reduceToNat, td_3, td_4, td_9, td_22, td_24, td_25, td_27, td_28, td_29, td_31, hw'])
      (refine exeC_ok (f := 60) ?_; simp only [B0, B1, B2, Lm0, Lm1, Lm2, Lm3, Lm4, Lm5, Lm6, Lm7, Lm8, Lm9, Lm10, Lm11, Lm12, Lm13, Lm14, Lm15, Lm16, Lm17, Lm18, Lm19, Lm20, Lm21, Lm22, Lm23, Lm24, Lm25, Lm26, Lm27, Lm28, Lm29, Nat.reduceLT, Nat.reduceEqDiff, ↓reduceIte, reduceCtorEq, Nat.reduceAdd, ge_iff_le, gt_iff_lt, forall_const, Nat.reduceBEq, Nat.reduceBNe, Nat.reduceMul, Nat.reduceLeDiff, Nat.reduceSub, Int.reduceToNat, td_3, td_4, td_9, td_22, td_24, td_25, td_27, td_28, td_29, td_31, hw'])
      exact ⟨(i + 1, cur), Conv.to [0, 1, 2, 3] (nodupB_ok rfl) rfl (by repeat (first | exact trivial | refine ⟨.refl _, ?_⟩ | refine ⟨LeP.osl rfl, ?_⟩ | refine ⟨LeP.oslN rfl (by simp) (by omega), ?_⟩)) ⟨LeO.refl _, ⟨rfl, rfl, rfl, LeL.cons (.refl _) (LeL.cons (LeP.osl rfl) .nil)⟩, LeO.ob (zN _) rfl, LeO.oo (zE _), trivial⟩, ⟨by simp; omega, e2, e3⟩, by simp; omega⟩
  have hi' : i = l.length := by omega
  subst hi'
  rw [List.drop_eq_nil_of_le (by rw [restT_length d1]; omega)] at e2
  simp only [scan] at e2
  (refine exeC_ok (f := 60) ?_; simp only [B0, B1, B2, Lm0, Lm1, Lm2, Lm3, Lm4, Lm5, Lm6, Lm7, Lm8, Lm9, Lm10, Lm11, Lm12, Lm13, Lm14, Lm15, Lm16, Lm17, Lm18, Lm19, Lm20, Lm21, Lm22, Lm23, Lm24, Lm25, Lm26, Lm27, Lm28, Lm29, Nat.reduceLT, Nat.reduceEqDiff, ↓reduceIte, reduceCtorEq, Nat.reduceAdd, ge_iff_le, gt_iff_lt, forall_const, Nat.reduceBEq, Nat.reduceBNe, Nat.reduceMul, Nat.reduceLeDiff, Nat.reduceSub, Int.reduceToNat, td_3, td_4, td_9, td_22, td_24, td_25, td_27, td_28, td_29, td_31, strsP, trsP])
  cases cur with
  | none =>
    refine ⟨fun _ => ?_, fun h => absurd (by decide) h⟩
    rw [kwT_none e2.symm, List.map_nil, List.append_nil] at d2
    rcases osl_cases 3 evs.length 31 2 (evs.flatMap evC) (lE _) (by omega) with ⟨ho, hoo, ho0, hon⟩ | ⟨ho, hoo, ho0⟩
    · (refine exeC_ok (f := 60) ?_; simp only [B0, B1, B2, Lm0, Lm1, Lm2, Lm3, Lm4, Lm5, Lm6, Lm7, Lm8, Lm9, Lm10, Lm11, Lm12, Lm13, Lm14, Lm15, Lm16, Lm17, Lm18, Lm19, Lm20, Lm21, Lm22, Lm23, Lm24, Lm25, Lm26, Lm27, Lm28, Lm29, Nat.reduceLT, Nat.reduceEqDiff, ↓reduceIte, reduceCtorEq, Nat.reduceAdd, ge_iff_le, gt_iff_lt, forall_const, Nat.reduceBEq, Nat.reduceBNe, Nat.reduceMul, Nat.reduceLeDiff, Nat.reduceSub, Int.reduceToNat, td_3, td_4, td_9, td_22, td_24, td_25, td_27, td_28, td_29, td_31, strsP, trsP, ho, hoo])
      and_intros; all_goals (try (refine Side.mk ?_; first | first | omega | (intros; omega) | (simp; done) | (simp; omega) | (intro h; simp at h; omega) | (simp_all; done) | rfl | (and_intros <;> first | omega | (intros; omega) | (simp; done) | (simp; omega) | (intro h; simp at h; omega) | (simp_all; done) | rfl)))
      exact RetV.ct (i := 0) (u := 3) [] rfl rfl (by rw [td_27]; rfl) (by rw [td_27]; rfl) (by rw [td_27]; rfl) rfl rfl (LeP.tu (LeL.cons (LeP.ag (LeL.cons (.refl _) (LeL.cons (LeP.nil' (by rw [← d2]; exact ho0) (by rw [← d2]; exact hon)) .nil))) (LeL.cons (.refl _) .nil))) trivial
    · (refine exeC_ok (f := 60) ?_; simp only [B0, B1, B2, Lm0, Lm1, Lm2, Lm3, Lm4, Lm5, Lm6, Lm7, Lm8, Lm9, Lm10, Lm11, Lm12, Lm13, Lm14, Lm15, Lm16, Lm17, Lm18, Lm19, Lm20, Lm21, Lm22, Lm23, Lm24, Lm25, Lm26, Lm27, Lm28, Lm29, Nat.reduceLT, Nat.reduceEqDiff, ↓reduceIte, reduceCtorEq, Nat.reduceAdd, ge_iff_le, gt_iff_lt, forall_const, Nat.reduceBEq, Nat.reduceBNe, Nat.reduceMul, Nat.reduceLeDiff, Nat.reduceSub, Int.reduceToNat, td_3, td_4, td_9, td_22, td_24, td_25, td_27, td_28, td_29, td_31, strsP, trsP, ho, hoo])
      and_intros; all_goals (try (refine Side.mk ?_; first | first | omega | (intros; omega) | (simp; done) | (simp; omega) | (intro h; simp at h; omega) | (simp_all; done) | rfl | (and_intros <;> first | omega | (intros; omega) | (simp; done) | (simp; omega) | (intro h; simp at h; omega) | (simp_all; done) | rfl)))
      (refine RetV.conv (Conv.frz 3 rfl (zE _)) ?_; simp only [B0, B1, B2, Lm0, Lm1, Lm2, Lm3, Lm4, Lm5, Lm6, Lm7, Lm8, Lm9, Lm10, Lm11, Lm12, Lm13, Lm14, Lm15, Lm16, Lm17, Lm18, Lm19, Lm20, Lm21, Lm22, Lm23, Lm24, Lm25, Lm26, Lm27, Lm28, Lm29, Nat.reduceLT, Nat.reduceEqDiff, ↓reduceIte, reduceCtorEq, Nat.reduceAdd, ge_iff_le, gt_iff_lt, forall_const, Nat.reduceBEq, Nat.reduceBNe, Nat.reduceMul, Nat.reduceLeDiff, Nat.reduceSub, Int.reduceToNat, BO, frz_oob, fN])
      exact RetV.ct (i := 0) (u := 3) [] rfl rfl (by rw [td_27]; rfl) (by rw [td_27]; rfl) (by rw [td_27]; rfl) rfl rfl (LeP.tu (LeL.cons (LeP.ag (LeL.cons (.refl _) (LeL.cons (LeP.im' (by rw [← d2]) (by rw [← d2]; exact List.take_of_length_le (by rw [lE]; omega))) .nil))) (LeL.cons (.refl _) .nil))) trivial
  | some x =>
    obtain ⟨b, g1, g2, g3, g4⟩ := e3 x rfl
    obtain ⟨xe, xn⟩ := x
    simp only at g2 g4
    subst g2 g4
    have hT := hok _ (getD_mem g1)
    have hxb := drop_tr l b g1
    have hgb := getD_ml Nn a b (by omega)
    have hyb := drop_ev _ _ g3
    have k1 := kwT_some e2.symm
    have k2 := tot_adv (bestL_some _ 0 _ e2.symm).1
    have k3 := restT_adv l a 0 b d1
    simp only [Nat.zero_add] at k3
    simp only at k1 k2
    rw [k3] at k1 k2
    have k4 := over_map1 Nn a b (a.getD b default + 1) (by omega)
    have k5 : refEv out l ((b : Int), ((l.getD b default).evs.drop (a.getD b default)).getD 0 default) = ⟨((l.getD b default).evs.getD (a.getD b default) default).t, refIds out (l.getD b default).names ((l.getD b default).evs.getD (a.getD b default) default).ids⟩ := by
      unfold refEv; simp [List.getD_eq_getElem?_getD]
    rw [k1, List.map_cons, k5] at d2
    obtain ⟨⟨bs, eb⟩, hbe⟩ : ∃ t, l.getD b default = t := ⟨_, rfl⟩
    obtain ⟨ab, hab⟩ : ∃ n, a.getD b default = n := ⟨_, rfl⟩
    rw [hbe] at hxb hT
    rw [hab] at hgb k4
    rw [hbe, hab] at hyb g3 d2
    rw [hab] at k2
    simp only at hyb g3 d2
    have hTi := hT.i _ (getD_mem g3)
    obtain ⟨⟨et, ei⟩, hee⟩ : ∃ e, eb.getD ab default = e := ⟨_, rfl⟩
    rw [hee] at hyb d2 hTi
    have hTn := hT.n
    have hTe := hT.e
    simp only at hTn hTe hTi hyb d2
    simp only [Nn, I] at hgb k4
    have hbs : bI (some ⟨(l.getD b default).evs.drop (a.getD b default), (b : Int)⟩) = b := rfl
    have hw1 : IntKind.i64.wrap ((ab : Int) + 1) = ((ab + 1 : Nat) : Int) := wrap64 (by omega) (by omega)
    refine ⟨fun h => absurd h (by rw [hbs]; omega), fun _ => ?_⟩
    simp only [hbs]
    (refine exeC_ok (f := 60) ?_; simp only [B0, B1, B2, Lm0, Lm1, Lm2, Lm3, Lm4, Lm5, Lm6, Lm7, Lm8, Lm9, Lm10, Lm11, Lm12, Lm13, Lm14, Lm15, Lm16, Lm17, Lm18, Lm19, Lm20, Lm21, Lm22, Lm23, Lm24, Lm25, Lm26, Lm27, Lm28, Lm29, Nat.reduceLT, Nat.reduceEqDiff, ↓reduceIte, reduceCtorEq, Nat.reduceAdd, ge_iff_le, gt_iff_lt, forall_const, Nat.reduceBEq, Nat.reduceBNe, Nat.reduceMul, Nat.reduceLeDiff, Nat.reduceSub, Int.reduceToNat, td_3, td_4, td_9, td_22, td_24, td_25, td_27, td_28, td_29, td_31, strsP, trsP, evsP, intsP, hgb, hxb, hyb, hw1, k4, lT, lE, List.length_map])
    and_intros; all_goals (try (refine Side.mk ?_; first | first | omega | (intros; omega) | (simp; done) | (simp; omega) | (intro h; simp at h; omega) | (simp_all; done) | rfl | (and_intros <;> first | omega | (intros; omega) | (simp; done) | (simp; omega) | (intro h; simp at h; omega) | (simp_all; done) | rfl)))
    refine WC_loop (fun k : Nat => [(0, trsP l), (2, .ad 0 0), (4, .ad 1 0), (11, .id 2 l.length), (12, I b), (15, .ad 4 0), (16, .ad 5 0), (135, strsP out), (136, I out.length), (137, I k)])
      (fun k => [some ⟨27, false, 1, [.sc (.slice none 0 0), .sc (.slice none 0 0)]⟩, some ⟨27, false, 1, [strsP out, osl 3 evs.length]⟩, some ⟨3, true, 1, (a.set b (ab + 1)).map Nn⟩, oob 31 2 (evs.flatMap evC), some ⟨31, false, 1, [U et, intsP ei]⟩, some ⟨31, false, 1, [U et, osl 6 (refK out bs ei k).length]⟩, oob 3 1 ((refK out bs ei k).map I)])
      (fun k => k ≤ out.length) (fun k => out.length - k) 0 ?_ (Nat.zero_le _) ?_
    · exact Conv.to [0, 1, 2, 3, 4, 5, 6] (nodupB_ok rfl) rfl (by repeat (first | exact trivial | refine ⟨.refl _, ?_⟩ | refine ⟨LeP.osl rfl, ?_⟩ | refine ⟨LeP.oslN rfl (by simp) (by omega), ?_⟩)) ⟨LeO.refl _, ⟨rfl, rfl, rfl, LeL.cons (.refl _) (LeL.cons (LeP.osl rfl) .nil)⟩, LeO.ob (zN _) rfl, LeO.oo (zE _), LeO.refl _, LeO.refl _, trivial, trivial⟩
    intro k hk
    have hrl := refK_len out bs ei k
    (refine exeC_ok (f := 60) ?_; simp only [B0, B1, B2, Lm0, Lm1, Lm2, Lm3, Lm4, Lm5, Lm6, Lm7, Lm8, Lm9, Lm10, Lm11, Lm12, Lm13, Lm14, Lm15, Lm16, Lm17, Lm18, Lm19, Lm20, Lm21, Lm22, Lm23, Lm24, Lm25, Lm26, Lm27, Lm28, Lm29, Nat.reduceLT, Nat.reduceEqDiff, ↓reduceIte, reduceCtorEq, Nat.reduceAdd, ge_iff_le, gt_iff_lt, forall_const, Nat.reduceBEq, Nat.reduceBNe, Nat.reduceMul, Nat.reduceLeDiff, Nat.reduceSub, Int.reduceToNat, td_3, td_4, td_9, td_22, td_24, td_25, td_27, td_28, td_29, td_31, strsP, trsP, evsP, intsP])
    refine ⟨fun h6 => ?_, fun h6 => ?_⟩
    · have hk' : k < out.length := by omega
      have hyo := drop_map S default out k hk'
      have hw' : IntKind.i64.wrap ((k : Int) + 1) = (k : Int) + 1 := wrap64 (by omega) (by omega)
      have hsn := refK_snoc out bs ei k
      obtain ⟨s, hse⟩ : ∃ s, out.getD k default = s := ⟨_, rfl⟩
      rw [hse] at hyo
      have hcb : condB out bs ei k = (decide (0 ≤ ixOf s bs 0) && hasB (ixOf s bs 0) ei) := by unfold condB; rw [hse]
      rw [hcb] at hsn
      have hto : List.take (refK out bs ei k).length ((refK out bs ei k).map I) = (refK out bs ei k).map I := List.take_of_length_le (by simp)
      rcases osl_cases 6 (refK out bs ei k).length 3 1 ((refK out bs ei k).map I) (by simp) (by omega) with ⟨ho, hoo, ho0, hon⟩ | ⟨ho, hoo, ho0⟩
      all_goals
        (refine exeC_ok (f := 60) ?_; simp only [B0, B1, B2, Lm0, Lm1, Lm2, Lm3, Lm4, Lm5, Lm6, Lm7, Lm8, Lm9, Lm10, Lm11, Lm12, Lm13, Lm14, Lm15, Lm16, Lm17, Lm18, Lm19, Lm20, Lm21, Lm22, Lm23, Lm24, Lm25, Lm26, Lm27, Lm28, Lm29, Nat.reduceLT, Nat.reduceEqDiff, ↓reduceIte, reduceCtorEq, Nat.reduceAdd, ge_iff_le, gt_iff_lt, forall_const, Nat.reduceBEq, Nat.reduceBNe, Nat.reduceMul, Nat.reduceLeDiff, Nat.reduceSub, Int.reduceToNat, td_3, td_4, td_9, td_22, td_24, td_25, td_27, td_28, td_29, td_31, strsP, trsP, evsP, intsP, hyo, hxb, lT, List.length_map])
        and_intros; all_goals (try (refine Side.mk ?_; first | first | omega | (intros; omega) | (simp; done) | (simp; omega) | (intro h; simp at h; omega) | (simp_all; done) | rfl | (and_intros <;> first | omega | (intros; omega) | (simp; done) | (simp; omega) | (intro h; simp at h; omega) | (simp_all; done) | rfl)))
        refine Run.callP rfl rfl (by kernel_rfl) (c_ixS bs s hTn) rfl rfl rfl ?_
        (refine Run.on ?_; simp only [B0, B1, B2, Lm0, Lm1, Lm2, Lm3, Lm4, Lm5, Lm6, Lm7, Lm8, Lm9, Lm10, Lm11, Lm12, Lm13, Lm14, Lm15, Lm16, Lm17, Lm18, Lm19, Lm20, Lm21, Lm22, Lm23, Lm24, Lm25, Lm26, Lm27, Lm28, Lm29, Nat.reduceLT, Nat.reduceEqDiff, ↓reduceIte, reduceCtorEq, Nat.reduceAdd, ge_iff_le, gt_iff_lt, forall_const, Nat.reduceBEq, Nat.reduceBNe, Nat.reduceMul, Nat.reduceLeDiff, Nat.reduceSub, Int.reduceToNat, td_3, td_4, td_9, td_22, td_24, td_25, td_27, td_28, td_29, td_31, intsP, ho, hoo])
        and_intros; all_goals (try (refine Side.mk ?_; first | first | omega | (intros; omega) | (simp; done) | (simp; omega) | (intro h; simp at h; omega) | (simp_all; done) | rfl | (and_intros <;> first | omega | (intros; omega) | (simp; done) | (simp; omega) | (intro h; simp at h; omega) | (simp_all; done) | rfl)))
        refine Run.callF rfl rfl rfl (by kernel_rfl) (by repeat (first | exact trivial | refine ⟨fun h => h, ?_⟩ | refine ⟨fun _ => rfl, ?_⟩ | refine ⟨fun h => (Bool.and_eq_true_iff.1 h).1, ?_⟩ | refine ⟨fun h => (Bool.and_eq_true_iff.1 h).2, ?_⟩ | refine ⟨fun h => by simpa [holdP, evalO, look] using h, ?_⟩)) (fun _ => c_inI ei (ixOf s bs 0) hTi) rfl rfl rfl ?_
        (refine Run.on ?_; simp only [B0, B1, B2, Lm0, Lm1, Lm2, Lm3, Lm4, Lm5, Lm6, Lm7, Lm8, Lm9, Lm10, Lm11, Lm12, Lm13, Lm14, Lm15, Lm16, Lm17, Lm18, Lm19, Lm20, Lm21, Lm22, Lm23, Lm24, Lm25, Lm26, Lm27, Lm28, Lm29, Nat.reduceLT, Nat.reduceEqDiff, ↓reduceIte, reduceCtorEq, Nat.reduceAdd, ge_iff_le, gt_iff_lt, forall_const, Nat.reduceBEq, Nat.reduceBNe, Nat.reduceMul, Nat.reduceLeDiff, Nat.reduceSub, Int.reduceToNat, td_3, td_4, td_9, td_22, td_24, td_25, td_27, td_28, td_29, td_31, ho, hoo])
        and_intros; all_goals (try (refine Side.mk ?_; first | first | omega | (intros; omega) | (simp; done) | (simp; omega) | (intro h; simp at h; omega) | (simp_all; done) | rfl | (and_intros <;> first | omega | (intros; omega) | (simp; done) | (simp; omega) | (intro h; simp at h; omega) | (simp_all; done) | rfl)))
      · intro hc
        rw [if_pos hc] at hsn
        (refine exeC_ok (f := 60) ?_; simp only [B0, B1, B2, Lm0, Lm1, Lm2, Lm3, Lm4, Lm5, Lm6, Lm7, Lm8, Lm9, Lm10, Lm11, Lm12, Lm13, Lm14, Lm15, Lm16, Lm17, Lm18, Lm19, Lm20, Lm21, Lm22, Lm23, Lm24, Lm25, Lm26, Lm27, Lm28, Lm29, Nat.reduceLT, Nat.reduceEqDiff, ↓reduceIte, reduceCtorEq, Nat.reduceAdd, ge_iff_le, gt_iff_lt, forall_const, Nat.reduceBEq, Nat.reduceBNe, Nat.reduceMul, Nat.reduceLeDiff, Nat.reduceSub, Int.reduceToNat, td_3, td_4, td_9, td_22, td_24, td_25, td_27, td_28, td_29, td_31, hw', ho, hoo])
        and_intros; all_goals (try (refine Side.mk ?_; first | first | omega | (intros; omega) | (simp; done) | (simp; omega) | (intro h; simp at h; omega) | (simp_all; done) | rfl | (and_intros <;> first | omega | (intros; omega) | (simp; done) | (simp; omega) | (intro h; simp at h; omega) | (simp_all; done) | rfl)))
        exact ⟨k + 1, Conv.to [0, 1, 2, 3, 4, 5, 8] (nodupB_ok rfl) rfl (by repeat (first | exact trivial | refine ⟨.refl _, ?_⟩ | refine ⟨LeP.osl rfl, ?_⟩ | refine ⟨LeP.oslN rfl (by simp) (by omega), ?_⟩)) ⟨LeO.refl _, ⟨rfl, rfl, rfl, LeL.cons (.refl _) (LeL.cons (LeP.osl rfl) .nil)⟩, LeO.ob (zN _) rfl, LeO.oo (zE _), LeO.refl _, ⟨rfl, rfl, rfl, LeL.cons (.refl _) (LeL.cons (LeP.oslN rfl (by rw [hsn, List.length_append, ho0]; rfl) (by omega)) .nil)⟩, LeO.app rfl (by rw [hsn, List.map_append, hon]; rfl) (by rw [hsn]; simp), trivial⟩, by omega, by omega⟩
      · intro hc
        rw [if_neg (by rw [hc]; simp)] at hsn
        (refine exeC_ok (f := 60) ?_; simp only [B0, B1, B2, Lm0, Lm1, Lm2, Lm3, Lm4, Lm5, Lm6, Lm7, Lm8, Lm9, Lm10, Lm11, Lm12, Lm13, Lm14, Lm15, Lm16, Lm17, Lm18, Lm19, Lm20, Lm21, Lm22, Lm23, Lm24, Lm25, Lm26, Lm27, Lm28, Lm29, Nat.reduceLT, Nat.reduceEqDiff, ↓reduceIte, reduceCtorEq, Nat.reduceAdd, ge_iff_le, gt_iff_lt, forall_const, Nat.reduceBEq, Nat.reduceBNe, Nat.reduceMul, Nat.reduceLeDiff, Nat.reduceSub, Int.reduceToNat, td_3, td_4, td_9, td_22, td_24, td_25, td_27, td_28, td_29, td_31, hw', ho, hoo])
        and_intros; all_goals (try (refine Side.mk ?_; first | first | omega | (intros; omega) | (simp; done) | (simp; omega) | (intro h; simp at h; omega) | (simp_all; done) | rfl | (and_intros <;> first | omega | (intros; omega) | (simp; done) | (simp; omega) | (intro h; simp at h; omega) | (simp_all; done) | rfl)))
        refine ⟨k + 1, ?_, by omega, by omega⟩
        simp only [hsn, ho, hoo]
        exact Conv.to [0, 1, 2, 3, 4, 5, 6] (nodupB_ok rfl) rfl (by repeat (first | exact trivial | refine ⟨.refl _, ?_⟩ | refine ⟨LeP.osl rfl, ?_⟩ | refine ⟨LeP.oslN rfl (by simp) (by omega), ?_⟩)) ⟨LeO.refl _, ⟨rfl, rfl, rfl, LeL.cons (.refl _) (LeL.cons (LeP.osl rfl) .nil)⟩, LeO.ob (zN _) rfl, LeO.oo (zE _), LeO.refl _, LeO.refl _, trivial, trivial⟩
      · intro hc
        rw [if_pos hc] at hsn
        (refine exeC_ok (f := 60) ?_; simp only [B0, B1, B2, Lm0, Lm1, Lm2, Lm3, Lm4, Lm5, Lm6, Lm7, Lm8, Lm9, Lm10, Lm11, Lm12, Lm13, Lm14, Lm15, Lm16, Lm17, Lm18, Lm19, Lm20, Lm21, Lm22, Lm23, Lm24, Lm25, Lm26, Lm27, Lm28, Lm29, Nat.reduceLT, Nat.reduceEqDiff, ↓reduceIte, reduceCtorEq, Nat.reduceAdd, ge_iff_le, gt_iff_lt, forall_const, Nat.reduceBEq, Nat.reduceBNe, Nat.reduceMul, Nat.reduceLeDiff, Nat.reduceSub, Int.reduceToNat, td_3, td_4, td_9, td_22, td_24, td_25, td_27, td_28, td_29, td_31, hw', ho, hoo, hto, List.length_map])
        and_intros; all_goals (try (refine Side.mk ?_; first | first | omega | (intros; omega) | (simp; done) | (simp; omega) | (intro h; simp at h; omega) | (simp_all; done) | rfl | (and_intros <;> first | omega | (intros; omega) | (simp; done) | (simp; omega) | (intro h; simp at h; omega) | (simp_all; done) | rfl)))
        exact ⟨k + 1, Conv.to [0, 1, 2, 3, 4, 5, 8] (nodupB_ok rfl) rfl (by repeat (first | exact trivial | refine ⟨.refl _, ?_⟩ | refine ⟨LeP.osl rfl, ?_⟩ | refine ⟨LeP.oslN rfl (by simp) (by omega), ?_⟩)) ⟨LeO.refl _, ⟨rfl, rfl, rfl, LeL.cons (.refl _) (LeL.cons (LeP.osl rfl) .nil)⟩, LeO.ob (zN _) rfl, LeO.oo (zE _), LeO.refl _, ⟨rfl, rfl, rfl, LeL.cons (.refl _) (LeL.cons (LeP.oslN rfl (by rw [hsn, List.length_append]; rfl) (by omega)) .nil)⟩, LeO.app (zLB_append (zI _) rfl) (by rw [hsn, List.map_append]; rfl) (by rw [hsn]; simp), trivial⟩, by omega, by omega⟩
      · intro hc
        rw [if_neg (by rw [hc]; simp)] at hsn
        (refine exeC_ok (f := 60) ?_; simp only [B0, B1, B2, Lm0, Lm1, Lm2, Lm3, Lm4, Lm5, Lm6, Lm7, Lm8, Lm9, Lm10, Lm11, Lm12, Lm13, Lm14, Lm15, Lm16, Lm17, Lm18, Lm19, Lm20, Lm21, Lm22, Lm23, Lm24, Lm25, Lm26, Lm27, Lm28, Lm29, Nat.reduceLT, Nat.reduceEqDiff, ↓reduceIte, reduceCtorEq, Nat.reduceAdd, ge_iff_le, gt_iff_lt, forall_const, Nat.reduceBEq, Nat.reduceBNe, Nat.reduceMul, Nat.reduceLeDiff, Nat.reduceSub, Int.reduceToNat, td_3, td_4, td_9, td_22, td_24, td_25, td_27, td_28, td_29, td_31, hw', ho, hoo])
        and_intros; all_goals (try (refine Side.mk ?_; first | first | omega | (intros; omega) | (simp; done) | (simp; omega) | (intro h; simp at h; omega) | (simp_all; done) | rfl | (and_intros <;> first | omega | (intros; omega) | (simp; done) | (simp; omega) | (intro h; simp at h; omega) | (simp_all; done) | rfl)))
        refine ⟨k + 1, ?_, by omega, by omega⟩
        simp only [hsn, ho, hoo]
        exact Conv.to [0, 1, 2, 3, 4, 5, 6] (nodupB_ok rfl) rfl (by repeat (first | exact trivial | refine ⟨.refl _, ?_⟩ | refine ⟨LeP.osl rfl, ?_⟩ | refine ⟨LeP.oslN rfl (by simp) (by omega), ?_⟩)) ⟨LeO.refl _, ⟨rfl, rfl, rfl, LeL.cons (.refl _) (LeL.cons (LeP.osl rfl) .nil)⟩, LeO.ob (zN _) rfl, LeO.oo (zE _), LeO.refl _, ⟨rfl, rfl, rfl, LeL.cons (.refl _) (LeL.cons (.of_eq rfl) .nil)⟩, LeO.ob (zI _) rfl, trivial⟩
    have hk' : k = out.length := by omega
    subst hk'
    rw [refK_all] at hrl ⊢
    obtain ⟨rids, hrids⟩ : ∃ r, refIds out bs ei = r := ⟨_, rfl⟩
    rw [hrids] at hrl d2 ⊢
    refine WC_conv (env' := [(0, trsP l), (2, .ad 0 0), (4, .ad 1 0), (11, .id 2 l.length), (16, .ad 4 0)]) (H' := [some ⟨27, false, 1, [.sc (.slice none 0 0), .sc (.slice none 0 0)]⟩, some ⟨27, false, 1, [strsP out, osl 3 evs.length]⟩, some ⟨3, true, 1, (a.set b (ab + 1)).map Nn⟩, oob 31 2 (evs.flatMap evC), some ⟨31, false, 1, [U et, intsP rids]⟩]) ?_ ?_
    · rcases osl_cases 6 rids.length 3 1 (rids.map I) (by simp) (by omega) with ⟨ho, hoo, ho0, hon⟩ | ⟨ho, hoo, ho0⟩
      · rw [ho, hoo]
        exact Conv.to [0, 1, 2, 3, 5] (nodupB_ok rfl) rfl (by repeat (first | exact trivial | refine ⟨.refl _, ?_⟩ | refine ⟨LeP.osl rfl, ?_⟩ | refine ⟨LeP.oslN rfl (by simp) (by omega), ?_⟩)) ⟨LeO.refl _, ⟨rfl, rfl, rfl, LeL.cons (.refl _) (LeL.cons (LeP.osl rfl) .nil)⟩, LeO.ob (zN _) rfl, LeO.oo (zE _), ⟨rfl, rfl, rfl, LeL.cons (.refl _) (LeL.cons (LeP.nil' ho0 hon) .nil)⟩, trivial⟩
      · rw [ho, hoo]
        rcases osl_cases 3 evs.length 31 2 (evs.flatMap evC) (lE _) (by omega) with ⟨hp, hpp, hp0, hpn⟩ | ⟨hp, hpp, hp0⟩
        · rw [hp, hpp]
          (refine Conv.trans (Conv.frz 6 rfl (zI _)) ?_; simp only [B0, B1, B2, Lm0, Lm1, Lm2, Lm3, Lm4, Lm5, Lm6, Lm7, Lm8, Lm9, Lm10, Lm11, Lm12, Lm13, Lm14, Lm15, Lm16, Lm17, Lm18, Lm19, Lm20, Lm21, Lm22, Lm23, Lm24, Lm25, Lm26, Lm27, Lm28, Lm29, Nat.reduceLT, Nat.reduceEqDiff, ↓reduceIte, reduceCtorEq, Nat.reduceAdd, ge_iff_le, gt_iff_lt, forall_const, Nat.reduceBEq, Nat.reduceBNe, Nat.reduceMul, Nat.reduceLeDiff, Nat.reduceSub, Int.reduceToNat, BO, frz_oob, fN])
          exact Conv.to [0, 1, 2, 3, 5] (nodupB_ok rfl) rfl (by repeat (first | exact trivial | refine ⟨.refl _, ?_⟩ | refine ⟨LeP.osl rfl, ?_⟩ | refine ⟨LeP.oslN rfl (by simp) (by omega), ?_⟩)) ⟨LeO.refl _, LeO.refl _, LeO.ob (zN _) (by first | rfl | rw [frzL_closed _ _ _ (zN _)]), LeO.refl _, ⟨rfl, rfl, rfl, LeL.cons (.refl _) (LeL.cons (LeP.im' rfl (by first | rfl | exact List.take_of_length_le (by simp))) .nil)⟩, trivial⟩
        · rw [hp, hpp]
          (refine Conv.trans (Conv.frz 6 rfl (zI _)) ?_; simp only [B0, B1, B2, Lm0, Lm1, Lm2, Lm3, Lm4, Lm5, Lm6, Lm7, Lm8, Lm9, Lm10, Lm11, Lm12, Lm13, Lm14, Lm15, Lm16, Lm17, Lm18, Lm19, Lm20, Lm21, Lm22, Lm23, Lm24, Lm25, Lm26, Lm27, Lm28, Lm29, Nat.reduceLT, Nat.reduceEqDiff, ↓reduceIte, reduceCtorEq, Nat.reduceAdd, ge_iff_le, gt_iff_lt, forall_const, Nat.reduceBEq, Nat.reduceBNe, Nat.reduceMul, Nat.reduceLeDiff, Nat.reduceSub, Int.reduceToNat, BO, frz_oob, fN])
          exact Conv.to [0, 1, 2, 3, 5] (nodupB_ok rfl) rfl (by repeat (first | exact trivial | refine ⟨.refl _, ?_⟩ | refine ⟨LeP.osl rfl, ?_⟩ | refine ⟨LeP.oslN rfl (by simp) (by omega), ?_⟩)) ⟨LeO.refl _, LeO.refl _, LeO.ob (zN _) rfl, LeO.ob (zE _) rfl, ⟨rfl, rfl, rfl, LeL.cons (.refl _) (LeL.cons (LeP.im' rfl (by first | rfl | exact List.take_of_length_le (by simp))) .nil)⟩, trivial⟩
    · have htoE : List.take (evs.length * 2) (evs.flatMap evC) = evs.flatMap evC := List.take_of_length_le (by rw [lE]; omega)
      rcases osl_cases 3 evs.length 31 2 (evs.flatMap evC) (lE _) (by omega) with ⟨ho, hoo, ho0, hon⟩ | ⟨ho, hoo, ho0⟩
      · (refine exeC_ok (f := 60) ?_; simp only [B0, B1, B2, Lm0, Lm1, Lm2, Lm3, Lm4, Lm5, Lm6, Lm7, Lm8, Lm9, Lm10, Lm11, Lm12, Lm13, Lm14, Lm15, Lm16, Lm17, Lm18, Lm19, Lm20, Lm21, Lm22, Lm23, Lm24, Lm25, Lm26, Lm27, Lm28, Lm29, Nat.reduceLT, Nat.reduceEqDiff, ↓reduceIte, reduceCtorEq, Nat.reduceAdd, ge_iff_le, gt_iff_lt, forall_const, Nat.reduceBEq, Nat.reduceBNe, Nat.reduceMul, Nat.reduceLeDiff, Nat.reduceSub, Int.reduceToNat, td_3, td_4, td_9, td_22, td_24, td_25, td_27, td_28, td_29, td_31, strsP, trsP, evsP, intsP, ho, hoo])
        and_intros; all_goals (try (refine Side.mk ?_; first | first | omega | (intros; omega) | (simp; done) | (simp; omega) | (intro h; simp at h; omega) | (simp_all; done) | rfl | (and_intros <;> first | omega | (intros; omega) | (simp; done) | (simp; omega) | (intro h; simp at h; omega) | (simp_all; done) | rfl)))
        exact ⟨(a.set b (ab + 1), evs ++ [⟨et, rids⟩]), Conv.to [0, 1, 2, 6] (nodupB_ok rfl) rfl (by repeat (first | exact trivial | refine ⟨.refl _, ?_⟩ | refine ⟨LeP.osl rfl, ?_⟩ | refine ⟨LeP.oslN rfl (by simp) (by omega), ?_⟩)) ⟨LeO.refl _, ⟨rfl, rfl, rfl, LeL.cons (.refl _) (LeL.cons (LeP.oslN rfl (by rw [List.length_append, ho0]; rfl) (by omega)) .nil)⟩, LeO.ob (zN _) rfl, LeO.app rfl (by rw [List.flatMap_append, hon]; rfl) (by rw [List.flatMap_append]; simp [evC]), trivial⟩, ⟨by simp [d1], by rw [List.append_assoc]; exact d2, by simp only [List.length_append, List.length_singleton]; omega⟩, by show tot (restT l (a.set b (ab + 1))) < tot (restT l a); omega⟩
      · (refine exeC_ok (f := 60) ?_; simp only [B0, B1, B2, Lm0, Lm1, Lm2, Lm3, Lm4, Lm5, Lm6, Lm7, Lm8, Lm9, Lm10, Lm11, Lm12, Lm13, Lm14, Lm15, Lm16, Lm17, Lm18, Lm19, Lm20, Lm21, Lm22, Lm23, Lm24, Lm25, Lm26, Lm27, Lm28, Lm29, Nat.reduceLT, Nat.reduceEqDiff, ↓reduceIte, reduceCtorEq, Nat.reduceAdd, ge_iff_le, gt_iff_lt, forall_const, Nat.reduceBEq, Nat.reduceBNe, Nat.reduceMul, Nat.reduceLeDiff, Nat.reduceSub, Int.reduceToNat, td_3, td_4, td_9, td_22, td_24, td_25, td_27, td_28, td_29, td_31, strsP, trsP, evsP, intsP, ho, hoo, htoE, lE])
        and_intros; all_goals (try (refine Side.mk ?_; first | first | omega | (intros; omega) | (simp; done) | (simp; omega) | (intro h; simp at h; omega) | (simp_all; done) | rfl | (and_intros <;> first | omega | (intros; omega) | (simp; done) | (simp; omega) | (intro h; simp at h; omega) | (simp_all; done) | rfl)))
        exact ⟨(a.set b (ab + 1), evs ++ [⟨et, rids⟩]), Conv.to [0, 1, 2, 6] (nodupB_ok rfl) rfl (by repeat (first | exact trivial | refine ⟨.refl _, ?_⟩ | refine ⟨LeP.osl rfl, ?_⟩ | refine ⟨LeP.oslN rfl (by simp) (by omega), ?_⟩)) ⟨LeO.refl _, ⟨rfl, rfl, rfl, LeL.cons (.refl _) (LeL.cons (LeP.oslN rfl (by rw [List.length_append]; rfl) (by omega)) .nil)⟩, LeO.ob (zN _) rfl, LeO.app (zLB_append (zE _) rfl) (by rw [List.flatMap_append]; rfl) (by rw [List.flatMap_append]; simp [evC]), trivial⟩, ⟨by simp [d1], by rw [List.append_assoc]; exact d2, by simp only [List.length_append, List.length_singleton]; omega⟩, by show tot (restT l (a.set b (ab + 1))) < tot (restT l a); omega⟩
end Go.Proofs.Ytbbjmfkmjjinnaa.V
