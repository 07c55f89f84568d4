/- Contracts of the makers of traces of this law. No law of the program is proved here. -/
import Derived.Test.YtbbjmfkmjjinnaaQP
set_option linter.all false
namespace Go.Proofs.Ytbbjmfkmjjinnaa.V
open Go Go.Proofs

structure Pt where
  start : Int
  ns : List Int
  nm : Int
deriving Inhabited
def ptC (p : Pt) : List PV := [U p.start, u16P p.ns, C8 p.nm]
structure Pt.Ok (p : Pt) : Prop where
  s : 0 ≤ p.start
  l : p.ns.length ≤ 9223372036854775807
  n : ∀ n, n ∈ p.ns → 0 ≤ n ∧ n ≤ 65535
  m : 0 ≤ p.nm ∧ p.nm ≤ 255
def six : List ByteArray := [⟨#[112]⟩, ⟨#[113]⟩, ⟨#[114]⟩, ⟨#[115]⟩, ⟨#[116]⟩, ⟨#[117]⟩]
def nmAt (nm : Int) (i : Int) : ByteArray := six.getD ((nm + i * (1 + nm / 6 % 2)) % 6).toNat default
def nmK (nm : Int) : Nat → List ByteArray
  | 0 => abc
  | 1 => [nmAt nm 0, ⟨#[113]⟩, ⟨#[114]⟩]
  | 2 => [nmAt nm 0, nmAt nm 1, ⟨#[114]⟩]
  | _ => [nmAt nm 0, nmAt nm 1, nmAt nm 2]
def make32 (p : Pt) : Tr := ⟨nmK p.nm 3, mkE (st0 p.start) (p.ns.take 60)⟩
theorem nmK_length (nm : Int) (k : Nat) : (nmK nm k).length = 3 := by unfold nmK; split <;> rfl
theorem c_make32 (p : Pt) (hp : p.Ok) : GC Try.prog 16 [.ag (ptC p)] [] (trP (make32 p)) [] := by
  obtain ⟨st, ns, nm⟩ := p
  obtain ⟨p1, p2, p3, p4⟩ := hp
  simp only at p1 p2 p3 p4
  refine GC_fn [] Try.func16 rfl rfl (by kernel_rfl) ?_
  (refine exeC_ok (f := 60) ?_; simp only [B0, B1, B2, Lm0, Lm1, Lm2, Lm3, Lm4, Lm5, Lm6, Lm7, Lm8, Lm9, Lm10, Lm11, Lm12, Lm13, Lm14, Lm15, Lm16, Lm17, Lm18, Lm19, Lm20, Lm21, Lm22, Lm23, Lm24, Lm25, Lm26, Lm27, Lm28, Lm29, Nat.reduceLT, Nat.reduceEqDiff, ↓reduceIte, reduceCtorEq, Nat.reduceAdd, ge_iff_le, gt_iff_lt, forall_const, Nat.reduceBEq, Nat.reduceBNe, Nat.reduceMul, Nat.reduceLeDiff, Nat.reduceSub, Int.reduceToNat, td_3, td_5, td_9, td_24, td_25, td_27, td_28, td_29, td_31, td_44, td_46, td_72, td_85, ptC, u16P, C8])
  and_intros; all_goals (try (refine Side.mk ?_; first | first | omega | (intros; omega) | (simp; done) | (simp; omega) | (intro h; simp at h; omega) | (simp_all; done) | rfl | (and_intros <;> first | omega | (intros; omega) | (simp; done) | (simp; omega) | (intro h; simp at h; omega) | (simp_all; done) | rfl)))
  refine Run.callS false [] rfl rfl (by kernel_rfl) rfl rfl (fun h => by first | (cases h; done) | exact ⟨rfl, rfl⟩) (c_make8 st ns p1 p2 p3) (by first | rfl | (simp only [B0, B1, B2, Lm0, Lm1, Lm2, Lm3, Lm4, Lm5, Lm6, Lm7, Lm8, Lm9, Lm10, Lm11, Lm12, Lm13, Lm14, Lm15, Lm16, Lm17, Lm18, Lm19, Lm20, Lm21, Lm22, Lm23, Lm24, Lm25, Lm26, Lm27, Lm28, Lm29, Nat.reduceLT, Nat.reduceEqDiff, ↓reduceIte, reduceCtorEq, Nat.reduceAdd, ge_iff_le, gt_iff_lt, forall_const, Nat.reduceBEq, Nat.reduceBNe, Nat.reduceMul, Nat.reduceLeDiff, Nat.reduceSub, Int.reduceToNat, BO]; done) | (simp only [B0, B1, B2, Lm0, Lm1, Lm2, Lm3, Lm4, Lm5, Lm6, Lm7, Lm8, Lm9, Lm10, Lm11, Lm12, Lm13, Lm14, Lm15, Lm16, Lm17, Lm18, Lm19, Lm20, Lm21, Lm22, Lm23, Lm24, Lm25, Lm26, Lm27, Lm28, Lm29, Nat.reduceLT, Nat.reduceEqDiff, ↓reduceIte, reduceCtorEq, Nat.reduceAdd, ge_iff_le, gt_iff_lt, forall_const, Nat.reduceBEq, Nat.reduceBNe, Nat.reduceMul, Nat.reduceLeDiff, Nat.reduceSub, Int.reduceToNat, BO]; rfl)) (by first | rfl | (simp only [B0, B1, B2, Lm0, Lm1, Lm2, Lm3, Lm4, Lm5, Lm6, Lm7, Lm8, Lm9, Lm10, Lm11, Lm12, Lm13, Lm14, Lm15, Lm16, Lm17, Lm18, Lm19, Lm20, Lm21, Lm22, Lm23, Lm24, Lm25, Lm26, Lm27, Lm28, Lm29, Nat.reduceLT, Nat.reduceEqDiff, ↓reduceIte, reduceCtorEq, Nat.reduceAdd, ge_iff_le, gt_iff_lt, forall_const, Nat.reduceBEq, Nat.reduceBNe, Nat.reduceMul, Nat.reduceLeDiff, Nat.reduceSub, Int.reduceToNat, BO]; done) | (simp only [B0, B1, B2, Lm0, Lm1, Lm2, Lm3, Lm4, Lm5, Lm6, Lm7, Lm8, Lm9, Lm10, Lm11, Lm12, Lm13, Lm14, Lm15, Lm16, Lm17, Lm18, Lm19, Lm20, Lm21, Lm22, Lm23, Lm24, Lm25, Lm26, Lm27, Lm28, Lm29, Nat.reduceLT, Nat.reduceEqDiff, ↓reduceIte, reduceCtorEq, Nat.reduceAdd, ge_iff_le, gt_iff_lt, forall_const, Nat.reduceBEq, Nat.reduceBNe, Nat.reduceMul, Nat.reduceLeDiff, Nat.reduceSub, Int.reduceToNat, BO]; rfl)) (fun h => by cases h) ?_
  (refine Run.on ?_; simp only [B0, B1, B2, Lm0, Lm1, Lm2, Lm3, Lm4, Lm5, Lm6, Lm7, Lm8, Lm9, Lm10, Lm11, Lm12, Lm13, Lm14, Lm15, Lm16, Lm17, Lm18, Lm19, Lm20, Lm21, Lm22, Lm23, Lm24, Lm25, Lm26, Lm27, Lm28, Lm29, Nat.reduceLT, Nat.reduceEqDiff, ↓reduceIte, reduceCtorEq, Nat.reduceAdd, ge_iff_le, gt_iff_lt, forall_const, Nat.reduceBEq, Nat.reduceBNe, Nat.reduceMul, Nat.reduceLeDiff, Nat.reduceSub, Int.reduceToNat, td_3, td_5, td_9, td_24, td_25, td_27, td_28, td_29, td_31, td_44, td_46, td_72, td_85, BO, evsP])
  and_intros; all_goals (try (refine Side.mk ?_; first | first | omega | (intros; omega) | (simp; done) | (simp; omega) | (intro h; simp at h; omega) | (simp_all; done) | rfl | (and_intros <;> first | omega | (intros; omega) | (simp; done) | (simp; omega) | (intro h; simp at h; omega) | (simp_all; done) | rfl)))
  have hE : ∃ es, mkE (st0 st) (ns.take 60) = es := ⟨_, rfl⟩
  obtain ⟨es, hes⟩ := hE
  refine WC_loop (fun k : Nat => [(1, .ad 0 0), (2, .ad 1 0), (3, .ad 3 0), (4, .ad 4 0), (14, I 3), (15, I k)])
    (fun k => [some ⟨46, false, 1, [U st, u16P ns, C8 nm]⟩, some ⟨27, false, 1, [.sc (.slice none 0 0), .sc (.slice none 0 0)]⟩, some ⟨9, true, 1, (nmK nm k).map S⟩, some ⟨27, false, 1, [.id 2 3, evsP es]⟩, some ⟨72, false, 1, six.map S⟩])
    (fun k => k ≤ 3) (fun k => 3 - k) 0 ?_ (Nat.zero_le _) ?_
  · rw [← hes]
    exact Conv.to [0, 1, 2, 3, 4] (nodupB_ok rfl) rfl (by repeat (first | exact trivial | refine ⟨.refl _, ?_⟩ | refine ⟨LeP.osl rfl, ?_⟩ | refine ⟨LeP.oslN rfl (by simp) (by omega), ?_⟩)) ⟨LeO.refl _, LeO.refl _, LeO.refl _, LeO.refl _, LeO.refl _, trivial⟩
  intro k hk
  (refine exeC_ok (f := 60) ?_; simp only [B0, B1, B2, Lm0, Lm1, Lm2, Lm3, Lm4, Lm5, Lm6, Lm7, Lm8, Lm9, Lm10, Lm11, Lm12, Lm13, Lm14, Lm15, Lm16, Lm17, Lm18, Lm19, Lm20, Lm21, Lm22, Lm23, Lm24, Lm25, Lm26, Lm27, Lm28, Lm29, Nat.reduceLT, Nat.reduceEqDiff, ↓reduceIte, reduceCtorEq, Nat.reduceAdd, ge_iff_le, gt_iff_lt, forall_const, Nat.reduceBEq, Nat.reduceBNe, Nat.reduceMul, Nat.reduceLeDiff, Nat.reduceSub, Int.reduceToNat, td_3, td_5, td_9, td_24, td_25, td_27, td_28, td_29, td_31, td_44, td_46, td_72, td_85, evsP, u16P, C8])
  refine ⟨fun h1 => ?_, fun h1 => ?_⟩
  · have hk' : k < 3 := by omega
    have hw' : IntKind.i64.wrap ((k : Int) + 1) = (k : Int) + 1 := wrap64 (by omega) (by omega)
    have w1 : IntKind.i64.wrap nm = nm := wrap64 (by omega) (by omega)
    have t1 : nm.tdiv 6 = nm / 6 := Int.tdiv_eq_ediv_of_nonneg p4.1
    have w2 : IntKind.i64.wrap (nm / 6) = nm / 6 := wrap64 (by omega) (by omega)
    have t2 : (nm / 6).tmod 2 = nm / 6 % 2 := Int.tmod_eq_emod_of_nonneg (by omega)
    have w3 : IntKind.i64.wrap (1 + nm / 6 % 2) = 1 + nm / 6 % 2 := wrap64 (by omega) (by omega)
    have hm : 0 ≤ (k : Int) * (1 + nm / 6 % 2) ∧ (k : Int) * (1 + nm / 6 % 2) ≤ 4 := by
      have : k = 0 ∨ k = 1 ∨ k = 2 := by omega
      rcases this with rfl | rfl | rfl <;> omega
    have w4 : IntKind.i64.wrap ((k : Int) * (1 + nm / 6 % 2)) = (k : Int) * (1 + nm / 6 % 2) := wrap64 (by omega) (by omega)
    have w5 : IntKind.i64.wrap (nm + (k : Int) * (1 + nm / 6 % 2)) = nm + (k : Int) * (1 + nm / 6 % 2) := wrap64 (by omega) (by omega)
    have t3 : (nm + (k : Int) * (1 + nm / 6 % 2)).tmod 6 = (nm + (k : Int) * (1 + nm / 6 % 2)) % 6 := Int.tmod_eq_emod_of_nonneg (by omega)
    obtain ⟨j, hj⟩ : ∃ j : Nat, (nm + (k : Int) * (1 + nm / 6 % 2)) % 6 = j := ⟨((nm + (k : Int) * (1 + nm / 6 % 2)) % 6).toNat, by omega⟩
    have hj6 : j < 6 := by omega
    have hg := getD_ml S six j (by show j < 6; exact hj6)
    have hl := nmK_length nm k
    have hl6 : six.length = 6 := rfl
    have hnm : nmAt nm k = six.getD j default := by unfold nmAt; rw [hj]; rfl
    have ov : over ((nmK nm k).map S) k [S (six.getD j default)] = (nmK nm (k + 1)).map S := by
      rw [← hnm]
      have : k = 0 ∨ k = 1 ∨ k = 2 := by omega
      rcases this with rfl | rfl | rfl <;> rfl
    simp only [S] at ov
    (refine exeC_ok (f := 60) ?_; simp only [B0, B1, B2, Lm0, Lm1, Lm2, Lm3, Lm4, Lm5, Lm6, Lm7, Lm8, Lm9, Lm10, Lm11, Lm12, Lm13, Lm14, Lm15, Lm16, Lm17, Lm18, Lm19, Lm20, Lm21, Lm22, Lm23, Lm24, Lm25, Lm26, Lm27, Lm28, Lm29, Nat.reduceLT, Nat.reduceEqDiff, ↓reduceIte, reduceCtorEq, Nat.reduceAdd, ge_iff_le, gt_iff_lt, forall_const, Nat.reduceBEq, Nat.reduceBNe, Nat.reduceMul, Nat.reduceLeDiff, Nat.reduceSub, Int.reduceToNat, td_3, td_5, td_9, td_24, td_25, td_27, td_28, td_29, td_31, td_44, td_46, td_72, td_85, evsP, u16P, C8, w1, t1, w2, t2, w3, w4, w5, t3, hj, hg, List.length_map, hl, hl6, hw', ov])
    and_intros; all_goals (try (refine Side.mk ?_; first | first | omega | (intros; omega) | (simp; done) | (simp; omega) | (intro h; simp at h; omega) | (simp_all; done) | rfl | (and_intros <;> first | omega | (intros; omega) | (simp; done) | (simp; omega) | (intro h; simp at h; omega) | (simp_all; done) | rfl)))
    all_goals first | omega | skip
    exact ⟨k + 1, Conv.to [0, 1, 2, 3, 4] (nodupB_ok rfl) rfl (by repeat (first | exact trivial | refine ⟨.refl _, ?_⟩ | refine ⟨LeP.osl rfl, ?_⟩ | refine ⟨LeP.oslN rfl (by simp) (by omega), ?_⟩)) ⟨LeO.refl _, LeO.refl _, LeO.ob (zS _) rfl, LeO.refl _, LeO.refl _, trivial⟩, by omega, by omega⟩
  · have hk' : k = 3 := by omega
    subst hk'
    (refine exeC_ok (f := 60) ?_; simp only [B0, B1, B2, Lm0, Lm1, Lm2, Lm3, Lm4, Lm5, Lm6, Lm7, Lm8, Lm9, Lm10, Lm11, Lm12, Lm13, Lm14, Lm15, Lm16, Lm17, Lm18, Lm19, Lm20, Lm21, Lm22, Lm23, Lm24, Lm25, Lm26, Lm27, Lm28, Lm29, Nat.reduceLT, Nat.reduceEqDiff, ↓reduceIte, reduceCtorEq, Nat.reduceAdd, ge_iff_le, gt_iff_lt, forall_const, Nat.reduceBEq, Nat.reduceBNe, Nat.reduceMul, Nat.reduceLeDiff, Nat.reduceSub, Int.reduceToNat, td_3, td_5, td_9, td_24, td_25, td_27, td_28, td_29, td_31, td_44, td_46, td_72, td_85, evsP, u16P, C8])
    and_intros; all_goals (try (refine Side.mk ?_; first | first | omega | (intros; omega) | (simp; done) | (simp; omega) | (intro h; simp at h; omega) | (simp_all; done) | rfl | (and_intros <;> first | omega | (intros; omega) | (simp; done) | (simp; omega) | (intro h; simp at h; omega) | (simp_all; done) | rfl)))
    (refine RetV.conv (Conv.frz 2 rfl (zS _)) ?_; simp only [B0, B1, B2, Lm0, Lm1, Lm2, Lm3, Lm4, Lm5, Lm6, Lm7, Lm8, Lm9, Lm10, Lm11, Lm12, Lm13, Lm14, Lm15, Lm16, Lm17, Lm18, Lm19, Lm20, Lm21, Lm22, Lm23, Lm24, Lm25, Lm26, Lm27, Lm28, Lm29, Nat.reduceLT, Nat.reduceEqDiff, ↓reduceIte, reduceCtorEq, Nat.reduceAdd, ge_iff_le, gt_iff_lt, forall_const, Nat.reduceBEq, Nat.reduceBNe, Nat.reduceMul, Nat.reduceLeDiff, Nat.reduceSub, Int.reduceToNat, BO, frz_oob])
    rw [← hes]
    exact RetV.c (i := 1) [] rfl rfl (by rw [td_27]; rfl) (by rw [td_27]; rfl) (by rw [td_27]; rfl) rfl rfl (LeP.ag (LeL.cons (LeP.im' rfl rfl) (LeL.cons (.refl _) .nil))) trivial

def ptsP (l : List Pt) : PV := .im false l.length (l.flatMap ptC)
theorem drop_pt (l : List Pt) (k : Nat) (h : k < l.length) : (l.flatMap ptC).drop (k * 3) = U (l.getD k default).start :: u16P (l.getD k default).ns :: C8 (l.getD k default).nm :: (l.drop (k + 1)).flatMap ptC := drop_flat ptC 3 (fun _ => rfl) l k h
theorem lPt (l : List Pt) : (l.flatMap ptC).length = l.length * 3 := length_flat ptC 3 (fun _ => rfl) l
def trs32 (l : List Pt) : List Tr := (l.take 5).map make32
theorem c_traces (l : List Pt) (hl : l.length ≤ 9223372036854775807) (hok : ∀ p, p ∈ l → p.Ok) : GC Try.prog 12 [ptsP l] [] (trsP (trs32 l)) [] := by
  refine GC_fn [] Try.func12 rfl rfl (by kernel_rfl) ?_
  (refine exeC_ok (f := 60) ?_; simp only [B0, B1, B2, Lm0, Lm1, Lm2, Lm3, Lm4, Lm5, Lm6, Lm7, Lm8, Lm9, Lm10, Lm11, Lm12, Lm13, Lm14, Lm15, Lm16, Lm17, Lm18, Lm19, Lm20, Lm21, Lm22, Lm23, Lm24, Lm25, Lm26, Lm27, Lm28, Lm29, Nat.reduceLT, Nat.reduceEqDiff, ↓reduceIte, reduceCtorEq, Nat.reduceAdd, ge_iff_le, gt_iff_lt, forall_const, Nat.reduceBEq, Nat.reduceBNe, Nat.reduceMul, Nat.reduceLeDiff, Nat.reduceSub, Int.reduceToNat, td_3, td_5, td_9, td_22, td_24, td_25, td_27, td_28, td_29, td_31, td_38, td_44, td_46, td_85, ptsP])
  refine WC_loop (fun k : Nat => [(3, osl 0 k), (6, ptsP l), (7, I l.length), (8, I k)]) (fun k => [oob 27 2 (((l.take k).map make32).flatMap trC)]) (fun k => k ≤ l.length ∧ k ≤ 5) (fun k => l.length - k) 0 ?_ ⟨Nat.zero_le _, Nat.zero_le _⟩ ?_
  · exact Conv.to [0] (nodupB_ok rfl) rfl (by repeat (first | exact trivial | refine ⟨.refl _, ?_⟩ | refine ⟨LeP.osl rfl, ?_⟩ | refine ⟨LeP.oslN rfl (by simp) (by omega), ?_⟩)) ⟨trivial, trivial⟩
  rintro k ⟨hk, hk5⟩
  have hlen : ((l.take k).map make32).length = k := by rw [List.length_map, List.length_take]; omega
  have hto : List.take (k * 2) (((l.take k).map make32).flatMap trC) = ((l.take k).map make32).flatMap trC := List.take_of_length_le (by rw [lT, hlen]; omega)
  (refine exeC_ok (f := 60) ?_; simp only [B0, B1, B2, Lm0, Lm1, Lm2, Lm3, Lm4, Lm5, Lm6, Lm7, Lm8, Lm9, Lm10, Lm11, Lm12, Lm13, Lm14, Lm15, Lm16, Lm17, Lm18, Lm19, Lm20, Lm21, Lm22, Lm23, Lm24, Lm25, Lm26, Lm27, Lm28, Lm29, Nat.reduceLT, Nat.reduceEqDiff, ↓reduceIte, reduceCtorEq, Nat.reduceAdd, ge_iff_le, gt_iff_lt, forall_const, Nat.reduceBEq, Nat.reduceBNe, Nat.reduceMul, Nat.reduceLeDiff, Nat.reduceSub, Int.reduceToNat, td_3, td_5, td_9, td_22, td_24, td_25, td_27, td_28, td_29, td_31, td_38, td_44, td_46, td_85, ptsP])
  refine ⟨fun h1 => ?_, fun h1 => ?_⟩
  · have hk' : k < l.length := by omega
    have hx := drop_pt l k hk'
    have hw' : IntKind.i64.wrap ((k : Int) + 1) = (k : Int) + 1 := wrap64 (by omega) (by omega)
    have htk := take_snoc l k hk'
    have hpo := hok _ (getD_mem hk')
    obtain ⟨p, hne⟩ : ∃ p, l.getD k default = p := ⟨_, rfl⟩
    rw [hne] at hx htk hpo
    have hc := c_make32 p hpo
    have hq : ((l.take (k + 1)).map make32).flatMap trC = ((l.take k).map make32).flatMap trC ++ trC (make32 p) := by rw [htk, List.map_append, List.flatMap_append]; simp
    rcases osl_cases 0 k 27 2 (((l.take k).map make32).flatMap trC) (by rw [lT, hlen]) (by omega) with ⟨ho, hoo, ho0, hon⟩ | ⟨ho, hoo, ho0⟩
    all_goals
      (refine exeC_ok (f := 60) ?_; simp only [B0, B1, B2, Lm0, Lm1, Lm2, Lm3, Lm4, Lm5, Lm6, Lm7, Lm8, Lm9, Lm10, Lm11, Lm12, Lm13, Lm14, Lm15, Lm16, Lm17, Lm18, Lm19, Lm20, Lm21, Lm22, Lm23, Lm24, Lm25, Lm26, Lm27, Lm28, Lm29, Nat.reduceLT, Nat.reduceEqDiff, ↓reduceIte, reduceCtorEq, Nat.reduceAdd, ge_iff_le, gt_iff_lt, forall_const, Nat.reduceBEq, Nat.reduceBNe, Nat.reduceMul, Nat.reduceLeDiff, Nat.reduceSub, Int.reduceToNat, td_3, td_5, td_9, td_22, td_24, td_25, td_27, td_28, td_29, td_31, td_38, td_44, td_46, td_85, ptsP, hx, lPt, ho, hoo])
      and_intros; all_goals (try (refine Side.mk ?_; first | first | omega | (intros; omega) | (simp; done) | (simp; omega) | (intro h; simp at h; omega) | (simp_all; done) | rfl | (and_intros <;> first | omega | (intros; omega) | (simp; done) | (simp; omega) | (intro h; simp at h; omega) | (simp_all; done) | rfl)))
    · intro h5; exact absurd h5 (by omega)
    · intro h5
      (refine exeC_ok (f := 60) ?_; simp only [B0, B1, B2, Lm0, Lm1, Lm2, Lm3, Lm4, Lm5, Lm6, Lm7, Lm8, Lm9, Lm10, Lm11, Lm12, Lm13, Lm14, Lm15, Lm16, Lm17, Lm18, Lm19, Lm20, Lm21, Lm22, Lm23, Lm24, Lm25, Lm26, Lm27, Lm28, Lm29, Nat.reduceLT, Nat.reduceEqDiff, ↓reduceIte, reduceCtorEq, Nat.reduceAdd, ge_iff_le, gt_iff_lt, forall_const, Nat.reduceBEq, Nat.reduceBNe, Nat.reduceMul, Nat.reduceLeDiff, Nat.reduceSub, Int.reduceToNat, td_3, td_5, td_9, td_22, td_24, td_25, td_27, td_28, td_29, td_31, td_38, td_44, td_46, td_85, ptsP, hx, lPt, ho, hoo])
      and_intros; all_goals (try (refine Side.mk ?_; first | first | omega | (intros; omega) | (simp; done) | (simp; omega) | (intro h; simp at h; omega) | (simp_all; done) | rfl | (and_intros <;> first | omega | (intros; omega) | (simp; done) | (simp; omega) | (intro h; simp at h; omega) | (simp_all; done) | rfl)))
      refine Run.callP rfl rfl (by kernel_rfl) (hc) rfl rfl rfl ?_
      (refine Run.on ?_; simp only [B0, B1, B2, Lm0, Lm1, Lm2, Lm3, Lm4, Lm5, Lm6, Lm7, Lm8, Lm9, Lm10, Lm11, Lm12, Lm13, Lm14, Lm15, Lm16, Lm17, Lm18, Lm19, Lm20, Lm21, Lm22, Lm23, Lm24, Lm25, Lm26, Lm27, Lm28, Lm29, Nat.reduceLT, Nat.reduceEqDiff, ↓reduceIte, reduceCtorEq, Nat.reduceAdd, ge_iff_le, gt_iff_lt, forall_const, Nat.reduceBEq, Nat.reduceBNe, Nat.reduceMul, Nat.reduceLeDiff, Nat.reduceSub, Int.reduceToNat, td_3, td_5, td_9, td_22, td_24, td_25, td_27, td_28, td_29, td_31, td_38, td_44, td_46, td_85, trP, trC, strsP, evsP, hw', ho, hoo])
      and_intros; all_goals (try (refine Side.mk ?_; first | first | omega | (intros; omega) | (simp; done) | (simp; omega) | (intro h; simp at h; omega) | (simp_all; done) | rfl | (and_intros <;> first | omega | (intros; omega) | (simp; done) | (simp; omega) | (intro h; simp at h; omega) | (simp_all; done) | rfl)))
      subst ho0
      exact ⟨0 + 1, Conv.to [3] (nodupB_ok rfl) rfl (by repeat (first | exact trivial | refine ⟨.refl _, ?_⟩ | refine ⟨LeP.osl rfl, ?_⟩ | refine ⟨LeP.oslN rfl (by simp) (by omega), ?_⟩)) ⟨LeO.app rfl (by rw [hq, hon]; rfl) (by rw [hq]; simp [trC]), trivial⟩, ⟨by omega, by omega⟩, by omega⟩
    · intro h5
      have hk5' : k = 5 := by omega
      (refine exeC_ok (f := 60) ?_; simp only [B0, B1, B2, Lm0, Lm1, Lm2, Lm3, Lm4, Lm5, Lm6, Lm7, Lm8, Lm9, Lm10, Lm11, Lm12, Lm13, Lm14, Lm15, Lm16, Lm17, Lm18, Lm19, Lm20, Lm21, Lm22, Lm23, Lm24, Lm25, Lm26, Lm27, Lm28, Lm29, Nat.reduceLT, Nat.reduceEqDiff, ↓reduceIte, reduceCtorEq, Nat.reduceAdd, ge_iff_le, gt_iff_lt, forall_const, Nat.reduceBEq, Nat.reduceBNe, Nat.reduceMul, Nat.reduceLeDiff, Nat.reduceSub, Int.reduceToNat, td_3, td_5, td_9, td_22, td_24, td_25, td_27, td_28, td_29, td_31, td_38, td_44, td_46, td_85, ptsP, ho, hoo])
      (refine RetV.conv (Conv.frz 0 rfl (zT _)) ?_; simp only [B0, B1, B2, Lm0, Lm1, Lm2, Lm3, Lm4, Lm5, Lm6, Lm7, Lm8, Lm9, Lm10, Lm11, Lm12, Lm13, Lm14, Lm15, Lm16, Lm17, Lm18, Lm19, Lm20, Lm21, Lm22, Lm23, Lm24, Lm25, Lm26, Lm27, Lm28, Lm29, Nat.reduceLT, Nat.reduceEqDiff, ↓reduceIte, reduceCtorEq, Nat.reduceAdd, ge_iff_le, gt_iff_lt, forall_const, Nat.reduceBEq, Nat.reduceBNe, Nat.reduceMul, Nat.reduceLeDiff, Nat.reduceSub, Int.reduceToNat, BO, frz_oob])
      exact RetV.p rfl trivial (LeP.im' (by unfold trs32; rw [← hk5', hlen]) (by unfold trs32; rw [← hk5']; exact hto))
    · intro h5
      (refine exeC_ok (f := 60) ?_; simp only [B0, B1, B2, Lm0, Lm1, Lm2, Lm3, Lm4, Lm5, Lm6, Lm7, Lm8, Lm9, Lm10, Lm11, Lm12, Lm13, Lm14, Lm15, Lm16, Lm17, Lm18, Lm19, Lm20, Lm21, Lm22, Lm23, Lm24, Lm25, Lm26, Lm27, Lm28, Lm29, Nat.reduceLT, Nat.reduceEqDiff, ↓reduceIte, reduceCtorEq, Nat.reduceAdd, ge_iff_le, gt_iff_lt, forall_const, Nat.reduceBEq, Nat.reduceBNe, Nat.reduceMul, Nat.reduceLeDiff, Nat.reduceSub, Int.reduceToNat, td_3, td_5, td_9, td_22, td_24, td_25, td_27, td_28, td_29, td_31, td_38, td_44, td_46, td_85, ptsP, hx, lPt, ho, hoo])
      and_intros; all_goals (try (refine Side.mk ?_; first | first | omega | (intros; omega) | (simp; done) | (simp; omega) | (intro h; simp at h; omega) | (simp_all; done) | rfl | (and_intros <;> first | omega | (intros; omega) | (simp; done) | (simp; omega) | (intro h; simp at h; omega) | (simp_all; done) | rfl)))
      refine Run.callP rfl rfl (by kernel_rfl) (hc) rfl rfl rfl ?_
      (refine Run.on ?_; simp only [B0, B1, B2, Lm0, Lm1, Lm2, Lm3, Lm4, Lm5, Lm6, Lm7, Lm8, Lm9, Lm10, Lm11, Lm12, Lm13, Lm14, Lm15, Lm16, Lm17, Lm18, Lm19, Lm20, Lm21, Lm22, Lm23, Lm24, Lm25, Lm26, Lm27, Lm28, Lm29, Nat.reduceLT, Nat.reduceEqDiff, ↓reduceIte, reduceCtorEq, Nat.reduceAdd, ge_iff_le, gt_iff_lt, forall_const, Nat.reduceBEq, Nat.reduceBNe, Nat.reduceMul, Nat.reduceLeDiff, Nat.reduceSub, Int.reduceToNat, td_3, td_5, td_9, td_22, td_24, td_25, td_27, td_28, td_29, td_31, td_38, td_44, td_46, td_85, trP, trC, strsP, evsP, hw', ho, hoo, hto, lT, hlen])
      and_intros; all_goals (try (refine Side.mk ?_; first | first | omega | (intros; omega) | (simp; done) | (simp; omega) | (intro h; simp at h; omega) | (simp_all; done) | rfl | (and_intros <;> first | omega | (intros; omega) | (simp; done) | (simp; omega) | (intro h; simp at h; omega) | (simp_all; done) | rfl)))
      exact ⟨k + 1, Conv.to [3] (nodupB_ok rfl) rfl (by repeat (first | exact trivial | refine ⟨.refl _, ?_⟩ | refine ⟨LeP.osl rfl, ?_⟩ | refine ⟨LeP.oslN rfl (by simp) (by omega), ?_⟩)) ⟨LeO.app (zLB_append (zT _) rfl) (by rw [hq]; rfl) (by rw [hq]; simp [trC]), trivial⟩, ⟨by omega, by omega⟩, by omega⟩
  · have hk' : k = l.length := by omega
    have hE : (l.take k).map make32 = trs32 l := by unfold trs32; rw [hk', List.take_length, List.take_of_length_le (by omega)]
    rcases osl_cases 0 k 27 2 (((l.take k).map make32).flatMap trC) (by rw [lT, hlen]) (by omega) with ⟨ho, hoo, ho0, hon⟩ | ⟨ho, hoo, ho0⟩
    · (refine exeC_ok (f := 60) ?_; simp only [B0, B1, B2, Lm0, Lm1, Lm2, Lm3, Lm4, Lm5, Lm6, Lm7, Lm8, Lm9, Lm10, Lm11, Lm12, Lm13, Lm14, Lm15, Lm16, Lm17, Lm18, Lm19, Lm20, Lm21, Lm22, Lm23, Lm24, Lm25, Lm26, Lm27, Lm28, Lm29, Nat.reduceLT, Nat.reduceEqDiff, ↓reduceIte, reduceCtorEq, Nat.reduceAdd, ge_iff_le, gt_iff_lt, forall_const, Nat.reduceBEq, Nat.reduceBNe, Nat.reduceMul, Nat.reduceLeDiff, Nat.reduceSub, Int.reduceToNat, td_3, td_5, td_9, td_22, td_24, td_25, td_27, td_28, td_29, td_31, td_38, td_44, td_46, td_85, ptsP, ho, hoo])
      exact RetV.p rfl trivial (LeP.nil' (by rw [← hE, hlen, ho0]) (by rw [← hE]; exact hon))
    · (refine exeC_ok (f := 60) ?_; simp only [B0, B1, B2, Lm0, Lm1, Lm2, Lm3, Lm4, Lm5, Lm6, Lm7, Lm8, Lm9, Lm10, Lm11, Lm12, Lm13, Lm14, Lm15, Lm16, Lm17, Lm18, Lm19, Lm20, Lm21, Lm22, Lm23, Lm24, Lm25, Lm26, Lm27, Lm28, Lm29, Nat.reduceLT, Nat.reduceEqDiff, ↓reduceIte, reduceCtorEq, Nat.reduceAdd, ge_iff_le, gt_iff_lt, forall_const, Nat.reduceBEq, Nat.reduceBNe, Nat.reduceMul, Nat.reduceLeDiff, Nat.reduceSub, Int.reduceToNat, td_3, td_5, td_9, td_22, td_24, td_25, td_27, td_28, td_29, td_31, td_38, td_44, td_46, td_85, ptsP, ho, hoo])
      (refine RetV.conv (Conv.frz 0 rfl (zT _)) ?_; simp only [B0, B1, B2, Lm0, Lm1, Lm2, Lm3, Lm4, Lm5, Lm6, Lm7, Lm8, Lm9, Lm10, Lm11, Lm12, Lm13, Lm14, Lm15, Lm16, Lm17, Lm18, Lm19, Lm20, Lm21, Lm22, Lm23, Lm24, Lm25, Lm26, Lm27, Lm28, Lm29, Nat.reduceLT, Nat.reduceEqDiff, ↓reduceIte, reduceCtorEq, Nat.reduceAdd, ge_iff_le, gt_iff_lt, forall_const, Nat.reduceBEq, Nat.reduceBNe, Nat.reduceMul, Nat.reduceLeDiff, Nat.reduceSub, Int.reduceToNat, BO, frz_oob])
      exact RetV.p rfl trivial (LeP.im' (by rw [← hE, hlen]) (by rw [← hE]; exact hto))
end Go.Proofs.Ytbbjmfkmjjinnaa.V
