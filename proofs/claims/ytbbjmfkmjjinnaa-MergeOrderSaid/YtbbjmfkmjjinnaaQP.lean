/- Contracts of the makers of traces. No law of the program is proved here. -/
import Derived.Test.YtbbjmfkmjjinnaaQM
set_option linter.all false
namespace Go.Proofs.Ytbbjmfkmjjinnaa.V
open Go Go.Proofs

def U16 (c : Int) : PV := .sc (.int .u16 c)
def u16P (l : List Int) : PV := .im false l.length (l.map U16)
def bitB (n : Int) (k : Nat) : Bool := decide (bitsI BinOp.and IntKind.u16 (n.fdiv (2 ^ min k IntKind.u16.bits)) 1 = 1)
def ids8K (n : Int) (k : Nat) : List Int := ((List.range k).filter (bitB n)).map Int.ofNat
def ids8 (n : Int) : List Int := ids8K n 3
theorem ids8K_snoc (n : Int) (k : Nat) : ids8K n (k + 1) = if bitB n k = true then ids8K n k ++ [(k : Int)] else ids8K n k := by
  unfold ids8K
  rw [List.range_succ, List.filter_append]
  by_cases h : bitB n k = true
  · rw [if_pos h]; simp [List.filter, h]
  · rw [if_neg h]; simp [List.filter, h]
theorem ids8K_len (n : Int) (k : Nat) : (ids8K n k).length ≤ k := by
  unfold ids8K
  rw [List.length_map]
  exact Nat.le_trans (List.length_filter_le _ _) (by simp)
theorem c_ids8 (n : Int) (h0 : 0 ≤ n) (h1 : n < 8) : GC Try.prog 44 [U16 n] [] (intsP (ids8 n)) [] := by
  refine GC_fn [] Try.func44 rfl rfl (by kernel_rfl) ?_
  (refine exeC_ok (f := 60) ?_; simp only [B0, B1, B2, Lm0, Lm1, Lm2, Lm3, Lm4, Lm5, Lm6, Lm7, Lm8, Lm9, Lm10, Lm11, Lm12, Lm13, Lm14, Lm15, Lm16, Lm17, Lm18, Lm19, Lm20, Lm21, Lm22, Lm23, Lm24, Lm25, Lm26, Lm27, Lm28, Lm29, Nat.reduceLT, Nat.reduceEqDiff, ↓reduceIte, reduceCtorEq, Nat.reduceAdd, ge_iff_le, gt_iff_lt, forall_const, Nat.reduceBEq, Nat.reduceBNe, Nat.reduceMul, Nat.reduceLeDiff, Nat.reduceSub, Int.reduceToNat, td_3, td_29, td_84, td_85, U16])
  refine WC_loop (fun k : Nat => [(0, U16 n), (3, osl 0 (ids8K n k).length), (5, I k)]) (fun k => [oob 3 1 ((ids8K n k).map I)]) (fun k => k ≤ 3) (fun k => 3 - k) 0 ?_ (Nat.zero_le _) ?_
  · exact Conv.to [0] (nodupB_ok rfl) rfl (by repeat (first | exact trivial | refine ⟨.refl _, ?_⟩ | refine ⟨LeP.osl rfl, ?_⟩ | refine ⟨LeP.oslN rfl (by simp) (by omega), ?_⟩)) ⟨trivial, trivial⟩
  intro k hk
  (refine exeC_ok (f := 60) ?_; simp only [B0, B1, B2, Lm0, Lm1, Lm2, Lm3, Lm4, Lm5, Lm6, Lm7, Lm8, Lm9, Lm10, Lm11, Lm12, Lm13, Lm14, Lm15, Lm16, Lm17, Lm18, Lm19, Lm20, Lm21, Lm22, Lm23, Lm24, Lm25, Lm26, Lm27, Lm28, Lm29, Nat.reduceLT, Nat.reduceEqDiff, ↓reduceIte, reduceCtorEq, Nat.reduceAdd, ge_iff_le, gt_iff_lt, forall_const, Nat.reduceBEq, Nat.reduceBNe, Nat.reduceMul, Nat.reduceLeDiff, Nat.reduceSub, Int.reduceToNat, td_3, td_29, td_84, td_85, U16])
  refine ⟨fun h2 => ?_, fun h2 => ?_⟩
  · have hk' : k < 3 := by omega
    have hw : IntKind.u64.wrap (k : Int) = k := wrapU (by omega) (by omega)
    have hw' : IntKind.i64.wrap ((k : Int) + 1) = (k : Int) + 1 := wrap64 (by omega) (by omega)
    have hsn := ids8K_snoc n k
    have ht : ((ids8K n k).map I).take (ids8K n k).length = (ids8K n k).map I := List.take_of_length_le (by simp)
    have hl := ids8K_len n k
    rcases osl_cases 0 (ids8K n k).length 3 1 ((ids8K n k).map I) (by simp) (by omega) with ⟨ho, hoo, ho0, hon⟩ | ⟨ho, hoo, ho0⟩
    all_goals
      (refine exeC_ok (f := 60) ?_; simp only [B0, B1, B2, Lm0, Lm1, Lm2, Lm3, Lm4, Lm5, Lm6, Lm7, Lm8, Lm9, Lm10, Lm11, Lm12, Lm13, Lm14, Lm15, Lm16, Lm17, Lm18, Lm19, Lm20, Lm21, Lm22, Lm23, Lm24, Lm25, Lm26, Lm27, Lm28, Lm29, Nat.reduceLT, Nat.reduceEqDiff, ↓reduceIte, reduceCtorEq, Nat.reduceAdd, ge_iff_le, gt_iff_lt, forall_const, Nat.reduceBEq, Nat.reduceBNe, Nat.reduceMul, Nat.reduceLeDiff, Nat.reduceSub, Int.reduceToNat, td_3, td_29, td_84, td_85, U16, hw])
      and_intros; all_goals (try (refine Side.mk ?_; first | first | omega | (intros; omega) | (simp; done) | (simp; omega) | (intro h; simp at h; omega) | (simp_all; done) | rfl | (and_intros <;> first | omega | (intros; omega) | (simp; done) | (simp; omega) | (intro h; simp at h; omega) | (simp_all; done) | rfl)))
    · intro hb
      rw [if_pos (show bitB n k = true from decide_eq_true hb)] at hsn
      (refine exeC_ok (f := 60) ?_; simp only [B0, B1, B2, Lm0, Lm1, Lm2, Lm3, Lm4, Lm5, Lm6, Lm7, Lm8, Lm9, Lm10, Lm11, Lm12, Lm13, Lm14, Lm15, Lm16, Lm17, Lm18, Lm19, Lm20, Lm21, Lm22, Lm23, Lm24, Lm25, Lm26, Lm27, Lm28, Lm29, Nat.reduceLT, Nat.reduceEqDiff, ↓reduceIte, reduceCtorEq, Nat.reduceAdd, ge_iff_le, gt_iff_lt, forall_const, Nat.reduceBEq, Nat.reduceBNe, Nat.reduceMul, Nat.reduceLeDiff, Nat.reduceSub, Int.reduceToNat, td_3, td_29, td_84, td_85, U16, hw', ho, hoo])
      and_intros; all_goals (try (refine Side.mk ?_; first | first | omega | (intros; omega) | (simp; done) | (simp; omega) | (intro h; simp at h; omega) | (simp_all; done) | rfl | (and_intros <;> first | omega | (intros; omega) | (simp; done) | (simp; omega) | (intro h; simp at h; omega) | (simp_all; done) | rfl)))
      refine ⟨k + 1, ?_, by omega, by omega⟩
      rw [hsn]
      exact Conv.to [2] (nodupB_ok rfl) rfl (by refine ⟨.refl _, LeP.oslN rfl (by simp [ho0]) (by omega), .refl _, trivial⟩) ⟨LeO.app rfl (by rw [List.map_append, hon]; rfl) (by simp), trivial⟩
    · intro hb
      rw [if_neg (show ¬ bitB n k = true from fun e => hb (of_decide_eq_true e))] at hsn
      (refine exeC_ok (f := 60) ?_; simp only [B0, B1, B2, Lm0, Lm1, Lm2, Lm3, Lm4, Lm5, Lm6, Lm7, Lm8, Lm9, Lm10, Lm11, Lm12, Lm13, Lm14, Lm15, Lm16, Lm17, Lm18, Lm19, Lm20, Lm21, Lm22, Lm23, Lm24, Lm25, Lm26, Lm27, Lm28, Lm29, Nat.reduceLT, Nat.reduceEqDiff, ↓reduceIte, reduceCtorEq, Nat.reduceAdd, ge_iff_le, gt_iff_lt, forall_const, Nat.reduceBEq, Nat.reduceBNe, Nat.reduceMul, Nat.reduceLeDiff, Nat.reduceSub, Int.reduceToNat, td_3, td_29, td_84, td_85, U16, hw', ho, hoo])
      and_intros; all_goals (try (refine Side.mk ?_; first | first | omega | (intros; omega) | (simp; done) | (simp; omega) | (intro h; simp at h; omega) | (simp_all; done) | rfl | (and_intros <;> first | omega | (intros; omega) | (simp; done) | (simp; omega) | (intro h; simp at h; omega) | (simp_all; done) | rfl)))
      refine ⟨k + 1, ?_, by omega, by omega⟩
      rw [hsn, ho, hoo]
      exact Conv.to [0] (nodupB_ok rfl) rfl (by repeat (first | exact trivial | refine ⟨.refl _, ?_⟩ | refine ⟨LeP.osl rfl, ?_⟩ | refine ⟨LeP.oslN rfl (by simp) (by omega), ?_⟩)) ⟨trivial, trivial⟩
    · intro hb
      rw [if_pos (show bitB n k = true from decide_eq_true hb)] at hsn
      (refine exeC_ok (f := 60) ?_; simp only [B0, B1, B2, Lm0, Lm1, Lm2, Lm3, Lm4, Lm5, Lm6, Lm7, Lm8, Lm9, Lm10, Lm11, Lm12, Lm13, Lm14, Lm15, Lm16, Lm17, Lm18, Lm19, Lm20, Lm21, Lm22, Lm23, Lm24, Lm25, Lm26, Lm27, Lm28, Lm29, Nat.reduceLT, Nat.reduceEqDiff, ↓reduceIte, reduceCtorEq, Nat.reduceAdd, ge_iff_le, gt_iff_lt, forall_const, Nat.reduceBEq, Nat.reduceBNe, Nat.reduceMul, Nat.reduceLeDiff, Nat.reduceSub, Int.reduceToNat, td_3, td_29, td_84, td_85, U16, hw', ho, hoo, ht])
      and_intros; all_goals (try (refine Side.mk ?_; first | first | omega | (intros; omega) | (simp; done) | (simp; omega) | (intro h; simp at h; omega) | (simp_all; done) | rfl | (and_intros <;> first | omega | (intros; omega) | (simp; done) | (simp; omega) | (intro h; simp at h; omega) | (simp_all; done) | rfl)))
      refine ⟨k + 1, ?_, by omega, by omega⟩
      rw [hsn]
      exact Conv.to [2] (nodupB_ok rfl) rfl (by repeat (first | exact trivial | refine ⟨.refl _, ?_⟩ | refine ⟨LeP.osl rfl, ?_⟩ | refine ⟨LeP.oslN rfl (by simp) (by omega), ?_⟩)) ⟨LeO.app (zLB_append (zI _) rfl) (by rw [List.map_append]; rfl) (by simp), trivial⟩
    · intro hb
      rw [if_neg (show ¬ bitB n k = true from fun e => hb (of_decide_eq_true e))] at hsn
      (refine exeC_ok (f := 60) ?_; simp only [B0, B1, B2, Lm0, Lm1, Lm2, Lm3, Lm4, Lm5, Lm6, Lm7, Lm8, Lm9, Lm10, Lm11, Lm12, Lm13, Lm14, Lm15, Lm16, Lm17, Lm18, Lm19, Lm20, Lm21, Lm22, Lm23, Lm24, Lm25, Lm26, Lm27, Lm28, Lm29, Nat.reduceLT, Nat.reduceEqDiff, ↓reduceIte, reduceCtorEq, Nat.reduceAdd, ge_iff_le, gt_iff_lt, forall_const, Nat.reduceBEq, Nat.reduceBNe, Nat.reduceMul, Nat.reduceLeDiff, Nat.reduceSub, Int.reduceToNat, td_3, td_29, td_84, td_85, U16, hw', ho, hoo, ht])
      and_intros; all_goals (try (refine Side.mk ?_; first | first | omega | (intros; omega) | (simp; done) | (simp; omega) | (intro h; simp at h; omega) | (simp_all; done) | rfl | (and_intros <;> first | omega | (intros; omega) | (simp; done) | (simp; omega) | (intro h; simp at h; omega) | (simp_all; done) | rfl)))
      refine ⟨k + 1, ?_, by omega, by omega⟩
      rw [hsn, ho, hoo]
      exact Conv.to [0] (nodupB_ok rfl) rfl (by repeat (first | exact trivial | refine ⟨.refl _, ?_⟩ | refine ⟨LeP.osl rfl, ?_⟩ | refine ⟨LeP.oslN rfl (by simp) (by omega), ?_⟩)) ⟨LeO.ob (zI _) rfl, trivial⟩
  · have hk' : k = 3 := by omega
    subst hk'
    rcases osl_cases 0 (ids8K n 3).length 3 1 ((ids8K n 3).map I) (by simp) (by omega) with ⟨ho, hoo, ho0, hon⟩ | ⟨ho, hoo, ho0⟩
    · (refine exeC_ok (f := 60) ?_; simp only [B0, B1, B2, Lm0, Lm1, Lm2, Lm3, Lm4, Lm5, Lm6, Lm7, Lm8, Lm9, Lm10, Lm11, Lm12, Lm13, Lm14, Lm15, Lm16, Lm17, Lm18, Lm19, Lm20, Lm21, Lm22, Lm23, Lm24, Lm25, Lm26, Lm27, Lm28, Lm29, Nat.reduceLT, Nat.reduceEqDiff, ↓reduceIte, reduceCtorEq, Nat.reduceAdd, ge_iff_le, gt_iff_lt, forall_const, Nat.reduceBEq, Nat.reduceBNe, Nat.reduceMul, Nat.reduceLeDiff, Nat.reduceSub, Int.reduceToNat, td_3, td_29, td_84, td_85, U16, ho, hoo])
      exact RetV.p rfl trivial (LeP.nil' ho0 hon)
    · (refine exeC_ok (f := 60) ?_; simp only [B0, B1, B2, Lm0, Lm1, Lm2, Lm3, Lm4, Lm5, Lm6, Lm7, Lm8, Lm9, Lm10, Lm11, Lm12, Lm13, Lm14, Lm15, Lm16, Lm17, Lm18, Lm19, Lm20, Lm21, Lm22, Lm23, Lm24, Lm25, Lm26, Lm27, Lm28, Lm29, Nat.reduceLT, Nat.reduceEqDiff, ↓reduceIte, reduceCtorEq, Nat.reduceAdd, ge_iff_le, gt_iff_lt, forall_const, Nat.reduceBEq, Nat.reduceBNe, Nat.reduceMul, Nat.reduceLeDiff, Nat.reduceSub, Int.reduceToNat, td_3, td_29, td_84, td_85, U16, ho, hoo])
      (refine RetV.conv (Conv.frz 0 rfl (zI _)) ?_; simp only [B0, B1, B2, Lm0, Lm1, Lm2, Lm3, Lm4, Lm5, Lm6, Lm7, Lm8, Lm9, Lm10, Lm11, Lm12, Lm13, Lm14, Lm15, Lm16, Lm17, Lm18, Lm19, Lm20, Lm21, Lm22, Lm23, Lm24, Lm25, Lm26, Lm27, Lm28, Lm29, Nat.reduceLT, Nat.reduceEqDiff, ↓reduceIte, reduceCtorEq, Nat.reduceAdd, ge_iff_le, gt_iff_lt, forall_const, Nat.reduceBEq, Nat.reduceBNe, Nat.reduceMul, Nat.reduceLeDiff, Nat.reduceSub, Int.reduceToNat, BO, frz_oob])
      exact RetV.p rfl trivial (LeP.im' rfl (by first | rfl | exact List.take_of_length_le (by simp [ids8])))

/-! ### l8.Make -/
theorem wrap16 {x : Int} (h1 : 0 ≤ x) (h2 : x ≤ 65535) : IntKind.u16.wrap x = x := by
  simp only [IntKind.wrap, IntKind.bits, IntKind.signed, Bool.false_and, show (2 : Int) ^ 16 = 65536 from rfl]
  simp only [Bool.false_eq_true, if_false]; omega
def dOf (n : Int) : Int := if 65000 ≤ n then 1125899906842624 else if (n.tdiv 32).tmod 32 = 31 then 3000 else (n.tdiv 8).tmod 4
def mkE : Int → List Int → List Ev
  | _, [] => []
  | now, n :: l => ⟨now + dOf n, ids8 (n.tmod 8)⟩ :: mkE (now + dOf n) l
def nowE : Int → List Int → Int
  | now, [] => now
  | now, n :: l => nowE (now + dOf n) l
theorem mkE_snoc : ∀ (l : List Int) (now n : Int), mkE now (l ++ [n]) = mkE now l ++ [⟨nowE now l + dOf n, ids8 (n.tmod 8)⟩]
  | [], _, _ => rfl
  | x :: l, now, n => by simp only [List.cons_append, mkE, nowE, mkE_snoc l]
theorem nowE_snoc : ∀ (l : List Int) (now n : Int), nowE now (l ++ [n]) = nowE now l + dOf n
  | [], _, _ => rfl
  | x :: l, now, n => by simp only [List.cons_append, nowE, nowE_snoc l]
theorem mkE_length : ∀ (l : List Int) (now : Int), (mkE now l).length = l.length
  | [], _ => rfl
  | x :: l, now => by simp [mkE, mkE_length l]
theorem dOf_le (n : Int) (h : 0 ≤ n) : 0 ≤ dOf n ∧ dOf n ≤ 1125899906842624 := by
  unfold dOf
  split
  · omega
  · split
    · omega
    · have : (n.tdiv 8).tmod 4 = n / 8 % 4 := by rw [Int.tdiv_eq_ediv_of_nonneg h, Int.tmod_eq_emod_of_nonneg (by omega)]
      omega
theorem nowE_le : ∀ (l : List Int) (now : Int), (∀ n, n ∈ l → 0 ≤ n) → now ≤ nowE now l ∧ nowE now l ≤ now + l.length * 1125899906842624
  | [], now, _ => by simp [nowE]
  | x :: l, now, h => by
    have h1 := dOf_le x (h x (by simp))
    have h2 := nowE_le l (now + dOf x) fun n hn => h n (by simp [hn])
    simp only [nowE, List.length_cons]; omega
def abc : List ByteArray := [⟨#[112]⟩, ⟨#[113]⟩, ⟨#[114]⟩]
def st0 (start : Int) : Int := if 9223372036854775808 < start then 9223372036854775808 else start
theorem c_make8 (start : Int) (ns : List Int) (hs0 : 0 ≤ start) (hl : ns.length ≤ 9223372036854775807) (hn : ∀ n, n ∈ ns → 0 ≤ n ∧ n ≤ 65535) : GC Try.prog 33 [U start, u16P ns] [] (.ag [.id 0 3, evsP (mkE (st0 start) (ns.take 60))]) [some ⟨9, true, 1, abc.map S⟩] := by
  refine GC_fn [(13, true, [])] Try.func33 rfl rfl (by kernel_rfl) ?_
  (refine exeC_ok (f := 60) ?_; simp only [B0, B1, B2, Lm0, Lm1, Lm2, Lm3, Lm4, Lm5, Lm6, Lm7, Lm8, Lm9, Lm10, Lm11, Lm12, Lm13, Lm14, Lm15, Lm16, Lm17, Lm18, Lm19, Lm20, Lm21, Lm22, Lm23, Lm24, Lm25, Lm26, Lm27, Lm28, Lm29, Nat.reduceLT, Nat.reduceEqDiff, ↓reduceIte, reduceCtorEq, Nat.reduceAdd, ge_iff_le, gt_iff_lt, forall_const, Nat.reduceBEq, Nat.reduceBNe, Nat.reduceMul, Nat.reduceLeDiff, Nat.reduceSub, Int.reduceToNat, td_3, td_9, td_24, td_25, td_27, td_28, td_29, td_31, td_44, td_85, U16, u16P])
  and_intros; all_goals (try (refine Side.mk ?_; first | first | omega | (intros; omega) | (simp; done) | (simp; omega) | (intro h; simp at h; omega) | (simp_all; done) | rfl | (and_intros <;> first | omega | (intros; omega) | (simp; done) | (simp; omega) | (intro h; simp at h; omega) | (simp_all; done) | rfl)))
  refine WC_loop (fun k : Nat => [(4, .ad 0 0), (5, .ad 1 0), (6, U (nowE (st0 start) (ns.take k))), (14, u16P ns), (15, I ns.length), (16, I k)])
    (fun k => [some ⟨27, false, 1, [.sc (.slice none 0 0), .sc (.slice none 0 0)]⟩, some ⟨27, false, 1, [.id 2 3, osl 3 k]⟩, some ⟨9, true, 1, abc.map S⟩, oob 31 2 ((mkE (st0 start) (ns.take k)).flatMap evC)])
    (fun k => k ≤ ns.length ∧ k ≤ 60) (fun k => ns.length - k) 0 ?_ ⟨Nat.zero_le _, Nat.zero_le _⟩ ?_
  · exact Conv.to [0, 2, 1, 3] (nodupB_ok rfl) rfl (by repeat (first | exact trivial | refine ⟨.refl _, ?_⟩ | refine ⟨LeP.osl rfl, ?_⟩ | refine ⟨LeP.oslN rfl (by simp) (by omega), ?_⟩)) ⟨LeO.refl _, LeO.refl _, LeO.refl _, trivial, trivial⟩
  rintro k ⟨hk, hk60⟩
  have hst : 0 ≤ st0 start ∧ st0 start ≤ 9223372036854775808 := by unfold st0; split <;> omega
  have hlen : (mkE (st0 start) (ns.take k)).length = k := by rw [mkE_length, List.length_take]; omega
  (refine exeC_ok (f := 60) ?_; simp only [B0, B1, B2, Lm0, Lm1, Lm2, Lm3, Lm4, Lm5, Lm6, Lm7, Lm8, Lm9, Lm10, Lm11, Lm12, Lm13, Lm14, Lm15, Lm16, Lm17, Lm18, Lm19, Lm20, Lm21, Lm22, Lm23, Lm24, Lm25, Lm26, Lm27, Lm28, Lm29, Nat.reduceLT, Nat.reduceEqDiff, ↓reduceIte, reduceCtorEq, Nat.reduceAdd, ge_iff_le, gt_iff_lt, forall_const, Nat.reduceBEq, Nat.reduceBNe, Nat.reduceMul, Nat.reduceLeDiff, Nat.reduceSub, Int.reduceToNat, td_3, td_9, td_24, td_25, td_27, td_28, td_29, td_31, td_44, td_85, U16, u16P])
  refine ⟨fun h1 => ?_, fun h1 => ?_⟩
  · have hk' : k < ns.length := by omega
    have hx := drop_map U16 default ns k hk'
    have hr := hn _ (getD_mem hk')
    have hw' : IntKind.i64.wrap ((k : Int) + 1) = (k : Int) + 1 := wrap64 (by omega) (by omega)
    have htk := take_snoc ns k hk'
    obtain ⟨n, hne⟩ : ∃ n, ns.getD k default = n := ⟨_, rfl⟩
    rw [hne] at hx hr htk
    have m1 := mkE_snoc (ns.take k) (st0 start) n
    have m2 := nowE_snoc (ns.take k) (st0 start) n
    rw [← htk] at m1 m2
    rw [Int.tmod_eq_emod_of_nonneg hr.1] at m1
    have m3 := nowE_le (ns.take k) (st0 start) (fun x hx => (hn x (List.mem_of_mem_take hx)).1)
    have m4 : (ns.take k).length = k := by rw [List.length_take]; omega
    rw [m4] at m3
    have m5 := dOf_le n hr.1
    have t1 : n.tdiv 8 = n / 8 := Int.tdiv_eq_ediv_of_nonneg hr.1
    have t2 : n.tdiv 32 = n / 32 := Int.tdiv_eq_ediv_of_nonneg hr.1
    have t3 : (n / 8).tmod 4 = n / 8 % 4 := Int.tmod_eq_emod_of_nonneg (by omega)
    have t4 : (n / 32).tmod 32 = n / 32 % 32 := Int.tmod_eq_emod_of_nonneg (by omega)
    have t5 : n.tmod 8 = n % 8 := Int.tmod_eq_emod_of_nonneg (by omega)
    have q1 : IntKind.u16.wrap (n / 8) = n / 8 := wrap16 (by omega) (by omega)
    have q2 : IntKind.u64.wrap (n / 8 % 4) = n / 8 % 4 := wrapU (by omega) (by omega)
    have q3 : IntKind.u16.wrap (n / 32) = n / 32 := wrap16 (by omega) (by omega)
    obtain ⟨now, hnow⟩ : ∃ x, nowE (st0 start) (ns.take k) = x := ⟨_, rfl⟩
    rw [hnow] at m1 m2 m3
    have q4 : IntKind.u64.wrap (now + dOf n) = now + dOf n := wrapU (by omega) (by omega)
    have hto : List.take (k * 2) ((mkE (st0 start) (ns.take k)).flatMap evC) = (mkE (st0 start) (ns.take k)).flatMap evC := List.take_of_length_le (by rw [lE, hlen]; omega)
    have c8 := c_ids8 (n % 8) (by omega) (by omega)
    rcases osl_cases 3 k 31 2 ((mkE (st0 start) (ns.take k)).flatMap evC) (by rw [lE, hlen]) (by omega) with ⟨ho, hoo, ho0, hon⟩ | ⟨ho, hoo, ho0⟩
    all_goals
      (refine exeC_ok (f := 60) ?_; simp only [B0, B1, B2, Lm0, Lm1, Lm2, Lm3, Lm4, Lm5, Lm6, Lm7, Lm8, Lm9, Lm10, Lm11, Lm12, Lm13, Lm14, Lm15, Lm16, Lm17, Lm18, Lm19, Lm20, Lm21, Lm22, Lm23, Lm24, Lm25, Lm26, Lm27, Lm28, Lm29, Nat.reduceLT, Nat.reduceEqDiff, ↓reduceIte, reduceCtorEq, Nat.reduceAdd, ge_iff_le, gt_iff_lt, forall_const, Nat.reduceBEq, Nat.reduceBNe, Nat.reduceMul, Nat.reduceLeDiff, Nat.reduceSub, Int.reduceToNat, td_3, td_9, td_24, td_25, td_27, td_28, td_29, td_31, td_44, td_85, U16, u16P, hx, List.length_map, hnow, t1, t3, q1, q2, ho, hoo])
      and_intros; all_goals (try (refine Side.mk ?_; first | first | omega | (intros; omega) | (simp; done) | (simp; omega) | (intro h; simp at h; omega) | (simp_all; done) | rfl | (and_intros <;> first | omega | (intros; omega) | (simp; done) | (simp; omega) | (intro h; simp at h; omega) | (simp_all; done) | rfl)))
    · intro h60; exact absurd h60 (by omega)
    · intro h60
      (refine exeC_ok (f := 60) ?_; simp only [B0, B1, B2, Lm0, Lm1, Lm2, Lm3, Lm4, Lm5, Lm6, Lm7, Lm8, Lm9, Lm10, Lm11, Lm12, Lm13, Lm14, Lm15, Lm16, Lm17, Lm18, Lm19, Lm20, Lm21, Lm22, Lm23, Lm24, Lm25, Lm26, Lm27, Lm28, Lm29, Nat.reduceLT, Nat.reduceEqDiff, ↓reduceIte, reduceCtorEq, Nat.reduceAdd, ge_iff_le, gt_iff_lt, forall_const, Nat.reduceBEq, Nat.reduceBNe, Nat.reduceMul, Nat.reduceLeDiff, Nat.reduceSub, Int.reduceToNat, td_3, td_9, td_24, td_25, td_27, td_28, td_29, td_31, td_44, td_85, t1, t3, q1, q2])
      and_intros; all_goals (try (refine Side.mk ?_; first | first | omega | (intros; omega) | (simp; done) | (simp; omega) | (intro h; simp at h; omega) | (simp_all; done) | rfl | (and_intros <;> first | omega | (intros; omega) | (simp; done) | (simp; omega) | (intro h; simp at h; omega) | (simp_all; done) | rfl)))
      · intro hA
        have hd : dOf n = 1125899906842624 := if_pos hA
        rw [hd] at m1 m2 q4
        (refine exeC_ok (f := 60) ?_; simp only [B0, B1, B2, Lm0, Lm1, Lm2, Lm3, Lm4, Lm5, Lm6, Lm7, Lm8, Lm9, Lm10, Lm11, Lm12, Lm13, Lm14, Lm15, Lm16, Lm17, Lm18, Lm19, Lm20, Lm21, Lm22, Lm23, Lm24, Lm25, Lm26, Lm27, Lm28, Lm29, Nat.reduceLT, Nat.reduceEqDiff, ↓reduceIte, reduceCtorEq, Nat.reduceAdd, ge_iff_le, gt_iff_lt, forall_const, Nat.reduceBEq, Nat.reduceBNe, Nat.reduceMul, Nat.reduceLeDiff, Nat.reduceSub, Int.reduceToNat, td_3, td_9, td_24, td_25, td_27, td_28, td_29, td_31, td_44, td_85, q4, t5, ho, hoo])
        and_intros; all_goals (try (refine Side.mk ?_; first | first | omega | (intros; omega) | (simp; done) | (simp; omega) | (intro h; simp at h; omega) | (simp_all; done) | rfl | (and_intros <;> first | omega | (intros; omega) | (simp; done) | (simp; omega) | (intro h; simp at h; omega) | (simp_all; done) | rfl)))
        refine Run.callP rfl rfl (by kernel_rfl) (c8) rfl rfl rfl ?_
        (refine Run.on ?_; simp only [B0, B1, B2, Lm0, Lm1, Lm2, Lm3, Lm4, Lm5, Lm6, Lm7, Lm8, Lm9, Lm10, Lm11, Lm12, Lm13, Lm14, Lm15, Lm16, Lm17, Lm18, Lm19, Lm20, Lm21, Lm22, Lm23, Lm24, Lm25, Lm26, Lm27, Lm28, Lm29, Nat.reduceLT, Nat.reduceEqDiff, ↓reduceIte, reduceCtorEq, Nat.reduceAdd, ge_iff_le, gt_iff_lt, forall_const, Nat.reduceBEq, Nat.reduceBNe, Nat.reduceMul, Nat.reduceLeDiff, Nat.reduceSub, Int.reduceToNat, td_3, td_9, td_24, td_25, td_27, td_28, td_29, td_31, td_44, td_85, hw', intsP, ho, hoo])
        and_intros; all_goals (try (refine Side.mk ?_; first | first | omega | (intros; omega) | (simp; done) | (simp; omega) | (intro h; simp at h; omega) | (simp_all; done) | rfl | (and_intros <;> first | omega | (intros; omega) | (simp; done) | (simp; omega) | (intro h; simp at h; omega) | (simp_all; done) | rfl)))
        refine ⟨k + 1, ?_, ⟨by omega, by omega⟩, by omega⟩
        simp only [m2]
        exact Conv.to [0, 1, 2, 5] (nodupB_ok rfl) rfl (by repeat (first | exact trivial | refine ⟨.refl _, ?_⟩ | refine ⟨LeP.osl rfl, ?_⟩ | refine ⟨LeP.oslN rfl (by simp) (by omega), ?_⟩)) ⟨LeO.refl _, ⟨rfl, rfl, rfl, LeL.cons (.refl _) (LeL.cons (LeP.oslN rfl (by omega) (by omega)) .nil)⟩, LeO.refl _, LeO.app rfl (by rw [m1, List.flatMap_append, hon]; rfl) (by rw [lE, mkE_length, List.length_take]; omega), trivial⟩
      · intro hA
        (refine exeC_ok (f := 60) ?_; simp only [B0, B1, B2, Lm0, Lm1, Lm2, Lm3, Lm4, Lm5, Lm6, Lm7, Lm8, Lm9, Lm10, Lm11, Lm12, Lm13, Lm14, Lm15, Lm16, Lm17, Lm18, Lm19, Lm20, Lm21, Lm22, Lm23, Lm24, Lm25, Lm26, Lm27, Lm28, Lm29, Nat.reduceLT, Nat.reduceEqDiff, ↓reduceIte, reduceCtorEq, Nat.reduceAdd, ge_iff_le, gt_iff_lt, forall_const, Nat.reduceBEq, Nat.reduceBNe, Nat.reduceMul, Nat.reduceLeDiff, Nat.reduceSub, Int.reduceToNat, td_3, td_9, td_24, td_25, td_27, td_28, td_29, td_31, td_44, td_85, t2, t4, q3, ho, hoo])
        and_intros; all_goals (try (refine Side.mk ?_; first | first | omega | (intros; omega) | (simp; done) | (simp; omega) | (intro h; simp at h; omega) | (simp_all; done) | rfl | (and_intros <;> first | omega | (intros; omega) | (simp; done) | (simp; omega) | (intro h; simp at h; omega) | (simp_all; done) | rfl)))
        · intro hB
          have hd : dOf n = 3000 := by unfold dOf; rw [if_neg hA, if_pos (by rw [t2, t4]; exact hB)]
          rw [hd] at m1 m2 q4
          (refine exeC_ok (f := 60) ?_; simp only [B0, B1, B2, Lm0, Lm1, Lm2, Lm3, Lm4, Lm5, Lm6, Lm7, Lm8, Lm9, Lm10, Lm11, Lm12, Lm13, Lm14, Lm15, Lm16, Lm17, Lm18, Lm19, Lm20, Lm21, Lm22, Lm23, Lm24, Lm25, Lm26, Lm27, Lm28, Lm29, Nat.reduceLT, Nat.reduceEqDiff, ↓reduceIte, reduceCtorEq, Nat.reduceAdd, ge_iff_le, gt_iff_lt, forall_const, Nat.reduceBEq, Nat.reduceBNe, Nat.reduceMul, Nat.reduceLeDiff, Nat.reduceSub, Int.reduceToNat, td_3, td_9, td_24, td_25, td_27, td_28, td_29, td_31, td_44, td_85, q4, t5, ho, hoo])
          and_intros; all_goals (try (refine Side.mk ?_; first | first | omega | (intros; omega) | (simp; done) | (simp; omega) | (intro h; simp at h; omega) | (simp_all; done) | rfl | (and_intros <;> first | omega | (intros; omega) | (simp; done) | (simp; omega) | (intro h; simp at h; omega) | (simp_all; done) | rfl)))
          refine Run.callP rfl rfl (by kernel_rfl) (c8) rfl rfl rfl ?_
          (refine Run.on ?_; simp only [B0, B1, B2, Lm0, Lm1, Lm2, Lm3, Lm4, Lm5, Lm6, Lm7, Lm8, Lm9, Lm10, Lm11, Lm12, Lm13, Lm14, Lm15, Lm16, Lm17, Lm18, Lm19, Lm20, Lm21, Lm22, Lm23, Lm24, Lm25, Lm26, Lm27, Lm28, Lm29, Nat.reduceLT, Nat.reduceEqDiff, ↓reduceIte, reduceCtorEq, Nat.reduceAdd, ge_iff_le, gt_iff_lt, forall_const, Nat.reduceBEq, Nat.reduceBNe, Nat.reduceMul, Nat.reduceLeDiff, Nat.reduceSub, Int.reduceToNat, td_3, td_9, td_24, td_25, td_27, td_28, td_29, td_31, td_44, td_85, hw', intsP, ho, hoo])
          and_intros; all_goals (try (refine Side.mk ?_; first | first | omega | (intros; omega) | (simp; done) | (simp; omega) | (intro h; simp at h; omega) | (simp_all; done) | rfl | (and_intros <;> first | omega | (intros; omega) | (simp; done) | (simp; omega) | (intro h; simp at h; omega) | (simp_all; done) | rfl)))
          refine ⟨k + 1, ?_, ⟨by omega, by omega⟩, by omega⟩
          simp only [m2]
          exact Conv.to [0, 1, 2, 5] (nodupB_ok rfl) rfl (by repeat (first | exact trivial | refine ⟨.refl _, ?_⟩ | refine ⟨LeP.osl rfl, ?_⟩ | refine ⟨LeP.oslN rfl (by simp) (by omega), ?_⟩)) ⟨LeO.refl _, ⟨rfl, rfl, rfl, LeL.cons (.refl _) (LeL.cons (LeP.oslN rfl (by omega) (by omega)) .nil)⟩, LeO.refl _, LeO.app rfl (by rw [m1, List.flatMap_append, hon]; rfl) (by rw [lE, mkE_length, List.length_take]; omega), trivial⟩
        · intro hB
          have hd : dOf n = n / 8 % 4 := by unfold dOf; rw [if_neg hA, if_neg (by rw [t2, t4]; exact hB), t1, t3]
          rw [hd] at m1 m2 q4
          (refine exeC_ok (f := 60) ?_; simp only [B0, B1, B2, Lm0, Lm1, Lm2, Lm3, Lm4, Lm5, Lm6, Lm7, Lm8, Lm9, Lm10, Lm11, Lm12, Lm13, Lm14, Lm15, Lm16, Lm17, Lm18, Lm19, Lm20, Lm21, Lm22, Lm23, Lm24, Lm25, Lm26, Lm27, Lm28, Lm29, Nat.reduceLT, Nat.reduceEqDiff, ↓reduceIte, reduceCtorEq, Nat.reduceAdd, ge_iff_le, gt_iff_lt, forall_const, Nat.reduceBEq, Nat.reduceBNe, Nat.reduceMul, Nat.reduceLeDiff, Nat.reduceSub, Int.reduceToNat, td_3, td_9, td_24, td_25, td_27, td_28, td_29, td_31, td_44, td_85, q4, t5, ho, hoo])
          and_intros; all_goals (try (refine Side.mk ?_; first | first | omega | (intros; omega) | (simp; done) | (simp; omega) | (intro h; simp at h; omega) | (simp_all; done) | rfl | (and_intros <;> first | omega | (intros; omega) | (simp; done) | (simp; omega) | (intro h; simp at h; omega) | (simp_all; done) | rfl)))
          refine Run.callP rfl rfl (by kernel_rfl) (c8) rfl rfl rfl ?_
          (refine Run.on ?_; simp only [B0, B1, B2, Lm0, Lm1, Lm2, Lm3, Lm4, Lm5, Lm6, Lm7, Lm8, Lm9, Lm10, Lm11, Lm12, Lm13, Lm14, Lm15, Lm16, Lm17, Lm18, Lm19, Lm20, Lm21, Lm22, Lm23, Lm24, Lm25, Lm26, Lm27, Lm28, Lm29, Nat.reduceLT, Nat.reduceEqDiff, ↓reduceIte, reduceCtorEq, Nat.reduceAdd, ge_iff_le, gt_iff_lt, forall_const, Nat.reduceBEq, Nat.reduceBNe, Nat.reduceMul, Nat.reduceLeDiff, Nat.reduceSub, Int.reduceToNat, td_3, td_9, td_24, td_25, td_27, td_28, td_29, td_31, td_44, td_85, hw', intsP, ho, hoo])
          and_intros; all_goals (try (refine Side.mk ?_; first | first | omega | (intros; omega) | (simp; done) | (simp; omega) | (intro h; simp at h; omega) | (simp_all; done) | rfl | (and_intros <;> first | omega | (intros; omega) | (simp; done) | (simp; omega) | (intro h; simp at h; omega) | (simp_all; done) | rfl)))
          refine ⟨k + 1, ?_, ⟨by omega, by omega⟩, by omega⟩
          simp only [m2]
          exact Conv.to [0, 1, 2, 5] (nodupB_ok rfl) rfl (by repeat (first | exact trivial | refine ⟨.refl _, ?_⟩ | refine ⟨LeP.osl rfl, ?_⟩ | refine ⟨LeP.oslN rfl (by simp) (by omega), ?_⟩)) ⟨LeO.refl _, ⟨rfl, rfl, rfl, LeL.cons (.refl _) (LeL.cons (LeP.oslN rfl (by omega) (by omega)) .nil)⟩, LeO.refl _, LeO.app rfl (by rw [m1, List.flatMap_append, hon]; rfl) (by rw [lE, mkE_length, List.length_take]; omega), trivial⟩
    · intro h60
      have hk2 : k = 60 := by omega
      have hE : mkE (st0 start) (ns.take 60) = mkE (st0 start) (ns.take k) := by rw [hk2]
      (refine exeC_ok (f := 60) ?_; simp only [B0, B1, B2, Lm0, Lm1, Lm2, Lm3, Lm4, Lm5, Lm6, Lm7, Lm8, Lm9, Lm10, Lm11, Lm12, Lm13, Lm14, Lm15, Lm16, Lm17, Lm18, Lm19, Lm20, Lm21, Lm22, Lm23, Lm24, Lm25, Lm26, Lm27, Lm28, Lm29, Nat.reduceLT, Nat.reduceEqDiff, ↓reduceIte, reduceCtorEq, Nat.reduceAdd, ge_iff_le, gt_iff_lt, forall_const, Nat.reduceBEq, Nat.reduceBNe, Nat.reduceMul, Nat.reduceLeDiff, Nat.reduceSub, Int.reduceToNat, td_3, td_9, td_24, td_25, td_27, td_28, td_29, td_31, td_44, td_85, ho, hoo])
      and_intros; all_goals (try (refine Side.mk ?_; first | first | omega | (intros; omega) | (simp; done) | (simp; omega) | (intro h; simp at h; omega) | (simp_all; done) | rfl | (and_intros <;> first | omega | (intros; omega) | (simp; done) | (simp; omega) | (intro h; simp at h; omega) | (simp_all; done) | rfl)))
      (refine RetV.conv (Conv.frz 3 rfl (zE _)) ?_; simp only [B0, B1, B2, Lm0, Lm1, Lm2, Lm3, Lm4, Lm5, Lm6, Lm7, Lm8, Lm9, Lm10, Lm11, Lm12, Lm13, Lm14, Lm15, Lm16, Lm17, Lm18, Lm19, Lm20, Lm21, Lm22, Lm23, Lm24, Lm25, Lm26, Lm27, Lm28, Lm29, Nat.reduceLT, Nat.reduceEqDiff, ↓reduceIte, reduceCtorEq, Nat.reduceAdd, ge_iff_le, gt_iff_lt, forall_const, Nat.reduceBEq, Nat.reduceBNe, Nat.reduceMul, Nat.reduceLeDiff, Nat.reduceSub, Int.reduceToNat, BO, frz_oob])
      exact RetV.c (i := 0) [2] rfl rfl (by rw [td_27]; rfl) (by rw [td_27]; rfl) (by rw [td_27]; rfl) rfl rfl (LeP.ag (LeL.cons (.refl _) (LeL.cons (LeP.im' (by rw [hE, hlen]) (by rw [hE]; exact hto)) .nil))) ⟨LeO.refl _, trivial⟩
    · intro h60
      (refine exeC_ok (f := 60) ?_; simp only [B0, B1, B2, Lm0, Lm1, Lm2, Lm3, Lm4, Lm5, Lm6, Lm7, Lm8, Lm9, Lm10, Lm11, Lm12, Lm13, Lm14, Lm15, Lm16, Lm17, Lm18, Lm19, Lm20, Lm21, Lm22, Lm23, Lm24, Lm25, Lm26, Lm27, Lm28, Lm29, Nat.reduceLT, Nat.reduceEqDiff, ↓reduceIte, reduceCtorEq, Nat.reduceAdd, ge_iff_le, gt_iff_lt, forall_const, Nat.reduceBEq, Nat.reduceBNe, Nat.reduceMul, Nat.reduceLeDiff, Nat.reduceSub, Int.reduceToNat, td_3, td_9, td_24, td_25, td_27, td_28, td_29, td_31, td_44, td_85, t1, t3, q1, q2])
      and_intros; all_goals (try (refine Side.mk ?_; first | first | omega | (intros; omega) | (simp; done) | (simp; omega) | (intro h; simp at h; omega) | (simp_all; done) | rfl | (and_intros <;> first | omega | (intros; omega) | (simp; done) | (simp; omega) | (intro h; simp at h; omega) | (simp_all; done) | rfl)))
      · intro hA
        have hd : dOf n = 1125899906842624 := if_pos hA
        rw [hd] at m1 m2 q4
        (refine exeC_ok (f := 60) ?_; simp only [B0, B1, B2, Lm0, Lm1, Lm2, Lm3, Lm4, Lm5, Lm6, Lm7, Lm8, Lm9, Lm10, Lm11, Lm12, Lm13, Lm14, Lm15, Lm16, Lm17, Lm18, Lm19, Lm20, Lm21, Lm22, Lm23, Lm24, Lm25, Lm26, Lm27, Lm28, Lm29, Nat.reduceLT, Nat.reduceEqDiff, ↓reduceIte, reduceCtorEq, Nat.reduceAdd, ge_iff_le, gt_iff_lt, forall_const, Nat.reduceBEq, Nat.reduceBNe, Nat.reduceMul, Nat.reduceLeDiff, Nat.reduceSub, Int.reduceToNat, td_3, td_9, td_24, td_25, td_27, td_28, td_29, td_31, td_44, td_85, q4, t5, ho, hoo])
        and_intros; all_goals (try (refine Side.mk ?_; first | first | omega | (intros; omega) | (simp; done) | (simp; omega) | (intro h; simp at h; omega) | (simp_all; done) | rfl | (and_intros <;> first | omega | (intros; omega) | (simp; done) | (simp; omega) | (intro h; simp at h; omega) | (simp_all; done) | rfl)))
        refine Run.callP rfl rfl (by kernel_rfl) (c8) rfl rfl rfl ?_
        (refine Run.on ?_; simp only [B0, B1, B2, Lm0, Lm1, Lm2, Lm3, Lm4, Lm5, Lm6, Lm7, Lm8, Lm9, Lm10, Lm11, Lm12, Lm13, Lm14, Lm15, Lm16, Lm17, Lm18, Lm19, Lm20, Lm21, Lm22, Lm23, Lm24, Lm25, Lm26, Lm27, Lm28, Lm29, Nat.reduceLT, Nat.reduceEqDiff, ↓reduceIte, reduceCtorEq, Nat.reduceAdd, ge_iff_le, gt_iff_lt, forall_const, Nat.reduceBEq, Nat.reduceBNe, Nat.reduceMul, Nat.reduceLeDiff, Nat.reduceSub, Int.reduceToNat, td_3, td_9, td_24, td_25, td_27, td_28, td_29, td_31, td_44, td_85, hw', intsP, ho, hoo, hto, lE, hlen])
        and_intros; all_goals (try (refine Side.mk ?_; first | first | omega | (intros; omega) | (simp; done) | (simp; omega) | (intro h; simp at h; omega) | (simp_all; done) | rfl | (and_intros <;> first | omega | (intros; omega) | (simp; done) | (simp; omega) | (intro h; simp at h; omega) | (simp_all; done) | rfl)))
        refine ⟨k + 1, ?_, ⟨by omega, by omega⟩, by omega⟩
        simp only [m2]
        exact Conv.to [0, 1, 2, 5] (nodupB_ok rfl) rfl (by repeat (first | exact trivial | refine ⟨.refl _, ?_⟩ | refine ⟨LeP.osl rfl, ?_⟩ | refine ⟨LeP.oslN rfl (by simp) (by omega), ?_⟩)) ⟨LeO.refl _, ⟨rfl, rfl, rfl, LeL.cons (.refl _) (LeL.cons (LeP.oslN rfl (by omega) (by omega)) .nil)⟩, LeO.refl _, LeO.app (zLB_append (zE _) rfl) (by rw [m1, List.flatMap_append]; rfl) (by rw [lE, mkE_length, List.length_take]; omega), trivial⟩
      · intro hA
        (refine exeC_ok (f := 60) ?_; simp only [B0, B1, B2, Lm0, Lm1, Lm2, Lm3, Lm4, Lm5, Lm6, Lm7, Lm8, Lm9, Lm10, Lm11, Lm12, Lm13, Lm14, Lm15, Lm16, Lm17, Lm18, Lm19, Lm20, Lm21, Lm22, Lm23, Lm24, Lm25, Lm26, Lm27, Lm28, Lm29, Nat.reduceLT, Nat.reduceEqDiff, ↓reduceIte, reduceCtorEq, Nat.reduceAdd, ge_iff_le, gt_iff_lt, forall_const, Nat.reduceBEq, Nat.reduceBNe, Nat.reduceMul, Nat.reduceLeDiff, Nat.reduceSub, Int.reduceToNat, td_3, td_9, td_24, td_25, td_27, td_28, td_29, td_31, td_44, td_85, t2, t4, q3, ho, hoo])
        and_intros; all_goals (try (refine Side.mk ?_; first | first | omega | (intros; omega) | (simp; done) | (simp; omega) | (intro h; simp at h; omega) | (simp_all; done) | rfl | (and_intros <;> first | omega | (intros; omega) | (simp; done) | (simp; omega) | (intro h; simp at h; omega) | (simp_all; done) | rfl)))
        · intro hB
          have hd : dOf n = 3000 := by unfold dOf; rw [if_neg hA, if_pos (by rw [t2, t4]; exact hB)]
          rw [hd] at m1 m2 q4
          (refine exeC_ok (f := 60) ?_; simp only [B0, B1, B2, Lm0, Lm1, Lm2, Lm3, Lm4, Lm5, Lm6, Lm7, Lm8, Lm9, Lm10, Lm11, Lm12, Lm13, Lm14, Lm15, Lm16, Lm17, Lm18, Lm19, Lm20, Lm21, Lm22, Lm23, Lm24, Lm25, Lm26, Lm27, Lm28, Lm29, Nat.reduceLT, Nat.reduceEqDiff, ↓reduceIte, reduceCtorEq, Nat.reduceAdd, ge_iff_le, gt_iff_lt, forall_const, Nat.reduceBEq, Nat.reduceBNe, Nat.reduceMul, Nat.reduceLeDiff, Nat.reduceSub, Int.reduceToNat, td_3, td_9, td_24, td_25, td_27, td_28, td_29, td_31, td_44, td_85, q4, t5, ho, hoo])
          and_intros; all_goals (try (refine Side.mk ?_; first | first | omega | (intros; omega) | (simp; done) | (simp; omega) | (intro h; simp at h; omega) | (simp_all; done) | rfl | (and_intros <;> first | omega | (intros; omega) | (simp; done) | (simp; omega) | (intro h; simp at h; omega) | (simp_all; done) | rfl)))
          refine Run.callP rfl rfl (by kernel_rfl) (c8) rfl rfl rfl ?_
          (refine Run.on ?_; simp only [B0, B1, B2, Lm0, Lm1, Lm2, Lm3, Lm4, Lm5, Lm6, Lm7, Lm8, Lm9, Lm10, Lm11, Lm12, Lm13, Lm14, Lm15, Lm16, Lm17, Lm18, Lm19, Lm20, Lm21, Lm22, Lm23, Lm24, Lm25, Lm26, Lm27, Lm28, Lm29, Nat.reduceLT, Nat.reduceEqDiff, ↓reduceIte, reduceCtorEq, Nat.reduceAdd, ge_iff_le, gt_iff_lt, forall_const, Nat.reduceBEq, Nat.reduceBNe, Nat.reduceMul, Nat.reduceLeDiff, Nat.reduceSub, Int.reduceToNat, td_3, td_9, td_24, td_25, td_27, td_28, td_29, td_31, td_44, td_85, hw', intsP, ho, hoo, hto, lE, hlen])
          and_intros; all_goals (try (refine Side.mk ?_; first | first | omega | (intros; omega) | (simp; done) | (simp; omega) | (intro h; simp at h; omega) | (simp_all; done) | rfl | (and_intros <;> first | omega | (intros; omega) | (simp; done) | (simp; omega) | (intro h; simp at h; omega) | (simp_all; done) | rfl)))
          refine ⟨k + 1, ?_, ⟨by omega, by omega⟩, by omega⟩
          simp only [m2]
          exact Conv.to [0, 1, 2, 5] (nodupB_ok rfl) rfl (by repeat (first | exact trivial | refine ⟨.refl _, ?_⟩ | refine ⟨LeP.osl rfl, ?_⟩ | refine ⟨LeP.oslN rfl (by simp) (by omega), ?_⟩)) ⟨LeO.refl _, ⟨rfl, rfl, rfl, LeL.cons (.refl _) (LeL.cons (LeP.oslN rfl (by omega) (by omega)) .nil)⟩, LeO.refl _, LeO.app (zLB_append (zE _) rfl) (by rw [m1, List.flatMap_append]; rfl) (by rw [lE, mkE_length, List.length_take]; omega), trivial⟩
        · intro hB
          have hd : dOf n = n / 8 % 4 := by unfold dOf; rw [if_neg hA, if_neg (by rw [t2, t4]; exact hB), t1, t3]
          rw [hd] at m1 m2 q4
          (refine exeC_ok (f := 60) ?_; simp only [B0, B1, B2, Lm0, Lm1, Lm2, Lm3, Lm4, Lm5, Lm6, Lm7, Lm8, Lm9, Lm10, Lm11, Lm12, Lm13, Lm14, Lm15, Lm16, Lm17, Lm18, Lm19, Lm20, Lm21, Lm22, Lm23, Lm24, Lm25, Lm26, Lm27, Lm28, Lm29, Nat.reduceLT, Nat.reduceEqDiff, ↓reduceIte, reduceCtorEq, Nat.reduceAdd, ge_iff_le, gt_iff_lt, forall_const, Nat.reduceBEq, Nat.reduceBNe, Nat.reduceMul, Nat.reduceLeDiff, Nat.reduceSub, Int.reduceToNat, td_3, td_9, td_24, td_25, td_27, td_28, td_29, td_31, td_44, td_85, q4, t5, ho, hoo])
          and_intros; all_goals (try (refine Side.mk ?_; first | first | omega | (intros; omega) | (simp; done) | (simp; omega) | (intro h; simp at h; omega) | (simp_all; done) | rfl | (and_intros <;> first | omega | (intros; omega) | (simp; done) | (simp; omega) | (intro h; simp at h; omega) | (simp_all; done) | rfl)))
          refine Run.callP rfl rfl (by kernel_rfl) (c8) rfl rfl rfl ?_
          (refine Run.on ?_; simp only [B0, B1, B2, Lm0, Lm1, Lm2, Lm3, Lm4, Lm5, Lm6, Lm7, Lm8, Lm9, Lm10, Lm11, Lm12, Lm13, Lm14, Lm15, Lm16, Lm17, Lm18, Lm19, Lm20, Lm21, Lm22, Lm23, Lm24, Lm25, Lm26, Lm27, Lm28, Lm29, Nat.reduceLT, Nat.reduceEqDiff, ↓reduceIte, reduceCtorEq, Nat.reduceAdd, ge_iff_le, gt_iff_lt, forall_const, Nat.reduceBEq, Nat.reduceBNe, Nat.reduceMul, Nat.reduceLeDiff, Nat.reduceSub, Int.reduceToNat, td_3, td_9, td_24, td_25, td_27, td_28, td_29, td_31, td_44, td_85, hw', intsP, ho, hoo, hto, lE, hlen])
          and_intros; all_goals (try (refine Side.mk ?_; first | first | omega | (intros; omega) | (simp; done) | (simp; omega) | (intro h; simp at h; omega) | (simp_all; done) | rfl | (and_intros <;> first | omega | (intros; omega) | (simp; done) | (simp; omega) | (intro h; simp at h; omega) | (simp_all; done) | rfl)))
          refine ⟨k + 1, ?_, ⟨by omega, by omega⟩, by omega⟩
          simp only [m2]
          exact Conv.to [0, 1, 2, 5] (nodupB_ok rfl) rfl (by repeat (first | exact trivial | refine ⟨.refl _, ?_⟩ | refine ⟨LeP.osl rfl, ?_⟩ | refine ⟨LeP.oslN rfl (by simp) (by omega), ?_⟩)) ⟨LeO.refl _, ⟨rfl, rfl, rfl, LeL.cons (.refl _) (LeL.cons (LeP.oslN rfl (by omega) (by omega)) .nil)⟩, LeO.refl _, LeO.app (zLB_append (zE _) rfl) (by rw [m1, List.flatMap_append]; rfl) (by rw [lE, mkE_length, List.length_take]; omega), trivial⟩
  · have hk' : k = ns.length := by omega
    have hto : List.take (k * 2) ((mkE (st0 start) (ns.take k)).flatMap evC) = (mkE (st0 start) (ns.take k)).flatMap evC := List.take_of_length_le (by rw [lE, hlen]; omega)
    have hE : mkE (st0 start) (ns.take 60) = mkE (st0 start) (ns.take k) := by rw [List.take_of_length_le (by omega), hk', List.take_length]
    rcases osl_cases 3 k 31 2 ((mkE (st0 start) (ns.take k)).flatMap evC) (by rw [lE, hlen]) (by omega) with ⟨ho, hoo, ho0, hon⟩ | ⟨ho, hoo, ho0⟩
    · (refine exeC_ok (f := 60) ?_; simp only [B0, B1, B2, Lm0, Lm1, Lm2, Lm3, Lm4, Lm5, Lm6, Lm7, Lm8, Lm9, Lm10, Lm11, Lm12, Lm13, Lm14, Lm15, Lm16, Lm17, Lm18, Lm19, Lm20, Lm21, Lm22, Lm23, Lm24, Lm25, Lm26, Lm27, Lm28, Lm29, Nat.reduceLT, Nat.reduceEqDiff, ↓reduceIte, reduceCtorEq, Nat.reduceAdd, ge_iff_le, gt_iff_lt, forall_const, Nat.reduceBEq, Nat.reduceBNe, Nat.reduceMul, Nat.reduceLeDiff, Nat.reduceSub, Int.reduceToNat, td_3, td_9, td_24, td_25, td_27, td_28, td_29, td_31, td_44, td_85, ho, hoo])
      and_intros; all_goals (try (refine Side.mk ?_; first | first | omega | (intros; omega) | (simp; done) | (simp; omega) | (intro h; simp at h; omega) | (simp_all; done) | rfl | (and_intros <;> first | omega | (intros; omega) | (simp; done) | (simp; omega) | (intro h; simp at h; omega) | (simp_all; done) | rfl)))
      exact RetV.c (i := 0) [2] rfl rfl (by rw [td_27]; rfl) (by rw [td_27]; rfl) (by rw [td_27]; rfl) rfl rfl (LeP.ag (LeL.cons (.refl _) (LeL.cons (LeP.nil' (by rw [hE, hlen, ho0]) (by rw [hE]; exact hon)) .nil))) ⟨LeO.refl _, trivial⟩
    · (refine exeC_ok (f := 60) ?_; simp only [B0, B1, B2, Lm0, Lm1, Lm2, Lm3, Lm4, Lm5, Lm6, Lm7, Lm8, Lm9, Lm10, Lm11, Lm12, Lm13, Lm14, Lm15, Lm16, Lm17, Lm18, Lm19, Lm20, Lm21, Lm22, Lm23, Lm24, Lm25, Lm26, Lm27, Lm28, Lm29, Nat.reduceLT, Nat.reduceEqDiff, ↓reduceIte, reduceCtorEq, Nat.reduceAdd, ge_iff_le, gt_iff_lt, forall_const, Nat.reduceBEq, Nat.reduceBNe, Nat.reduceMul, Nat.reduceLeDiff, Nat.reduceSub, Int.reduceToNat, td_3, td_9, td_24, td_25, td_27, td_28, td_29, td_31, td_44, td_85, ho, hoo])
      and_intros; all_goals (try (refine Side.mk ?_; first | first | omega | (intros; omega) | (simp; done) | (simp; omega) | (intro h; simp at h; omega) | (simp_all; done) | rfl | (and_intros <;> first | omega | (intros; omega) | (simp; done) | (simp; omega) | (intro h; simp at h; omega) | (simp_all; done) | rfl)))
      (refine RetV.conv (Conv.frz 3 rfl (zE _)) ?_; simp only [B0, B1, B2, Lm0, Lm1, Lm2, Lm3, Lm4, Lm5, Lm6, Lm7, Lm8, Lm9, Lm10, Lm11, Lm12, Lm13, Lm14, Lm15, Lm16, Lm17, Lm18, Lm19, Lm20, Lm21, Lm22, Lm23, Lm24, Lm25, Lm26, Lm27, Lm28, Lm29, Nat.reduceLT, Nat.reduceEqDiff, ↓reduceIte, reduceCtorEq, Nat.reduceAdd, ge_iff_le, gt_iff_lt, forall_const, Nat.reduceBEq, Nat.reduceBNe, Nat.reduceMul, Nat.reduceLeDiff, Nat.reduceSub, Int.reduceToNat, BO, frz_oob])
      exact RetV.c (i := 0) [2] rfl rfl (by rw [td_27]; rfl) (by rw [td_27]; rfl) (by rw [td_27]; rfl) rfl rfl (LeP.ag (LeL.cons (.refl _) (LeL.cons (LeP.im' (by rw [hE, hlen]) (by rw [hE]; exact hto)) .nil))) ⟨LeO.refl _, trivial⟩
end Go.Proofs.Ytbbjmfkmjjinnaa.V
