/- Contracts of the queue of lines and of the heap over it. No law of the program is proved here. -/
import Derived.Test.YtbbjmfkmjjinnaaQF
set_option linter.all false
namespace Go.Proofs.Ytbbjmfkmjjinnaa.V
open Go Go.Proofs

structure Ln where
  evs : List Ev
  no : Int
deriving Inhabited
def qc (x : Ln) : List PV := [evsP x.evs, I x.no]
def tm (x : Ln) : Int := (x.evs.getD 0 default).t
def ltL (a b : Ln) : Bool := if tm a = tm b then decide (a.no < b.no) else decide (tm a < tm b)
theorem drop_q (l : List Ln) (k : Nat) (h : k < l.length) : (l.flatMap qc).drop (k * 2) = evsP (l.getD k default).evs :: I (l.getD k default).no :: (l.drop (k + 1)).flatMap qc := drop_flat qc 2 (fun _ => rfl) l k h
theorem zQ (l : List Ln) : zLB (l.flatMap qc) = true := zLB_flat qc (fun _ => rfl) l
theorem tQ (vw : Bool) (H : Heap) (rs : List Nat) (l : List Ln) : toCL vw H rs (l.flatMap qc) = l.flatMap qc := toCL_closed _ _ _ (zQ l)
theorem nQ (σ : Nat → Option Nat) (l : List Ln) : renL σ (l.flatMap qc) = l.flatMap qc := renL_closed _ (zQ l)
theorem vQ (H : Heap) (rs : List Nat) : ∀ (l : List Ln), (l.flatMap qc).map (viewC H rs) = l.flatMap qc
  | [] => rfl
  | x :: l => by rw [List.flatMap_cons, List.map_append, vQ H rs l]; rfl
theorem lQ (l : List Ln) : (l.flatMap qc).length = l.length * 2 := length_flat qc 2 (fun _ => rfl) l
theorem over_flat2 {α : Type} (f : α → List PV) (hf : ∀ x, (f x).length = 2) : ∀ (l : List α) (k : Nat) (x : α), k < l.length → over (l.flatMap f) (k * 2) (f x) = (l.set k x).flatMap f
  | a :: l, 0, x, _ => by
    obtain ⟨p, q, e⟩ : ∃ p q, f a = [p, q] := by have := hf a; match h : f a, this with | [p, q], _ => exact ⟨p, q, rfl⟩
    obtain ⟨p', q', e'⟩ : ∃ p q, f x = [p, q] := by have := hf x; match h : f x, this with | [p, q], _ => exact ⟨p, q, rfl⟩
    simp [List.flatMap_cons, e, e', over]
  | a :: l, k + 1, x, h => by
    obtain ⟨p, q, e⟩ : ∃ p q, f a = [p, q] := by have := hf a; match h : f a, this with | [p, q], _ => exact ⟨p, q, rfl⟩
    rw [List.flatMap_cons, e, show (k + 1) * 2 = k * 2 + 1 + 1 by omega]
    rw [show [p, q] ++ l.flatMap f = p :: q :: l.flatMap f from rfl, over_s, over_s, over_flat2 f hf l k x (by simpa using h)]
    simp [e]

theorem c_qLen (nz : Bool) (n : Nat) (cs : List PV) : GC Try.prog 20 [.im nz n cs] [] (I n) [] := by
  refine GC_fn [] Try.func20 rfl rfl (by kernel_rfl) ?_
  (refine exeC_ok (f := 60) ?_; simp only [B0, B1, B2, Lm0, Lm1, Lm2, Lm3, Lm4, Lm5, Lm6, Lm7, Lm8, Lm9, Lm10, Lm11, Lm12, Lm13, Lm14, Lm15, Lm16, Lm17, Lm18, Lm19, Lm20, Lm21, Lm22, Lm23, Lm24, Lm25, Lm26, Lm27, Lm28, Lm29, Nat.reduceLT, Nat.reduceEqDiff, ↓reduceIte, reduceCtorEq, Nat.reduceAdd, ge_iff_le, gt_iff_lt, forall_const, Nat.reduceBEq, Nat.reduceBNe, Nat.reduceMul, Nat.reduceLeDiff, Nat.reduceSub, Int.reduceToNat, td_3, td_25, td_28, td_29, td_31, td_53, td_55])
  exact RetV.p rfl trivial (.refl _)

theorem c_qLess (nz : Bool) (L : List Ln) (i j : Nat) (hi : i < L.length) (hj : j < L.length) (hl : L.length ≤ 1000000) (hd : ∀ x, x ∈ L → 0 < x.evs.length) : GC Try.prog 104 [.im nz L.length (L.flatMap qc), I i, I j] [] (Bo (ltL (L.getD i default) (L.getD j default))) [] := by
  have hx := drop_q L i hi
  have hy := drop_q L j hj
  have d1 := hd _ (getD_mem hi)
  have d2 := hd _ (getD_mem hj)
  have hu := drop_ev (L.getD i default).evs 0 d1
  have hv := drop_ev (L.getD j default).evs 0 d2
  simp only [Nat.zero_mul, List.drop_zero] at hu hv
  refine GC_fn [(1, false, [0, 1, 2, 3, 4, 5, 6, 7, 16, 8, 9, 10, 11, 12, 13, 14, 15, 17])] Try.func104 rfl rfl (by kernel_rfl) ?_
  (refine exeC_ok (f := 60) ?_; simp only [B0, B1, B2, Lm0, Lm1, Lm2, Lm3, Lm4, Lm5, Lm6, Lm7, Lm8, Lm9, Lm10, Lm11, Lm12, Lm13, Lm14, Lm15, Lm16, Lm17, Lm18, Lm19, Lm20, Lm21, Lm22, Lm23, Lm24, Lm25, Lm26, Lm27, Lm28, Lm29, Nat.reduceLT, Nat.reduceEqDiff, ↓reduceIte, reduceCtorEq, Nat.reduceAdd, ge_iff_le, gt_iff_lt, forall_const, Nat.reduceBEq, Nat.reduceBNe, Nat.reduceMul, Nat.reduceLeDiff, Nat.reduceSub, Int.reduceToNat, td_3, td_25, td_28, td_29, td_31, td_53, td_55, hx, hy, evsP, hu, hv])
  and_intros; all_goals (try (refine Side.mk ?_; first | first | omega | (intros; omega) | (simp; done) | (simp; omega) | (intro h; simp at h; omega) | (simp_all; done) | rfl | (and_intros <;> first | omega | (intros; omega) | (simp; done) | (simp; omega) | (intro h; simp at h; omega) | (simp_all; done) | rfl)))
  · intro h
    (refine exeC_ok (f := 60) ?_; simp only [B0, B1, B2, Lm0, Lm1, Lm2, Lm3, Lm4, Lm5, Lm6, Lm7, Lm8, Lm9, Lm10, Lm11, Lm12, Lm13, Lm14, Lm15, Lm16, Lm17, Lm18, Lm19, Lm20, Lm21, Lm22, Lm23, Lm24, Lm25, Lm26, Lm27, Lm28, Lm29, Nat.reduceLT, Nat.reduceEqDiff, ↓reduceIte, reduceCtorEq, Nat.reduceAdd, ge_iff_le, gt_iff_lt, forall_const, Nat.reduceBEq, Nat.reduceBNe, Nat.reduceMul, Nat.reduceLeDiff, Nat.reduceSub, Int.reduceToNat, td_3, td_25, td_28, td_29, td_31, td_53, td_55])
    refine RetV.p rfl trivial (rB ?_)
    unfold ltL tm; rw [if_neg h]
  · intro h
    (refine exeC_ok (f := 60) ?_; simp only [B0, B1, B2, Lm0, Lm1, Lm2, Lm3, Lm4, Lm5, Lm6, Lm7, Lm8, Lm9, Lm10, Lm11, Lm12, Lm13, Lm14, Lm15, Lm16, Lm17, Lm18, Lm19, Lm20, Lm21, Lm22, Lm23, Lm24, Lm25, Lm26, Lm27, Lm28, Lm29, Nat.reduceLT, Nat.reduceEqDiff, ↓reduceIte, reduceCtorEq, Nat.reduceAdd, ge_iff_le, gt_iff_lt, forall_const, Nat.reduceBEq, Nat.reduceBNe, Nat.reduceMul, Nat.reduceLeDiff, Nat.reduceSub, Int.reduceToNat, td_3, td_25, td_28, td_29, td_31, td_53, td_55, hx, hy])
    and_intros; all_goals (try (refine Side.mk ?_; first | first | omega | (intros; omega) | (simp; done) | (simp; omega) | (intro h; simp at h; omega) | (simp_all; done) | rfl | (and_intros <;> first | omega | (intros; omega) | (simp; done) | (simp; omega) | (intro h; simp at h; omega) | (simp_all; done) | rfl)))
    refine RetV.p rfl trivial (rB ?_)
    unfold ltL tm; rw [if_pos h]

theorem c_qSwap (L : List Ln) (n i j : Nat) (hn : n ≤ L.length) (hi : i < n) (hj : j < n) (hl : L.length ≤ 1000000) : GC Try.prog 106 [.id 0 n, I i, I j] [some ⟨55, true, 2, L.flatMap qc⟩] (.tu []) [some ⟨55, true, 2, (swp L i j).flatMap qc⟩] := by
  have hx := drop_q L i (by omega)
  have hy := drop_q L j (by omega)
  have o1 := over_flat2 qc (fun _ => rfl) L i (L.getD j default) (by omega)
  have o2 := over_flat2 qc (fun _ => rfl) (L.set i (L.getD j default)) j (L.getD i default) (by simp; omega)
  simp only [qc, I, evsP] at o1 o2
  refine GC_fn [(0, false, [0, 1, 4, 5, 6, 7, 8, 9, 10, 11, 12, 13, 2, 3, 14, 15])] Try.func106 rfl rfl (by kernel_rfl) ?_
  (refine exeC_ok (f := 60) ?_; simp only [B0, B1, B2, Lm0, Lm1, Lm2, Lm3, Lm4, Lm5, Lm6, Lm7, Lm8, Lm9, Lm10, Lm11, Lm12, Lm13, Lm14, Lm15, Lm16, Lm17, Lm18, Lm19, Lm20, Lm21, Lm22, Lm23, Lm24, Lm25, Lm26, Lm27, Lm28, Lm29, Nat.reduceLT, Nat.reduceEqDiff, ↓reduceIte, reduceCtorEq, Nat.reduceAdd, ge_iff_le, gt_iff_lt, forall_const, Nat.reduceBEq, Nat.reduceBNe, Nat.reduceMul, Nat.reduceLeDiff, Nat.reduceSub, Int.reduceToNat, td_3, td_25, td_28, td_29, td_31, td_53, td_55, hx, hy, evsP, o1, o2, lQ])
  and_intros; all_goals (try (refine Side.mk ?_; first | first | omega | (intros; omega) | (simp; done) | (simp; omega) | (intro h; simp at h; omega) | (simp_all; done) | rfl | (and_intros <;> first | omega | (intros; omega) | (simp; done) | (simp; omega) | (intro h; simp at h; omega) | (simp_all; done) | rfl)))
  exact RetV.o [0] rfl trivial rfl rfl (.refl _) ⟨LeO.ob (zQ _) rfl, trivial⟩

theorem vQt (H : Heap) (rs : List Nat) (l : List Ln) (k : Nat) : ((l.flatMap qc).take k).map (viewC H rs) = (l.flatMap qc).take k := by rw [List.map_take, vQ]
theorem take_flat {α : Type} (f : α → List PV) (n : Nat) (hf : ∀ x, (f x).length = n) : ∀ (l : List α) (k : Nat), (l.flatMap f).take (k * n) = (l.take k).flatMap f
  | [], k => by simp
  | x :: l, 0 => by simp
  | x :: l, k + 1 => by
    rw [List.flatMap_cons, List.take_append, hf, show (k + 1) * n - n = k * n by rw [Nat.add_mul]; omega, take_flat f n hf l k, List.take_of_length_le (by rw [hf, Nat.add_mul]; omega)]
    rfl

def jOf (n : Nat) (L : List Ln) (i : Nat) : Nat := if 2 * i + 2 < n ∧ ltL (L.getD (2 * i + 2) default) (L.getD (2 * i + 1) default) = true then 2 * i + 2 else 2 * i + 1
def downF : Nat → Nat → List Ln → Nat → List Ln × Nat
  | 0, _, L, i => (L, i)
  | f + 1, n, L, i => if 2 * i + 1 < n ∧ ltL (L.getD (jOf n L i) default) (L.getD i default) = true then downF f n (swp L i (jOf n L i)) (jOf n L i) else (L, i)
def HQ (m : Nat) (A : List Ln) : Heap := [some ⟨53, false, 1, [.id 1 m]⟩, some ⟨55, true, 2, A.flatMap qc⟩]
def QP : PV := .ifc 51 (.ad 0 0)
def Lively (n : Nat) (A : List Ln) : Prop := ∀ i, i < n → 0 < (A.getD i default).evs.length
theorem Lively.swp {n : Nat} {A : List Ln} (h : Lively n A) {i j : Nat} (hi : i < n) (hj : j < n) (hn : n ≤ A.length) : Lively n (swp A i j) := by
  intro k hk
  unfold V.swp
  simp only [List.getD_eq_getElem?_getD, List.getElem?_set]
  have a := h i hi
  have b := h j hj
  have c := h k hk
  simp only [List.getD_eq_getElem?_getD] at a b c
  split
  · split
    · simpa using a
    · simp_all
  · split
    · split
      · simpa using b
      · simp_all
    · exact c

theorem c_less (A : List Ln) (m : Nat) (a b : Int) (i j : Nat) (ea : a = i) (eb : b = j) (hm : m ≤ A.length) (hl : A.length ≤ 1000000) (hd : Lively m A) (hi : i < m) (hj : j < m) : GC Try.prog 104 [.im true m ((A.flatMap qc).take (m * 2)), I a, I b] [] (Bo (ltL (A.getD i default) (A.getD j default))) [] := by
  subst ea eb
  rw [take_flat qc 2 fun _ => rfl]
  have hlen : (A.take m).length = m := by simp; omega
  have hg : ∀ k, k < m → (A.take m).getD k default = A.getD k default := fun k hk => by simp [List.getD_eq_getElem?_getD, List.getElem?_take, hk]
  have := c_qLess true (A.take m) i j (by omega) (by omega) (by omega) (fun x hx => by
    obtain ⟨k, hk, rfl⟩ := List.mem_iff_getElem.1 hx
    have h1 := hd k (by omega)
    rw [← hg k (by omega), List.getD_eq_getElem?_getD, List.getElem?_eq_getElem hk] at h1
    exact h1)
  rw [hg i hi, hg j hj, hlen] at this
  exact this

theorem c_down (A0 : List Ln) (m n i0 : Nat) (hnm : n ≤ m) (hm : m ≤ A0.length) (hl : A0.length ≤ 1000000) (hd : Lively m A0) (hi : i0 ≤ n) : GC Try.prog 34 [QP, I i0, I n] (HQ m A0) (Bo (decide ((i0 : Int) < (downF n n A0 i0).2))) (HQ m (downF n n A0 i0).1) := by
  refine GC_fn [] Try.func34 rfl rfl (by kernel_rfl) ?_
  (refine exeC_ok (f := 60) ?_; simp only [B0, B1, B2, Lm0, Lm1, Lm2, Lm3, Lm4, Lm5, Lm6, Lm7, Lm8, Lm9, Lm10, Lm11, Lm12, Lm13, Lm14, Lm15, Lm16, Lm17, Lm18, Lm19, Lm20, Lm21, Lm22, Lm23, Lm24, Lm25, Lm26, Lm27, Lm28, Lm29, Nat.reduceLT, Nat.reduceEqDiff, ↓reduceIte, reduceCtorEq, Nat.reduceAdd, ge_iff_le, gt_iff_lt, forall_const, Nat.reduceBEq, Nat.reduceBNe, Nat.reduceMul, Nat.reduceLeDiff, Nat.reduceSub, Int.reduceToNat, td_3, td_4, QP, HQ])
  refine WC_loop (fun s : Nat × List Ln × Nat => [(0, QP), (1, I i0), (2, I n), (7, I s.2.2)]) (fun s => HQ m s.2.1) (fun s => s.2.1.length = A0.length ∧ Lively m s.2.1 ∧ s.2.2 ≤ n ∧ n ≤ s.1 + s.2.2 ∧ downF s.1 n s.2.1 s.2.2 = downF n n A0 i0) (fun s => s.1) (n, A0, i0) (Conv.less (by repeat (first | exact trivial | refine ⟨.refl _, ?_⟩)) (LeH.refl _)) ⟨rfl, hd, hi, by simp, rfl⟩ ?_
  rintro ⟨f, A, i⟩ ⟨a1, a2, a3, a4, a5⟩
  simp only at a1 a2 a3 a4 a5
  have w1 : IntKind.i64.wrap (2 * (i : Int)) = 2 * i := wrap64 (by omega) (by omega)
  have w2 : IntKind.i64.wrap (2 * (i : Int) + 1) = 2 * i + 1 := wrap64 (by omega) (by omega)
  have w3 : IntKind.i64.wrap (2 * (i : Int) + 1 + 1) = 2 * i + 2 := by rw [show 2 * (i : Int) + 1 + 1 = 2 * i + 2 by omega]; exact wrap64 (by omega) (by omega)
  by_cases h : 2 * i + 1 < n
  · have b1 : ((n : Int) ≤ 2 * i + 1) = False := by simp; omega
    have b2 : (2 * (i : Int) + 1 < 0) = False := by simp; omega
    have hf : f ≠ 0 := by omega
    obtain ⟨f, rfl⟩ : ∃ g, f = g + 1 := ⟨f - 1, by omega⟩
    (refine exeC_ok (f := 60) ?_; simp only [B0, B1, B2, Lm0, Lm1, Lm2, Lm3, Lm4, Lm5, Lm6, Lm7, Lm8, Lm9, Lm10, Lm11, Lm12, Lm13, Lm14, Lm15, Lm16, Lm17, Lm18, Lm19, Lm20, Lm21, Lm22, Lm23, Lm24, Lm25, Lm26, Lm27, Lm28, Lm29, Nat.reduceLT, Nat.reduceEqDiff, ↓reduceIte, reduceCtorEq, Nat.reduceAdd, ge_iff_le, gt_iff_lt, forall_const, Nat.reduceBEq, Nat.reduceBNe, Nat.reduceMul, Nat.reduceLeDiff, Nat.reduceSub, Int.reduceToNat, td_3, td_4, w1, w2, b1, b2, QP, HQ])
    have hL : ∀ (a b : Int) (p q : Nat), a = p → b = q → p < m → q < m → GC Try.prog 104 [.im true m ((A.flatMap qc).take (m * 2)), I a, I b] [] (Bo (ltL (A.getD p default) (A.getD q default))) [] := fun a b p q ea eb hp hq => c_less A m a b p q ea eb (by omega) (by omega) a2 hp hq
    have hj1 : i < jOf n A i ∧ jOf n A i < n := by unfold jOf; split <;> omega
    by_cases c : 2 * i + 2 < n
    · have c1 : (2 * (i : Int) + 2 < n) = True := by simp; omega
      (refine exeC_ok (f := 60) ?_; simp only [B0, B1, B2, Lm0, Lm1, Lm2, Lm3, Lm4, Lm5, Lm6, Lm7, Lm8, Lm9, Lm10, Lm11, Lm12, Lm13, Lm14, Lm15, Lm16, Lm17, Lm18, Lm19, Lm20, Lm21, Lm22, Lm23, Lm24, Lm25, Lm26, Lm27, Lm28, Lm29, Nat.reduceLT, Nat.reduceEqDiff, ↓reduceIte, reduceCtorEq, Nat.reduceAdd, ge_iff_le, gt_iff_lt, forall_const, Nat.reduceBEq, Nat.reduceBNe, Nat.reduceMul, Nat.reduceLeDiff, Nat.reduceSub, Int.reduceToNat, td_3, td_4, w1, w2, w3, QP, HQ, c1])
      and_intros; all_goals (try (refine Side.mk ?_; first | first | omega | (intros; omega) | (simp; done) | (simp; omega) | (intro h; simp at h; omega) | (simp_all; done) | rfl | (and_intros <;> first | omega | (intros; omega) | (simp; done) | (simp; omega) | (intro h; simp at h; omega) | (simp_all; done) | rfl)))
      refine Run.ung rfl rfl ?_
      refine Run.callL (f := 104) (ps := [.id 1 m, I (2 * (i : Int) + 2), I (2 * (i : Int) + 1)]) rfl (by kernel_rfl) (by kernel_rfl) (hL (2 * (i : Int) + 2) (2 * (i : Int) + 1) (2 * i + 2) (2 * i + 1) (by omega) (by omega) (by omega) (by omega)) (by first | rfl | (simp only [B0, B1, B2, Lm0, Lm1, Lm2, Lm3, Lm4, Lm5, Lm6, Lm7, Lm8, Lm9, Lm10, Lm11, Lm12, Lm13, Lm14, Lm15, Lm16, Lm17, Lm18, Lm19, Lm20, Lm21, Lm22, Lm23, Lm24, Lm25, Lm26, Lm27, Lm28, Lm29, Nat.reduceLT, Nat.reduceEqDiff, ↓reduceIte, reduceCtorEq, Nat.reduceAdd, ge_iff_le, gt_iff_lt, forall_const, Nat.reduceBEq, Nat.reduceBNe, Nat.reduceMul, Nat.reduceLeDiff, Nat.reduceSub, Int.reduceToNat, BO, tQ, nQ, vQt]; done) | (simp only [B0, B1, B2, Lm0, Lm1, Lm2, Lm3, Lm4, Lm5, Lm6, Lm7, Lm8, Lm9, Lm10, Lm11, Lm12, Lm13, Lm14, Lm15, Lm16, Lm17, Lm18, Lm19, Lm20, Lm21, Lm22, Lm23, Lm24, Lm25, Lm26, Lm27, Lm28, Lm29, Nat.reduceLT, Nat.reduceEqDiff, ↓reduceIte, reduceCtorEq, Nat.reduceAdd, ge_iff_le, gt_iff_lt, forall_const, Nat.reduceBEq, Nat.reduceBNe, Nat.reduceMul, Nat.reduceLeDiff, Nat.reduceSub, Int.reduceToNat, BO, tQ, nQ, vQt]; rfl)) rfl rfl ?_
      (refine Run.on ?_; simp only [B0, B1, B2, Lm0, Lm1, Lm2, Lm3, Lm4, Lm5, Lm6, Lm7, Lm8, Lm9, Lm10, Lm11, Lm12, Lm13, Lm14, Lm15, Lm16, Lm17, Lm18, Lm19, Lm20, Lm21, Lm22, Lm23, Lm24, Lm25, Lm26, Lm27, Lm28, Lm29, Nat.reduceLT, Nat.reduceEqDiff, ↓reduceIte, reduceCtorEq, Nat.reduceAdd, ge_iff_le, gt_iff_lt, forall_const, Nat.reduceBEq, Nat.reduceBNe, Nat.reduceMul, Nat.reduceLeDiff, Nat.reduceSub, Int.reduceToNat, td_3, td_4])
      refine ⟨fun hb => ?_, fun hb => ?_⟩
      · obtain ⟨j, hj, ej⟩ : ∃ j, j = jOf n A i ∧ 2 * (i : Int) + 2 = j := ⟨2 * i + 2, by unfold jOf; rw [if_pos ⟨c, hb⟩], by omega⟩
        (refine exeC_ok (f := 60) ?_; simp only [B0, B1, B2, Lm0, Lm1, Lm2, Lm3, Lm4, Lm5, Lm6, Lm7, Lm8, Lm9, Lm10, Lm11, Lm12, Lm13, Lm14, Lm15, Lm16, Lm17, Lm18, Lm19, Lm20, Lm21, Lm22, Lm23, Lm24, Lm25, Lm26, Lm27, Lm28, Lm29, Nat.reduceLT, Nat.reduceEqDiff, ↓reduceIte, reduceCtorEq, Nat.reduceAdd, ge_iff_le, gt_iff_lt, forall_const, Nat.reduceBEq, Nat.reduceBNe, Nat.reduceMul, Nat.reduceLeDiff, Nat.reduceSub, Int.reduceToNat, td_3, td_4, QP, HQ, ej])
        refine Run.callL (f := 104) (ps := [.id 1 m, I (j : Int), I (i : Int)]) rfl (by kernel_rfl) (by kernel_rfl) (hL _ _ j i rfl rfl (by omega) (by omega)) (by first | rfl | (simp only [B0, B1, B2, Lm0, Lm1, Lm2, Lm3, Lm4, Lm5, Lm6, Lm7, Lm8, Lm9, Lm10, Lm11, Lm12, Lm13, Lm14, Lm15, Lm16, Lm17, Lm18, Lm19, Lm20, Lm21, Lm22, Lm23, Lm24, Lm25, Lm26, Lm27, Lm28, Lm29, Nat.reduceLT, Nat.reduceEqDiff, ↓reduceIte, reduceCtorEq, Nat.reduceAdd, ge_iff_le, gt_iff_lt, forall_const, Nat.reduceBEq, Nat.reduceBNe, Nat.reduceMul, Nat.reduceLeDiff, Nat.reduceSub, Int.reduceToNat, BO, tQ, nQ, vQt]; done) | (simp only [B0, B1, B2, Lm0, Lm1, Lm2, Lm3, Lm4, Lm5, Lm6, Lm7, Lm8, Lm9, Lm10, Lm11, Lm12, Lm13, Lm14, Lm15, Lm16, Lm17, Lm18, Lm19, Lm20, Lm21, Lm22, Lm23, Lm24, Lm25, Lm26, Lm27, Lm28, Lm29, Nat.reduceLT, Nat.reduceEqDiff, ↓reduceIte, reduceCtorEq, Nat.reduceAdd, ge_iff_le, gt_iff_lt, forall_const, Nat.reduceBEq, Nat.reduceBNe, Nat.reduceMul, Nat.reduceLeDiff, Nat.reduceSub, Int.reduceToNat, BO, tQ, nQ, vQt]; rfl)) rfl rfl ?_
        (refine Run.on ?_; simp only [B0, B1, B2, Lm0, Lm1, Lm2, Lm3, Lm4, Lm5, Lm6, Lm7, Lm8, Lm9, Lm10, Lm11, Lm12, Lm13, Lm14, Lm15, Lm16, Lm17, Lm18, Lm19, Lm20, Lm21, Lm22, Lm23, Lm24, Lm25, Lm26, Lm27, Lm28, Lm29, Nat.reduceLT, Nat.reduceEqDiff, ↓reduceIte, reduceCtorEq, Nat.reduceAdd, ge_iff_le, gt_iff_lt, forall_const, Nat.reduceBEq, Nat.reduceBNe, Nat.reduceMul, Nat.reduceLeDiff, Nat.reduceSub, Int.reduceToNat, td_3, td_4])
        refine ⟨fun hk => ?_, fun hk => ?_⟩
        · (refine exeC_ok (f := 60) ?_; simp only [B0, B1, B2, Lm0, Lm1, Lm2, Lm3, Lm4, Lm5, Lm6, Lm7, Lm8, Lm9, Lm10, Lm11, Lm12, Lm13, Lm14, Lm15, Lm16, Lm17, Lm18, Lm19, Lm20, Lm21, Lm22, Lm23, Lm24, Lm25, Lm26, Lm27, Lm28, Lm29, Nat.reduceLT, Nat.reduceEqDiff, ↓reduceIte, reduceCtorEq, Nat.reduceAdd, ge_iff_le, gt_iff_lt, forall_const, Nat.reduceBEq, Nat.reduceBNe, Nat.reduceMul, Nat.reduceLeDiff, Nat.reduceSub, Int.reduceToNat, td_3, td_4, QP, HQ, ej])
          have e : downF n n A0 i0 = (A, i) := by rw [← a5, downF, if_neg (fun k => by rw [← hj, hk] at k; exact absurd k.2 (by simp))]
          rw [e]
          exact RetV.o [0, 1] rfl trivial rfl rfl (.refl _) ⟨LeO.refl _, LeO.ob (zQ _) rfl, trivial⟩
        · (refine exeC_ok (f := 60) ?_; simp only [B0, B1, B2, Lm0, Lm1, Lm2, Lm3, Lm4, Lm5, Lm6, Lm7, Lm8, Lm9, Lm10, Lm11, Lm12, Lm13, Lm14, Lm15, Lm16, Lm17, Lm18, Lm19, Lm20, Lm21, Lm22, Lm23, Lm24, Lm25, Lm26, Lm27, Lm28, Lm29, Nat.reduceLT, Nat.reduceEqDiff, ↓reduceIte, reduceCtorEq, Nat.reduceAdd, ge_iff_le, gt_iff_lt, forall_const, Nat.reduceBEq, Nat.reduceBNe, Nat.reduceMul, Nat.reduceLeDiff, Nat.reduceSub, Int.reduceToNat, td_3, td_4, QP, HQ, ej])
          refine Run.callS (f := 106) (ps := [.id 1 m, I (i : Int), I (j : Int)]) false [1] rfl (by kernel_rfl) (by kernel_rfl) rfl rfl (fun h => by first | (cases h; done) | exact ⟨rfl, rfl⟩) (c_qSwap A m i j (by omega) (by omega) (by omega) (by omega)) (by first | rfl | (simp only [B0, B1, B2, Lm0, Lm1, Lm2, Lm3, Lm4, Lm5, Lm6, Lm7, Lm8, Lm9, Lm10, Lm11, Lm12, Lm13, Lm14, Lm15, Lm16, Lm17, Lm18, Lm19, Lm20, Lm21, Lm22, Lm23, Lm24, Lm25, Lm26, Lm27, Lm28, Lm29, Nat.reduceLT, Nat.reduceEqDiff, ↓reduceIte, reduceCtorEq, Nat.reduceAdd, ge_iff_le, gt_iff_lt, forall_const, Nat.reduceBEq, Nat.reduceBNe, Nat.reduceMul, Nat.reduceLeDiff, Nat.reduceSub, Int.reduceToNat, BO, tQ, nQ, vQt]; done) | (simp only [B0, B1, B2, Lm0, Lm1, Lm2, Lm3, Lm4, Lm5, Lm6, Lm7, Lm8, Lm9, Lm10, Lm11, Lm12, Lm13, Lm14, Lm15, Lm16, Lm17, Lm18, Lm19, Lm20, Lm21, Lm22, Lm23, Lm24, Lm25, Lm26, Lm27, Lm28, Lm29, Nat.reduceLT, Nat.reduceEqDiff, ↓reduceIte, reduceCtorEq, Nat.reduceAdd, ge_iff_le, gt_iff_lt, forall_const, Nat.reduceBEq, Nat.reduceBNe, Nat.reduceMul, Nat.reduceLeDiff, Nat.reduceSub, Int.reduceToNat, BO, tQ, nQ, vQt]; rfl)) (by first | rfl | (simp only [B0, B1, B2, Lm0, Lm1, Lm2, Lm3, Lm4, Lm5, Lm6, Lm7, Lm8, Lm9, Lm10, Lm11, Lm12, Lm13, Lm14, Lm15, Lm16, Lm17, Lm18, Lm19, Lm20, Lm21, Lm22, Lm23, Lm24, Lm25, Lm26, Lm27, Lm28, Lm29, Nat.reduceLT, Nat.reduceEqDiff, ↓reduceIte, reduceCtorEq, Nat.reduceAdd, ge_iff_le, gt_iff_lt, forall_const, Nat.reduceBEq, Nat.reduceBNe, Nat.reduceMul, Nat.reduceLeDiff, Nat.reduceSub, Int.reduceToNat, BO, tQ, nQ, vQt]; done) | (simp only [B0, B1, B2, Lm0, Lm1, Lm2, Lm3, Lm4, Lm5, Lm6, Lm7, Lm8, Lm9, Lm10, Lm11, Lm12, Lm13, Lm14, Lm15, Lm16, Lm17, Lm18, Lm19, Lm20, Lm21, Lm22, Lm23, Lm24, Lm25, Lm26, Lm27, Lm28, Lm29, Nat.reduceLT, Nat.reduceEqDiff, ↓reduceIte, reduceCtorEq, Nat.reduceAdd, ge_iff_le, gt_iff_lt, forall_const, Nat.reduceBEq, Nat.reduceBNe, Nat.reduceMul, Nat.reduceLeDiff, Nat.reduceSub, Int.reduceToNat, BO, tQ, nQ, vQt]; rfl)) (fun h => by cases h) ?_
          (refine Run.on ?_; simp only [B0, B1, B2, Lm0, Lm1, Lm2, Lm3, Lm4, Lm5, Lm6, Lm7, Lm8, Lm9, Lm10, Lm11, Lm12, Lm13, Lm14, Lm15, Lm16, Lm17, Lm18, Lm19, Lm20, Lm21, Lm22, Lm23, Lm24, Lm25, Lm26, Lm27, Lm28, Lm29, Nat.reduceLT, Nat.reduceEqDiff, ↓reduceIte, reduceCtorEq, Nat.reduceAdd, ge_iff_le, gt_iff_lt, forall_const, Nat.reduceBEq, Nat.reduceBNe, Nat.reduceMul, Nat.reduceLeDiff, Nat.reduceSub, Int.reduceToNat, td_3, td_4, BO, tQ, nQ, ej])
          refine ⟨(f, swp A i j, j), Conv.less (by repeat (first | exact trivial | refine ⟨.refl _, ?_⟩)) (LeH.refl _), ⟨by simp [swp_length, a1], a2.swp (by omega) (by omega) (by omega), by simp; omega, by simp; omega, ?_⟩, by simp⟩
          rw [← a5, downF, if_pos ⟨h, by rw [← hj]; exact hk⟩, ← hj]
      · obtain ⟨j, hj, ej⟩ : ∃ j, j = jOf n A i ∧ 2 * (i : Int) + 1 = j := ⟨2 * i + 1, by unfold jOf; rw [if_neg (by rw [hb]; simp)], by omega⟩
        (refine exeC_ok (f := 60) ?_; simp only [B0, B1, B2, Lm0, Lm1, Lm2, Lm3, Lm4, Lm5, Lm6, Lm7, Lm8, Lm9, Lm10, Lm11, Lm12, Lm13, Lm14, Lm15, Lm16, Lm17, Lm18, Lm19, Lm20, Lm21, Lm22, Lm23, Lm24, Lm25, Lm26, Lm27, Lm28, Lm29, Nat.reduceLT, Nat.reduceEqDiff, ↓reduceIte, reduceCtorEq, Nat.reduceAdd, ge_iff_le, gt_iff_lt, forall_const, Nat.reduceBEq, Nat.reduceBNe, Nat.reduceMul, Nat.reduceLeDiff, Nat.reduceSub, Int.reduceToNat, td_3, td_4, QP, HQ, ej])
        refine Run.callL (f := 104) (ps := [.id 1 m, I (j : Int), I (i : Int)]) rfl (by kernel_rfl) (by kernel_rfl) (hL _ _ j i rfl rfl (by omega) (by omega)) (by first | rfl | (simp only [B0, B1, B2, Lm0, Lm1, Lm2, Lm3, Lm4, Lm5, Lm6, Lm7, Lm8, Lm9, Lm10, Lm11, Lm12, Lm13, Lm14, Lm15, Lm16, Lm17, Lm18, Lm19, Lm20, Lm21, Lm22, Lm23, Lm24, Lm25, Lm26, Lm27, Lm28, Lm29, Nat.reduceLT, Nat.reduceEqDiff, ↓reduceIte, reduceCtorEq, Nat.reduceAdd, ge_iff_le, gt_iff_lt, forall_const, Nat.reduceBEq, Nat.reduceBNe, Nat.reduceMul, Nat.reduceLeDiff, Nat.reduceSub, Int.reduceToNat, BO, tQ, nQ, vQt]; done) | (simp only [B0, B1, B2, Lm0, Lm1, Lm2, Lm3, Lm4, Lm5, Lm6, Lm7, Lm8, Lm9, Lm10, Lm11, Lm12, Lm13, Lm14, Lm15, Lm16, Lm17, Lm18, Lm19, Lm20, Lm21, Lm22, Lm23, Lm24, Lm25, Lm26, Lm27, Lm28, Lm29, Nat.reduceLT, Nat.reduceEqDiff, ↓reduceIte, reduceCtorEq, Nat.reduceAdd, ge_iff_le, gt_iff_lt, forall_const, Nat.reduceBEq, Nat.reduceBNe, Nat.reduceMul, Nat.reduceLeDiff, Nat.reduceSub, Int.reduceToNat, BO, tQ, nQ, vQt]; rfl)) rfl rfl ?_
        (refine Run.on ?_; simp only [B0, B1, B2, Lm0, Lm1, Lm2, Lm3, Lm4, Lm5, Lm6, Lm7, Lm8, Lm9, Lm10, Lm11, Lm12, Lm13, Lm14, Lm15, Lm16, Lm17, Lm18, Lm19, Lm20, Lm21, Lm22, Lm23, Lm24, Lm25, Lm26, Lm27, Lm28, Lm29, Nat.reduceLT, Nat.reduceEqDiff, ↓reduceIte, reduceCtorEq, Nat.reduceAdd, ge_iff_le, gt_iff_lt, forall_const, Nat.reduceBEq, Nat.reduceBNe, Nat.reduceMul, Nat.reduceLeDiff, Nat.reduceSub, Int.reduceToNat, td_3, td_4])
        refine ⟨fun hk => ?_, fun hk => ?_⟩
        · (refine exeC_ok (f := 60) ?_; simp only [B0, B1, B2, Lm0, Lm1, Lm2, Lm3, Lm4, Lm5, Lm6, Lm7, Lm8, Lm9, Lm10, Lm11, Lm12, Lm13, Lm14, Lm15, Lm16, Lm17, Lm18, Lm19, Lm20, Lm21, Lm22, Lm23, Lm24, Lm25, Lm26, Lm27, Lm28, Lm29, Nat.reduceLT, Nat.reduceEqDiff, ↓reduceIte, reduceCtorEq, Nat.reduceAdd, ge_iff_le, gt_iff_lt, forall_const, Nat.reduceBEq, Nat.reduceBNe, Nat.reduceMul, Nat.reduceLeDiff, Nat.reduceSub, Int.reduceToNat, td_3, td_4, QP, HQ, ej])
          have e : downF n n A0 i0 = (A, i) := by rw [← a5, downF, if_neg (fun k => by rw [← hj, hk] at k; exact absurd k.2 (by simp))]
          rw [e]
          exact RetV.o [0, 1] rfl trivial rfl rfl (.refl _) ⟨LeO.refl _, LeO.ob (zQ _) rfl, trivial⟩
        · (refine exeC_ok (f := 60) ?_; simp only [B0, B1, B2, Lm0, Lm1, Lm2, Lm3, Lm4, Lm5, Lm6, Lm7, Lm8, Lm9, Lm10, Lm11, Lm12, Lm13, Lm14, Lm15, Lm16, Lm17, Lm18, Lm19, Lm20, Lm21, Lm22, Lm23, Lm24, Lm25, Lm26, Lm27, Lm28, Lm29, Nat.reduceLT, Nat.reduceEqDiff, ↓reduceIte, reduceCtorEq, Nat.reduceAdd, ge_iff_le, gt_iff_lt, forall_const, Nat.reduceBEq, Nat.reduceBNe, Nat.reduceMul, Nat.reduceLeDiff, Nat.reduceSub, Int.reduceToNat, td_3, td_4, QP, HQ, ej])
          refine Run.callS (f := 106) (ps := [.id 1 m, I (i : Int), I (j : Int)]) false [1] rfl (by kernel_rfl) (by kernel_rfl) rfl rfl (fun h => by first | (cases h; done) | exact ⟨rfl, rfl⟩) (c_qSwap A m i j (by omega) (by omega) (by omega) (by omega)) (by first | rfl | (simp only [B0, B1, B2, Lm0, Lm1, Lm2, Lm3, Lm4, Lm5, Lm6, Lm7, Lm8, Lm9, Lm10, Lm11, Lm12, Lm13, Lm14, Lm15, Lm16, Lm17, Lm18, Lm19, Lm20, Lm21, Lm22, Lm23, Lm24, Lm25, Lm26, Lm27, Lm28, Lm29, Nat.reduceLT, Nat.reduceEqDiff, ↓reduceIte, reduceCtorEq, Nat.reduceAdd, ge_iff_le, gt_iff_lt, forall_const, Nat.reduceBEq, Nat.reduceBNe, Nat.reduceMul, Nat.reduceLeDiff, Nat.reduceSub, Int.reduceToNat, BO, tQ, nQ, vQt]; done) | (simp only [B0, B1, B2, Lm0, Lm1, Lm2, Lm3, Lm4, Lm5, Lm6, Lm7, Lm8, Lm9, Lm10, Lm11, Lm12, Lm13, Lm14, Lm15, Lm16, Lm17, Lm18, Lm19, Lm20, Lm21, Lm22, Lm23, Lm24, Lm25, Lm26, Lm27, Lm28, Lm29, Nat.reduceLT, Nat.reduceEqDiff, ↓reduceIte, reduceCtorEq, Nat.reduceAdd, ge_iff_le, gt_iff_lt, forall_const, Nat.reduceBEq, Nat.reduceBNe, Nat.reduceMul, Nat.reduceLeDiff, Nat.reduceSub, Int.reduceToNat, BO, tQ, nQ, vQt]; rfl)) (by first | rfl | (simp only [B0, B1, B2, Lm0, Lm1, Lm2, Lm3, Lm4, Lm5, Lm6, Lm7, Lm8, Lm9, Lm10, Lm11, Lm12, Lm13, Lm14, Lm15, Lm16, Lm17, Lm18, Lm19, Lm20, Lm21, Lm22, Lm23, Lm24, Lm25, Lm26, Lm27, Lm28, Lm29, Nat.reduceLT, Nat.reduceEqDiff, ↓reduceIte, reduceCtorEq, Nat.reduceAdd, ge_iff_le, gt_iff_lt, forall_const, Nat.reduceBEq, Nat.reduceBNe, Nat.reduceMul, Nat.reduceLeDiff, Nat.reduceSub, Int.reduceToNat, BO, tQ, nQ, vQt]; done) | (simp only [B0, B1, B2, Lm0, Lm1, Lm2, Lm3, Lm4, Lm5, Lm6, Lm7, Lm8, Lm9, Lm10, Lm11, Lm12, Lm13, Lm14, Lm15, Lm16, Lm17, Lm18, Lm19, Lm20, Lm21, Lm22, Lm23, Lm24, Lm25, Lm26, Lm27, Lm28, Lm29, Nat.reduceLT, Nat.reduceEqDiff, ↓reduceIte, reduceCtorEq, Nat.reduceAdd, ge_iff_le, gt_iff_lt, forall_const, Nat.reduceBEq, Nat.reduceBNe, Nat.reduceMul, Nat.reduceLeDiff, Nat.reduceSub, Int.reduceToNat, BO, tQ, nQ, vQt]; rfl)) (fun h => by cases h) ?_
          (refine Run.on ?_; simp only [B0, B1, B2, Lm0, Lm1, Lm2, Lm3, Lm4, Lm5, Lm6, Lm7, Lm8, Lm9, Lm10, Lm11, Lm12, Lm13, Lm14, Lm15, Lm16, Lm17, Lm18, Lm19, Lm20, Lm21, Lm22, Lm23, Lm24, Lm25, Lm26, Lm27, Lm28, Lm29, Nat.reduceLT, Nat.reduceEqDiff, ↓reduceIte, reduceCtorEq, Nat.reduceAdd, ge_iff_le, gt_iff_lt, forall_const, Nat.reduceBEq, Nat.reduceBNe, Nat.reduceMul, Nat.reduceLeDiff, Nat.reduceSub, Int.reduceToNat, td_3, td_4, BO, tQ, nQ, ej])
          refine ⟨(f, swp A i j, j), Conv.less (by repeat (first | exact trivial | refine ⟨.refl _, ?_⟩)) (LeH.refl _), ⟨by simp [swp_length, a1], a2.swp (by omega) (by omega) (by omega), by simp; omega, by simp; omega, ?_⟩, by simp⟩
          rw [← a5, downF, if_pos ⟨h, by rw [← hj]; exact hk⟩, ← hj]
    · have c1 : (2 * (i : Int) + 2 < n) = False := by simp; omega
      (refine exeC_ok (f := 60) ?_; simp only [B0, B1, B2, Lm0, Lm1, Lm2, Lm3, Lm4, Lm5, Lm6, Lm7, Lm8, Lm9, Lm10, Lm11, Lm12, Lm13, Lm14, Lm15, Lm16, Lm17, Lm18, Lm19, Lm20, Lm21, Lm22, Lm23, Lm24, Lm25, Lm26, Lm27, Lm28, Lm29, Nat.reduceLT, Nat.reduceEqDiff, ↓reduceIte, reduceCtorEq, Nat.reduceAdd, ge_iff_le, gt_iff_lt, forall_const, Nat.reduceBEq, Nat.reduceBNe, Nat.reduceMul, Nat.reduceLeDiff, Nat.reduceSub, Int.reduceToNat, td_3, td_4, w1, w2, w3, QP, HQ, c1])
      refine Run.skipG (Bo false) rfl rfl ⟨_, rfl, fun b h => by cases h⟩ ?_
      (refine Run.on ?_; simp only [B0, B1, B2, Lm0, Lm1, Lm2, Lm3, Lm4, Lm5, Lm6, Lm7, Lm8, Lm9, Lm10, Lm11, Lm12, Lm13, Lm14, Lm15, Lm16, Lm17, Lm18, Lm19, Lm20, Lm21, Lm22, Lm23, Lm24, Lm25, Lm26, Lm27, Lm28, Lm29, Nat.reduceLT, Nat.reduceEqDiff, ↓reduceIte, reduceCtorEq, Nat.reduceAdd, ge_iff_le, gt_iff_lt, forall_const, Nat.reduceBEq, Nat.reduceBNe, Nat.reduceMul, Nat.reduceLeDiff, Nat.reduceSub, Int.reduceToNat, td_3, td_4])
      and_intros; all_goals (try (refine Side.mk ?_; first | first | omega | (intros; omega) | (simp; done) | (simp; omega) | (intro h; simp at h; omega) | (simp_all; done) | rfl | (and_intros <;> first | omega | (intros; omega) | (simp; done) | (simp; omega) | (intro h; simp at h; omega) | (simp_all; done) | rfl)))
      obtain ⟨j, hj, ej⟩ : ∃ j, j = jOf n A i ∧ 2 * (i : Int) + 1 = j := ⟨2 * i + 1, by unfold jOf; rw [if_neg (by omega)], by omega⟩
      (refine exeC_ok (f := 60) ?_; simp only [B0, B1, B2, Lm0, Lm1, Lm2, Lm3, Lm4, Lm5, Lm6, Lm7, Lm8, Lm9, Lm10, Lm11, Lm12, Lm13, Lm14, Lm15, Lm16, Lm17, Lm18, Lm19, Lm20, Lm21, Lm22, Lm23, Lm24, Lm25, Lm26, Lm27, Lm28, Lm29, Nat.reduceLT, Nat.reduceEqDiff, ↓reduceIte, reduceCtorEq, Nat.reduceAdd, ge_iff_le, gt_iff_lt, forall_const, Nat.reduceBEq, Nat.reduceBNe, Nat.reduceMul, Nat.reduceLeDiff, Nat.reduceSub, Int.reduceToNat, td_3, td_4, QP, HQ, ej])
      refine Run.callL (f := 104) (ps := [.id 1 m, I (j : Int), I (i : Int)]) rfl (by kernel_rfl) (by kernel_rfl) (hL _ _ j i rfl rfl (by omega) (by omega)) (by first | rfl | (simp only [B0, B1, B2, Lm0, Lm1, Lm2, Lm3, Lm4, Lm5, Lm6, Lm7, Lm8, Lm9, Lm10, Lm11, Lm12, Lm13, Lm14, Lm15, Lm16, Lm17, Lm18, Lm19, Lm20, Lm21, Lm22, Lm23, Lm24, Lm25, Lm26, Lm27, Lm28, Lm29, Nat.reduceLT, Nat.reduceEqDiff, ↓reduceIte, reduceCtorEq, Nat.reduceAdd, ge_iff_le, gt_iff_lt, forall_const, Nat.reduceBEq, Nat.reduceBNe, Nat.reduceMul, Nat.reduceLeDiff, Nat.reduceSub, Int.reduceToNat, BO, tQ, nQ, vQt]; done) | (simp only [B0, B1, B2, Lm0, Lm1, Lm2, Lm3, Lm4, Lm5, Lm6, Lm7, Lm8, Lm9, Lm10, Lm11, Lm12, Lm13, Lm14, Lm15, Lm16, Lm17, Lm18, Lm19, Lm20, Lm21, Lm22, Lm23, Lm24, Lm25, Lm26, Lm27, Lm28, Lm29, Nat.reduceLT, Nat.reduceEqDiff, ↓reduceIte, reduceCtorEq, Nat.reduceAdd, ge_iff_le, gt_iff_lt, forall_const, Nat.reduceBEq, Nat.reduceBNe, Nat.reduceMul, Nat.reduceLeDiff, Nat.reduceSub, Int.reduceToNat, BO, tQ, nQ, vQt]; rfl)) rfl rfl ?_
      (refine Run.on ?_; simp only [B0, B1, B2, Lm0, Lm1, Lm2, Lm3, Lm4, Lm5, Lm6, Lm7, Lm8, Lm9, Lm10, Lm11, Lm12, Lm13, Lm14, Lm15, Lm16, Lm17, Lm18, Lm19, Lm20, Lm21, Lm22, Lm23, Lm24, Lm25, Lm26, Lm27, Lm28, Lm29, Nat.reduceLT, Nat.reduceEqDiff, ↓reduceIte, reduceCtorEq, Nat.reduceAdd, ge_iff_le, gt_iff_lt, forall_const, Nat.reduceBEq, Nat.reduceBNe, Nat.reduceMul, Nat.reduceLeDiff, Nat.reduceSub, Int.reduceToNat, td_3, td_4])
      refine ⟨fun hk => ?_, fun hk => ?_⟩
      · (refine exeC_ok (f := 60) ?_; simp only [B0, B1, B2, Lm0, Lm1, Lm2, Lm3, Lm4, Lm5, Lm6, Lm7, Lm8, Lm9, Lm10, Lm11, Lm12, Lm13, Lm14, Lm15, Lm16, Lm17, Lm18, Lm19, Lm20, Lm21, Lm22, Lm23, Lm24, Lm25, Lm26, Lm27, Lm28, Lm29, Nat.reduceLT, Nat.reduceEqDiff, ↓reduceIte, reduceCtorEq, Nat.reduceAdd, ge_iff_le, gt_iff_lt, forall_const, Nat.reduceBEq, Nat.reduceBNe, Nat.reduceMul, Nat.reduceLeDiff, Nat.reduceSub, Int.reduceToNat, td_3, td_4, QP, HQ, ej])
        have e : downF n n A0 i0 = (A, i) := by rw [← a5, downF, if_neg (fun k => by rw [← hj, hk] at k; exact absurd k.2 (by simp))]
        rw [e]
        exact RetV.o [0, 1] rfl trivial rfl rfl (.refl _) ⟨LeO.refl _, LeO.ob (zQ _) rfl, trivial⟩
      · (refine exeC_ok (f := 60) ?_; simp only [B0, B1, B2, Lm0, Lm1, Lm2, Lm3, Lm4, Lm5, Lm6, Lm7, Lm8, Lm9, Lm10, Lm11, Lm12, Lm13, Lm14, Lm15, Lm16, Lm17, Lm18, Lm19, Lm20, Lm21, Lm22, Lm23, Lm24, Lm25, Lm26, Lm27, Lm28, Lm29, Nat.reduceLT, Nat.reduceEqDiff, ↓reduceIte, reduceCtorEq, Nat.reduceAdd, ge_iff_le, gt_iff_lt, forall_const, Nat.reduceBEq, Nat.reduceBNe, Nat.reduceMul, Nat.reduceLeDiff, Nat.reduceSub, Int.reduceToNat, td_3, td_4, QP, HQ, ej])
        refine Run.callS (f := 106) (ps := [.id 1 m, I (i : Int), I (j : Int)]) false [1] rfl (by kernel_rfl) (by kernel_rfl) rfl rfl (fun h => by first | (cases h; done) | exact ⟨rfl, rfl⟩) (c_qSwap A m i j (by omega) (by omega) (by omega) (by omega)) (by first | rfl | (simp only [B0, B1, B2, Lm0, Lm1, Lm2, Lm3, Lm4, Lm5, Lm6, Lm7, Lm8, Lm9, Lm10, Lm11, Lm12, Lm13, Lm14, Lm15, Lm16, Lm17, Lm18, Lm19, Lm20, Lm21, Lm22, Lm23, Lm24, Lm25, Lm26, Lm27, Lm28, Lm29, Nat.reduceLT, Nat.reduceEqDiff, ↓reduceIte, reduceCtorEq, Nat.reduceAdd, ge_iff_le, gt_iff_lt, forall_const, Nat.reduceBEq, Nat.reduceBNe, Nat.reduceMul, Nat.reduceLeDiff, Nat.reduceSub, Int.reduceToNat, BO, tQ, nQ, vQt]; done) | (simp only [B0, B1, B2, Lm0, Lm1, Lm2, Lm3, Lm4, Lm5, Lm6, Lm7, Lm8, Lm9, Lm10, Lm11, Lm12, Lm13, Lm14, Lm15, Lm16, Lm17, Lm18, Lm19, Lm20, Lm21, Lm22, Lm23, Lm24, Lm25, Lm26, Lm27, Lm28, Lm29, Nat.reduceLT, Nat.reduceEqDiff, ↓reduceIte, reduceCtorEq, Nat.reduceAdd, ge_iff_le, gt_iff_lt, forall_const, Nat.reduceBEq, Nat.reduceBNe, Nat.reduceMul, Nat.reduceLeDiff, Nat.reduceSub, Int.reduceToNat, BO, tQ, nQ, vQt]; rfl)) (by first | rfl | (simp only [B0, B1, B2, Lm0, Lm1, Lm2, Lm3, Lm4, Lm5, Lm6, Lm7, Lm8, Lm9, Lm10, Lm11, Lm12, Lm13, Lm14, Lm15, Lm16, Lm17, Lm18, Lm19, Lm20, Lm21, Lm22, Lm23, Lm24, Lm25, Lm26, Lm27, Lm28, Lm29, Nat.reduceLT, Nat.reduceEqDiff, ↓reduceIte, reduceCtorEq, Nat.reduceAdd, ge_iff_le, gt_iff_lt, forall_const, Nat.reduceBEq, Nat.reduceBNe, Nat.reduceMul, Nat.reduceLeDiff, Nat.reduceSub, Int.reduceToNat, BO, tQ, nQ, vQt]; done) | (simp only [B0, B1, B2, Lm0, Lm1, Lm2, Lm3, Lm4, Lm5, Lm6, Lm7, Lm8, Lm9, Lm10, Lm11, Lm12, Lm13, Lm14, Lm15, Lm16, Lm17, Lm18, Lm19, Lm20, Lm21, Lm22, Lm23, Lm24, Lm25, Lm26, Lm27, Lm28, Lm29, Nat.reduceLT, Nat.reduceEqDiff, ↓reduceIte, reduceCtorEq, Nat.reduceAdd, ge_iff_le, gt_iff_lt, forall_const, Nat.reduceBEq, Nat.reduceBNe, Nat.reduceMul, Nat.reduceLeDiff, Nat.reduceSub, Int.reduceToNat, BO, tQ, nQ, vQt]; rfl)) (fun h => by cases h) ?_
        (refine Run.on ?_; simp only [B0, B1, B2, Lm0, Lm1, Lm2, Lm3, Lm4, Lm5, Lm6, Lm7, Lm8, Lm9, Lm10, Lm11, Lm12, Lm13, Lm14, Lm15, Lm16, Lm17, Lm18, Lm19, Lm20, Lm21, Lm22, Lm23, Lm24, Lm25, Lm26, Lm27, Lm28, Lm29, Nat.reduceLT, Nat.reduceEqDiff, ↓reduceIte, reduceCtorEq, Nat.reduceAdd, ge_iff_le, gt_iff_lt, forall_const, Nat.reduceBEq, Nat.reduceBNe, Nat.reduceMul, Nat.reduceLeDiff, Nat.reduceSub, Int.reduceToNat, td_3, td_4, BO, tQ, nQ, ej])
        refine ⟨(f, swp A i j, j), Conv.less (by repeat (first | exact trivial | refine ⟨.refl _, ?_⟩)) (LeH.refl _), ⟨by simp [swp_length, a1], a2.swp (by omega) (by omega) (by omega), by simp; omega, by simp; omega, ?_⟩, by simp⟩
        rw [← a5, downF, if_pos ⟨h, by rw [← hj]; exact hk⟩, ← hj]
  · have b1 : ((n : Int) ≤ 2 * i + 1) = True := by simp; omega
    (refine exeC_ok (f := 60) ?_; simp only [B0, B1, B2, Lm0, Lm1, Lm2, Lm3, Lm4, Lm5, Lm6, Lm7, Lm8, Lm9, Lm10, Lm11, Lm12, Lm13, Lm14, Lm15, Lm16, Lm17, Lm18, Lm19, Lm20, Lm21, Lm22, Lm23, Lm24, Lm25, Lm26, Lm27, Lm28, Lm29, Nat.reduceLT, Nat.reduceEqDiff, ↓reduceIte, reduceCtorEq, Nat.reduceAdd, ge_iff_le, gt_iff_lt, forall_const, Nat.reduceBEq, Nat.reduceBNe, Nat.reduceMul, Nat.reduceLeDiff, Nat.reduceSub, Int.reduceToNat, td_3, td_4, w1, w2, b1, QP, HQ])
    (refine exeC_ok (f := 60) ?_; simp only [B0, B1, B2, Lm0, Lm1, Lm2, Lm3, Lm4, Lm5, Lm6, Lm7, Lm8, Lm9, Lm10, Lm11, Lm12, Lm13, Lm14, Lm15, Lm16, Lm17, Lm18, Lm19, Lm20, Lm21, Lm22, Lm23, Lm24, Lm25, Lm26, Lm27, Lm28, Lm29, Nat.reduceLT, Nat.reduceEqDiff, ↓reduceIte, reduceCtorEq, Nat.reduceAdd, ge_iff_le, gt_iff_lt, forall_const, Nat.reduceBEq, Nat.reduceBNe, Nat.reduceMul, Nat.reduceLeDiff, Nat.reduceSub, Int.reduceToNat, td_3, td_4, w1, w2, b1, QP, HQ])
    and_intros; all_goals (try (refine Side.mk ?_; first | first | omega | (intros; omega) | (simp; done) | (simp; omega) | (intro h; simp at h; omega) | (simp_all; done) | rfl | (and_intros <;> first | omega | (intros; omega) | (simp; done) | (simp; omega) | (intro h; simp at h; omega) | (simp_all; done) | rfl)))
    have e : downF n n A0 i0 = (A, i) := by
      rw [← a5]
      cases f with
      | zero => rfl
      | succ f => rw [downF, if_neg (fun k => h k.1)]
    rw [e]
    exact RetV.o [0, 1] rfl trivial rfl rfl (.refl _) ⟨LeO.refl _, LeO.ob (zQ _) rfl, trivial⟩
end Go.Proofs.Ytbbjmfkmjjinnaa.V
