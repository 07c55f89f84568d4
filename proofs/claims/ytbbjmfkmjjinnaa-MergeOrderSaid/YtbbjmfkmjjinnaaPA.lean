/- The merge, line by line: the heap gives the first line of least time. No law of the program is proved here. -/
import Derived.Test.YtbbjmfkmjjinnaaQK
set_option linter.all false
namespace Go.Proofs.Ytbbjmfkmjjinnaa.V
open Go Go.Proofs

/-! ### the heap's order -/
def leL (a b : Ln) : Prop := tm a < tm b ∨ (tm a = tm b ∧ a.no ≤ b.no)
theorem leL_of_lt {a b : Ln} (h : ltL a b = true) : leL a b := by
  unfold ltL at h; unfold leL
  split at h <;> simp at h <;> omega
theorem leL_of_not {a b : Ln} (h : ¬ ltL a b = true) : leL b a := by
  unfold ltL at h; unfold leL
  split at h <;> simp at h <;> omega
theorem leL.refl (a : Ln) : leL a a := .inr ⟨rfl, Int.le_refl _⟩
theorem leL.trans {a b c : Ln} (h : leL a b) (k : leL b c) : leL a c := by unfold leL at *; omega
def HP (n k : Nat) (A : List Ln) : Prop := ∀ p c, k ≤ p → (c = 2 * p + 1 ∨ c = 2 * p + 2) → c < n → leL (A.getD p default) (A.getD c default)
def HK (n k x : Nat) (A : List Ln) : Prop := (∀ p c, k ≤ p → p ≠ x → (c = 2 * p + 1 ∨ c = 2 * p + 2) → c < n → leL (A.getD p default) (A.getD c default)) ∧
  ∀ p c, k ≤ p → (x = 2 * p + 1 ∨ x = 2 * p + 2) → (c = 2 * x + 1 ∨ c = 2 * x + 2) → c < n → leL (A.getD p default) (A.getD c default)
theorem swp_get {α : Type} [Inhabited α] (L : List α) {i j : Nat} (hi : i < L.length) (hj : j < L.length) (k : Nat) : (swp L i j).getD k default = if k = j then L.getD i default else if k = i then L.getD j default else L.getD k default := by
  unfold swp
  simp only [List.getD_eq_getElem?_getD, List.getElem?_set, List.length_set]
  by_cases h1 : k = j
  · subst h1; simp [hj]
  · by_cases h2 : k = i
    · subst h2; simp [h1, hi, Ne.symm h1]
    · simp [h1, h2, Ne.symm h1, Ne.symm h2]
theorem downF_heap : ∀ (f n : Nat) (A : List Ln) (i k : Nat), n ≤ A.length → n ≤ i + f → k ≤ i → HK n k i A → HP n k (downF f n A i).1
  | 0, n, A, i, k, h1, h2, h3, h => by
    intro p c hp hc hn
    exact h.1 p c hp (by omega) hc hn
  | f + 1, n, A, i, k, h1, h2, h3, h => by
    rw [downF]
    split
    · rename_i hc
      obtain ⟨j1, j2⟩ := jOf_lt (A := A) hc.1
      obtain ⟨j, hj⟩ : ∃ j, jOf n A i = j := ⟨_, rfl⟩
      have hlt := leL_of_lt hc.2
      have hch : j = 2 * i + 1 ∨ j = 2 * i + 2 := by rw [← hj]; unfold jOf; split <;> simp
      have hoth : ∀ c, (c = 2 * i + 1 ∨ c = 2 * i + 2) → c < n → leL (A.getD j default) (A.getD c default) := by
        intro c hc' hn
        rw [← hj]; unfold jOf
        split
        · rename_i hh
          rcases hc' with rfl | rfl
          · exact leL_of_lt hh.2
          · exact leL.refl _
        · rename_i hh
          rcases hc' with rfl | rfl
          · exact leL.refl _
          · exact leL_of_not fun e => hh ⟨hn, e⟩
      rw [hj] at j1 j2 hlt ⊢
      have hg := fun q => swp_get A (i := i) (j := j) (by omega) (by omega) q
      refine downF_heap f n (swp A i j) j k (by rw [swp_length]; exact h1) (by omega) (by omega) ⟨?_, ?_⟩
      · intro p c hp hpj hcc hcn
        rw [hg, hg, if_neg hpj]
        by_cases hpi : p = i
        · subst hpi
          rw [if_pos rfl]
          by_cases hcj : c = j
          · rw [if_pos hcj]; exact hlt
          · rw [if_neg hcj, if_neg (by omega)]; exact hoth c hcc hcn
        · rw [if_neg hpi, if_neg (by omega)]
          by_cases hci : c = i
          · rw [if_pos hci]; subst hci
            exact h.2 p j hp hcc hch j2
          · rw [if_neg hci]; exact h.1 p c hp hpi hcc hcn
      · intro p c hp hpj hcc hcn
        have hpi : p = i := by omega
        subst hpi
        rw [hg, hg, if_neg (by omega), if_pos rfl, if_neg (by omega), if_neg (by omega)]
        exact h.1 j c (by omega) (by omega) hcc hcn
    · rename_i hc
      intro p c hp hcc hcn
      by_cases hpi : p = i
      · subst hpi
        have h5 : ¬ ltL (A.getD (jOf n A p) default) (A.getD p default) = true := fun e => hc ⟨by omega, e⟩
        have h6 := leL_of_not h5
        refine h6.trans ?_
        unfold jOf
        split
        · rename_i hh
          rcases hcc with rfl | rfl
          · exact leL_of_lt hh.2
          · exact leL.refl _
        · rename_i hh
          rcases hcc with rfl | rfl
          · exact leL.refl _
          · exact leL_of_not fun e => hh ⟨hcn, e⟩
      · exact h.1 p c hp hpi hcc hcn
theorem initA_heap (n : Nat) : ∀ (k : Nat) (A : List Ln), n ≤ A.length → HP n k A → HP n 0 (initA n k A)
  | 0, _, _, h => h
  | k + 1, A, hn, h => by
    have h1 := congrArg List.length (downF_drop n n n A k (Nat.le_refl _) hn)
    have h2 := (downF_perm n n n A k (Nat.le_refl _) hn).length_eq
    simp only [List.length_drop, List.length_take] at h1 h2
    rw [initA]
    refine initA_heap n k _ (by omega) (downF_heap n n A k k hn (by omega) (Nat.le_refl _) ⟨?_, ?_⟩)
    · intro p c hp hpk hc hcn; exact h p c (by omega) hc hcn
    · intro p c hp hpk hc hcn; omega
theorem initA_heap' (A : List Ln) : HP A.length 0 (initA A.length (A.length / 2) A) := initA_heap _ _ A (Nat.le_refl _) (by intro p c hp hc hn; omega)
theorem popA_heap (m : Nat) (A : List Ln) (h0 : 0 < m) (hm : m ≤ A.length) (h : HP m 0 A) : HP (m - 1) 0 (popA m A) := by
  refine downF_heap (m - 1) (m - 1) _ 0 0 (by rw [swp_length]; omega) (by omega) (Nat.le_refl _) ⟨?_, ?_⟩
  · intro p c hp hpk hc hcn
    rw [swp_get _ (by omega) (by omega), swp_get _ (by omega) (by omega), if_neg (by omega), if_neg hpk, if_neg (by omega), if_neg (by omega)]
    exact h p c hp hc (by omega)
  · intro p c hp hpk hc hcn; omega
theorem fixA_heap (m : Nat) (A : List Ln) (x : Ln) (hm : m ≤ A.length) (h : HP m 0 A) : HP m 0 (downF m m (A.set 0 x) 0).1 := by
  refine downF_heap m m _ 0 0 (by simp; omega) (by omega) (Nat.le_refl _) ⟨?_, ?_⟩
  · intro p c hp hpk hc hcn
    have := h p c hp hc hcn
    simp only [List.getD_eq_getElem?_getD, List.getElem?_set] at this ⊢
    rw [if_neg (Ne.symm hpk), if_neg (by omega)]
    exact this
  · intro p c hp hpk hc hcn; omega
theorem HP.root {m : Nat} {A : List Ln} (h : HP m 0 A) : ∀ i, i < m → leL (A.getD 0 default) (A.getD i default) := by
  intro i
  induction i using Nat.strongRecOn with
  | _ i ih =>
    intro hi
    rcases Nat.eq_zero_or_pos i with rfl | h0
    · exact leL.refl _
    · exact (ih ((i - 1) / 2) (by omega) (by omega)).trans (h ((i - 1) / 2) i (Nat.zero_le _) (by omega) hi)

/-! ### the first line of least time -/
def bestL : Nat → List Tr → Option Ln
  | _, [] => none
  | i, t :: l => if t.evs = [] then bestL (i + 1) l else
    match bestL (i + 1) l with
    | none => some ⟨t.evs, i⟩
    | some y => if tm ⟨t.evs, i⟩ ≤ tm y then some ⟨t.evs, i⟩ else some y
def advT : Nat → Int → List Tr → List Tr
  | _, _, [] => []
  | i, n, t :: l => if n = i then ⟨t.names, t.evs.drop 1⟩ :: l else t :: advT (i + 1) n l
def kw : Nat → List Tr → List (Int × Ev)
  | 0, _ => []
  | f + 1, l => match bestL 0 l with
    | none => []
    | some x => (x.no, x.evs.getD 0 default) :: kw f (advT 0 x.no l)
theorem linesF_no : ∀ (l : List Tr) (i : Nat) (x : Ln), x ∈ linesF i l → (i : Int) ≤ x.no ∧ 0 < x.evs.length
  | [], _, _, h => by cases h
  | t :: l, i, x, h => by
    rw [linesF] at h
    split at h
    · have := linesF_no l (i + 1) x h; omega
    · rename_i hne
      rcases List.mem_cons.1 h with rfl | h
      · exact ⟨Int.le_refl _, List.length_pos_iff.2 hne⟩
      · have := linesF_no l (i + 1) x h; omega
theorem linesF_inj : ∀ (l : List Tr) (i : Nat) (x y : Ln), x ∈ linesF i l → y ∈ linesF i l → x.no = y.no → x = y
  | [], _, _, _, h, _, _ => by cases h
  | t :: l, i, x, y, h, k, e => by
    rw [linesF] at h k
    split at h
    · rename_i hne
      rw [if_pos hne] at k
      exact linesF_inj l (i + 1) x y h k e
    · rename_i hne
      rw [if_neg hne] at k
      rcases List.mem_cons.1 h with rfl | h <;> rcases List.mem_cons.1 k with rfl | k
      · rfl
      · have := (linesF_no l (i + 1) y k).1; simp only at e; omega
      · have := (linesF_no l (i + 1) x h).1; simp only at e; omega
      · exact linesF_inj l (i + 1) x y h k e
theorem bestL_none : ∀ (l : List Tr) (i : Nat), bestL i l = none ↔ linesF i l = []
  | [], _ => by simp [bestL, linesF]
  | t :: l, i => by
    rw [bestL, linesF]
    split
    · exact bestL_none l (i + 1)
    · cases bestL (i + 1) l with
      | none => simp
      | some y => simp only; split <;> simp
theorem bestL_some : ∀ (l : List Tr) (i : Nat) (x : Ln), bestL i l = some x → x ∈ linesF i l ∧ ∀ y, y ∈ linesF i l → leL x y
  | [], _, _, h => by cases h
  | t :: l, i, x, h => by
    rw [bestL] at h; rw [linesF]
    split at h
    · rename_i hne; rw [if_pos hne]; exact bestL_some l (i + 1) x h
    · rename_i hne
      rw [if_neg hne]
      cases hb : bestL (i + 1) l with
      | none =>
        rw [hb] at h
        rw [(bestL_none l (i + 1)).1 hb]
        simp only [Option.some.injEq] at h; subst h
        exact ⟨List.mem_cons_self, fun y hy => by rw [List.mem_singleton] at hy; subst hy; exact leL.refl _⟩
      | some y =>
        rw [hb] at h
        obtain ⟨b1, b2⟩ := bestL_some l (i + 1) y hb
        have b3 := (linesF_no l (i + 1) y b1).1
        simp only at h
        split at h
        · rename_i hle
          simp only [Option.some.injEq] at h; subst h
          have h0 : leL ⟨t.evs, i⟩ y := by unfold leL; simp only; omega
          refine ⟨List.mem_cons_self, fun z hz => ?_⟩
          rcases List.mem_cons.1 hz with rfl | hz
          · exact leL.refl _
          · exact h0.trans (b2 z hz)
        · rename_i hle
          simp only [Option.some.injEq] at h; subst h
          refine ⟨List.mem_cons_of_mem _ b1, fun z hz => ?_⟩
          rcases List.mem_cons.1 hz with rfl | hz
          · exact .inl (by omega)
          · exact b2 z hz
theorem advT_perm : ∀ (l : List Tr) (i : Nat) (x : Ln), x ∈ linesF i l → ∃ R, (linesF i l).Perm (x :: R) ∧ (linesF i (advT i x.no l)).Perm (if x.evs.length = 1 then R else ⟨x.evs.drop 1, x.no⟩ :: R)
  | [], _, _, h => by cases h
  | t :: l, i, x, h => by
    rw [linesF] at h ⊢
    split at h
    · rename_i hne
      rw [if_pos hne]
      have hi := (linesF_no l (i + 1) x h).1
      obtain ⟨R, h1, h2⟩ := advT_perm l (i + 1) x h
      rw [advT, if_neg (by omega), linesF, if_pos hne]
      exact ⟨R, h1, h2⟩
    · rename_i hne
      rw [if_neg hne]
      rcases List.mem_cons.1 h with rfl | h
      · refine ⟨linesF (i + 1) l, .refl _, ?_⟩
        rw [advT, if_pos rfl, linesF]
        have hp := List.length_pos_iff.2 hne
        simp only
        by_cases h1 : t.evs.length = 1
        · rw [if_pos h1, if_pos (List.drop_eq_nil_of_le (by omega))]
        · rw [if_neg h1, if_neg (fun e => by rw [List.drop_eq_nil_iff] at e; omega)]
      · have hi := (linesF_no l (i + 1) x h).1
        obtain ⟨R, h1, h2⟩ := advT_perm l (i + 1) x h
        refine ⟨⟨t.evs, i⟩ :: R, (h1.cons _).trans (.swap _ _ _), ?_⟩
        rw [advT, if_neg (by omega), linesF, if_neg hne]
        refine (h2.cons _).trans ?_
        split
        · exact .refl _
        · exact .swap _ _ _
theorem mloopF_kw (srt : List Int → List Int) (rows : List (List Int)) : ∀ (f : Nat) (A : List Ln) (m : Nat) (out : List Ev) (l : List Tr), m ≤ A.length → HP m 0 A → (A.take m).Perm (linesF 0 l) →
    mloopF srt rows f A m out = out ++ (kw f l).map (fun p => movedE srt p.2 (rows.getD p.1.toNat default))
  | 0, _, _, out, _, _, _, _ => by simp [mloopF, kw]
  | f + 1, A, m, out, l, hm, hp, hpm => by
    rw [mloopF, kw]
    by_cases h0 : m = 0
    · subst h0
      rw [if_pos rfl, (bestL_none l 0).2 (List.Perm.eq_nil (hpm.symm.trans (by simp)))]
      simp
    · rw [if_neg h0]
      cases hb : bestL 0 l with
      | none =>
        rw [(bestL_none l 0).1 hb] at hpm
        have := hpm.length_eq
        rw [List.length_take, List.length_nil] at this; omega
      | some x =>
        obtain ⟨b1, b2⟩ := bestL_some l 0 x hb
        have hA0 : A.getD 0 default ∈ A.take m := by rw [getD_get (by omega : 0 < A.length)]; exact List.mem_take_iff_getElem.2 ⟨0, by omega, rfl⟩
        have hA1 := hpm.subset hA0
        have h1 := b2 _ hA1
        have h2 : leL (A.getD 0 default) x := by
          obtain ⟨i, hi, hx⟩ := List.mem_take_iff_getElem.1 (hpm.symm.subset b1)
          have := hp.root i (by omega)
          rw [getD_get (by omega : i < A.length), hx] at this
          exact this
        have hx : A.getD 0 default = x := linesF_inj l 0 _ _ hA1 b1 (by unfold leL at h1 h2; omega)
        obtain ⟨R, r1, r2⟩ := advT_perm l 0 x b1
        rw [hx]
        have htk : A.take m = x :: (A.take m).drop 1 := by
          rw [← hx]
          cases A with
          | nil => simp at hm; omega
          | cons y A => obtain ⟨q, rfl⟩ : ∃ q, m = q + 1 := ⟨m - 1, by omega⟩; rfl
        by_cases hl : x.evs.length = 1
        · rw [if_pos hl]
          rw [if_pos hl] at r2
          rw [mloopF_kw srt rows f (popA m A) (m - 1) _ (advT 0 x.no l) (by rw [popA_length m A (by omega) hm]; omega) (popA_heap m A (by omega) hm hp) ?_]
          · simp
          · have h5 := ((popA_perm m A (by omega) hm).trans hpm).trans r1
            rw [hx] at h5
            exact (List.Perm.cons_inv h5).trans r2.symm
        · rw [if_neg hl]
          rw [if_neg hl] at r2
          rw [mloopF_kw srt rows f _ m _ (advT 0 x.no l) ?_ (fixA_heap m A _ hm hp) ?_]
          · simp
          · have h3 := congrArg List.length (downF_drop m m m (A.set 0 ⟨x.evs.drop 1, x.no⟩) 0 (Nat.le_refl _) (by simp; omega))
            have h4 := (downF_perm m m m (A.set 0 ⟨x.evs.drop 1, x.no⟩) 0 (Nat.le_refl _) (by simp; omega)).length_eq
            simp only [List.length_drop, List.length_take, List.length_set] at h3 h4
            omega
          · have hset : (A.set 0 ⟨x.evs.drop 1, x.no⟩).take m = ⟨x.evs.drop 1, x.no⟩ :: (A.take m).drop 1 := by
              cases A with
              | nil => simp at hm; omega
              | cons y A => obtain ⟨q, rfl⟩ : ∃ q, m = q + 1 := ⟨m - 1, by omega⟩; rfl
            refine (downF_perm m m m _ 0 (Nat.le_refl _) (by simp; omega)).trans ?_
            rw [hset]
            refine List.Perm.trans (List.Perm.cons _ ?_) r2.symm
            rw [htk] at hpm
            exact List.Perm.cons_inv (hpm.trans r1)
end Go.Proofs.Ytbbjmfkmjjinnaa.V
