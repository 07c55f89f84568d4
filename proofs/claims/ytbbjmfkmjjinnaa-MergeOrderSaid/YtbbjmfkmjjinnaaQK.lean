/- The heap's steps as plain lists: what they keep; what a merge gives. No law of the program is proved here. -/
import Derived.Test.YtbbjmfkmjjinnaaQJ
set_option linter.all false
namespace Go.Proofs.Ytbbjmfkmjjinnaa.V
open Go Go.Proofs

theorem getD_get {α : Type} [Inhabited α] {l : List α} {k : Nat} (h : k < l.length) : l.getD k default = l[k] := by simp [List.getD_eq_getElem?_getD, h]
theorem swp_take {α : Type} [Inhabited α] (L : List α) {i j m : Nat} (hi : i < m) (hj : j < m) (hm : m ≤ L.length) : (swp L i j).take m = swp (L.take m) i j := by
  unfold swp
  have e : ∀ k, k < m → (L.take m).getD k default = L.getD k default := fun k hk => by simp [List.getD_eq_getElem?_getD, List.getElem?_take, hk]
  rw [e i hi, e j hj, List.take_set, List.take_set]
theorem swp_perm {α : Type} [Inhabited α] (L : List α) {i j : Nat} (hi : i < L.length) (hj : j < L.length) : (swp L i j).Perm L := by
  unfold swp
  rw [getD_get hi, getD_get hj]
  exact List.set_set_perm hi hj
theorem downF_perm (m : Nat) : ∀ (f n : Nat) (A : List Ln) (i : Nat), n ≤ m → m ≤ A.length → ((downF f n A i).1.take m).Perm (A.take m)
  | 0, _, _, _, _, _ => .refl _
  | f + 1, n, A, i, h1, h2 => by
    rw [downF]
    split
    · rename_i hc
      have hj := jOf_lt (A := A) hc.1
      refine (downF_perm m f n (swp A i (jOf n A i)) (jOf n A i) h1 (by rw [swp_length]; exact h2)).trans ?_
      rw [swp_take A (by omega) (by omega) h2]
      exact swp_perm _ (by simp; omega) (by simp; omega)
    · exact .refl _
theorem downF_drop (m : Nat) : ∀ (f n : Nat) (A : List Ln) (i : Nat), n ≤ m → m ≤ A.length → (downF f n A i).1.drop m = A.drop m
  | 0, _, _, _, _, _ => rfl
  | f + 1, n, A, i, h1, h2 => by
    rw [downF]
    split
    · rename_i hc
      have hj := jOf_lt (A := A) hc.1
      rw [downF_drop m f n _ _ h1 (by rw [swp_length]; exact h2)]
      unfold swp
      rw [List.drop_set_of_lt (by omega), List.drop_set_of_lt (by omega)]
    · rfl
theorem len_td {α : Type} (l : List α) (i : Nat) : (l.take i).length + (l.drop i).length = l.length := by simp; omega
theorem initA_perm (n : Nat) : ∀ (k : Nat) (A : List Ln), n ≤ A.length → ((initA n k A).take n).Perm (A.take n) ∧ (initA n k A).length = A.length
  | 0, _, _ => ⟨.refl _, rfl⟩
  | k + 1, A, h => by
    rw [initA]
    have hl : (downF n n A k).1.length = A.length := by
      have h1 := (downF_perm n n n A k (Nat.le_refl _) h).length_eq
      have h2 := congrArg List.length (downF_drop n n n A k (Nat.le_refl _) h)
      have h3 := len_td ((downF n n A k).1) (n)
      have h4 := len_td (A) (n)
      omega
    obtain ⟨a, b⟩ := initA_perm n k (downF n n A k).1 (by omega)
    exact ⟨a.trans (downF_perm n n n A k (Nat.le_refl _) h), b.trans hl⟩
theorem take_snoc' {α : Type} [Inhabited α] {L : List α} {m : Nat} (h0 : 0 < m) (hm : m ≤ L.length) : L.take m = L.take (m - 1) ++ [L.getD (m - 1) default] := by
  obtain ⟨k, rfl⟩ : ∃ k, m = k + 1 := ⟨m - 1, by omega⟩
  exact take_snoc L k (by omega)
theorem popA_perm (m : Nat) (A : List Ln) (h0 : 0 < m) (hm : m ≤ A.length) : (A.getD 0 default :: (popA m A).take (m - 1)).Perm (A.take m) := by
  have hl : (swp A 0 (m - 1)).length = A.length := swp_length _ _ _
  have h1 := downF_perm (m - 1) (m - 1) (m - 1) (swp A 0 (m - 1)) 0 (Nat.le_refl _) (by omega)
  have h2 : (swp A 0 (m - 1)).take m = (swp A 0 (m - 1)).take (m - 1) ++ [A.getD 0 default] := by
    rw [take_snoc' h0 (by omega)]
    congr 2
    unfold swp
    simp only [List.getD_eq_getElem?_getD, List.getElem?_set]
    simp [show m - 1 < A.length by omega]
  have h3 : ((swp A 0 (m - 1)).take m).Perm (A.take m) := by
    rw [swp_take A h0 (by omega) hm]
    exact swp_perm _ (by simp; omega) (by simp; omega)
  rw [h2] at h3
  refine List.Perm.trans ?_ h3
  refine (List.Perm.cons _ h1).trans ?_
  exact List.perm_append_comm (l₁ := [A.getD 0 default])
theorem popA_length (m : Nat) (A : List Ln) (h0 : 0 < m) (hm : m ≤ A.length) : (popA m A).length = A.length := by
  have h1 := downF_perm (m - 1) (m - 1) (m - 1) (swp A 0 (m - 1)) 0 (Nat.le_refl _) (by rw [swp_length]; omega)
  have h2 := congrArg List.length (downF_drop (m - 1) (m - 1) (m - 1) (swp A 0 (m - 1)) 0 (Nat.le_refl _) (by rw [swp_length]; omega))
  have h3 := h1.length_eq
  have h4 := len_td (popA m A) (m - 1)
  have h5 := len_td (swp A 0 (m - 1)) (m - 1)
  have h6 : (swp A 0 (m - 1)).length = A.length := swp_length _ _ _
  unfold popA at *
  omega

/-! ### the merge -/
def linesF : Nat → List Tr → List Ln
  | _, [] => []
  | i, t :: l => if t.evs = [] then linesF (i + 1) l else ⟨t.evs, i⟩ :: linesF (i + 1) l
def sumE (A : List Ln) : Nat := (A.map fun x => x.evs.length).sum
theorem sumE_perm {A B : List Ln} (h : A.Perm B) : sumE A = sumE B := (h.map _).sum_nat
def mloopF (srt : List Int → List Int) (rows : List (List Int)) : Nat → List Ln → Nat → List Ev → List Ev
  | 0, _, _, out => out
  | f + 1, A, m, out => if m = 0 then out else
    if (A.getD 0 default).evs.length = 1 then mloopF srt rows f (popA m A) (m - 1) (out ++ [movedE srt ((A.getD 0 default).evs.getD 0 default) (rows.getD (A.getD 0 default).no.toNat default)])
    else mloopF srt rows f (downF m m (A.set 0 ⟨(A.getD 0 default).evs.drop 1, (A.getD 0 default).no⟩) 0).1 m (out ++ [movedE srt ((A.getD 0 default).evs.getD 0 default) (rows.getD (A.getD 0 default).no.toNat default)])
def mevs (srt : List Int → List Int) (l : List Tr) : List Ev := mloopF srt (allN [] l).2 (sumE (linesF 0 l)) (initA (linesF 0 l).length ((linesF 0 l).length / 2) (linesF 0 l)) (linesF 0 l).length []
def mergeF (srt : List Int → List Int) (l : List Tr) : Tr × Int :=
  if l.all mayB then if 64 < (allN [] l).1.length then (⟨[], []⟩, 4) else (⟨(allN [] l).1, mevs srt l⟩, 0) else (⟨[], []⟩, 1)

/-- A line is a rest of a trace's events. -/
def OkL (l : List Tr) (x : Ln) : Prop := 0 < x.evs.length ∧ 0 ≤ x.no ∧ x.no < l.length ∧ ∀ e, e ∈ x.evs → e ∈ (l.getD x.no.toNat default).evs
theorem linesF_ok (l : List Tr) : ∀ (l' : List Tr) (i : Nat), l.drop i = l' → ∀ x, x ∈ linesF i l' → OkL l x
  | [], _, _, x, h => by cases h
  | t :: l', i, hd, x, h => by
    have hi : i < l.length := by
      rcases Nat.lt_or_ge i l.length with h | h
      · exact h
      · rw [List.drop_eq_nil_of_le h] at hd; cases hd
    rw [drop_cons l i hi] at hd
    obtain ⟨h1, h2⟩ := List.cons.inj hd
    rw [linesF] at h
    split at h
    · exact linesF_ok l l' (i + 1) h2 x h
    · rename_i hne
      rcases List.mem_cons.1 h with rfl | h
      · refine ⟨List.length_pos_iff.2 hne, by simp, by simpa using hi, fun e he => ?_⟩
        simp only [Int.toNat_natCast]; rw [h1]; exact he
      · exact linesF_ok l l' (i + 1) h2 x h
theorem allN_len : ∀ (out : List ByteArray) (l : List Tr), (allN out l).2.length = l.length
  | _, [] => rfl
  | out, t :: l => by simp [allN, allN_len _ l]
theorem allN_row : ∀ (out : List ByteArray) (l : List Tr) (k : Nat), k < l.length → ((allN out l).2.getD k default).length = (l.getD k default).names.length
  | out, t :: l, 0, _ => (rowN_len out t.names).1
  | out, t :: l, k + 1, h => allN_row _ l k (by simpa using h)
theorem idsGo_mem (props : Int) : ∀ (l : List Int) (p : Option Int), idsGo props p l = true → ∀ i, i ∈ l → 0 ≤ i ∧ i < props
  | [], _, _, _, h => by cases h
  | n :: l, p, hd, i, h => by
    simp only [idsGo, Bool.and_eq_true, decide_eq_true_eq] at hd
    rcases List.mem_cons.1 h with rfl | h
    · exact ⟨hd.1.1.1, hd.1.1.2⟩
    · exact idsGo_mem props l _ hd.2 i h
theorem evTimes_mem (names : Nat) : ∀ (l : List Ev) (p : Option Int), evTimes names p l = true → ∀ e, e ∈ l → idsOk e.ids names = true
  | [], _, _, _, h => by cases h
  | x :: l, p, hd, e, h => by
    simp only [evTimes, Bool.and_eq_true] at hd
    rcases List.mem_cons.1 h with rfl | h
    · exact hd.1.1
    · exact evTimes_mem names l _ hd.2 e h
theorem mayB_ids {t : Tr} (h : mayB t = true) {e : Ev} (he : e ∈ t.evs) : ∀ i, i ∈ e.ids → 0 ≤ i ∧ i < t.names.length := by
  simp only [mayB, Bool.and_eq_true] at h
  exact idsGo_mem _ _ _ (evTimes_mem _ _ _ h.2 e he)
end Go.Proofs.Ytbbjmfkmjjinnaa.V
