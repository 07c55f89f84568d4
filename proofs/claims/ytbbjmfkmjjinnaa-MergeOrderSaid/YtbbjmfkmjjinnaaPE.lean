/- Texts in order; what holds by its names; the first trace of the least time. No law of the program is proved here. -/
import Derived.Test.YtbbjmfkmjjinnaaPD
set_option linter.all false
namespace Go.Proofs.Ytbbjmfkmjjinnaa.V
open Go Go.Proofs

/-! ### texts in order -/
theorem bl_asym : ∀ (a b : List UInt8), Op.bytesLess a b = true → Op.bytesLess b a = false
  | [], [], h => by simp [Op.bytesLess] at h
  | _ :: _, [], h => by simp [Op.bytesLess] at h
  | [], _ :: _, _ => by simp [Op.bytesLess]
  | a :: x, b :: y, h => by
    simp only [Op.bytesLess, Bool.or_eq_true, Bool.and_eq_true, decide_eq_true_eq, beq_iff_eq] at h
    simp only [Op.bytesLess, Bool.or_eq_false_iff, Bool.and_eq_false_iff, decide_eq_false_iff_not, beq_eq_false_iff_ne]
    rcases h with h | ⟨rfl, h⟩
    · exact ⟨by rw [UInt8.lt_iff_toNat_lt] at h ⊢; omega, .inl fun e => by subst e; rw [UInt8.lt_iff_toNat_lt] at h; omega⟩
    · exact ⟨by rw [UInt8.lt_iff_toNat_lt]; omega, .inr (bl_asym x y h)⟩
theorem bl_anti : ∀ (a b : List UInt8), Op.bytesLess a b = false → Op.bytesLess b a = false → a = b
  | [], [], _, _ => rfl
  | _ :: _, [], _, h => by simp [Op.bytesLess] at h
  | [], _ :: _, h, _ => by simp [Op.bytesLess] at h
  | a :: x, b :: y, h, k => by
    simp only [Op.bytesLess, Bool.or_eq_false_iff, Bool.and_eq_false_iff, decide_eq_false_iff_not, beq_eq_false_iff_ne, UInt8.lt_iff_toNat_lt] at h k
    have e : a = b := UInt8.toNat_inj.1 (by omega)
    subst e
    rw [bl_anti x y (by rcases h.2 with h | h; exact absurd rfl h; exact h) (by rcases k.2 with k | k; exact absurd rfl k; exact k)]
theorem bl_trans : ∀ (a b c : List UInt8), Op.bytesLess b a = false → Op.bytesLess c b = false → Op.bytesLess c a = false
  | a, b, [], h, k => by
    cases b with
    | nil => exact h
    | cons _ _ => simp [Op.bytesLess] at k
  | [], _, _ :: _, _, _ => by simp [Op.bytesLess]
  | _ :: _, [], _ :: _, h, _ => by simp [Op.bytesLess] at h
  | a :: x, b :: y, c :: z, h, k => by
    simp only [Op.bytesLess, Bool.or_eq_false_iff, Bool.and_eq_false_iff, decide_eq_false_iff_not, beq_eq_false_iff_ne, UInt8.lt_iff_toNat_lt] at h k ⊢
    refine ⟨by omega, ?_⟩
    by_cases e : c = a
    · subst e
      have : b = c := UInt8.toNat_inj.1 (by omega)
      subst this
      exact .inr (bl_trans x y z (by rcases h.2 with h | h; exact absurd rfl h; exact h) (by rcases k.2 with k | k; exact absurd rfl k; exact k))
    · exact .inl e
theorem ltS_ok : LtOk ltS := ⟨fun a b c h k => bl_trans _ _ _ h k, fun a b h => bl_asym _ _ h, fun a b h k => eq_of_toList (bl_anti _ _ h k)⟩
def sortS (l : List ByteArray) : List ByteArray := insSort ltS l 0 l.length
/-- What holds by its names is the same, whatever their numbers. -/
theorem hold_same {N ns : List ByteArray} {row ids : List Int} (hN : N.Nodup) (hns : ns.Nodup) (hr : RowOk N ns row) (hi : idsOk ids ns.length = true) : sortS (holdN N (refIds N ns ids)) = sortS (holdN ns ids) := by
  rw [← srt12_ref hN hns hr hi]
  obtain ⟨s1, s2⟩ := idsGo_sorted _ _ _ hi
  refine insSort_perm ltS_ok ?_
  have h1 := (insSort_ok ltI_ok (ids.map fun i => row.getD i.toNat default)).1
  have h2 : (holdN N (srt12 (ids.map fun i => row.getD i.toNat default))).Perm (holdN N (ids.map fun i => row.getD i.toNat default)) := h1.map _
  refine h2.trans ?_
  have h3 : holdN N (ids.map fun i => row.getD i.toNat default) = holdN ns ids := by
    unfold holdN
    rw [List.map_map]
    refine List.map_congr_left fun i hi => ?_
    have := s2 i hi
    obtain ⟨k, k1, k2, k3⟩ := hr.2 i.toNat (by omega)
    simp only [Function.comp]
    rw [k1, Int.toNat_natCast, k3]
  rw [h3]

/-! ### the first trace that has an event of the least time -/
theorem best_first {l : List Tr} {x : Ln} (h : bestL 0 l = some x) {k : Nat} (hk : (k : Int) < x.no) (hl : k < l.length) : (l.getD k default).evs = [] ∨ tm ⟨(l.getD k default).evs, k⟩ ≠ tm x := by
  obtain ⟨b1, b2⟩ := bestL_some l 0 x h
  by_cases hne : (l.getD k default).evs = []
  · exact .inl hne
  · right
    have hin : ∀ (l : List Tr) (i j : Nat), j < l.length → (l.getD j default).evs ≠ [] → (⟨(l.getD j default).evs, ((i + j : Nat) : Int)⟩ : Ln) ∈ linesF i l := by
      intro l
      induction l with
      | nil => intro i j hj; simp at hj
      | cons t l ih =>
        intro i j hj hne
        rw [linesF]
        cases j with
        | zero => rw [if_neg (show ¬ t.evs = [] from hne)]; exact List.mem_cons_self
        | succ j =>
          have := ih (i + 1) j (by simpa using hj) hne
          rw [show i + 1 + j = i + (j + 1) by omega] at this
          split
          · exact this
          · exact List.mem_cons_of_mem _ this
    have := b2 _ (hin l 0 k hl hne)
    unfold leL at this
    simp only [Nat.zero_add] at this
    omega
end Go.Proofs.Ytbbjmfkmjjinnaa.V
