/- Sorting by insertion sorts; names and their numbers; an event by its names. No law of the program is proved here. -/
import Derived.Test.YtbbjmfkmjjinnaaPA
import Derived.Test.YtbbjmfkmjjinnaaQM
set_option linter.all false
namespace Go.Proofs.Ytbbjmfkmjjinnaa.V
open Go Go.Proofs

/-! ### sorting by insertion sorts -/
structure LtOk {α : Type} (lt : α → α → Bool) : Prop where
  trans : ∀ a b c, lt b a = false → lt c b = false → lt c a = false
  asym : ∀ a b, lt a b = true → lt b a = false
  anti : ∀ a b, lt a b = false → lt b a = false → a = b
theorem swp_get2 {α : Type} [Inhabited α] (L : List α) {j : Nat} (hj : j + 1 < L.length) (k : Nat) : (swp L (j + 1) j).getD k default = if k = j then L.getD (j + 1) default else if k = j + 1 then L.getD j default else L.getD k default := swp_get L hj (by omega) k
theorem sink_ok {α : Type} [Inhabited α] {lt : α → α → Bool} (ho : LtOk lt) (i : Nat) : ∀ (j : Nat) (L : List α), j ≤ i → i < L.length → (∀ p q, p < q → q ≤ i → q ≠ j → lt (L.getD q default) (L.getD p default) = false) → ∀ p q, p < q → q ≤ i → lt ((sink lt 0 j L).getD q default) ((sink lt 0 j L).getD p default) = false
  | 0, L, _, _, h, p, q, hp, hq => h p q hp hq (by omega)
  | j + 1, L, hj, hi, h, p, q, hp, hq => by
    rw [sink]
    split
    · rename_i hc
      refine sink_ok ho i j _ (by omega) (by rw [swp_length]; exact hi) ?_ p q hp hq
      intro p q hp hq hqj
      rw [swp_get2 L (by omega), swp_get2 L (by omega), if_neg hqj]
      by_cases h1 : q = j + 1
      · rw [if_pos h1]
        by_cases h2 : p = j
        · rw [if_pos h2]; exact ho.asym _ _ hc.2
        · rw [if_neg h2, if_neg (by omega)]; exact h p j (by omega) (by omega) (by omega)
      · rw [if_neg h1]
        by_cases h2 : p = j
        · rw [if_pos h2]; exact h (j + 1) q (by omega) hq (by omega)
        · rw [if_neg h2]
          by_cases h3 : p = j + 1
          · rw [if_pos h3]; exact h j q (by omega) hq h1
          · rw [if_neg h3]; exact h p q hp hq h1
    · rename_i hc
      have h0 : lt (L.getD (j + 1) default) (L.getD j default) = false := by
        cases e : lt (L.getD (j + 1) default) (L.getD j default) with
        | false => rfl
        | true => exact absurd ⟨by omega, e⟩ hc
      by_cases h1 : q = j + 1
      · subst h1
        by_cases h2 : p = j
        · subst h2; exact h0
        · exact ho.trans _ _ _ (h p j (by omega) (by omega) (by omega)) h0
      · exact h p q hp hq h1
theorem sink_perm {α : Type} [Inhabited α] (lt : α → α → Bool) : ∀ (j : Nat) (L : List α), j < L.length → (sink lt 0 j L).Perm L
  | 0, L, _ => .refl _
  | j + 1, L, h => by
    rw [sink]
    split
    · exact (sink_perm lt j _ (by rw [swp_length]; omega)).trans (swp_perm L h (by omega))
    · exact .refl _
theorem insAll_ok {α : Type} [Inhabited α] {lt : α → α → Bool} (ho : LtOk lt) : ∀ (c i : Nat) (L : List α), i + c ≤ L.length → (∀ p q, p < q → q < i → lt (L.getD q default) (L.getD p default) = false) → (insAll lt 0 c i L).Perm L ∧ ∀ p q, p < q → q < i + c → lt ((insAll lt 0 c i L).getD q default) ((insAll lt 0 c i L).getD p default) = false
  | 0, i, L, _, h => ⟨.refl _, h⟩
  | c + 1, i, L, hl, h => by
    rw [insAll]
    have h1 := sink_ok ho i i L (Nat.le_refl _) (by omega) (fun p q hp hq hqi => h p q hp (by omega))
    obtain ⟨a, b⟩ := insAll_ok ho c (i + 1) (sink lt 0 i L) (by rw [sink_length]; omega) (fun p q hp hq => h1 p q hp (by omega))
    exact ⟨a.trans (sink_perm lt i L (by omega)), fun p q hp hq => b p q hp (by omega)⟩
theorem insSort_ok {α : Type} [Inhabited α] {lt : α → α → Bool} (ho : LtOk lt) (L : List α) : (insSort lt L 0 L.length).Perm L ∧ (insSort lt L 0 L.length).Pairwise (fun a b => lt b a = false) := by
  unfold insSort
  rcases Nat.eq_zero_or_pos L.length with h0 | h0
  · have : L = [] := List.eq_nil_of_length_eq_zero h0
    subst this
    exact ⟨.refl _, .nil⟩
  · obtain ⟨a, b⟩ := insAll_ok ho (L.length - (0 + 1)) (0 + 1) L (by omega) (fun p q hp hq => by omega)
    refine ⟨a, ?_⟩
    rw [List.pairwise_iff_getElem]
    intro p q hp hq hpq
    have hl := a.length_eq
    have := b p q hpq (by omega)
    rwa [getD_get hp, getD_get hq] at this
theorem insSort_eq {α : Type} [Inhabited α] {lt : α → α → Bool} (ho : LtOk lt) {L M : List α} (hp : L.Perm M) (hs : M.Pairwise (fun a b => lt b a = false)) : insSort lt L 0 L.length = M := by
  obtain ⟨a, b⟩ := insSort_ok ho L
  exact List.Perm.eq_of_pairwise (fun x y _ _ h k => ho.anti x y k h) b hs (a.trans hp)
theorem insSort_perm {α : Type} [Inhabited α] {lt : α → α → Bool} (ho : LtOk lt) {L M : List α} (hp : L.Perm M) : insSort lt L 0 L.length = insSort lt M 0 M.length := by
  obtain ⟨a, b⟩ := insSort_ok ho M
  exact insSort_eq ho (hp.trans a.symm) b
theorem ltI_ok : LtOk ltI := ⟨fun a b c h k => by simp [ltI] at *; omega, fun a b h => by simp [ltI] at *; omega, fun a b h k => by simp [ltI] at *; omega⟩

/-! ### names and their numbers -/
theorem ixOf_spec {α : Type} [DecidableEq α] [Inhabited α] (v : α) : ∀ (l : List α) (k : Nat), 0 ≤ ixOf v l k → ∃ i, i < l.length ∧ ixOf v l k = ((k + i : Nat) : Int) ∧ l.getD i default = v
  | [], k, h => by simp [ixOf] at h
  | x :: l, k, h => by
    rw [ixOf] at h ⊢
    split
    · rename_i e; exact ⟨0, by simp, rfl, by simp [e]⟩
    · rename_i e
      rw [if_neg e] at h
      obtain ⟨i, h1, h2, h3⟩ := ixOf_spec v l (k + 1) h
      exact ⟨i + 1, by simpa using h1, by rw [h2]; omega, by simpa using h3⟩
theorem nodup_getD {α : Type} [Inhabited α] {l : List α} (h : l.Nodup) {i j : Nat} (hi : i < l.length) (hj : j < l.length) (e : l.getD i default = l.getD j default) : i = j := by
  rw [getD_get hi, getD_get hj] at e
  have := List.pairwise_iff_getElem.1 h
  rcases Nat.lt_trichotomy i j with h1 | h1 | h1
  · exact absurd e (this i j hi hj h1)
  · exact h1
  · exact absurd e.symm (this j i hj hi h1)
theorem ixOf_nodup {α : Type} [DecidableEq α] [Inhabited α] {l : List α} (h : l.Nodup) {i : Nat} (hi : i < l.length) : ixOf (l.getD i default) l 0 = i := by
  obtain ⟨j, h1, h2, h3⟩ := ixOf_spec (l.getD i default) l 0 ((ixOf_nonneg _ l 0).2 (by rw [getD_get hi]; exact List.getElem_mem _))
  rw [h2, nodup_getD h h1 hi h3]; simp
theorem namesGo_nodup (l : List ByteArray) : ∀ (t : List ByteArray) (k : Nat), l.drop k = t → (l.take k).Nodup → namesGo l k t = true → l.Nodup
  | [], k, h1, h2, _ => by rwa [List.take_of_length_le (List.drop_eq_nil_iff.1 h1)] at h2
  | s :: t, k, h1, h2, h3 => by
    have hk : k < l.length := by
      rcases Nat.lt_or_ge k l.length with h | h
      · exact h
      · rw [List.drop_eq_nil_of_le h] at h1; cases h1
    rw [drop_cons l k hk] at h1
    obtain ⟨e1, e2⟩ := List.cons.inj h1
    simp only [namesGo, Bool.and_eq_true, Bool.not_eq_true'] at h3
    refine namesGo_nodup l t (k + 1) e2 ?_ h3.2
    rw [take_snoc l k hk, e1]
    refine List.nodup_append.2 ⟨h2, by simp, fun a ha b hb => ?_⟩
    rw [List.mem_singleton] at hb
    subst hb
    intro e; subst e
    have := hasB_iff.2 ha
    rw [h3.1.2] at this; cases this
theorem namesOk_nodup {l : List ByteArray} (h : namesOk l = true) : l.Nodup := by
  simp only [namesOk, Bool.and_eq_true] at h
  exact namesGo_nodup l l 0 rfl (by simp) h.2

def RowOk (N ns : List ByteArray) (row : List Int) : Prop := row.length = ns.length ∧ ∀ j, j < ns.length → ∃ k : Nat, row.getD j default = k ∧ k < N.length ∧ N.getD k default = ns.getD j default
theorem RowOk.more {N M ns : List ByteArray} {row : List Int} (h : RowOk N ns row) (hp : N <+: M) : RowOk M ns row := by
  obtain ⟨X, rfl⟩ := hp
  refine ⟨h.1, fun j hj => ?_⟩
  obtain ⟨k, h1, h2, h3⟩ := h.2 j hj
  refine ⟨k, h1, by simp; omega, ?_⟩
  rw [← h3, List.getD_eq_getElem?_getD, List.getD_eq_getElem?_getD, List.getElem?_append_left h2]
theorem addName_ok (out : List ByteArray) (s : ByteArray) (h : out.Nodup) : out <+: addName out s ∧ (addName out s).Nodup ∧ ∃ k : Nat, nameNo out s = k ∧ k < (addName out s).length ∧ (addName out s).getD k default = s := by
  unfold addName nameNo
  by_cases hx : ixOf s out 0 < 0
  · rw [if_pos hx, if_pos hx]
    have hn : s ∉ out := fun hm => by have := (ixOf_nonneg s out 0).2 hm; omega
    refine ⟨⟨[s], rfl⟩, List.nodup_append.2 ⟨h, by simp, fun a ha b hb e => ?_⟩, out.length, rfl, by simp, by simp [List.getD_eq_getElem?_getD]⟩
    rw [List.mem_singleton] at hb
    subst hb; subst e; exact hn ha
  · rw [if_neg hx, if_neg hx]
    obtain ⟨i, h1, h2, h3⟩ := ixOf_spec s out 0 (by omega)
    exact ⟨List.prefix_refl _, h, i, by rw [h2]; simp, h1, h3⟩
theorem rowN_ok : ∀ (ns out : List ByteArray), out.Nodup → out <+: (rowN out ns).1 ∧ (rowN out ns).1.Nodup ∧ RowOk (rowN out ns).1 ns (rowN out ns).2
  | [], out, h => ⟨List.prefix_refl _, h, rfl, fun j hj => by simp at hj⟩
  | s :: t, out, h => by
    obtain ⟨a1, a2, k, a3, a4, a5⟩ := addName_ok out s h
    obtain ⟨b1, b2, b3⟩ := rowN_ok t (addName out s) a2
    simp only [rowN]
    refine ⟨a1.trans b1, b2, by simp [b3.1], fun j hj => ?_⟩
    cases j with
    | zero =>
      obtain ⟨X, hX⟩ := b1
      refine ⟨k, by simpa using a3, by rw [← hX]; simp; omega, ?_⟩
      rw [← hX, List.getD_eq_getElem?_getD, List.getElem?_append_left a4, ← List.getD_eq_getElem?_getD, a5]; simp
    | succ j =>
      obtain ⟨q, c1, c2, c3⟩ := b3.2 j (by simpa using hj)
      exact ⟨q, by simpa using c1, c2, by simpa using c3⟩
theorem allN_ok : ∀ (l : List Tr) (out : List ByteArray), out.Nodup → out <+: (allN out l).1 ∧ (allN out l).1.Nodup ∧ ∀ k, k < l.length → RowOk (allN out l).1 (l.getD k default).names ((allN out l).2.getD k default)
  | [], out, h => ⟨List.prefix_refl _, h, fun k hk => by simp at hk⟩
  | t :: l, out, h => by
    obtain ⟨a1, a2, a3⟩ := rowN_ok t.names out h
    obtain ⟨b1, b2, b3⟩ := allN_ok l (rowN out t.names).1 a2
    simp only [allN]
    refine ⟨a1.trans b1, b2, fun k hk => ?_⟩
    cases k with
    | zero => exact a3.more b1
    | succ k => exact b3 k (by simpa using hk)

/-! ### an event by its names -/
def refIds (N ns : List ByteArray) (ids : List Int) : List Int := ((List.range N.length).filter fun id => decide (0 ≤ ixOf (N.getD id default) ns 0) && hasB (ixOf (N.getD id default) ns 0) ids).map Int.ofNat
theorem idsGo_sorted (props : Int) : ∀ (l : List Int) (p : Option Int), idsGo props p l = true → l.Pairwise (· < ·) ∧ ∀ x, x ∈ l → 0 ≤ x ∧ x < props ∧ ∀ q, p = some q → q < x
  | [], _, _ => ⟨.nil, fun x h => by cases h⟩
  | n :: l, p, h => by
    simp only [idsGo, Bool.and_eq_true, decide_eq_true_eq] at h
    obtain ⟨a, b⟩ := idsGo_sorted props l (some n) h.2
    have hp : ∀ q, p = some q → q < n := fun q e => by subst e; simpa using h.1.2
    refine ⟨List.Pairwise.cons (fun x hx => (b x hx).2.2 n rfl) a, fun x hx => ?_⟩
    rcases List.mem_cons.1 hx with rfl | hx
    · exact ⟨h.1.1.1, h.1.1.2, hp⟩
    · have := b x hx
      exact ⟨this.1, this.2.1, fun q e => by have := hp q e; have := (b x hx).2.2 n rfl; omega⟩
theorem srt12_ref {N ns : List ByteArray} {row ids : List Int} (hN : N.Nodup) (hns : ns.Nodup) (hr : RowOk N ns row) (hi : idsOk ids ns.length = true) : srt12 (ids.map fun i => row.getD i.toNat default) = refIds N ns ids := by
  obtain ⟨s1, s2⟩ := idsGo_sorted _ _ _ hi
  unfold srt12
  refine insSort_eq ltI_ok ((List.perm_ext_iff_of_nodup ?_ ?_).2 fun x => ?_) ?_
  · refine List.Pairwise.imp_of_mem ?_ s1 |> fun h => List.Pairwise.map (R := fun a b => row.getD a.toNat default ≠ row.getD b.toNat default) _ (fun _ _ h => h) h
    intro a b ha hb hab e
    have h1 := s2 a ha
    have h2 := s2 b hb
    obtain ⟨p, p1, p2, p3⟩ := hr.2 a.toNat (by omega)
    obtain ⟨q, q1, q2, q3⟩ := hr.2 b.toNat (by omega)
    have : p = q := by rw [p1, q1] at e; omega
    subst this
    have := nodup_getD hns (by omega) (by omega) (p3.symm.trans q3)
    omega
  · exact List.Pairwise.map (R := fun a b : Nat => a ≠ b) _ (fun a b h e => h (Int.ofNat.inj e)) (List.nodup_range.filter _)
  · simp only [refIds, List.mem_map, List.mem_filter, List.mem_range, Bool.and_eq_true, decide_eq_true_eq]
    constructor
    · rintro ⟨j, hj, rfl⟩
      have h1 := s2 j hj
      obtain ⟨p, p1, p2, p3⟩ := hr.2 j.toNat (by omega)
      have hx := ixOf_nodup hns (i := j.toNat) (by omega)
      rw [← p3] at hx
      refine ⟨p, ⟨p2, by omega, hasB_iff.2 (by rw [hx]; rwa [Int.toNat_of_nonneg h1.1])⟩, p1.symm⟩
    · rintro ⟨p, ⟨p1, p2, p3⟩, rfl⟩
      obtain ⟨k, k1, k2, k3⟩ := ixOf_spec _ ns 0 p2
      rw [k2] at p3
      refine ⟨((0 + k : Nat) : Int), hasB_iff.1 p3, ?_⟩
      obtain ⟨q, q1, q2, q3⟩ := hr.2 k k1
      have hq : q = p := nodup_getD hN q2 p1 (by rw [q3, k3])
      rw [Int.toNat_natCast, Nat.zero_add, q1, hq]; rfl
  · refine List.Pairwise.map (R := fun a b : Nat => a < b) _ (fun a b h => ?_) (List.pairwise_lt_range.filter _)
    simp only [ltI, decide_eq_false_iff_not]
    exact fun e => by have : (b : Int) < (a : Int) := e; omega
end Go.Proofs.Ytbbjmfkmjjinnaa.V
