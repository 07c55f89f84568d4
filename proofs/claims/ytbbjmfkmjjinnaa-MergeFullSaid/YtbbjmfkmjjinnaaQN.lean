/- As many names as may be, and one more: what Merge makes of them; the walk of that law. -/
import Derived.Test.YtbbjmfkmjjinnaaQM
set_option linter.all false
namespace Go.Proofs.Ytbbjmfkmjjinnaa.V
open Go Go.Proofs

def nm (i : Nat) : ByteArray := ⟨#[110]⟩ ++ Utf8.encode (97 + ((i / 26 : Nat) : Int)) ++ Utf8.encode (97 + ((i % 26 : Nat) : Int))
def nms (a n : Nat) : List ByteArray := (List.range' a n).map nm
theorem nm_ok : ∀ i, i < 66 → (Utf8.encode (97 + ((i / 26 : Nat) : Int))).size = 1 ∧ (Utf8.encode (97 + ((i % 26 : Nat) : Int))).size = 1 ∧ (nm i).size = 3 ∧ nameB (nm i) = true := by decide
theorem nm_inj : ∀ i, i < 66 → ∀ j, j < 66 → nm i = nm j → i = j := by decide
theorem nms_length (a n : Nat) : (nms a n).length = n := by simp [nms]
theorem nms_snoc (a n : Nat) : nms a (n + 1) = nms a n ++ [nm (a + n)] := by simp [nms, List.range'_concat]
theorem nms_cons (a n : Nat) : nms a (n + 1) = nm a :: nms (a + 1) n := by simp [nms, List.range'_succ]

theorem nms_app (a p q : Nat) : nms a (p + q) = nms a p ++ nms (a + p) q := by simp [nms, ← List.range'_append_1]
theorem ixOf_nms : ∀ (p a i k : Nat), a ≤ i → i < 66 → a + p ≤ 66 → ixOf (nm i) (nms a p) k = if i < a + p then ((k + (i - a) : Nat) : Int) else -1
  | 0, a, i, k, h1, h2, h3 => by simp only [nms, List.range'_zero, List.map_nil, ixOf]; rw [if_neg (by omega)]
  | p + 1, a, i, k, h1, h2, h3 => by
    rw [nms_cons, ixOf]
    by_cases h : i = a
    · subst h; rw [if_pos rfl, if_pos (by omega)]; simp
    · rw [if_neg (fun e => h (nm_inj i h2 a (by omega) e)), ixOf_nms p (a + 1) i (k + 1) (by omega) h2 (by omega)]
      by_cases hi : i < a + (p + 1)
      · rw [if_pos (by omega), if_pos hi]; congr 1; omega
      · rw [if_neg (by omega), if_neg hi]
theorem rowN_nms : ∀ (r p q : Nat), q ≤ p → q + r ≤ 66 → p ≤ 66 → (rowN (nms 0 p) (nms q r)).1 = nms 0 (max p (q + r))
  | 0, p, q, h1, h2, h3 => by simp only [nms, List.range'_zero, List.map_nil, rowN, Nat.add_zero]; rw [Nat.max_eq_left h1]
  | r + 1, p, q, h1, h2, h3 => by
    rw [nms_cons]
    simp only [rowN]
    have hx := ixOf_nms p 0 q 0 (Nat.zero_le _) (by omega) (by omega)
    by_cases h : q < p
    · rw [if_pos (by omega)] at hx
      have : addName (nms 0 p) (nm q) = nms 0 p := by unfold addName; rw [if_neg (by rw [hx]; omega)]
      rw [this, rowN_nms r p (q + 1) (by omega) (by omega) h3]
      congr 1; omega
    · have hq : q = p := by omega
      subst hq
      rw [if_neg (by omega)] at hx
      have : addName (nms 0 q) (nm q) = nms 0 (q + 1) := by unfold addName; rw [if_pos (by rw [hx]; omega), nms_snoc, Nat.zero_add]
      rw [this, rowN_nms r (q + 1) (q + 1) (Nat.le_refl _) (by omega) (by omega)]
      congr 1; omega
theorem hasB_nms (i a p : Nat) (h1 : i < 66) (h2 : a + p ≤ 66) (h3 : i < a ∨ a + p ≤ i) : hasB (nm i) (nms a p) = false := by
  cases h : hasB (nm i) (nms a p) with
  | false => rfl
  | true =>
    rw [hasB_iff] at h
    simp only [nms, List.mem_map, List.mem_range'_1] at h
    obtain ⟨j, hj, e⟩ := h
    have := nm_inj j (by omega) i h1 e
    omega
theorem namesGo_nms : ∀ (r a k : Nat) (l : List ByteArray), a + k + r ≤ 66 → l.take k = nms a k → l = nms a (k + r) → namesGo l k (nms (a + k) r) = true
  | 0, a, k, l, h1, h2, h3 => rfl
  | r + 1, a, k, l, h1, h2, h3 => by
    rw [nms_cons]
    simp only [namesGo]
    have e := (nm_ok (a + k) (by omega)).2.2.2
    rw [e, h2, hasB_nms (a + k) a k (by omega) (by omega) (by omega)]
    have ht : l.take (k + 1) = nms a (k + 1) := by
      rw [h3, show k + (r + 1) = (k + 1) + r by omega, nms_app]
      exact List.take_left' (nms_length _ _)
    have h3' : l = nms a (k + 1 + r) := h3.trans (congrArg (nms a) (by omega))
    have := namesGo_nms r a (k + 1) l (by omega) ht h3'
    rw [show a + (k + 1) = a + k + 1 by omega] at this
    rw [this]; rfl
theorem mayB_nms (a r : Nat) (h : a + r ≤ 64 ∨ (a + r ≤ 66 ∧ 3 ≤ a)) : mayB ⟨nms a r, []⟩ = true := by
  unfold mayB namesOk
  have := namesGo_nms r a 0 (nms a r) (by omega) rfl (by simp)
  simp only [Nat.add_zero] at this
  simp only [nms_length, this, evTimes, Bool.and_true, decide_eq_true_eq]
  omega

def fullA : Tr := ⟨nms 0 40, []⟩
def fullB (lo K : Nat) : Tr := ⟨nms lo (K - lo), []⟩
def fullC : Tr := ⟨[⟨#[97, 108, 108]⟩], []⟩
theorem full_names (lo K : Nat) (h1 : 3 ≤ lo) (h2 : lo ≤ 40) (h3 : 62 ≤ K) (h4 : K ≤ 66) : (allN [] [fullA, fullB lo K]).1 = nms 0 K := by
  simp only [allN, fullA, fullB]
  have e1 := rowN_nms 40 0 0 (Nat.le_refl _) (by omega) (by omega)
  rw [show nms 0 0 = [] from rfl] at e1
  rw [e1, show max 0 (0 + 40) = 40 from rfl, rowN_nms (K - lo) 40 lo h2 (by omega) (by omega)]
  exact congrArg (nms 0) (by omega)
theorem full2 (lo K : Nat) (h1 : 3 ≤ lo) (h2 : lo ≤ 40) (h3 : 62 ≤ K) (h4 : K ≤ 66) : mergeF srt12 [fullA, fullB lo K] = if 64 < K then (⟨[], []⟩, 4) else (⟨nms 0 K, []⟩, 0) := by
  unfold mergeF
  rw [if_pos (by simp only [List.all_cons, List.all_nil, Bool.and_true, fullA, fullB]; rw [mayB_nms 0 40 (by omega), mayB_nms lo (K - lo) (by omega)]; rfl), full_names lo K h1 h2 h3 h4, nms_length]
  have hl : linesF 0 [fullA, fullB lo K] = [] := by simp [linesF, fullA, fullB]
  have hm : mevs srt12 [fullA, fullB lo K] = [] := by unfold mevs; rw [hl]; simp only [sumE, List.map_nil, List.sum_nil, mloopF]
  simp only [hm]
theorem full3 (lo K : Nat) : mergeF srt12 [fullA, fullB lo K, fullC] = (⟨[], []⟩, 1) := by
  unfold mergeF
  rw [if_neg]
  simp only [List.all_cons, List.all_nil, Bool.and_true, Bool.and_eq_true, not_and]
  intro _ _
  decide
theorem full_ok (l : List Tr) (hl : l.length ≤ 3) (h : ∀ t, t ∈ l → t.evs = [] ∧ t.names.length ≤ 66 ∧ ∀ s, s ∈ t.names → s.size ≤ 3) : MOk 12 l := by
  have hlin : ∀ (i : Nat) (l : List Tr), (∀ t, t ∈ l → t.evs = []) → linesF i l = [] := by
    intro i l
    induction l generalizing i with
    | nil => intro _; rfl
    | cons t l ih => intro h; rw [linesF, if_pos (h t (by simp))]; exact ih _ fun x hx => h x (by simp [hx])
  refine ⟨by omega, ?_, ?_, fun t ht => ?_, fun t ht _ e he => ?_⟩
  · have : ∀ (l : List Tr), (∀ t, t ∈ l → t.names.length ≤ 66) → sumN l ≤ l.length * 66 := by
      intro l
      induction l with
      | nil => intro _; simp [sumN]
      | cons t l ih =>
        intro h
        have := ih fun x hx => h x (by simp [hx])
        have := h t (by simp)
        simp only [sumN, List.map_cons, List.sum_cons, List.length_cons] at *
        omega
    have := this l fun t ht => (h t ht).2.1
    omega
  · rw [hlin 0 l fun t ht => (h t ht).1]; simp [sumE]
  · obtain ⟨a, b, c⟩ := h t ht
    exact ⟨by omega, fun s hs => by have := c s hs; omega, by rw [a]; simp, fun e he => by rw [a] at he; cases he⟩
  · rw [(h t ht).1] at he; cases he
end Go.Proofs.Ytbbjmfkmjjinnaa.V
