/- The merge of Merge is the merge of the document. No law of the program is proved here. -/
import Derived.Test.YtbbjmfkmjjinnaaPB
import Derived.Test.YtbbjmfkmjjinnaaQM
set_option linter.all false
namespace Go.Proofs.Ytbbjmfkmjjinnaa.V
open Go Go.Proofs

/-! ### the merge, as the document has it -/
def scan : Option Ln → Nat → List Tr → Option Ln
  | cur, _, [] => cur
  | cur, i, t :: l => scan (if t.evs = [] then cur else match cur with
    | none => some ⟨t.evs, i⟩
    | some x => if tm ⟨t.evs, i⟩ < tm x then some ⟨t.evs, i⟩ else some x) (i + 1) l
theorem scan_cons (cur : Option Ln) (i : Nat) (t : Tr) (l : List Tr) : scan cur i (t :: l) = scan (if t.evs = [] then cur else match cur with
    | none => some ⟨t.evs, i⟩
    | some x => if tm ⟨t.evs, i⟩ < tm x then some ⟨t.evs, i⟩ else some x) (i + 1) l := rfl
theorem scan_best : ∀ (l : List Tr) (cur : Option Ln) (i : Nat), scan cur i l = match cur, bestL i l with
    | none, r => r
    | some x, none => some x
    | some x, some y => if tm x ≤ tm y then some x else some y
  | [], cur, _ => by cases cur <;> rfl
  | t :: l, cur, i => by
    rw [scan_cons, scan_best l, bestL]
    by_cases h : t.evs = []
    · rw [if_pos h, if_pos h]
    · rw [if_neg h, if_neg h]
      cases cur with
      | none =>
        cases bestL (i + 1) l with
        | none => rfl
        | some y => rfl
      | some x =>
        simp only
        by_cases h1 : tm ⟨t.evs, i⟩ < tm x
        · rw [if_pos h1]
          cases bestL (i + 1) l with
          | none => simp only; rw [if_neg (by omega)]
          | some y =>
            simp only
            by_cases h2 : tm ⟨t.evs, i⟩ ≤ tm y
            · rw [if_pos h2]; simp only; rw [if_neg (by omega)]
            · rw [if_neg h2]; simp only; rw [if_neg (by omega)]
        · rw [if_neg h1]
          cases bestL (i + 1) l with
          | none => simp only; rw [if_pos (by omega)]
          | some y =>
            simp only
            by_cases h2 : tm ⟨t.evs, i⟩ ≤ tm y
            · rw [if_pos h2]; simp only; rw [if_pos (by omega), if_pos (by omega)]
            · rw [if_neg h2]
theorem scan_none (l : List Tr) (i : Nat) : scan none i l = bestL i l := scan_best l none i
def tot (l : List Tr) : Nat := sumE (linesF 0 l)
theorem tot_adv {l : List Tr} {x : Ln} (h : x ∈ linesF 0 l) : tot l = tot (advT 0 x.no l) + 1 := by
  obtain ⟨R, h1, h2⟩ := advT_perm l 0 x h
  have h3 := (linesF_no l 0 x h).2
  unfold tot
  rw [sumE_perm h1, sumE_perm h2]
  split
  · rename_i e; simp only [sumE, List.map_cons, List.sum_cons, e]; omega
  · simp only [sumE, List.map_cons, List.sum_cons, List.length_drop]; omega
def kwT (l : List Tr) : List (Int × Ev) := kw (tot l) l
theorem kwT_some {l : List Tr} {x : Ln} (h : bestL 0 l = some x) : kwT l = (x.no, x.evs.getD 0 default) :: kwT (advT 0 x.no l) := by
  unfold kwT
  rw [tot_adv (bestL_some l 0 x h).1, kw, h]
theorem kwT_none {l : List Tr} (h : bestL 0 l = none) : kwT l = [] := by
  unfold kwT
  cases tot l with
  | zero => rfl
  | succ f => rw [kw, h]
theorem advT_length : ∀ (l : List Tr) (i : Nat) (n : Int), (advT i n l).length = l.length
  | [], _, _ => rfl
  | t :: l, i, n => by rw [advT]; split <;> simp [advT_length l]
theorem advT_get : ∀ (l : List Tr) (i : Nat) (n : Int) (k : Nat), k < l.length → ((advT i n l).getD k default).names = (l.getD k default).names ∧ ((advT i n l).getD k default).evs = if ((i + k : Nat) : Int) = n then (l.getD k default).evs.drop 1 else (l.getD k default).evs
  | t :: l, i, n, 0, _ => by
    rw [advT]
    by_cases h : n = i
    · rw [if_pos h, if_pos (by omega)]; exact ⟨rfl, rfl⟩
    · rw [if_neg h, if_neg (by omega)]; exact ⟨rfl, rfl⟩
  | t :: l, i, n, k + 1, hk => by
    have := advT_get l (i + 1) n k (by simpa using hk)
    rw [advT]
    by_cases h : n = i
    · rw [if_pos h, if_neg (by omega)]; exact ⟨rfl, rfl⟩
    · rw [if_neg h]
      refine ⟨this.1, ?_⟩
      have h2 := this.2
      simp only [List.getD_cons_succ]
      rw [h2]
      have e : ((i + 1 + k : Nat) : Int) = ((i + (k + 1) : Nat) : Int) := by omega
      rw [e]
theorem linesF_get : ∀ (l : List Tr) (i : Nat) (x : Ln), x ∈ linesF i l → ∃ k, k < l.length ∧ x.no = ((i + k : Nat) : Int) ∧ x.evs = (l.getD k default).evs
  | [], _, _, h => by cases h
  | t :: l, i, x, h => by
    rw [linesF] at h
    split at h
    · obtain ⟨k, a, b, c⟩ := linesF_get l (i + 1) x h
      exact ⟨k + 1, by simpa using a, by omega, c⟩
    · rcases List.mem_cons.1 h with rfl | h
      · exact ⟨0, by simp, by simp, rfl⟩
      · obtain ⟨k, a, b, c⟩ := linesF_get l (i + 1) x h
        exact ⟨k + 1, by simpa using a, by omega, c⟩
theorem getD_mem0 {α : Type} [Inhabited α] {l : List α} (h : 0 < l.length) : l.getD 0 default ∈ l := by rw [getD_get h]; exact List.getElem_mem _
theorem kw_mem : ∀ (f : Nat) (l : List Tr) (p : Int × Ev), p ∈ kw f l → ∃ k : Nat, p.1 = k ∧ k < l.length ∧ p.2 ∈ (l.getD k default).evs
  | 0, _, _, h => by cases h
  | f + 1, l, p, h => by
    rw [kw] at h
    cases hb : bestL 0 l with
    | none => rw [hb] at h; cases h
    | some x =>
      rw [hb] at h
      have b1 := (bestL_some l 0 x hb).1
      rcases List.mem_cons.1 h with rfl | h
      · obtain ⟨k, a, b, c⟩ := linesF_get l 0 x b1
        exact ⟨k, by simpa using b, a, by rw [← c]; exact getD_mem0 (linesF_no l 0 x b1).2⟩
      · obtain ⟨k, a, b, c⟩ := kw_mem f _ p h
        rw [advT_length] at b
        have := (advT_get l 0 x.no k b).2
        rw [this] at c
        refine ⟨k, a, b, ?_⟩
        split at c
        · exact List.mem_of_mem_drop c
        · exact c
def refEv (N : List ByteArray) (l : List Tr) (p : Int × Ev) : Ev := ⟨p.2.t, refIds N (l.getD p.1.toNat default).names p.2.ids⟩
def refM (l : List Tr) : Tr × Int := if l.all mayB then if 64 < (allN [] l).1.length then (⟨[], []⟩, 4) else (⟨(allN [] l).1, (kwT l).map (refEv (allN [] l).1 l)⟩, 0) else (⟨[], []⟩, 1)
theorem mevs_kw (srt : List Int → List Int) (l : List Tr) : mevs srt l = (kwT l).map (fun p => movedE srt p.2 ((allN [] l).2.getD p.1.toNat default)) := by
  obtain ⟨pm, pl⟩ := initA_perm (linesF 0 l).length ((linesF 0 l).length / 2) (linesF 0 l) (Nat.le_refl _)
  rw [List.take_length] at pm
  unfold mevs kwT tot
  rw [mloopF_kw srt _ _ _ _ _ l (by omega) (initA_heap' _) pm]
  simp
/-- What Merge makes is what the document says. -/
theorem mergeF_ref (l : List Tr) : mergeF srt12 l = refM l := by
  unfold mergeF refM
  by_cases h : l.all mayB
  · rw [if_pos h, if_pos h]
    by_cases h2 : 64 < (allN [] l).1.length
    · rw [if_pos h2, if_pos h2]
    · rw [if_neg h2, if_neg h2, mevs_kw]
      have : (kwT l).map (fun p => movedE srt12 p.2 ((allN [] l).2.getD p.1.toNat default)) = (kwT l).map (refEv (allN [] l).1 l) := by
        refine List.map_congr_left fun p hp => ?_
        obtain ⟨k, a, b, c⟩ := kw_mem _ l p hp
        obtain ⟨-, n1, n2⟩ := allN_ok l [] List.nodup_nil
        have hm : l.getD k default ∈ l := by rw [getD_get b]; exact List.getElem_mem _
        have hmay := List.all_eq_true.1 h _ hm
        simp only [mayB, Bool.and_eq_true] at hmay
        unfold movedE refEv
        rw [a, Int.toNat_natCast, srt12_ref n1 (namesOk_nodup hmay.1) (n2 k b) (evTimes_mem _ _ _ hmay.2 _ c)]
      rw [this]
  · rw [if_neg h, if_neg h]
end Go.Proofs.Ytbbjmfkmjjinnaa.V
