/- Merging one by one; what is merged may be merged; one trace. No law of the program is proved here. -/
import Derived.Test.YtbbjmfkmjjinnaaQT
set_option linter.all false
namespace Go.Proofs.Ytbbjmfkmjjinnaa.V
open Go Go.Proofs

/-! ### merging one by one -/
theorem scan_append : ∀ (l m : List Tr) (cur : Option Ln) (i : Nat), scan cur i (l ++ m) = scan (scan cur i l) (i + l.length) m
  | [], m, cur, i => by simp [scan]
  | t :: l, m, cur, i => by
    rw [List.cons_append, scan_cons, scan_append l m, scan_cons, List.length_cons, show i + 1 + l.length = i + (l.length + 1) by omega]
theorem best_snoc (l : List Tr) (t : Tr) : bestL 0 (l ++ [t]) = if t.evs = [] then bestL 0 l else match bestL 0 l with
    | none => some ⟨t.evs, l.length⟩
    | some x => if tm ⟨t.evs, l.length⟩ < tm x then some ⟨t.evs, l.length⟩ else some x := by
  rw [← scan_none, scan_append, scan_none, Nat.zero_add, scan_cons]
  rfl
theorem best_two (a t : Tr) : bestL 0 [a, t] = if t.evs = [] then bestL 0 [a] else match bestL 0 [a] with
    | none => some ⟨t.evs, 1⟩
    | some x => if tm ⟨t.evs, 1⟩ < tm x then some ⟨t.evs, 1⟩ else some x := best_snoc [a] t
theorem advT_left : ∀ (l m : List Tr) (i : Nat) (n : Int), n < ((i + l.length : Nat) : Int) → (i : Int) ≤ n → advT i n (l ++ m) = advT i n l ++ m
  | [], m, i, n, h, k => by simp at h; omega
  | t :: l, m, i, n, h, k => by
    rw [List.cons_append, advT, advT]
    by_cases e : n = i
    · rw [if_pos e, if_pos e]; rfl
    · rw [if_neg e, if_neg e, advT_left l m (i + 1) n (by simp only [List.length_cons] at h; omega) (by omega)]; rfl
theorem advT_last : ∀ (l : List Tr) (t : Tr) (i : Nat), advT i ((i + l.length : Nat) : Int) (l ++ [t]) = l ++ [⟨t.names, t.evs.drop 1⟩]
  | [], t, i => by simp [advT]
  | x :: l, t, i => by
    rw [List.cons_append, advT, if_neg (by simp only [List.length_cons]; omega)]
    have := advT_last l t (i + 1)
    rw [show i + 1 + l.length = i + (x :: l).length by simp; omega] at this
    rw [this]; rfl
theorem kwT_snoc (g : Int × Ev → Ev) (hg : ∀ p, (g p).t = p.2.t) (m : List ByteArray) : ∀ (n : Nat) (l : List Tr) (t : Tr), tot (l ++ [t]) = n →
    kwT [⟨m, (kwT l).map g⟩, t] = (kwT (l ++ [t])).map fun p => if p.1 < (l.length : Int) then (0, g p) else (1, p.2) := by
  intro n
  induction n with
  | zero =>
    intro l t hn
    have hb : bestL 0 (l ++ [t]) = none := (bestL_none _ 0).2 (by
      unfold tot at hn
      cases hl : linesF 0 (l ++ [t]) with
      | nil => rfl
      | cons x L =>
        have := (linesF_no (l ++ [t]) 0 x (by rw [hl]; exact List.mem_cons_self)).2
        rw [hl] at hn
        simp only [sumE, List.map_cons, List.sum_cons] at hn; omega)
    have hb2 := best_snoc l t
    rw [hb] at hb2
    by_cases ht : t.evs = []
    · rw [if_pos ht] at hb2
      rw [kwT_none hb, kwT_none hb2.symm, kwT_none]
      · rfl
      · rw [best_two, if_pos ht]; rfl
    · rw [if_neg ht] at hb2
      cases hbl : bestL 0 l with
      | none => rw [hbl] at hb2; cases hb2
      | some x => rw [hbl] at hb2; simp only at hb2; split at hb2 <;> cases hb2
  | succ n ih =>
    intro l t hn
    have hb2 := best_snoc l t
    have one : ∀ es : List Ev, bestL 0 [(⟨m, es⟩ : Tr)] = if es = [] then none else some ⟨es, 0⟩ := fun es => by simp [bestL]
    have left : ∀ x, bestL 0 l = some x → bestL 0 (l ++ [t]) = some x → (∀ h : t.evs ≠ [], ¬ tm ⟨t.evs, 1⟩ < tm x) →
        kwT [⟨m, (kwT l).map g⟩, t] = (kwT (l ++ [t])).map fun p => if p.1 < (l.length : Int) then (0, g p) else (1, p.2) := by
      intro x hx hxt htt
      obtain ⟨k, q1, q2, q3⟩ := linesF_get l 0 x (bestL_some l 0 x hx).1
      have hkl := kwT_some hx
      have hkt := kwT_some hxt
      have htot := tot_adv (bestL_some _ 0 x hxt).1
      rw [advT_left l [t] 0 x.no (by omega) (by omega)] at hkt htot
      rw [hkl, List.map_cons]
      have e0 : bestL 0 [(⟨m, g (x.no, x.evs.getD 0 default) :: (kwT (advT 0 x.no l)).map g⟩ : Tr)] = some ⟨g (x.no, x.evs.getD 0 default) :: (kwT (advT 0 x.no l)).map g, 0⟩ := by rw [one, if_neg (by simp)]
      have hM : bestL 0 [(⟨m, g (x.no, x.evs.getD 0 default) :: (kwT (advT 0 x.no l)).map g⟩ : Tr), t] = some ⟨g (x.no, x.evs.getD 0 default) :: (kwT (advT 0 x.no l)).map g, 0⟩ := by
        rw [best_two, e0]
        by_cases ht : t.evs = []
        · rw [if_pos ht]
        · rw [if_neg ht]
          simp only
          rw [if_neg]
          intro hlt
          apply htt ht
          have e1 : tm ⟨g (x.no, x.evs.getD 0 default) :: (kwT (advT 0 x.no l)).map g, 0⟩ = tm x := by
            show (g _).t = _; rw [hg]; rfl
          rw [e1] at hlt
          exact hlt
      have hM' := kwT_some hM
      rw [hM', hkt, List.map_cons]
      have hlt : x.no < l.length := by omega
      rw [if_pos hlt]
      have hadv : advT 0 0 [(⟨m, g (x.no, x.evs.getD 0 default) :: (kwT (advT 0 x.no l)).map g⟩ : Tr), t] = [⟨m, (kwT (advT 0 x.no l)).map g⟩, t] := by simp [advT]
      rw [hadv, ih (advT 0 x.no l) t (by omega)]
      rw [advT_length]
      rfl
    by_cases ht : t.evs = []
    · rw [if_pos ht] at hb2
      cases hbl : bestL 0 l with
      | none =>
        rw [hbl] at hb2
        rw [kwT_none hb2, kwT_none hbl, kwT_none]
        · rfl
        · rw [best_two, if_pos ht]; rfl
      | some x =>
        rw [hbl] at hb2
        exact left x hbl hb2 fun h => absurd ht h
    · rw [if_neg ht] at hb2
      have right : bestL 0 (l ++ [t]) = some ⟨t.evs, l.length⟩ → bestL 0 [(⟨m, (kwT l).map g⟩ : Tr), t] = some ⟨t.evs, 1⟩ →
          kwT [⟨m, (kwT l).map g⟩, t] = (kwT (l ++ [t])).map fun p => if p.1 < (l.length : Int) then (0, g p) else (1, p.2) := by
        intro h1 h2
        have hk1 := kwT_some h1
        have hk2 := kwT_some h2
        have htot := tot_adv (bestL_some _ 0 _ h1).1
        have e1 := advT_last l t 0
        rw [Nat.zero_add] at e1
        simp only at hk1 htot
        rw [e1] at hk1 htot
        have e2 : advT 0 1 [(⟨m, (kwT l).map g⟩ : Tr), t] = [⟨m, (kwT l).map g⟩, ⟨t.names, t.evs.drop 1⟩] := by simp [advT]
        simp only at hk2
        rw [hk1, hk2, e2, ih l ⟨t.names, t.evs.drop 1⟩ (by omega), List.map_cons, if_neg (by simp)]
      cases hbl : bestL 0 l with
      | none =>
        rw [hbl] at hb2
        refine right hb2 ?_
        rw [best_two, if_neg ht, kwT_none hbl]
        rfl
      | some x =>
        rw [hbl] at hb2
        simp only at hb2
        have hhead : bestL 0 [(⟨m, (kwT l).map g⟩ : Tr)] = some ⟨(kwT l).map g, 0⟩ := by rw [one, if_neg (by rw [kwT_some hbl]; simp)]
        have htm : tm ⟨(kwT l).map g, 0⟩ = tm x := by
          rw [kwT_some hbl]; show (g _).t = _; rw [hg]; rfl
        by_cases hlt : tm ⟨t.evs, l.length⟩ < tm x
        · rw [if_pos hlt] at hb2
          refine right hb2 ?_
          rw [best_two, if_neg ht, hhead]
          simp only
          rw [if_pos (by rw [htm]; exact hlt)]
        · rw [if_neg hlt] at hb2
          exact left x hbl hb2 fun _ => hlt

/-! ### what is merged may be merged -/
theorem namesGo_nameB (l : List ByteArray) : ∀ (t : List ByteArray) (k : Nat), namesGo l k t = true → ∀ s, s ∈ t → nameB s = true
  | [], _, _, _, h => by cases h
  | x :: t, k, h, s, hs => by
    simp only [namesGo, Bool.and_eq_true] at h
    rcases List.mem_cons.1 hs with rfl | hs
    · exact h.1.1
    · exact namesGo_nameB l t (k + 1) h.2 s hs
theorem namesGo_of {l : List ByteArray} (h1 : ∀ s, s ∈ l → nameB s = true) (h2 : l.Nodup) : ∀ (t : List ByteArray) (k : Nat), l.drop k = t → namesGo l k t = true
  | [], _, _ => rfl
  | x :: t, k, h => by
    have hk : k < l.length := by
      rcases Nat.lt_or_ge k l.length with h' | h'
      · exact h'
      · rw [List.drop_eq_nil_of_le h'] at h; cases h
    rw [drop_cons l k hk] at h
    obtain ⟨e1, e2⟩ := List.cons.inj h
    have hx : x ∉ l.take k := fun hm => by
      obtain ⟨i, hi, hx⟩ := List.mem_take_iff_getElem.1 hm
      have := nodup_getD h2 (i := i) (j := k) (by omega) hk (by rw [getD_get (by omega : i < l.length), hx, e1])
      omega
    simp only [namesGo, namesGo_of h1 h2 t (k + 1) e2, h1 x (by rw [← e1, getD_get hk]; exact List.getElem_mem _), Bool.true_and, Bool.and_true, Bool.not_eq_true']
    cases hb : hasB x (l.take k) with
    | false => rfl
    | true => exact absurd (hasB_iff.1 hb) hx
theorem idsGo_of (props : Int) : ∀ (l : List Int) (p : Option Int), l.Pairwise (· < ·) → (∀ x, x ∈ l → 0 ≤ x ∧ x < props ∧ ∀ q, p = some q → q < x) → idsGo props p l = true
  | [], _, _, _ => rfl
  | n :: l, p, h, k => by
    obtain ⟨h1, h2⟩ := List.pairwise_cons.1 h
    have k1 := k n List.mem_cons_self
    have := idsGo_of props l (some n) h2 fun x hx => ⟨(k x (List.mem_cons_of_mem _ hx)).1, (k x (List.mem_cons_of_mem _ hx)).2.1, fun q e => by cases e; exact h1 x hx⟩
    simp only [idsGo, this, Bool.and_true, Bool.and_eq_true, decide_eq_true_eq]
    refine ⟨⟨k1.1, k1.2.1⟩, ?_⟩
    cases p with
    | none => rfl
    | some q => simpa using k1.2.2 q rfl
theorem refIds_ok (N ns : List ByteArray) (ids : List Int) : idsOk (refIds N ns ids) N.length = true := by
  refine idsGo_of _ _ none ?_ fun x hx => ?_
  · exact List.Pairwise.map (R := fun a b : Nat => a < b) _ (fun a b h => Int.ofNat_lt.2 h) (List.pairwise_lt_range.filter _)
  · simp only [refIds, List.mem_map, List.mem_filter, List.mem_range] at hx
    obtain ⟨k, ⟨h1, _⟩, rfl⟩ := hx
    exact ⟨Int.natCast_nonneg _, Int.ofNat_lt.2 h1, fun q e => by cases e⟩
def chainT : Option Int → List Ev → Prop
  | _, [] => True
  | q, e :: l => (∀ x, q = some x → x ≤ e.t) ∧ chainT (some e.t) l
theorem chainT_of (n : Nat) : ∀ (l : List Ev) (q : Option Int), evTimes n q l = true → chainT q l
  | [], _, _ => trivial
  | e :: l, q, h => by
    simp only [evTimes, Bool.and_eq_true] at h
    refine ⟨fun x hx => ?_, chainT_of n l _ h.2⟩
    subst hx; simpa using h.1.2
theorem kw_chain (g : Int × Ev → Ev) (hg : ∀ p, (g p).t = p.2.t) : ∀ (f : Nat) (l : List Tr) (q : Option Int), (∀ t, t ∈ l → chainT q t.evs) → chainT q ((kw f l).map g)
  | 0, _, _, _ => trivial
  | f + 1, l, q, h => by
    rw [kw]
    cases hb : bestL 0 l with
    | none => exact trivial
    | some x =>
      obtain ⟨b1, b2⟩ := bestL_some l 0 x hb
      obtain ⟨k, q1, q2, q3⟩ := linesF_get l 0 x b1
      have hk : l.getD k default ∈ l := by rw [getD_get q1]; exact List.getElem_mem _
      have hc := h _ hk
      rw [← q3] at hc
      obtain ⟨e, es, hx⟩ : ∃ e es, x.evs = e :: es := by
        cases hxe : x.evs with
        | nil => have := (linesF_no l 0 x b1).2; rw [hxe] at this; simp at this
        | cons e es => exact ⟨e, es, rfl⟩
      have hx0 : x.evs.getD 0 default = e := by rw [hx]; rfl
      rw [hx] at hc
      refine ⟨fun y hy => by rw [hg]; show y ≤ (x.evs.getD 0 default).t; rw [hx0]; exact hc.1 y hy, ?_⟩
      rw [hg]
      show chainT (some (x.evs.getD 0 default).t) _
      rw [hx0]
      refine kw_chain g hg f (advT 0 x.no l) (some e.t) fun t ht => ?_
      obtain ⟨j, hj, hjt⟩ := List.getElem_of_mem ht
      rw [advT_length] at hj
      have ha := (advT_get l 0 x.no j hj).2
      have hte : t = (advT 0 x.no l).getD j default := by rw [getD_get (by rw [advT_length]; exact hj), hjt]
      rw [hte, ha]
      split
      · rename_i hjk
        have : j = k := by omega
        subst this
        rw [← q3, hx]; exact hc.2
      · rename_i hjk
        have hjm : l.getD j default ∈ l := by rw [getD_get hj]; exact List.getElem_mem _
        have hcj := h _ hjm
        cases hev : (l.getD j default).evs with
        | nil => exact trivial
        | cons e' es' =>
          rw [hev] at hcj
          refine ⟨fun y hy => ?_, hcj.2⟩
          cases hy
          have hin : ∀ (l : List Tr) (i j : Nat), j < l.length → (l.getD j default).evs ≠ [] → (⟨(l.getD j default).evs, ((i + j : Nat) : Int)⟩ : Ln) ∈ linesF i l := by
            intro l
            induction l with
            | nil => intro i j hj; simp at hj
            | cons t l ih =>
              intro i j hj hne
              rw [linesF]
              cases j with
              | zero => rw [if_neg (show ¬ t.evs = [] from hne)]; exact List.mem_cons_self
              | succ j =>
                have := ih (i + 1) j (by simpa using hj) hne
                rw [show i + 1 + j = i + (j + 1) by omega] at this
                split
                · exact this
                · exact List.mem_cons_of_mem _ this
          have := b2 _ (hin l 0 j hj (by rw [hev]; simp))
          have e1 : tm x = e.t := by unfold tm; rw [hx0]
          have e2 : tm ⟨(l.getD j default).evs, ((0 + j : Nat) : Int)⟩ = e'.t := by rw [hev]; rfl
          unfold leL at this
          rw [e1, e2] at this
          omega
theorem evTimes_of (n : Nat) : ∀ (l : List Ev) (q : Option Int), (∀ e, e ∈ l → idsOk e.ids n = true) → chainT q l → evTimes n q l = true
  | [], _, _, _ => rfl
  | e :: l, q, h, hc => by
    have h1 := evTimes_of n l (some e.t) (fun x hx => h x (List.mem_cons_of_mem _ hx)) hc.2
    simp only [evTimes, h1, h e List.mem_cons_self, Bool.true_and, Bool.and_true]
    cases q with
    | none => rfl
    | some x => simpa using hc.1 x rfl
theorem mayB_names {t : Tr} (h : mayB t = true) : namesOk t.names = true := by simp only [mayB, Bool.and_eq_true] at h; exact h.1
theorem refM_mayB {l : List Tr} (h : l.all mayB = true) (hs : sumN l ≤ 64) : mayB (refM l).1 = true := by
  rw [refM_may h hs]
  obtain ⟨-, n1, n2⟩ := allN_ok l [] List.nodup_nil
  have hle := allN_le l []
  have hB : ∀ s, s ∈ (allN [] l).1 → nameB s = true := fun s hs' => by
    rcases allN_mem l [] s hs' with h' | ⟨t, h1, h2⟩
    · cases h'
    · have := mayB_names (List.all_eq_true.1 h t h1)
      simp only [namesOk, Bool.and_eq_true] at this
      exact namesGo_nameB _ _ _ this.2 s h2
  unfold mayB namesOk
  simp only [Bool.and_eq_true, decide_eq_true_eq]
  refine ⟨⟨by simp only [List.length_nil] at hle; omega, namesGo_of hB n1 _ 0 rfl⟩, evTimes_of _ _ none (fun e he => ?_) (kw_chain (refEv (allN [] l).1 l) (fun _ => rfl) _ l none fun t ht => ?_)⟩
  · obtain ⟨p, -, rfl⟩ := List.mem_map.1 he
    exact refIds_ok _ _ _
  · have := List.all_eq_true.1 h t ht
    simp only [mayB, Bool.and_eq_true] at this
    exact chainT_of _ _ none this.2

/-! ### names of names -/
theorem prefix_get {N M : List ByteArray} (h : N <+: M) {i : Nat} (hi : i < N.length) : M.getD i default = N.getD i default := by
  obtain ⟨X, rfl⟩ := h
  rw [List.getD_eq_getElem?_getD, List.getD_eq_getElem?_getD, List.getElem?_append_left hi]
theorem refIds_comp {N M ns : List ByteArray} {ids : List Int} (hp : N <+: M) (hM : M.Nodup) (hns : ∀ s, s ∈ ns → s ∈ N) : refIds M N (refIds N ns ids) = refIds M ns ids := by
  unfold refIds
  refine congrArg (List.map Int.ofNat) (List.filter_congr fun id hid => ?_)
  rw [List.mem_range] at hid
  have hN : N.Nodup := hM.sublist hp.sublist
  have hlen := hp.length_le
  rcases Nat.lt_or_ge id N.length with hi | hi
  · have h1 := prefix_get hp hi
    have h2 := ixOf_nodup hN hi
    rw [h1, h2]
    have h3 : decide (0 ≤ (id : Int)) = true := by simp
    rw [h3, Bool.true_and]
    rw [Bool.eq_iff_iff, hasB_iff]
    simp only [List.mem_map, List.mem_filter, List.mem_range]
    constructor
    · rintro ⟨j, ⟨h4, h5⟩, h6⟩
      have : j = id := Int.ofNat.inj h6
      subst this; exact h5
    · intro h5
      exact ⟨id, ⟨hi, h5⟩, rfl⟩
  · have hnot : M.getD id default ∉ N := fun hm => by
      obtain ⟨j, hj, hje⟩ := List.getElem_of_mem hm
      have := nodup_getD hM (i := j) (j := id) (by omega) hid (by rw [prefix_get hp hj, getD_get hj, hje])
      omega
    have e1 : decide (0 ≤ ixOf (M.getD id default) N 0) = false := decide_eq_false fun h => hnot ((ixOf_nonneg _ _ _).1 h)
    have e2 : decide (0 ≤ ixOf (M.getD id default) ns 0) = false := decide_eq_false fun h => hnot (hns _ ((ixOf_nonneg _ _ _).1 h))
    rw [e1, e2]; rfl
theorem rowN_nodup : ∀ (ns out : List ByteArray), (out ++ ns).Nodup → (rowN out ns).1 = out ++ ns
  | [], out, _ => by simp [rowN]
  | s :: ns, out, h => by
    have hs : s ∉ out := fun hm => (List.nodup_append.1 h).2.2 s hm s List.mem_cons_self rfl
    have hadd : addName out s = out ++ [s] := by
      unfold addName
      rw [if_pos]
      rcases Int.lt_or_le (ixOf s out 0) 0 with k | k
      · exact k
      · exact absurd ((ixOf_nonneg s out 0).1 k) hs
    simp only [rowN, hadd]
    rw [rowN_nodup ns (out ++ [s]) (by simpa using h)]; simp
theorem allN_append : ∀ (l m : List Tr) (out : List ByteArray), (allN out (l ++ m)).1 = (allN (allN out l).1 m).1
  | [], _, _ => rfl
  | t :: l, m, out => by simp only [List.cons_append, allN]; exact allN_append l m _
theorem RowOk.sub {N ns : List ByteArray} {row : List Int} (h : RowOk N ns row) : ∀ s, s ∈ ns → s ∈ N := fun s hs => by
  obtain ⟨j, hj, rfl⟩ := List.getElem_of_mem hs
  obtain ⟨k, h1, h2, h3⟩ := h.2 j hj
  rw [getD_get hj] at h3
  rw [← h3, getD_get h2]; exact List.getElem_mem _

/-- Traces may be merged one by one. -/
theorem refM_snoc (l : List Tr) (t : Tr) (h : (l ++ [t]).all mayB = true) (hs : sumN (l ++ [t]) ≤ 64) : refM [(refM l).1, t] = refM (l ++ [t]) := by
  have hl : l.all mayB = true := by rw [List.all_append, Bool.and_eq_true] at h; exact h.1
  have htm : mayB t = true := by
    rw [List.all_append, Bool.and_eq_true] at h
    simpa using h.2
  have hs' : sumN l + t.names.length ≤ 64 := by simpa [sumN] using hs
  have hle := allN_le l []
  have hM := refM_mayB hl (by omega)
  obtain ⟨-, n1, n2⟩ := allN_ok l [] List.nodup_nil
  obtain ⟨p1, p2, -⟩ := rowN_ok t.names (allN [] l).1 n1
  rw [refM_may h hs]
  rw [refM_may hl (by omega)] at hM ⊢
  have hN : (allN [] [(⟨(allN [] l).1, (kwT l).map (refEv (allN [] l).1 l)⟩ : Tr), t]).1 = (allN [] (l ++ [t])).1 := by
    rw [allN_append]
    simp only [allN]
    rw [rowN_nodup (allN [] l).1 [] (by simpa using n1)]
    rfl
  have hN2 : (allN [] (l ++ [t])).1 = (rowN (allN [] l).1 t.names).1 := by rw [allN_append]; rfl
  rw [refM_may (by simp only [List.all_cons, List.all_nil, hM, htm, Bool.and_self]) (by simp only [sumN, List.map_cons, List.sum_cons, List.map_nil, List.sum_nil, List.length_nil] at *; omega), hN]
  rw [kwT_snoc (refEv (allN [] l).1 l) (fun _ => rfl) _ _ l t rfl, List.map_map]
  have : (kwT (l ++ [t])).map (refEv (allN [] (l ++ [t])).1 [(⟨(allN [] l).1, (kwT l).map (refEv (allN [] l).1 l)⟩ : Tr), t] ∘ fun p => if p.1 < (l.length : Int) then (0, refEv (allN [] l).1 l p) else (1, p.2)) = (kwT (l ++ [t])).map (refEv (allN [] (l ++ [t])).1 (l ++ [t])) := by
    refine List.map_congr_left fun p hp => ?_
    obtain ⟨k, a, b, c⟩ := kw_mem _ _ p hp
    rw [List.length_append, List.length_singleton] at b
    simp only [Function.comp]
    by_cases hk : k < l.length
    · rw [if_pos (by rw [a]; exact Int.ofNat_lt.2 hk)]
      unfold refEv
      rw [a, Int.toNat_natCast, hN2]
      have e1 : (l ++ [t]).getD k default = l.getD k default := by rw [List.getD_eq_getElem?_getD, List.getD_eq_getElem?_getD, List.getElem?_append_left hk]
      rw [e1]
      show (⟨p.2.t, refIds _ (allN [] l).1 (refIds _ _ _)⟩ : Ev) = _
      rw [refIds_comp p1 p2 (n2 k hk).sub]
    · have hkl : k = l.length := by omega
      rw [if_neg (by rw [a]; omega)]
      unfold refEv
      rw [a, Int.toNat_natCast, hkl]
      have e1 : (l ++ [t]).getD l.length default = t := by simp [List.getD_eq_getElem?_getD]
      rw [e1]; rfl
  rw [this]

/-! ### one trace; none -/
theorem refM_nil : refM [] = (⟨[], []⟩, 0) := rfl
theorem refIds_self {N : List ByteArray} {ids : List Int} (hN : N.Nodup) (h : idsOk ids N.length = true) : refIds N N ids = ids := by
  obtain ⟨s1, s2⟩ := idsGo_sorted _ _ _ h
  have e : refIds N N ids = ((List.range N.length).filter fun id : Nat => hasB (id : Int) ids).map Int.ofNat := by
    unfold refIds
    refine congrArg (List.map Int.ofNat) (List.filter_congr fun id hid => ?_)
    rw [List.mem_range] at hid
    rw [ixOf_nodup hN hid]; simp
  rw [e]
  have p1 : (((List.range N.length).filter fun id : Nat => hasB (id : Int) ids).map Int.ofNat).Pairwise (· < ·) := List.Pairwise.map (R := fun a b : Nat => a < b) _ (fun a b h => Int.ofNat_lt.2 h) (List.pairwise_lt_range.filter _)
  refine List.Perm.eq_of_pairwise (le := (· < ·)) (fun a b _ _ h k => by omega) p1 s1 ((List.perm_ext_iff_of_nodup (p1.imp fun h => by omega) (s1.imp fun h => by omega)).2 fun x => ?_)
  simp only [List.mem_map, List.mem_filter, List.mem_range, hasB_iff]
  constructor
  · rintro ⟨j, ⟨_, h2⟩, rfl⟩; exact h2
  · intro hx
    have := s2 x hx
    exact ⟨x.toNat, ⟨by omega, by rw [Int.toNat_of_nonneg this.1]; exact hx⟩, by show (x.toNat : Int) = x; omega⟩
theorem kw_one (m : List ByteArray) : ∀ (es : List Ev), kw es.length [⟨m, es⟩] = es.map fun e => (0, e)
  | [] => rfl
  | e :: es => by
    have : bestL 0 [(⟨m, e :: es⟩ : Tr)] = some ⟨e :: es, 0⟩ := by simp [bestL]
    rw [List.length_cons, kw, this]
    have h2 := kw_one m es
    simp only [advT, List.drop_succ_cons, List.drop_zero, List.map_cons]
    rw [if_pos (by rfl), h2]; rfl
theorem refM_one {t : Tr} (h : mayB t = true) : refM [t] = (t, 0) := by
  have hn := mayB_names h
  have hnd := namesOk_nodup hn
  have hle : t.names.length ≤ 64 := by simp only [namesOk, Bool.and_eq_true, decide_eq_true_eq] at hn; exact hn.1
  rw [refM_may (by simp [h]) (by simpa [sumN] using hle)]
  have hN : (allN [] [t]).1 = t.names := by simp only [allN]; rw [rowN_nodup t.names [] (by simpa using hnd)]; rfl
  rw [hN]
  have hk : kwT [t] = t.evs.map fun e => (0, e) := by
    have ht : tot [t] = t.evs.length := by
      unfold tot
      simp only [linesF]
      split
      · rename_i e; rw [e]; rfl
      · simp [sumE]
    unfold kwT
    rw [ht]
    exact kw_one t.names t.evs
  rw [hk, List.map_map]
  have : t.evs.map (refEv t.names [t] ∘ fun e => ((0 : Int), e)) = t.evs := by
    conv => rhs; rw [← List.map_id t.evs]
    refine List.map_congr_left fun e he => ?_
    have hi : idsOk e.ids t.names.length = true := by
      simp only [mayB, Bool.and_eq_true] at h
      exact evTimes_mem _ _ _ h.2 e he
    show (⟨e.t, refIds t.names t.names e.ids⟩ : Ev) = e
    rw [refIds_self hnd hi]
  rw [this]
end Go.Proofs.Ytbbjmfkmjjinnaa.V
