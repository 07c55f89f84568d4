/- The logic's operations on memory and numbers, one by one. No law of the program is proved here. -/
import Derived.Test.YtbbjmfkmjjinnaaV3
set_option linter.all false
namespace Go.Proofs.Ytbbjmfkmjjinnaa.V
open Go

def TK.known : TK → Bool
  | .other => false
  | _ => true
theorem TK.ne_other {k : TK} (h : k.known = true) : k ≠ .other := by intro e; rw [e] at h; cases h

theorem ObjOk.cell {c : Cx} {i : Nat} {o : GObj} (h : ObjOk c i o) {j : Nat} (hj : j < o.cells.length) :
    ∃ u, c.w.cell? ⟨(c.β i).1, j, none⟩ = some u ∧ u.oneCell' = true ∧ Rel c u (o.cells.getD j .dead) := by
  obtain ⟨cur, hb, hl, _, _, hr⟩ := h
  refine ⟨cur.getD j undef, ?_, (hr j hj).1, (hr j hj).2⟩
  have : j < cur.size := by omega
  simp [World.cell?, hb, Array.getD_eq_getD_getElem?, this]

theorem addr_add (b off j : Nat) : (⟨b, off, none⟩ : Addr).add j = ⟨b, off + j, none⟩ := by unfold Addr.add; split <;> simp_all
theorem addr_add2 (a : Addr) (i j : Nat) : (a.add i).add j = a.add (i + j) := by
  unfold Addr.add
  by_cases hi : i = 0
  · subst hi; simp
  · by_cases hj : j = 0
    · subst hj; simp [hi]
    · simp [hi, hj, Nat.add_assoc]

theorem getD_lt {α : Type} {l : List α} {j : Nat} (h : j < l.length) (d d' : α) : l.getD j d = l.getD j d' := by simp [List.getD_eq_getElem?_getD, h]
theorem getD_drop {α : Type} (l : List α) (i j : Nat) (d : α) : (l.drop i).getD j d = l.getD (i + j) d := by simp [List.getD_eq_getElem?_getD, List.getElem?_drop]
theorem getD_take {α : Type} {l : List α} {n j : Nat} (h : j < n) (d : α) : (l.take n).getD j d = l.getD j d := by simp [List.getD_eq_getElem?_getD, List.getElem?_take, h]

/-! ### load -/
def loadP (d : TD) (H : Heap) : PV → Option (Prop × PV)
  | .ad i off => match H[i]? with
    | some (some o) => if d.k.known then if d.k.agg then some (off + d.size ≤ o.cells.length, .ag ((o.cells.drop off).take d.size)) else some (off < o.cells.length, o.cells.getD off .dead) else none
    | _ => none
  | .ip cells => if d.k.known then if d.k.agg then some (d.size ≤ cells.length, .ag (cells.take d.size)) else some (0 < cells.length, cells.getD 0 .dead) else none
  | _ => none

theorem loadVar_ok {P : Program} {t : TypeId} {c : Cx} {ad : Addr} {cells : List PV} {us : Nat → Value} {n : Nat} (hk : (td P t).k.known = true)
    (hc : ∀ j, j < n → c.w.cell? (ad.add j) = some (us j)) (hr : ∀ j, j < n → Rel c (us j) (cells.getD j .dead))
    (hn : n = if (td P t).k.agg then (td P t).size else 1) (hlen : n ≤ cells.length) :
    ∃ v, (loadVar t ad).run P c.w = .ok v c.w ∧ Rel c v (if (td P t).k.agg then .ag (cells.take (td P t).size) else cells.getD 0 .dead) := by
  have hne := TK.ne_other hk
  have hok := ok_of hne
  by_cases hg : (td P t).k.agg = true
  · rw [if_pos hg] at hn ⊢
    subst hn
    have hl := run_loadCells (P := P) c.w ad (td P t).size us hc
    refine ⟨.agg ((List.range (td P t).size).map us).toArray, ?_, ?_⟩
    · simp [loadVar, run_agg c.w hne, hg, run_size c.w hok, hl]
    · refine .ag _ _ (by simp; omega) fun j hj => ?_
      have hj1 : j < (td P t).size := by simp at hj; omega
      have := hr j hj1
      rw [getD_take hj1]
      simpa [List.getD_eq_getElem?_getD, hj1] using this
  · rw [if_neg hg] at hn ⊢
    subst hn
    refine ⟨us 0, ?_, hr 0 (by omega)⟩
    have h0 := hc 0 (by omega)
    have ha : ad.add 0 = ad := by simp [Addr.add]
    rw [ha] at h0
    simp [loadVar, run_agg c.w hne, hg, h0]

theorem load_ok {P : Program} {t : TypeId} {H : Heap} {x p : PV} {ok : Prop} {c : Cx} {v : Value} (hp : HeapOk c H) (h : loadP (td P t) H x = some (ok, p)) (ho : ok) (hv : Rel c v x) :
    ∃ u, (Instr.loadAt t v).run P c.w = .ok u c.w ∧ Rel c u p := by
  cases hv with
  | ad i off hi =>
    simp only [loadP] at h
    split at h
    · rename_i o hH
      split at h
      · rename_i hk
        have hob := hp.blk i o hH
        have key : ∀ n, off + n ≤ o.cells.length → n = (if (td P t).k.agg then (td P t).size else 1) →
            ∃ v, (loadVar t ⟨(c.β i).1, off, none⟩).run P c.w = .ok v c.w ∧ Rel c v (if (td P t).k.agg then .ag ((o.cells.drop off).take (td P t).size) else (o.cells.drop off).getD 0 .dead) := by
          intro n hn he
          have hcell : ∀ j, j < n → ∃ u, c.w.cell? ((⟨(c.β i).1, off, none⟩ : Addr).add j) = some u ∧ Rel c u ((o.cells.drop off).getD j .dead) := fun j hj => by
            obtain ⟨u, h1, _, h3⟩ := hob.cell (j := off + j) (by omega)
            exact ⟨u, by rw [addr_add]; exact h1, by rw [getD_drop]; exact h3⟩
          refine loadVar_ok (us := fun j => (c.w.cell? ((⟨(c.β i).1, off, none⟩ : Addr).add j)).getD undef) hk (fun j hj => ?_) (fun j hj => ?_) he (by simp; omega)
          · obtain ⟨u, h1, _⟩ := hcell j hj; rw [h1]; rfl
          · obtain ⟨u, h1, h2⟩ := hcell j hj; rw [h1]; exact h2
        split at h
        · rename_i hg
          cases h
          obtain ⟨u, h1, h2⟩ := key _ ho (by rw [if_pos hg])
          rw [if_pos hg] at h2
          exact ⟨u, by simpa [Instr.loadAt, Instr.sureAddr] using h1, h2⟩
        · rename_i hg
          cases h
          obtain ⟨u, h1, h2⟩ := key 1 ho (by rw [if_neg hg])
          rw [if_neg hg, getD_drop] at h2
          exact ⟨u, by simpa [Instr.loadAt, Instr.sureAddr] using h1, h2⟩
      · cases h
    · cases h
  | ip ad cells us hS hc hr =>
    simp only [loadP] at h
    split at h
    · rename_i hk
      split at h
      · rename_i hg
        cases h
        obtain ⟨u, h1, h2⟩ := loadVar_ok (P := P) (t := t) (us := us) (n := (td P t).size) (cells := cells) hk (fun j hj => (hc j (Nat.lt_of_lt_of_le hj ho)).1) (fun j hj => (hr j (Nat.lt_of_lt_of_le hj ho)).up) (by rw [if_pos hg]) ho
        rw [if_pos hg] at h2
        exact ⟨u, by simpa [Instr.loadAt, Instr.sureAddr] using h1, h2⟩
      · rename_i hg
        cases h
        obtain ⟨u, h1, h2⟩ := loadVar_ok (P := P) (t := t) (us := us) (n := 1) (cells := cells) hk (fun j hj => (hc j (Nat.lt_of_lt_of_le hj ho)).1) (fun j hj => (hr j (Nat.lt_of_lt_of_le hj ho)).up) (by rw [if_neg hg]) ho
        rw [if_neg hg] at h2
        exact ⟨u, by simpa [Instr.loadAt, Instr.sureAddr] using h1, h2⟩
    · cases h
  | _ => simp [loadP] at h

/-! ### store -/
def over (cells : List PV) (off : Nat) (news : List PV) : List PV := cells.take off ++ news ++ cells.drop (off + news.length)

def storeP (d : TD) (H : Heap) : PV → PV → Option (Prop × Heap)
  | .ad i off, v => match H[i]? with
    | some (some o) => if d.ok then some ((cellsP v).all oneB = true ∧ (cellsP v).length = d.size ∧ off + (cellsP v).length ≤ o.cells.length, H.set i (some { o with cells := over o.cells off (cellsP v) })) else none
    | _ => none
  | _, _ => none

theorem getD_over {cells news : List PV} {off j : Nat} (h : off + news.length ≤ cells.length) : (over cells off news).getD j .dead = if off ≤ j ∧ j < off + news.length then news.getD (j - off) .dead else cells.getD j .dead := by
  unfold over
  simp only [List.getD_eq_getElem?_getD, List.getElem?_append, List.length_append, List.length_take, List.getElem?_take, List.getElem?_drop]
  rw [Nat.min_eq_left (by omega)]
  by_cases h1 : j < off
  · simp [h1, show j < off + news.length by omega, show ¬ off ≤ j by omega]
  · by_cases h2 : j < off + news.length
    · simp [h1, h2, show off ≤ j by omega]
    · simp only [h1, h2, show ¬ (off ≤ j ∧ j < off + news.length) by omega, if_false]
      rw [show off + news.length + (j - (off + news.length)) = j by omega]
      simp

theorem length_over {cells news : List PV} {off : Nat} (h : off + news.length ≤ cells.length) : (over cells off news).length = cells.length := by simp [over]; omega

/-- Some cells of an object are written. -/
theorem SimC.write {m : Amb} {N : Nat} {env : Env} {H : Heap} {a : Act} {c : Cx} (s : SimC m N env H a c) {P : Program} {i off : Nat} {o : GObj} (hH : H[i]? = some (some o)) {vs : List Value} {ps : List PV}
    (hv : RelL c vs ps) (h1 : ∀ u ∈ vs, u.oneCell' = true) (hl : off + ps.length ≤ o.cells.length) :
    ∃ cur, (storeCells ⟨(c.β i).1, off, none⟩ vs).run P c.w = .ok () (c.w.setRow (c.β i).1 cur) ∧ SimC m N env (H.set i (some { o with cells := over o.cells off ps })) a (c.row (c.β i).1 cur) := by
  obtain ⟨cur, hb, hlc, h2, h3, hr⟩ := s.hp.blk i o hH
  have hlen : vs.length = ps.length := hv.1
  have hst := run_storeCells_at P (c.β i).1 off o.ty vs 0 cur c.w hb (by omega) h1
  simp only [Nat.add_zero] at hst
  refine ⟨_, hst, s.row hH _ rfl ?_ ?_ ?_ ?_⟩
  · simp [length_over hl]; omega
  · intro hs
    obtain ⟨e1, e2⟩ := h2 hs
    exact ⟨by simp; omega, e2⟩
  · intro hs
    have := h3 hs
    simp [length_over hl]; omega
  · intro j hj
    simp only [length_over hl] at hj
    have hg : (cur.toList.take off ++ vs ++ cur.toList.drop (off + vs.length)).toArray.getD j undef = if off ≤ j ∧ j < off + ps.length then vs.getD (j - off) undef else cur.getD j undef := by
      simp only [Array.getD_eq_getD_getElem?, List.getElem?_toArray, List.getD_eq_getElem?_getD, List.getElem?_append, List.length_append, List.length_take, List.getElem?_take, List.getElem?_drop, Array.length_toList, Array.getElem?_toList]
      rw [Nat.min_eq_left (by omega)]
      by_cases k1 : j < off
      · simp [k1, show j < off + vs.length by omega, show ¬ off ≤ j by omega]
      · by_cases k2 : j < off + ps.length
        · simp [k1, k2, show j < off + vs.length by omega, show off ≤ j by omega]
        · simp only [k1, show ¬ j < off + vs.length by omega, show ¬ (off ≤ j ∧ j < off + ps.length) by omega, if_false]
          congr 2
          omega
    rw [hg]
    simp only
    rw [getD_over hl]
    by_cases k : off ≤ j ∧ j < off + ps.length
    · rw [if_pos k, if_pos k]
      refine ⟨?_, hv.2 _ (by omega)⟩
      rw [List.getD_eq_getElem?_getD, List.getElem?_eq_getElem (by omega)]
      exact h1 _ (List.getElem_mem _)
    · rw [if_neg k, if_neg k]
      exact hr j hj

theorem store_ok {P : Program} {t : TypeId} {H H' : Heap} {x y : PV} {ok : Prop} {m : Amb} {N : Nat} {env : Env} {a : Act} {c : Cx} {v u : Value} (s : SimC m N env H a c)
    (h : storeP (td P t) H x y = some (ok, H')) (ho : ok) (hv : Rel c v x) (hu : Rel c u y) :
    ∃ c', (Instr.storeAt t v u).run P c.w = .ok () c'.w ∧ SimC m N env H' a c' := by
  cases hv with
  | ad i off hi =>
    simp only [storeP] at h
    split at h
    · rename_i o hH
      split at h
      · rename_i hk
        cases h
        obtain ⟨ho1, ho2, ho3⟩ := ho
        obtain ⟨hcs, hone⟩ := hu.cells ho1
        obtain ⟨cur, hr, hs⟩ := s.write (P := P) hH hcs hone ho3
        refine ⟨_, ?_, hs⟩
        have hsz : u.cells.size = (td P t).size := by have := hcs.1; simp at this; omega
        simp [Instr.storeAt, Instr.sureAddr, storeVar, run_size c.w hk, hsz, hr, Cx.row]
      · cases h
    · cases h
  | _ => simp [storeP] at h

/-! ### new memory -/
theorem getD_toArray (l : List Value) (j : Nat) : l.toArray.getD j undef = l.getD j undef := by simp [Array.getD_eq_getD_getElem?, List.getD_eq_getElem?_getD]

theorem SimC.newRow {m : Amb} {N : Nat} {env : Env} {H : Heap} {a : Act} {c : Cx} (s : SimC m N env H a c) (P : Program) {vs : List Value} {ps : List PV} (hv : RelL c vs ps) (h1 : ∀ u ∈ vs, u.oneCell' = true)
    (o : GObj) (ho : o.cells = ps) (cap : Nat) (h2 : o.sl = true → ps.length = cap * o.sz ∧ cap ≤ maxLen ∧ 0 < o.sz) :
    (newRow o.ty vs.toArray).run P c.w = .ok ⟨c.w.heap.size, 0, none⟩ (c.alloc vs.toArray o.ty cap).w ∧ SimC m N env (H ++ [some o]) a (c.alloc vs.toArray o.ty cap) ∧
      (c.alloc vs.toArray o.ty cap).β H.length = (c.w.heap.size, cap) ∧ H.length < (c.alloc vs.toArray o.ty cap).n := by
  have hl : vs.length = ps.length := hv.1
  refine ⟨rfl, s.alloc _ cap o (by simp [ho, hl]) (fun hs => by simp only [List.size_toArray, hl]; exact h2 hs) (fun hs => by simp [ho, hl]) (fun j hj => ?_), by simp [Cx.alloc, s.hp.n], by simp [Cx.alloc, s.hp.n]⟩
  rw [ho] at hj ⊢
  rw [getD_toArray]
  refine ⟨?_, hv.2 j hj⟩
  rw [List.getD_eq_getElem?_getD, List.getElem?_eq_getElem (by omega)]
  exact h1 _ (List.getElem_mem _)

theorem relL_sc (c : Cx) (l : List Value) : RelL c l (l.map PV.sc) := ⟨by simp, fun j hj => by
  simp at hj
  simp [List.getD_eq_getElem?_getD, hj, Rel.sc]⟩

/-- A new variable, at its zero value. -/
def allocP (d : TD) (t : TypeId) (H : Heap) : Option (Prop × PV × Heap) :=
  if d.hz then some (d.zero.all Value.oneCell' = true, .ad H.length 0, H ++ [some ⟨t, false, 1, d.zero.map .sc⟩]) else none

theorem alloc_ok {P : Program} {t : TypeId} {H H' : Heap} {p : PV} {ok : Prop} {m : Amb} {N : Nat} {env : Env} {a : Act} {c : Cx} (s : SimC m N env H a c)
    (h : allocP (td P t) t H = some (ok, p, H')) (ho : ok) : ∃ v c', (Instr.alloc t true (.tuple #[])).run P c.w = .ok v c'.w ∧ Rel c' v p ∧ SimC m N env H' a c' := by
  unfold allocP at h
  split at h
  · rename_i hz
    cases h
    obtain ⟨z, hr, hzz⟩ := run_zero (P := P) c.w hz
    obtain ⟨h1, h2, h3, h4⟩ := s.newRow P (relL_sc c z.cells.toList) (fun u hu => by
      rw [hzz] at hu
      exact List.all_eq_true.1 ho u hu) ⟨t, false, 1, z.cells.toList.map .sc⟩ rfl 0 (fun h => by cases h)
    rw [hzz] at h2
    refine ⟨.pointer (some ⟨c.w.heap.size, 0, none⟩), _, ?_, ?_, h2⟩
    · simp [Instr.alloc, hr, newVar, h1, hzz]
    · have := Rel.ad (c := c.alloc (td P t).zero.toArray t 0) H.length 0 (by rw [← hzz]; exact h4)
      rwa [← hzz, h3, hzz] at this
  · cases h

/-- A new variable that holds a value. -/
def boxP (t : TypeId) (x : PV) (H : Heap) : Option (Prop × PV × Heap) := some ((cellsP x).all oneB = true, .ad H.length 0, H ++ [some ⟨t, false, 1, cellsP x⟩])

theorem box_ok {P : Program} {t : TypeId} {H H' : Heap} {x p : PV} {ok : Prop} {m : Amb} {N : Nat} {env : Env} {a : Act} {c : Cx} {v : Value} (s : SimC m N env H a c)
    (h : boxP t x H = some (ok, p, H')) (ho : ok) (hv : Rel c v x) : ∃ u c', (Instr.box t v).run P c.w = .ok u c'.w ∧ Rel c' u p ∧ SimC m N env H' a c' := by
  cases h
  obtain ⟨hcs, hone⟩ := hv.cells ho
  obtain ⟨h1, h2, h3, h4⟩ := s.newRow P hcs hone ⟨t, false, 1, cellsP x⟩ rfl 0 (fun h => by cases h)
  refine ⟨.pointer (some ⟨c.w.heap.size, 0, none⟩), _, ?_, ?_, h2⟩
  · simp only [Array.toArray_toList] at h1
    simp [Instr.box, newVar, h1]
  · have := Rel.ad (c := c.alloc v.cells.toList.toArray t 0) H.length 0 h4
    rwa [h3] at this

end Go.Proofs.Ytbbjmfkmjjinnaa.V
