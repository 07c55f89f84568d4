/- The logic's append, copy, len, min, max. No law of the program is proved here. -/
import Derived.Test.YtbbjmfkmjjinnaaV7
set_option linter.all false
namespace Go.Proofs.Ytbbjmfkmjjinnaa.V
open Go

def srcP (sz : Nat) (H : Heap) : PV → Option (Prop × Nat × List PV)
  | .id j m => match H[j]? with
    | some (some o) => some (m * sz ≤ o.cells.length, m, o.cells.take (m * sz))
    | _ => none
  | .ix j off m => match H[j]? with
    | some (some o) => some (off + m * sz ≤ o.cells.length, m, (o.cells.drop off).take (m * sz))
    | _ => none
  | .im _ m cells => some (cells.length = m * sz, m, cells)
  | .sc (.slice none 0 0) => some (True, 0, [])
  | _ => none

theorem src_ok {c : Cx} {H : Heap} {sz m : Nat} {x : PV} {cells : List PV} {ok : Prop} {v : Value} (hp : HeapOk c H) (h : srcP sz H x = some (ok, m, cells)) (ho : ok) (hv : Rel c v x) :
    ∃ A k, v = .slice A m k ∧ ∃ news : List Value, RelL c news cells ∧ (∀ u ∈ news, u.oneCell' = true) ∧ news.length = m * sz ∧ (0 < m → ∃ ad, A = some ad ∧ ∀ j u, news[j]? = some u → c.w.cell? (ad.add j) = some u) := by
  unfold srcP at h
  split at h
  · rename_i j m'
    split at h
    · rename_i o hH
      cases h
      cases hv with
      | id _ _ hi hl =>
        refine ⟨_, _, rfl, ?_⟩
        obtain ⟨cur, hb, hle, h2, h3, hr⟩ := hp.blk j o hH
        have hlen : m * sz ≤ cur.size := by omega
        refine ⟨cur.toList.take (m * sz), ⟨by simp; omega, fun k hk => ?_⟩, fun u hu => ?_, by simp; omega, fun _ => ⟨_, rfl, fun k u hu => ?_⟩⟩
        · simp at hk
          have hk1 : k < m * sz := by omega
          rw [getD_take hk1, getD_take hk1]
          have := (hr k (by omega)).2
          simpa [Array.getD_eq_getD_getElem?, List.getD_eq_getElem?_getD] using this
        · obtain ⟨k, hk, rfl⟩ := List.mem_iff_getElem.1 hu
          simp at hk
          have := (hr k (by omega)).1
          rw [Array.getD_eq_getD_getElem?, Array.getElem?_eq_getElem (by omega)] at this
          simpa using this
        · rw [List.getElem?_take] at hu
          split at hu
          · rw [addr_add]
            simp only [World.cell?, hb, Nat.zero_add]
            simpa using hu
          · cases hu
    · cases h
  · rename_i j off m'
    split at h
    · rename_i o hH
      cases h
      cases hv with
      | ix A _ _ _ cap hi hl hA hs =>
        refine ⟨_, _, rfl, ?_⟩
        obtain ⟨cur, hb, hle, h2, h3, hr⟩ := hp.blk j o hH
        have hlen : off + m * sz ≤ cur.size := by omega
        refine ⟨(cur.toList.drop off).take (m * sz), ⟨by simp; omega, fun k hk => ?_⟩, fun u hu => ?_, by simp; omega, fun hm => ⟨_, hA hm, fun k u hu => ?_⟩⟩
        · simp at hk
          have hk1 : k < m * sz := by omega
          rw [getD_take hk1, getD_take hk1, getD_drop]
          have := (hr (off + k) (by omega)).2
          simpa [Array.getD_eq_getD_getElem?, List.getD_eq_getElem?_getD] using this
        · obtain ⟨k, hk, rfl⟩ := List.mem_iff_getElem.1 hu
          simp at hk
          have := (hr (off + k) (by omega)).1
          rw [Array.getD_eq_getD_getElem?, Array.getElem?_eq_getElem (by omega)] at this
          simpa using this
        · rw [List.getElem?_take] at hu
          split at hu
          · rw [addr_add]
            simp only [World.cell?, hb]
            simpa using hu
          · cases hu
    · cases h
  · rename_i nz m' cells'
    cases h
    cases hv with
    | im A ad _ cap _ _ us hA hz hl h0 hc hr =>
      refine ⟨_, _, rfl, (List.range cells.length).map us, ⟨by simp, fun k hk => ?_⟩, fun u hu => ?_, by simpa using ho, fun hm => ⟨ad, (hA hm).1, fun k u hu => ?_⟩⟩
      · have := (hr k hk).up
        simpa [List.getD_eq_getElem?_getD, hk] using this
      · simp only [List.mem_map, List.mem_range] at hu
        obtain ⟨k, hk, rfl⟩ := hu
        exact (hc k hk).2
      · rw [List.getElem?_map] at hu
        by_cases hk : k < cells.length
        · rw [List.getElem?_range hk] at hu
          cases hu
          exact (hc k hk).1
        · rw [List.getElem?_eq_none (by simp; omega)] at hu; cases hu
  · cases h
    cases hv
    exact ⟨_, _, rfl, [], ⟨rfl, fun j hj => by simp at hj⟩, fun u hu => by simp at hu, by simp, fun h => by omega⟩
  · cases h

theorem run_append_zero {P : Program} (w : World) (t ty e : TypeId) (ht : P.underlying t = some (.slice e)) (hs : (td P e).ok = true) (b : Addr) (n cap : Nat) (A : Option Addr) (k : Nat) (hn : n ≤ cap) :
    (Builtin.append_ #[t, t] ty #[.slice (some b) n cap, .slice A 0 k]).run P w = .ok (.slice (some b) n cap) w := by
  have hsz := run_size (P := P) w hs
  cases A with
  | none => simp [Builtin.append_, run_underlying ht, hsz, Builtin.lenOf, hn, Builtin.firstCells, storeCells]
  | some a => simp [Builtin.append_, run_underlying ht, hsz, Builtin.lenOf, hn, Builtin.firstCells, storeCells, loadCells, loadCellsFrom]

def appendP (P : Program) (t u : TypeId) (x y : PV) (H : Heap) : Option (Prop × PV × Heap) :=
  match (td P t).k with
  | .slice e => if t = u && (td P e).ok && (td P e).hz && (td P e).zero.length == (td P e).size && decide (0 < (td P e).size) then
      match srcP (td P e).size H y with
      | some (ok, m, cells) => match x with
        | .sc (.slice none 0 0) => match y with
          | .sc (.slice none 0 0) => some (ok, .sc (.slice none 0 0), H)
          | _ => some (ok ∧ 0 < m ∧ m ≤ 9223372036854775807 ∧ m * (td P e).bytes ≤ 140737488355328, .id H.length m, H ++ [some ⟨e, true, (td P e).size, cells⟩])
        | .id i n => match H[i]? with
          | some (some o) => if o.ty = e ∧ o.sl = true ∧ o.sz = (td P e).size then
              some (ok ∧ n * (td P e).size ≤ o.cells.length ∧ n + m ≤ 9223372036854775807 ∧ (n + m) * (td P e).bytes ≤ 140737488355328, .id H.length (n + m), H.set i none ++ [some ⟨e, true, (td P e).size, o.cells.take (n * (td P e).size) ++ cells⟩])
            else none
          | _ => none
        | _ => none
      | none => none
    else none
  | _ => none

theorem relL_append {c : Cx} {l l' : List Value} {ps ps' : List PV} (h : RelL c l ps) (k : RelL c l' ps') : RelL c (l ++ l') (ps ++ ps') := by
  have e1 := h.1
  refine ⟨by simp [h.1, k.1], fun j hj => ?_⟩
  simp only [List.getD_eq_getElem?_getD, List.getElem?_append]
  by_cases hl : j < ps.length
  · rw [if_pos (by omega), if_pos hl]
    have := h.2 j hl
    simpa [List.getD_eq_getElem?_getD] using this
  · rw [if_neg (by omega), if_neg hl]
    simp at hj
    have := k.2 (j - ps.length) (by omega)
    rw [e1]
    simpa [List.getD_eq_getElem?_getD] using this

/-- A new block whose first cells are told. -/
theorem SimC.newRow' {m : Amb} {N : Nat} {env : Env} {H : Heap} {a : Act} {c : Cx} (s : SimC m N env H a c) {vs rest : List Value} {ps : List PV} (hv : RelL c vs ps) (h1 : ∀ u ∈ vs, u.oneCell' = true) (cur : Array Value) (hcur : cur.toList = vs ++ rest)
    (o : GObj) (ho : o.cells = ps) (cap : Nat) (hs : o.sl = true) (h2 : cur.size = cap * o.sz ∧ cap ≤ maxLen ∧ 0 < o.sz) : SimC m N env (H ++ [some o]) a (c.alloc cur o.ty cap) ∧
      (c.alloc cur o.ty cap).β H.length = (c.w.heap.size, cap) ∧ H.length < (c.alloc cur o.ty cap).n := by
  have hl : vs.length = ps.length := hv.1
  have hsz : vs.length + rest.length = cur.size := by have := congrArg List.length hcur; simp at this; omega
  refine ⟨s.alloc _ cap o (by rw [ho]; omega) (fun _ => h2) (fun h => by rw [hs] at h; cases h) (fun j hj => ?_), by simp [Cx.alloc, s.hp.n], by simp [Cx.alloc, s.hp.n]⟩
  rw [ho] at hj ⊢
  have hg : cur.getD j undef = vs.getD j undef := by
    rw [Array.getD_eq_getD_getElem?, ← Array.getElem?_toList, hcur, List.getElem?_append_left (by omega), List.getD_eq_getElem?_getD]
  rw [hg]
  refine ⟨?_, hv.2 j hj⟩
  rw [List.getD_eq_getElem?_getD, List.getElem?_eq_getElem (by omega)]
  exact h1 _ (List.getElem_mem _)

theorem append_ok {P : Program} {t u ty : TypeId} {x y p : PV} {ok : Prop} {H H' : Heap} {m : Amb} {N : Nat} {env : Env} {a : Act} {c : Cx} {v z : Value} (s : SimC m N env H a c)
    (h : appendP P t u x y H = some (ok, p, H')) (ho : ok) (hx : Rel c v x) (hy : Rel c z y) : ∃ r c', (Builtin.append_ #[t, u] ty #[v, z]).run P c.w = .ok r c'.w ∧ Rel c' r p ∧ SimC m N env H' a c' := by
  unfold appendP at h
  split at h
  · rename_i e hk
    have hund := und_slice hk
    split at h
    · rename_i hs
      simp only [Bool.and_eq_true, beq_iff_eq, decide_eq_true_eq] at hs
      obtain ⟨⟨⟨⟨rfl, hs1⟩, hs2⟩, hs3⟩, hs4⟩ := hs
      obtain ⟨i, hi, hsz, hby, hhz, hzz, _⟩ := td_info hs1
      rw [hhz] at hs2
      obtain ⟨z0, hz0⟩ := Option.isSome_iff_exists.1 hs2
      have hz2 : z0.cells.toList = (td P e).zero := by rw [hzz, hz0]; rfl
      have hz3 : z0.cells.size = (td P e).size := by rw [← hs3, ← hz2]; simp
      split at h
      · rename_i oks mm cells hsrc
        split at h
        · -- nil
          cases hx
          split at h
          · cases h
            cases hy
            refine ⟨.slice none 0 0, c, ?_, .sc _, s⟩
            simp [Builtin.append_, run_underlying hund, run_size c.w hs1, Builtin.lenOf, Builtin.firstCells]
          · cases h
            obtain ⟨o1, o2, o3, o4⟩ := ho
            obtain ⟨A, k, rfl, news, hn1, hn2, hn3, hn4⟩ := src_ok s.hp hsrc o1 hy
            obtain ⟨ad, rfl, hcell⟩ := hn4 o2
            have hrun := run_append_nil (P := P) c.w t ty e i z0 hund hi hz0 ad mm k news (by rw [hn3, hsz]) hcell o2 (by omega) (by rw [← hby]; omega)
            have hgc := grownCap_ge c.w mm 0 e
            have hgm := grownCap_le_maxLen c.w mm 0 e (by simp only [maxLen]; omega)
            have sd := s.drew (c.w.drawn + 1)
            obtain ⟨n2, n3, n4⟩ := sd.newRow' (vs := news) (rest := (Builtin.zeroCells z0.cells (grownCap c.w mm 0 e - mm)).toList) (ps := cells) (hn1.mono (.drew c _)) hn2 (news.toArray ++ Builtin.zeroCells z0.cells (grownCap c.w mm 0 e - mm)) (by simp)
              ⟨e, true, (td P e).size, cells⟩ rfl (grownCap c.w mm 0 e) rfl ⟨by simp only [Array.size_append, List.size_toArray, size_zeroCells, hz3, hn3]; rw [← Nat.add_mul]; congr 1; omega, hgm, hs4⟩
            refine ⟨_, _, hrun, ?_, n2⟩
            have := Rel.id (c := Cx.alloc { c with w := { c.w with drawn := c.w.drawn + 1 } } (news.toArray ++ Builtin.zeroCells z0.cells (grownCap c.w mm 0 e - mm)) e (grownCap c.w mm 0 e)) H.length mm n4 (by rw [n3]; exact hgc)
            rwa [n3] at this
        · rename_i ii n
          split at h
          · rename_i o hH
            split at h
            · rename_i hobj
              obtain ⟨t1, t2, t3⟩ := hobj
              cases h
              obtain ⟨o1, o2, o3, o4⟩ := ho
              obtain ⟨A, k, rfl, news, hn1, hn2, hn3, hn4⟩ := src_ok s.hp hsrc o1 hy
              cases hx with
              | id _ _ hii hcap =>
                obtain ⟨cur, hb, hle, g2, g3, hr⟩ := s.hp.blk ii o hH
                obtain ⟨c1, c2, c3⟩ := g2 t2
                have hcs : cur.size = (c.β ii).2 * (td P e).size := by rw [c1, t3]
                have holdR : RelL c (cur.toList.take (n * (td P e).size)) (o.cells.take (n * (td P e).size)) := ⟨by simp; omega, fun j hj => by
                  simp at hj
                  have hj1 : j < n * (td P e).size := by omega
                  rw [getD_take hj1, getD_take hj1]
                  have := (hr j (by omega)).2
                  simpa [Array.getD_eq_getD_getElem?, List.getD_eq_getElem?_getD] using this⟩
                have hold1 : ∀ u ∈ cur.toList.take (n * (td P e).size), u.oneCell' = true := fun u hu => by
                  obtain ⟨j, hj, rfl⟩ := List.mem_iff_getElem.1 hu
                  simp at hj
                  have := (hr j (by omega)).1
                  rw [Array.getD_eq_getD_getElem?, Array.getElem?_eq_getElem (by omega)] at this
                  simpa using this
                have hall := relL_append holdR hn1
                have hall1 : ∀ u ∈ cur.toList.take (n * (td P e).size) ++ news, u.oneCell' = true := fun u hu => by
                  rcases List.mem_append.1 hu with h | h
                  · exact hold1 u h
                  · exact hn2 u h
                have hlenall : (cur.toList.take (n * (td P e).size) ++ news).length = (n + mm) * (td P e).size := by rw [List.length_append, hn3, List.length_take, Array.length_toList, Nat.min_eq_left (by omega), ← Nat.add_mul]
                by_cases hroom : n + mm ≤ (c.β ii).2
                · -- there is room
                  have hfit : n * (td P e).size + news.length ≤ cur.size := by rw [hn3, hcs, ← Nat.add_mul]; exact Nat.mul_le_mul_right _ hroom
                  have hrun : (Builtin.append_ #[t, t] ty #[.slice (some ⟨(c.β ii).1, 0, none⟩) n (c.β ii).2, .slice A mm k]).run P c.w = .ok (.slice (some ⟨(c.β ii).1, 0, none⟩) (n + mm) (c.β ii).2)
                      (c.w.setRow (c.β ii).1 (cur.toList.take (n * (td P e).size) ++ news ++ cur.toList.drop (n * (td P e).size + news.length)).toArray) := by
                    rcases Nat.eq_zero_or_pos mm with h0 | h0
                    · subst h0
                      have : news = [] := List.eq_nil_of_length_eq_zero (by rw [hn3]; simp)
                      subst this
                      rw [run_append_zero c.w t ty e hund hs1 _ n _ A k (by omega)]
                      simp only [List.append_nil, List.length_nil, Nat.add_zero, List.take_append_drop, Array.toArray_toList]
                      rw [setRow_self c.w _ cur o.ty (0, 0) hb]
                    · obtain ⟨ad, rfl, hcell⟩ := hn4 h0
                      have := run_append_room (P := P) c.w t ty e i hund hi (c.β ii).1 n (c.β ii).2 cur (by rw [← t1]; exact hb) ad mm k news (by rw [hn3, hsz]) hcell hn2 hroom (by rw [← hsz]; exact hfit)
                      rw [← hsz] at this
                      exact this
                  have sa := s.anew hH (o' := ⟨e, true, (td P e).size, o.cells.take (n * (td P e).size) ++ cells⟩) (cur.toList.take (n * (td P e).size) ++ news ++ cur.toList.drop (n * (td P e).size + news.length)).toArray t1.symm
                    (by have := hall.1; simp only [List.size_toArray, List.length_append] at this ⊢; omega) (fun _ => ⟨by simp only [List.size_toArray, List.length_append, List.length_take, List.length_drop, Array.length_toList]; omega, c2, hs4⟩) (fun h => by cases h)
                    (fun j hj => by
                      simp only at hj
                      rw [getD_toArray]
                      have hjl : j < (cur.toList.take (n * (td P e).size) ++ news).length := by rw [hall.1]; exact hj
                      rw [List.getD_eq_getElem?_getD, List.getElem?_append_left hjl, ← List.getD_eq_getElem?_getD]
                      refine ⟨?_, hall.2 j hj⟩
                      rw [List.getD_eq_getElem?_getD, List.getElem?_eq_getElem hjl]
                      exact hall1 _ (List.getElem_mem _))
                  refine ⟨_, _, hrun, ?_, sa⟩
                  have hN : (c.anew ii (cur.toList.take (n * (td P e).size) ++ news ++ cur.toList.drop (n * (td P e).size + news.length)).toArray).β H.length = c.β ii := by simp [Cx.anew, s.hp.n]
                  have := Rel.id (c := c.anew ii (cur.toList.take (n * (td P e).size) ++ news ++ cur.toList.drop (n * (td P e).size + news.length)).toArray) H.length (n + mm) (by simp [Cx.anew, s.hp.n]) (by rw [hN]; exact hroom)
                  rwa [hN] at this
                · -- there is none
                  have hm0 : 0 < mm := by omega
                  obtain ⟨ad, rfl, hcell⟩ := hn4 hm0
                  have hrun := run_append_grow (P := P) c.w t ty e i z0 hund hi hz0 ⟨(c.β ii).1, 0, none⟩ n (c.β ii).2 (cur.toList.take (n * (td P e).size)) (by rw [← hsz]; simp; omega) (fun j u hu => by
                      rw [List.getElem?_take] at hu
                      split at hu
                      · rw [addr_add]
                        simp only [World.cell?, hb, Nat.zero_add]
                        simpa using hu
                      · cases hu) ad mm k news (by rw [hn3, hsz]) hcell (by omega) (by omega) (growslice_fits (by omega) (by rw [← hby]; exact o4))
                  have hgc := grownCap_ge c.w (n + mm) (c.β ii).2 e
                  have hgm := grownCap_le_maxLen c.w (n + mm) (c.β ii).2 e (by simp only [maxLen]; omega)
                  have sd := (s.kill ii).drew (c.w.drawn + 1)
                  obtain ⟨n2, n3, n4⟩ := sd.newRow' (vs := cur.toList.take (n * (td P e).size) ++ news) (rest := (Builtin.zeroCells z0.cells (grownCap c.w (n + mm) (c.β ii).2 e - (n + mm))).toList) (ps := o.cells.take (n * (td P e).size) ++ cells) (hall.mono (.drew c _)) hall1
                    ((cur.toList.take (n * (td P e).size)).toArray ++ news.toArray ++ Builtin.zeroCells z0.cells (grownCap c.w (n + mm) (c.β ii).2 e - (n + mm))) (by simp)
                    ⟨e, true, (td P e).size, o.cells.take (n * (td P e).size) ++ cells⟩ rfl (grownCap c.w (n + mm) (c.β ii).2 e) rfl
                    ⟨by
                      simp only [Array.size_append, List.size_toArray, size_zeroCells, hz3]
                      rw [← List.length_append, hlenall, ← Nat.add_mul]
                      congr 1; omega, hgm, hs4⟩
                  refine ⟨_, _, hrun, ?_, n2⟩
                  simp only [List.length_set] at n3 n4
                  have := Rel.id (c := Cx.alloc { c with w := { c.w with drawn := c.w.drawn + 1 } } ((cur.toList.take (n * (td P e).size)).toArray ++ news.toArray ++ Builtin.zeroCells z0.cells (grownCap c.w (n + mm) (c.β ii).2 e - (n + mm))) e (grownCap c.w (n + mm) (c.β ii).2 e)) H.length (n + mm) n4 (by rw [n3]; exact hgc)
                  rwa [n3] at this
            · cases h
          · cases h
        · cases h
      · cases h
    · cases h
  · cases h

/-! ### copy -/
def copyP (P : Program) (t : TypeId) (x y : PV) (H : Heap) : Option (Prop × PV × Heap) :=
  match (td P t).k, x with
  | .slice e, .id i n => match H[i]? with
    | some (some o) => if (td P e).ok && (td P e).size == 1 then match srcP 1 H y with
      | some (ok, m, cells) => some (ok ∧ n ≤ o.cells.length, .sc (.int .i64 (Nat.min m n : Nat)), H.set i (some { o with cells := over o.cells 0 (cells.take (Nat.min m n)) }))
      | none => none
      else none
    | _ => none
  | _, _ => none

theorem copy_ok {P : Program} {t u ty : TypeId} {x y p : PV} {ok : Prop} {H H' : Heap} {m : Amb} {N : Nat} {env : Env} {a : Act} {c : Cx} {v z : Value} (s : SimC m N env H a c)
    (h : copyP P t x y H = some (ok, p, H')) (ho : ok) (hx : Rel c v x) (hy : Rel c z y) : ∃ r c', (Builtin.copy_ #[t, u] ty #[v, z]).run P c.w = .ok r c'.w ∧ Rel c' r p ∧ SimC m N env H' a c' := by
  unfold copyP at h
  split at h
  · rename_i e i n hk
    have hund := und_slice hk
    split at h
    · rename_i o hH
      split at h
      · rename_i hs
        simp only [Bool.and_eq_true, beq_iff_eq] at hs
        obtain ⟨hs1, hs2⟩ := hs
        split at h
        · rename_i oks mm cells hsrc
          cases h
          obtain ⟨o1, o2⟩ := ho
          obtain ⟨A, k, rfl, news, hn1, hn2, hn3, hn4⟩ := src_ok s.hp hsrc o1 hy
          rw [Nat.mul_one] at hn3
          cases hx with
          | id _ _ hi hl =>
            have hlen := hn1.1
            have hmin : (cells.take (Nat.min mm n)).length = Nat.min mm n := by
              rw [List.length_take]
              have : Nat.min mm n ≤ mm := Nat.min_le_left _ _
              omega
            have hR : RelL c (news.take (Nat.min mm n)) (cells.take (Nat.min mm n)) := ⟨by simp [hlen], fun j hj => by
              rw [hmin] at hj
              rw [getD_take hj, getD_take hj]
              have : Nat.min mm n ≤ mm := Nat.min_le_left _ _
              exact hn1.2 j (by omega)⟩
            have h1 : ∀ u ∈ news.take (Nat.min mm n), u.oneCell' = true := fun u hu => hn2 u (List.mem_of_mem_take hu)
            have hle : Nat.min mm n ≤ n := Nat.min_le_right _ _
            obtain ⟨cur, hr, sw⟩ := s.write (P := P) (off := 0) hH hR h1 (by rw [hmin]; omega)
            refine ⟨.int .i64 (Nat.min mm n : Nat), _, ?_, .sc _, sw⟩
            have hsz := run_size (P := P) c.w hs1
            rcases Nat.eq_zero_or_pos (Nat.min mm n) with h0 | h0
            · have hf : (Builtin.firstCells 1 0 (.slice A mm k)).run P c.w = .ok #[] c.w := by
                cases A with
                | none => simp [Builtin.firstCells]
                | some ad => simp [Builtin.firstCells, loadCells, loadCellsFrom]
              rw [h0, List.take_zero] at hr
              simp [Builtin.copy_, run_underlying hund, hsz, hs2, Builtin.lenOf, h0, hf, hr, Cx.row, goInt]
            · have hm0 : 0 < mm := by have : Nat.min mm n ≤ mm := Nat.min_le_left _ _; omega
              obtain ⟨ad, rfl, hcell⟩ := hn4 hm0
              have hf := run_firstCells_some (P := P) c.w 1 (Nat.min mm n) ad mm k (news.take (Nat.min mm n)) (by rw [hR.1, hmin]; omega) (fun j u hu => by
                rw [List.getElem?_take] at hu
                split at hu
                · exact hcell j u hu
                · cases hu)
              simp [Builtin.copy_, run_underlying hund, hsz, hs2, Builtin.lenOf, hf, hr, Cx.row, goInt]
        · cases h
      · cases h
    · cases h
  · cases h

/-! ### len, min, max -/
def lenP (k : TK) : PV → Option (Prop × PV)
  | .sc (.string s) => match k with
    | .str => some (True, .sc (.int .i64 (s.size : Nat)))
    | _ => none
  | .sc (.slice none 0 0) => match k with
    | .slice _ => some (True, .sc (.int .i64 0))
    | _ => none
  | .id _ n => match k with
    | .slice _ => some (True, .sc (.int .i64 (n : Nat)))
    | _ => none
  | .ix _ _ n => match k with
    | .slice _ => some (True, .sc (.int .i64 (n : Nat)))
    | _ => none
  | .im _ n _ => match k with
    | .slice _ => some (True, .sc (.int .i64 (n : Nat)))
    | _ => none
  | _ => none

theorem len_ok {P : Program} {t ty : TypeId} {x p : PV} {ok : Prop} {c : Cx} {v : Value} (h : lenP (td P t).k x = some (ok, p)) (hv : Rel c v x) : ∃ r, (Builtin.len_ #[t] ty #[v]).run P c.w = .ok r c.w ∧ Rel c r p := by
  unfold lenP at h
  split at h
  · cases hv
    split at h
    · rename_i hk
      cases h
      exact ⟨_, by simp [Builtin.len_, run_underlying (und_str hk), goInt], .sc _⟩
    · cases h
  · cases hv
    split at h
    · rename_i e hk
      cases h
      exact ⟨_, by simp [Builtin.len_, run_underlying (und_slice hk), goInt], .sc _⟩
    · cases h
  · split at h
    · rename_i e hk
      cases h
      cases hv
      exact ⟨_, by simp [Builtin.len_, run_underlying (und_slice hk), goInt], .sc _⟩
    · cases h
  · split at h
    · rename_i e hk
      cases h
      cases hv
      exact ⟨_, by simp [Builtin.len_, run_underlying (und_slice hk), goInt], .sc _⟩
    · cases h
  · split at h
    · rename_i e hk
      cases h
      cases hv
      exact ⟨_, by simp [Builtin.len_, run_underlying (und_slice hk), goInt], .sc _⟩
    · cases h
  · cases h

def minP : PV → PV → Option (Prop × PV)
  | .sc (.int k a), .sc (.int k' b) => if k = k' then some (True, .sc (.int k (if b < a then b else a))) else none
  | _, _ => none
def maxP : PV → PV → Option (Prop × PV)
  | .sc (.int k a), .sc (.int k' b) => if k = k' then some (True, .sc (.int k (if b > a then b else a))) else none
  | _, _ => none

theorem min_ok {P : Program} {ts : Array TypeId} {ty : TypeId} {x y p : PV} {ok : Prop} {c : Cx} {u v : Value} (h : minP x y = some (ok, p)) (hu : Rel c u x) (hv : Rel c v y) : ∃ r, (Builtin.min_ ts ty #[u, v]).run P c.w = .ok r c.w ∧ Rel c r p := by
  unfold minP at h
  split at h
  · cases hu; cases hv
    split at h
    · rename_i e; subst e; cases h
      exact ⟨_, by simp [Builtin.min_, Builtin.min2], .sc _⟩
    · cases h
  · cases h
theorem max_ok {P : Program} {ts : Array TypeId} {ty : TypeId} {x y p : PV} {ok : Prop} {c : Cx} {u v : Value} (h : maxP x y = some (ok, p)) (hu : Rel c u x) (hv : Rel c v y) : ∃ r, (Builtin.max_ ts ty #[u, v]).run P c.w = .ok r c.w ∧ Rel c r p := by
  unfold maxP at h
  split at h
  · cases hu; cases hv
    split at h
    · rename_i e; subst e; cases h
      exact ⟨_, by simp [Builtin.max_, Builtin.max2], .sc _⟩
    · cases h
  · cases h

end Go.Proofs.Ytbbjmfkmjjinnaa.V
