/- The logic's stretches whose order is drawn, where nothing floats: done as they stand. No law of the program is proved here. -/
import Derived.Test.YtbbjmfkmjjinnaaVM
set_option linter.all false
namespace Go.Proofs.Ytbbjmfkmjjinnaa.V
open Go

/-- No operation that changes the heap stands between. -/
def canB (arr : List Oper) (i j : Nat) : Bool := allB arr.length fun e => !(effAt arr e && ((Nat.ble j e && Nat.blt e i) || (Nat.ble i e && Nat.blt e j)))
def drawC (arr : List Oper) (zs : List Nat) : Bool := drawB arr zs && (admL arr zs).all fun x => canB arr x.1 x.2

section
variable {P : Program} {N n0 : Nat} {k : List KI} {Q : Env → Heap → Prop} {env : Env} {H : Heap} {arr : Array Oper} {env0 : Env} {H0 : Heap}

theorem Exec.by_looks {ds : List (Option Tmp)} {o : Oper} {env env' : Env} {H H' : Heap} {p : PV} (h : Exec P N n0 ds o env H p H') (he : ∀ t, t ∈ looks ds o → look env' t = look env t) : Exec P N n0 ds o env' H p H' :=
  fun m E a w K hm s hl hk => h m E a w K hm s (fun t ht => by rw [← he t ht]; exact hl t ht) hk

theorem admL_lt {i j : Nat} {a : List Oper} {zs : List Nat} (h : (i, j) ∈ admL a zs) : i < a.length ∧ j ≤ a.length ∧ heapAt a i = true := by
  simp only [admL, List.mem_flatMap, List.mem_range] at h
  obtain ⟨x, hx, h⟩ := h
  cases hh : heapAt a x with
  | false => simp [hh] at h
  | true =>
    simp only [hh, cond_true, List.mem_map, List.mem_filter, List.mem_range] at h
    obtain ⟨y, ⟨hy, _⟩, e⟩ := h
    cases e
    exact ⟨hx, by omega, hh⟩

theorem can_exec {S : List DS} {zs : List Nat} (d : DSn P N n0 arr.toList env0 H0 S [] env H) {i j : Nat} {d' : DS} (hij : (i, j) ∈ admL arr.toList zs) (hc : canB arr.toList i j = true) (hdi : S[i]? = some d') : Exec P N n0 (arr.toList.map (·.dst)) d'.o d'.env (hAt S H j) d'.p (hAt S H j) := by
  obtain ⟨d1, d2⟩ := d
  rw [List.append_nil] at d1
  obtain ⟨hi, hj, hh⟩ := admL_lt hij
  have hS : S.length = arr.toList.length := by rw [← d1]; simp
  obtain ⟨e, h1, h2, h3, h4, h5, h6⟩ := d2.at i d' hdi
  have heff : effB d'.o = false := by
    have : arr.toList[i]? = some d'.o := by rw [← d1]; simp [hdi]
    simp only [heapAt, this] at hh
    revert hh
    simp only [heapB, effB]
    cases d'.o.op <;> simp [quietB]
  have hH' := h3 heff
  have hget : ∀ k' d'', S[k']? = some d'' → effAt arr.toList k' = effB d''.o := fun k' d'' hk' => by
    have : arr.toList[k']? = some d''.o := by rw [← d1]; simp [hk']
    simp only [effAt, this]
  have hnone : ∀ k' d'', S[k']? = some d'' → ((j ≤ k' ∧ k' < i) ∨ (i ≤ k' ∧ k' < j)) → effB d''.o = false := fun k' d'' hk' hb => by
    have hk : k' < arr.toList.length := by
      have := (List.getElem?_eq_some_iff.1 hk').1
      omega
    have := allB_spec hc hk
    rw [hget k' d'' hk'] at this
    cases he : effB d''.o with
    | false => rfl
    | true =>
      rw [he] at this
      exfalso
      rcases hb with ⟨b1, b2⟩ | ⟨b1, b2⟩
      · have e1 : Nat.ble j k' = true := Nat.ble_eq ▸ b1
        have e2 : Nat.blt k' i = true := Nat.blt_eq ▸ b2
        simp [e1, e2] at this
      · have e1 : Nat.ble i k' = true := Nat.ble_eq ▸ b1
        have e2 : Nat.blt k' j = true := Nat.blt_eq ▸ b2
        simp [e1, e2] at this
  have hHi : hAt S H i = d'.H := by simp [hAt, hdi]
  have hHj : hAt S H j = d'.H := by
    rw [← hHi]
    rcases Nat.le_total i j with hl | hl
    · exact d2.hAt_eff i j hl (by omega) fun k' d'' a b c => hnone k' d'' c (.inr ⟨a, b⟩)
    · exact (d2.hAt_eff j i hl (by omega) fun k' d'' a b c => hnone k' d'' c (.inl ⟨a, b⟩)).symm
  rw [hHj]
  rw [hH'] at h2
  refine h2.by_looks fun t ht => ?_
  rw [h5, look_rst _ _ _ ht]

theorem DW_done0 {S : List DS} (zs : List Nat) (hd : drawC arr.toList zs = true) (h : W P N n0 k Q env H) : DW P N n0 k Q arr env0 H0 S [] env H := by
  simp only [drawC, Bool.and_eq_true] at hd
  intro d
  exact DW_doneX (S := S) zs hd.1 (fun i j d' hij hdi => can_exec d hij (List.all_eq_true.1 hd.2 (i, j) hij) hdi) h d

/-- What is left of a region whose order is drawn, where nothing floats. -/
def DX (P : Program) (N n0 : Nat) (k : List KI) (Q : Env → Heap → Prop) (arr : Array Oper) (env0 : Env) (H0 : Heap) (rest : List Oper) (env : Env) (H : Heap) : Prop := ∀ S, DW P N n0 k Q arr env0 H0 S rest env H

def evalX (P : Program) (N n0 : Nat) (k : List KI) (Q : Env → Heap → Prop) (arr : Array Oper) (env0 : Env) (H0 : Heap) : List Oper → Env → Heap → Prop
  | [], env, H => W P N n0 k Q env H
  | o :: l, env, H => match stepO P N (arr.toList.map (·.dst)) o env H with
    | some (ok, p, H') => ok ∧ evalX P N n0 k Q arr env0 H0 l (putE o.dst p env) H'
    | none => DX P N n0 k Q arr env0 H0 (o :: l) env H

theorem DX_exec {o : Oper} {l : List Oper} {p : PV} {H' : Heap} (he : Exec P N n0 (arr.toList.map (·.dst)) o env H p H') (h1 : effB o = false → H' = H) (h2 : effB o = false → heapB o = false → ∀ H2, Exec P N n0 (arr.toList.map (·.dst)) o env H2 p H2)
    (h : DX P N n0 k Q arr env0 H0 l (putE o.dst p env) H') : DX P N n0 k Q arr env0 H0 (o :: l) env H := fun _ => DW_exec he h1 h2 (h _)

theorem evalX_ok (zs : List Nat) (hd : drawC arr.toList zs = true) : ∀ {l : List Oper} {env : Env} {H : Heap}, evalX P N n0 k Q arr env0 H0 l env H → DX P N n0 k Q arr env0 H0 l env H
  | [], _, _, h => fun _ => DW_done0 zs hd h
  | o :: l, env, H, h => by
    unfold evalX at h
    cases hs : stepO P N (arr.toList.map (·.dst)) o env H with
    | none => rw [hs] at h; exact h
    | some q =>
      obtain ⟨ok, p, H'⟩ := q
      rw [hs] at h
      exact DX_exec (exec_step hs h.1) (fun he => (stepO_heapless hs he).1) (fun he hh H2 => exec_step ((stepO_heapless hs he).2 hh H2) h.1) (evalX_ok zs hd h.2)

/-- A region whose order is drawn. -/
theorem W_draw {id : Nat} (hm : P.follows .mixedOrders = true) (hd : drawC arr.toList (masks [] arr.toList) = true) (h : evalX P N n0 k Q arr env H arr.toList env H) : W P N n0 (.code (.region id arr true) :: k) Q env H :=
  W_any hm (DW_start (evalX_ok _ hd h []))

/-- Where something floats: what was done is kept in mind. -/
def admN (arr : List Oper) (zs : List Nat) : List (Nat × Nat) := (admL arr zs).filter fun x => !canB arr x.1 x.2
def evalD (P : Program) (N n0 : Nat) (k : List KI) (Q : Env → Heap → Prop) (arr : Array Oper) (env0 : Env) (H0 : Heap) (fl : List (Nat × Nat)) : List Oper → List DS → Env → Heap → Prop
  | [], S, env, H => Floats P N (arr.toList.map (·.dst)) S H fl ∧ W P N n0 k Q env H
  | o :: l, S, env, H => match stepO P N (arr.toList.map (·.dst)) o env H with
    | some (ok, p, H') => ok ∧ evalD P N n0 k Q arr env0 H0 fl l (S ++ [⟨o, rst (looks (arr.toList.map (·.dst)) o) env, H, p, H'⟩]) (putE o.dst p env) H'
    | none => DW P N n0 k Q arr env0 H0 S (o :: l) env H

theorem DW_doneF {S : List DS} (zs : List Nat) (fl : List (Nat × Nat)) (hd : drawB arr.toList zs = true) (hl : admN arr.toList zs = fl) (hf : Floats P N (arr.toList.map (·.dst)) S H fl) (h : W P N n0 k Q env H) : DW P N n0 k Q arr env0 H0 S [] env H := by
  intro d
  refine DW_doneX (S := S) zs hd (fun i j d' hij hdi => ?_) h d
  by_cases hc : canB arr.toList i j = true
  · exact can_exec d hij hc hdi
  · have hm : (i, j) ∈ fl := by rw [← hl]; exact List.mem_filter.2 ⟨hij, by simp [hc]⟩
    obtain ⟨ok, hst, hok⟩ := hf.mem hm hdi
    exact exec_step hst hok

theorem evalD_ok (zs : List Nat) (fl : List (Nat × Nat)) (hd : drawB arr.toList zs = true) (hl : admN arr.toList zs = fl) : ∀ {l : List Oper} {S : List DS} {env : Env} {H : Heap}, evalD P N n0 k Q arr env0 H0 fl l S env H → DW P N n0 k Q arr env0 H0 S l env H
  | [], _, _, _, h => DW_doneF zs fl hd hl h.1 h.2
  | o :: l, S, env, H, h => by
    unfold evalD at h
    cases hs : stepO P N (arr.toList.map (·.dst)) o env H with
    | none => rw [hs] at h; exact h
    | some q =>
      obtain ⟨ok, p, H'⟩ := q
      rw [hs] at h
      exact DW_exec (exec_step hs h.1) (fun he => (stepO_heapless hs he).1) (fun he hh H2 => exec_step ((stepO_heapless hs he).2 hh H2) h.1) (evalD_ok zs fl hd hl h.2)

/-- A region whose order is drawn, where reads float. -/
theorem W_drawF {id : Nat} (fl : List (Nat × Nat)) (hm : P.follows .mixedOrders = true) (hd : drawB arr.toList (masks [] arr.toList) = true) (hl : admN arr.toList (masks [] arr.toList) = fl) (h : evalD P N n0 k Q arr env H fl arr.toList [] env H) : W P N n0 (.code (.region id arr true) :: k) Q env H :=
  W_any hm (DW_start (evalD_ok _ fl hd hl h))
theorem DW_on (fl : List (Nat × Nat)) (hd : drawB arr.toList (masks [] arr.toList) = true) (hl : admN arr.toList (masks [] arr.toList) = fl) {l : List Oper} {S : List DS} (h : evalD P N n0 k Q arr env0 H0 fl l S env H) : DW P N n0 k Q arr env0 H0 S l env H := evalD_ok _ fl hd hl h

theorem DW_callP {S : List DS} {o : Oper} {l : List Oper} {f : FuncId} {xs : Array Operand} {ats : Array TypeId} {args : List PV} {r : PV} (ho : o.op = .call { callee := .value (.func f), args := xs, argTypes := ats }) (hc : callB P f = true) (hg : o.guard = none) (hd : dstB N o = true)
    (hcon : GC P f args [] r []) (ha : toCL false H [] (xs.toList.map (evalS env)) = args) (hz : zB r = true) (hk : DW P N n0 k Q arr env0 H0 (S ++ [⟨o, rst (looks (arr.toList.map (·.dst)) o) env, H, r, H⟩]) l (putE o.dst r env) H) : DW P N n0 k Q arr env0 H0 S (o :: l) env H := by
  have he : effB o = true := by simp [effB, ho, quietB]
  have := exec_enter (n0 := n0) (ds := arr.toList.map (·.dst)) (o := o) (env := env) (H := H) false [] (r := r) (H1 := []) (entersL_func ho (callB_ok hc)) hg hd (by simp) (by simp) (fun h => by cases h) (by rw [ha]; exact hcon)
  rw [ren_closed _ hz] at this
  simp only [mergeH, setAll, bk, List.map_nil, List.drop_nil, List.append_nil] at this
  exact DW_exec this (fun h => absurd h (by simp [he])) (fun h => absurd h (by simp [he])) hk

/-- On, behind a call. -/
theorem DX_on (hd : drawC arr.toList (masks [] arr.toList) = true) {l : List Oper} (h : evalX P N n0 k Q arr env0 H0 l env H) : DX P N n0 k Q arr env0 H0 l env H := evalX_ok _ hd h

theorem DX_callP {o : Oper} {l : List Oper} {f : FuncId} {xs : Array Operand} {ats : Array TypeId} {args : List PV} {r : PV} (ho : o.op = .call { callee := .value (.func f), args := xs, argTypes := ats }) (hc : callB P f = true) (hg : o.guard = none) (hd : dstB N o = true)
    (hcon : GC P f args [] r []) (ha : toCL false H [] (xs.toList.map (evalS env)) = args) (hz : zB r = true) (hk : DX P N n0 k Q arr env0 H0 l (putE o.dst r env) H) : DX P N n0 k Q arr env0 H0 (o :: l) env H := by
  have he : effB o = true := by simp [effB, ho, quietB]
  have := exec_enter (n0 := n0) (ds := arr.toList.map (·.dst)) (o := o) (env := env) (H := H) false [] (r := r) (H1 := []) (entersL_func ho (callB_ok hc)) hg hd (by simp) (by simp) (fun h => by cases h) (by rw [ha]; exact hcon)
  rw [ren_closed _ hz] at this
  simp only [mergeH, setAll, bk, List.map_nil, List.drop_nil, List.append_nil] at this
  exact DX_exec this (fun h => absurd h (by simp [he])) (fun h => absurd h (by simp [he])) hk

theorem DX_callO {o : Oper} {l : List Oper} {f : FuncId} {xs : Array Operand} {ats : Array TypeId} {args : List PV} {r r' : PV} {Ha Hb H2 : Heap} (rs : List Nat) (ho : o.op = .call { callee := .value (.func f), args := xs, argTypes := ats }) (hc : callB P f = true) (hg : o.guard = none) (hd : dstB N o = true)
    (hn : rs.Nodup) (hl : ∀ i, i ∈ rs → i < H.length) (hcon : GC P f args Ha r Hb) (ha : toCL false H rs (xs.toList.map (evalS env)) = args) (hH : subH false H rs = Ha)
    (hr' : V.ren (back H.length rs) r = r') (hH2 : mergeH H rs (bk H.length rs Hb) = H2) (hk : DX P N n0 k Q arr env0 H0 l (putE o.dst r' env) H2) : DX P N n0 k Q arr env0 H0 (o :: l) env H := by
  have he : effB o = true := by simp [effB, ho, quietB]
  have := exec_enter (n0 := n0) (ds := arr.toList.map (·.dst)) (o := o) (env := env) (H := H) false rs (r := r) (H1 := Hb) (entersL_func ho (callB_ok hc)) hg hd hn hl (fun h => by cases h) (by rw [ha, hH]; exact hcon)
  rw [hr', hH2] at this
  exact DX_exec this (fun h => absurd h (by simp [he])) (fun h => absurd h (by simp [he])) hk

theorem DX_callL {o : Oper} {l : List Oper} {f : FuncId} {xs : Array Operand} {ats : Array TypeId} {args : List PV} {r : PV} (ho : o.op = .call { callee := .value (.func f), args := xs, argTypes := ats }) (hc : callB P f = true) (hg : o.guard = none) (hd : dstB N o = true)
    (hcon : GC P f args [] r []) (ha : toCL true H [] (xs.toList.map (evalS env)) = args) (hz : zB r = true) (hf : flatB r = true) (hk : DX P N n0 k Q arr env0 H0 l (putE o.dst r env) H) : DX P N n0 k Q arr env0 H0 (o :: l) env H := by
  have he : effB o = true := by simp [effB, ho, quietB]
  have := exec_enter (n0 := n0) (ds := arr.toList.map (·.dst)) (o := o) (env := env) (H := H) true [] (r := r) (H1 := []) (entersL_func ho (callB_ok hc)) hg hd (by simp) (by simp) (fun _ => ⟨hf, rfl⟩) (by rw [ha]; exact hcon)
  rw [ren_closed _ hz] at this
  simp only [mergeH, setAll, bk, List.map_nil, List.drop_nil, List.append_nil] at this
  exact DX_exec this (fun h => absurd h (by simp [he])) (fun h => absurd h (by simp [he])) hk

/-- A guard that is known: skipped. -/
theorem DX_skip {o : Oper} {l : List Oper} {j : Nat} {w : Bool} (hg : o.guard = some (j, w)) (he : effG (arr.toList.map (·.dst)) env j w = some false) (hd : dstB N o = true) (q : PV) (h : DX P N n0 k Q arr env0 H0 l (putE o.dst (.gv false q) env) H) : DX P N n0 k Q arr env0 H0 (o :: l) env H :=
  DX_exec (exec_skipG hg he hd q) (fun _ => rfl) (fun _ _ _ => exec_skipG hg he hd q) h
/-- A guard that is known: a call of plain values. -/
theorem DX_goP {o : Oper} {l : List Oper} {f : FuncId} {xs : Array Operand} {ats : Array TypeId} {args : List PV} {r : PV} {j : Nat} {w : Bool} (hg : o.guard = some (j, w)) (heg : effG (arr.toList.map (·.dst)) env j w = some true)
    (ho : o.op = .call { callee := .value (.func f), args := xs, argTypes := ats }) (hc : callB P f = true) (hd : dstB N o = true)
    (hcon : GC P f args [] r []) (ha : toCL false H [] (xs.toList.map (evalS env)) = args) (hz : zB r = true) (hk : DX P N n0 k Q arr env0 H0 l (putE o.dst r env) H) : DX P N n0 k Q arr env0 H0 (o :: l) env H := by
  have he : effB o = true := by simp [effB, ho, quietB]
  have := exec_enter (n0 := n0) (ds := arr.toList.map (·.dst)) (o := { o with guard := none }) (env := env) (H := H) false [] (r := r) (H1 := []) (entersL_func ho (callB_ok hc)) rfl hd (by simp) (by simp) (fun h => by cases h) (by rw [ha]; exact hcon)
  rw [ren_closed _ hz] at this
  simp only [mergeH, setAll, bk, List.map_nil, List.drop_nil, List.append_nil] at this
  exact DX_exec (exec_guard hg heg this) (fun h => absurd h (by simp [he])) (fun h => absurd h (by simp [he])) hk
/-- Outside of drawn orders likewise. -/
theorem W_skipG {o : Oper} {l : List Oper} {ds : List (Option Tmp)} {j : Nat} {w : Bool} (hg : o.guard = some (j, w)) (he : effG ds env j w = some false) (hd : dstB N o = true) (q : PV) (h : W P N n0 (.ops ds l :: k) Q (putE o.dst (.gv false q) env) H) : W P N n0 (.ops ds (o :: l) :: k) Q env H := W_exec (exec_skipG hg he hd q) h
theorem W_goP {o : Oper} {l : List Oper} {ds : List (Option Tmp)} {f : FuncId} {xs : Array Operand} {ats : Array TypeId} {args : List PV} {r : PV} {j : Nat} {w : Bool} (hg : o.guard = some (j, w)) (heg : effG ds env j w = some true)
    (ho : o.op = .call { callee := .value (.func f), args := xs, argTypes := ats }) (hc : callB P f = true) (hd : dstB N o = true)
    (hcon : GC P f args [] r []) (ha : toCL false H [] (xs.toList.map (evalS env)) = args) (hz : zB r = true) (hk : W P N n0 (.ops ds l :: k) Q (putE o.dst r env) H) : W P N n0 (.ops ds (o :: l) :: k) Q env H := by
  have := exec_enter (n0 := n0) (ds := ds) (o := { o with guard := none }) (env := env) (H := H) false [] (r := r) (H1 := []) (entersL_func ho (callB_ok hc)) rfl hd (by simp) (by simp) (fun h => by cases h) (by rw [ha]; exact hcon)
  rw [ren_closed _ hz] at this
  simp only [mergeH, setAll, bk, List.map_nil, List.drop_nil, List.append_nil] at this
  exact W_exec (exec_guard hg heg this) hk

end
end Go.Proofs.Ytbbjmfkmjjinnaa.V
