/- The logic's operations that turn no memory, on: fields, indexes, cuts, made values. No law of the program is proved here. -/
import Derived.Test.YtbbjmfkmjjinnaaV5
set_option linter.all false
namespace Go.Proofs.Ytbbjmfkmjjinnaa.V
open Go

/-! ### places -/
theorem Rel.ip_drop {c : Cx} {ad : Addr} {cells : List PV} (h : Rel c (.pointer (some ad)) (.ip cells)) (k : Nat) : Rel c (.pointer (some (ad.add k))) (.ip (cells.drop k)) := by
  cases h with
  | ip _ _ us hS hc hr =>
    refine .ip _ _ (fun j => us (k + j)) (fun hne => ?_) (fun j hj => ?_) (fun j hj => ?_)
    · rw [add_block]
      exact hS (fun e => hne (by rw [e]; simp))
    · simp at hj
      rw [addr_add2]
      exact hc _ (by omega)
    · simp at hj
      rw [getD_drop]
      exact hr _ (by omega)

theorem Rel.im_ip {c : Cx} {A : Option Addr} {len cap : Nat} {nz : Bool} {cells : List PV} (h : Rel c (.slice A len cap) (.im nz len cells)) (hl : 0 < len) : ∃ ad, A = some ad ∧ Rel c (.pointer (some ad)) (.ip cells) := by
  cases h with
  | im _ ad _ _ _ _ us hA hz hl' h0 hc hr => exact ⟨ad, (hA hl).1, .ip ad cells us (fun _ => (hA hl).2) hc hr⟩

def fieldAddrP (P : Program) (s : TypeId) (f : Nat) (x : PV) : Option (Prop × PV) :=
  match (td P s).k with
  | .struct fs => match fs[f]? with
    | some (off, ft) => if (td P ft).ok && (td P ft).size != 0 then match x with
      | .ad i o => some (True, .ad i (o + off))
      | .ip cells => some (True, .ip (cells.drop off))
      | _ => none
      else none
    | none => none
  | _ => none

theorem fieldAddr_ok {P : Program} {s : TypeId} {f : Nat} {x p : PV} {ok : Prop} {c : Cx} {u : Value} (h : fieldAddrP P s f x = some (ok, p)) (hu : Rel c u x) : ∃ r, (Instr.fieldAt s u f).run P c.w = .ok r c.w ∧ Rel c r p := by
  unfold fieldAddrP at h
  split at h
  · rename_i fs hk
    obtain ⟨F, hF, hfs⟩ := und_struct hk
    split at h
    · rename_i off ft hf
      split at h
      · rename_i hs
        simp at hs
        have hFf : ∃ g : Field, F[f]? = some g ∧ g.offset = off ∧ g.type = ft := by
          rw [← hfs] at hf
          simp at hf
          obtain ⟨g, hg, e1, e2⟩ := hf
          exact ⟨g, hg, e1, e2⟩
        obtain ⟨g, hg, rfl, rfl⟩ := hFf
        have hsz := run_size (P := P) c.w hs.1
        split at h <;> cases h
        · cases hu with
          | ad i o hi =>
            refine ⟨_, ?_, .ad _ _ hi⟩
            simp [Instr.fieldAt, run_underlying hF, hg, Instr.sureAddr, fieldPlace, hsz, hs.2, addr_add]
        · have hu' := hu
          cases hu with
          | ip ad =>
            refine ⟨_, ?_, hu'.ip_drop g.offset⟩
            simp [Instr.fieldAt, run_underlying hF, hg, Instr.sureAddr, fieldPlace, hsz, hs.2]
      · cases h
    · cases h
  · cases h

def indexAddrP (P : Program) (t : TypeId) (x i : PV) : Option (Prop × PV) :=
  match i with
  | .sc (.int _ n) => match (td P t).k with
    | .slice e => if (td P e).ok then match x with
      | .im _ len cells => some (0 ≤ n ∧ n < len, .ip (cells.drop (n.toNat * (td P e).size)))
      | .id j len => some (0 ≤ n ∧ n < len, .ad j (n.toNat * (td P e).size))
      | .ix j o len => some (0 ≤ n ∧ n < len, .ad j (o + n.toNat * (td P e).size))
      | .sc (.slice none 0 0) => some (False, .dead)
      | _ => none
      else none
    | .arr m e => if (td P e).ok then match x with
      | .ad j o => some (0 ≤ n ∧ n < m, .ad j (o + n.toNat * (td P e).size))
      | .ip cells => some (0 ≤ n ∧ n < m, .ip (cells.drop (n.toNat * (td P e).size)))
      | _ => none
      else none
    | _ => none
  | _ => none

theorem indexAddr_ok {P : Program} {t : TypeId} {x i p : PV} {ok : Prop} {c : Cx} {u v : Value} (h : indexAddrP P t x i = some (ok, p)) (ho : ok) (hu : Rel c u x) (hv : Rel c v i) : ∃ r, (Instr.indexAt t u v).run P c.w = .ok r c.w ∧ Rel c r p := by
  unfold indexAddrP at h
  split at h
  · rename_i k n
    cases hv
    split at h
    · rename_i e hk
      have hund := und_slice hk
      split at h
      · rename_i hs
        have hsz := run_size (P := P) c.w hs
        split at h <;> cases h
        · have hu' := hu
          cases hu with
          | im A ad len cap nz cells us hA hz hl h0 hc hr =>
            obtain ⟨ad', rfl, hip⟩ := hu'.im_ip (by omega)
            refine ⟨_, ?_, hip.ip_drop _⟩
            simp [Instr.indexAt, asIntOf, run_underlying hund, ho, hsz]
        · cases hu with
          | id j len hi hl =>
            refine ⟨_, ?_, .ad _ _ hi⟩
            simp [Instr.indexAt, asIntOf, run_underlying hund, ho, hsz, addr_add]
        · cases hu with
          | ix A j o len cap hi hl hA hs =>
            have e := hA (by omega)
            subst e
            refine ⟨_, ?_, .ad _ _ hi⟩
            simp [Instr.indexAt, asIntOf, run_underlying hund, ho, hsz, addr_add]
        · exact ho.elim
      · cases h
    · rename_i m e hk
      have hund := und_arr hk
      split at h
      · rename_i hs
        have hsz := run_size (P := P) c.w hs
        split at h <;> cases h
        · cases hu with
          | ad j o hi =>
            refine ⟨_, ?_, .ad _ _ hi⟩
            simp [Instr.indexAt, asIntOf, run_underlying hund, ho, hsz, Instr.sureAddr, addr_add]
        · have hu' := hu
          cases hu with
          | ip ad =>
            refine ⟨_, ?_, hu'.ip_drop _⟩
            simp [Instr.indexAt, asIntOf, run_underlying hund, ho, hsz, Instr.sureAddr]
      · cases h
    · cases h
  · cases h

/-! ### parts of values -/
def partP (P : Program) (t : TypeId) (ps : List PV) (off : Nat) : Option (Prop × PV) :=
  if (td P t).k.known then if (td P t).k.agg then some (off + (td P t).size ≤ ps.length, .ag ((ps.drop off).take (td P t).size)) else some (off < ps.length, ps.getD off .dead) else none

theorem part_ok {P : Program} {t : TypeId} {ps : List PV} {l : List Value} {off : Nat} {p : PV} {ok : Prop} {c : Cx} (h : partP P t ps off = some (ok, p)) (ho : ok) (hu : RelL c l ps) : ∃ r, (part t l.toArray off).run P c.w = .ok r c.w ∧ Rel c r p := by
  unfold partP at h
  split at h
  · rename_i hk
    have hne := TK.ne_other hk
    have hsz := run_size (P := P) c.w (ok_of hne)
    have hag := run_agg (P := P) c.w hne
    split at h <;> cases h
    · rename_i hg
      refine ⟨.agg ((l.drop off).take (td P t).size).toArray, ?_, ?_⟩
      · simp [part, hag, hg, hsz]
      · refine .ag _ _ (by have := hu.1; simp; omega) fun j hj => ?_
        simp at hj
        have hj1 : j < (td P t).size := by omega
        rw [getD_take hj1, getD_take hj1, getD_drop, getD_drop]
        exact hu.2 _ (by omega)
    · rename_i hg
      have : off < l.length := by rw [hu.1]; exact ho
      refine ⟨l.getD off undef, ?_, hu.2 off ho⟩
      simp [part, hag, hg, this, List.getD_eq_getElem?_getD]
  · cases h

def fieldP (P : Program) (s : TypeId) (f : Nat) : PV → Option (Prop × PV)
  | .ag ps => match (td P s).k with
    | .struct fs => match fs[f]? with
      | some (off, ft) => partP P ft ps off
      | none => none
    | _ => none
  | _ => none

theorem field_ok {P : Program} {s : TypeId} {f : Nat} {x p : PV} {ok : Prop} {c : Cx} {u : Value} (h : fieldP P s f x = some (ok, p)) (ho : ok) (hu : Rel c u x) : ∃ r, (Instr.field s u f).run P c.w = .ok r c.w ∧ Rel c r p := by
  cases hu with
  | ag l ps hl hr =>
    simp only [fieldP] at h
    split at h
    · rename_i fs hk
      obtain ⟨F, hF, hfs⟩ := und_struct hk
      split at h
      · rename_i off ft hf
        have hFf : ∃ g : Field, F[f]? = some g ∧ g.offset = off ∧ g.type = ft := by
          rw [← hfs] at hf
          simp at hf
          obtain ⟨g, hg, e1, e2⟩ := hf
          exact ⟨g, hg, e1, e2⟩
        obtain ⟨g, hg, rfl, rfl⟩ := hFf
        obtain ⟨r, h1, h2⟩ := part_ok h ho ⟨hl, hr⟩
        exact ⟨r, by simp [Instr.field, run_underlying hF, hg, asAgg, h1], h2⟩
      · cases h
    · cases h
  | _ => simp [fieldP] at h

def extractP (i : Nat) : PV → Option (Prop × PV)
  | .tu ps => some (i < ps.length, ps.getD i .dead)
  | _ => none

theorem extract_ok {P : Program} {i : Nat} {x p : PV} {ok : Prop} {c : Cx} {u : Value} (h : extractP i x = some (ok, p)) (ho : ok) (hu : Rel c u x) : ∃ r, (Instr.extract u i).run P c.w = .ok r c.w ∧ Rel c r p := by
  cases hu with
  | tu l ps hl hr =>
    cases h
    have : i < l.length := by rw [hl]; exact ho
    refine ⟨l.getD i undef, ?_, hr i ho⟩
    simp [Instr.extract, this, List.getD_eq_getElem?_getD]
  | _ => simp [extractP] at h

/-- A text's byte. -/
def byteAt (s : ByteArray) (i : Nat) : Int := ((s.data.toList.getD i 0).toNat : Int)

def indexP (P : Program) (t : TypeId) (x i : PV) : Option (Prop × PV) :=
  match i with
  | .sc (.int _ n) => match x with
    | .sc (.string s) => match (td P t).k with
      | .str => some (0 ≤ n ∧ n < s.size, .sc (.int .u8 (byteAt s n.toNat)))
      | _ => none
    | .ag ps => match (td P t).k with
      | .arr m e => if (td P e).ok then (partP P e ps (n.toNat * (td P e).size)).map fun r => ((0 ≤ n ∧ n < m) ∧ r.1, r.2) else none
      | _ => none
    | _ => none
  | _ => none

theorem index_ok {P : Program} {t : TypeId} {x i p : PV} {ok : Prop} {c : Cx} {u v : Value} (h : indexP P t x i = some (ok, p)) (ho : ok) (hu : Rel c u x) (hv : Rel c v i) : ∃ r, (Instr.index t u v).run P c.w = .ok r c.w ∧ Rel c r p := by
  unfold indexP at h
  split at h
  · rename_i k n
    cases hv
    split at h
    · rename_i s
      cases hu
      split at h
      · rename_i hk
        cases h
        refine ⟨_, ?_, .sc _⟩
        have h2 : n.toNat < s.size := by have := ho.1; have := ho.2; omega
        have h3 : s[n.toNat]? = some s[n.toNat] := by simp [h2]
        simp only [Instr.index, asIntOf, Sem.run_bind, Sem.run_pure, Result.andThen_ok, run_underlying (und_str hk), ho.1, if_true, h3]
        congr 2
        simp only [byteAt]
        congr 2
        rw [List.getD_eq_getElem?_getD, Array.getElem?_toList, Array.getElem?_eq_getElem (show n.toNat < s.data.size from h2)]
        rfl
      · cases h
    · rename_i ps
      cases hu with
      | ag l _ hl hr =>
        split at h
        · rename_i m e hk
          split at h
          · rename_i hs
            have hsz := run_size (P := P) c.w hs
            cases hp : partP P e ps (n.toNat * (td P e).size) with
            | none => rw [hp] at h; cases h
            | some q =>
              obtain ⟨q1, q2⟩ := q
              rw [hp] at h
              cases h
              obtain ⟨r, h1, h2⟩ := part_ok hp ho.2 ⟨hl, hr⟩
              exact ⟨r, by simp [Instr.index, asIntOf, run_underlying (und_arr hk), ho.1, hsz, h1], h2⟩
          · cases h
        · cases h
    · cases h
  · cases h

/-! ### cuts -/
def loP : Option PV → Option Int
  | none => some 0
  | some (.sc (.int _ n)) => some n
  | _ => none
def hiP (len : Nat) : Option PV → Option Int
  | none => some len
  | some (.sc (.int _ n)) => some n
  | _ => none

def sliceP (P : Program) (t : TypeId) (x : PV) (lo hi : Option PV) : Option (Prop × PV) :=
  match x with
  | .sc (.string s) => match (td P t).k, loP lo, hiP s.size hi with
    | .str, some l, some h => some (0 ≤ l ∧ l ≤ h ∧ h ≤ s.size, .sc (.string (s.extract l.toNat h.toNat)))
    | _, _, _ => none
  | .im nz len cells => match (td P t).k, loP lo, hiP len hi with
    | .slice e, some l, some h => if (td P e).ok then some (0 ≤ l ∧ l ≤ h ∧ h ≤ len ∧ cells.length = len * (td P e).size, .im nz (h.toNat - l.toNat) ((cells.drop (l.toNat * (td P e).size)).take ((h.toNat - l.toNat) * (td P e).size))) else none
    | _, _, _ => none
  | .id i len => match (td P t).k, loP lo, hiP len hi with
    | .slice e, some l, some h => if (td P e).ok then match lo with
      | none => some (l = 0 ∧ 0 ≤ h ∧ h ≤ len, .id i h.toNat)
      | some _ => some (0 ≤ l ∧ l ≤ h ∧ h ≤ len, .ix i (l.toNat * (td P e).size) (h.toNat - l.toNat))
      else none
    | _, _, _ => none
  | .ix i off len => match (td P t).k, loP lo, hiP len hi with
    | .slice e, some l, some h => if (td P e).ok then some (0 ≤ l ∧ l ≤ h ∧ h ≤ len, .ix i (off + l.toNat * (td P e).size) (h.toNat - l.toNat)) else none
    | _, _, _ => none
  | .sc (.slice none 0 0) => match (td P t).k, loP lo, hiP 0 hi with
    | .slice e, some l, some h => if (td P e).ok then some (l = 0 ∧ h = 0, .sc (.slice none 0 0)) else none
    | _, _, _ => none
  | _ => none

theorem bound_lo {P : Program} {c : Cx} {lo : Option Value} {lp : Option PV} {l : Int} {h : Nat} {code : BoundsCode} (hl : loP lp = some l) (hv : ∀ p, lp = some p → ∃ v, lo = some v ∧ Rel c v p) (hn : lp = none → lo = none)
    (h0 : 0 ≤ l) (h1 : l ≤ h) : (match lo with | some v => Instr.sliceBound v h code | none => (pure 0 : Sem Nat)).run P c.w = .ok l.toNat c.w := by
  unfold loP at hl
  split at hl <;> cases hl
  · rw [hn rfl]; rfl
  · rename_i k n
    obtain ⟨v, rfl, hr⟩ := hv _ rfl
    cases hr
    simp [Instr.sliceBound, asIntOf, h0, h1]

theorem bound_hi {P : Program} {c : Cx} {hi : Option Value} {hp : Option PV} {h : Int} {len cap : Nat} {code : BoundsCode} (hh : hiP len hp = some h) (hv : ∀ p, hp = some p → ∃ v, hi = some v ∧ Rel c v p) (hn : hp = none → hi = none)
    (h0 : 0 ≤ h) (h1 : h ≤ cap) : (match hi with | some v => Instr.sliceBound v cap code | none => (pure len : Sem Nat)).run P c.w = .ok h.toNat c.w := by
  unfold hiP at hh
  split at hh <;> cases hh
  · rw [hn rfl]; simp
  · rename_i k n
    obtain ⟨v, rfl, hr⟩ := hv _ rfl
    cases hr
    simp [Instr.sliceBound, asIntOf, h0, h1]

theorem sliceBounds_ok {P : Program} {c : Cx} {b : Bool} {len cap : Nat} {lo hi : Option Value} {lp hp : Option PV} {l h : Int} (hl : loP lp = some l) (hh : hiP len hp = some h)
    (hv : ∀ p, lp = some p → ∃ v, lo = some v ∧ Rel c v p) (hn : lp = none → lo = none) (kv : ∀ p, hp = some p → ∃ v, hi = some v ∧ Rel c v p) (kn : hp = none → hi = none)
    (h0 : 0 ≤ l) (h1 : l ≤ h) (h2 : h ≤ cap) : (Instr.sliceBounds b len cap lo hi none).run P c.w = .ok (l.toNat, h.toNat, cap) c.w := by
  have e1 := bound_hi (P := P) (code := if b then .sliceAcap else .sliceAlen) hh kv kn (by omega) h2
  have e2 := bound_lo (P := P) (h := h.toNat) (code := .sliceB) hl hv hn h0 (by omega)
  simp only [Instr.sliceBounds, Sem.run_bind, Sem.run_pure, Result.andThen_ok]
  cases hi with
  | none =>
    simp only [Sem.run_pure] at e1
    cases e1
    cases lo with
    | none =>
      simp only [Sem.run_pure] at e2
      have e3 := (Result.ok.inj e2).1
      simp [← e3]
    | some v => simp at e2; simp [e2]
  | some u =>
    simp only at e1
    cases lo with
    | none =>
      simp only [Sem.run_pure] at e2
      have e3 := (Result.ok.inj e2).1
      simp [e1, ← e3]
    | some v => simp at e2; simp [e1, e2]

theorem slice_ok {P : Program} {t : TypeId} {x p : PV} {lp hp : Option PV} {ok : Prop} {c : Cx} {u : Value} {lo hi : Option Value} (h : sliceP P t x lp hp = some (ok, p)) (ho : ok) (hu : Rel c u x)
    (hv : ∀ p, lp = some p → ∃ v, lo = some v ∧ Rel c v p) (hn : lp = none → lo = none) (kv : ∀ p, hp = some p → ∃ v, hi = some v ∧ Rel c v p) (kn : hp = none → hi = none) :
    ∃ r, (Instr.sliceAt t u lo hi none).run P c.w = .ok r c.w ∧ Rel c r p := by
  unfold sliceP at h
  split at h
  · rename_i s
    cases hu
    split at h
    · rename_i l hh hk h1 h2
      cases h
      obtain ⟨o1, o2, o3⟩ := ho
      have hb := sliceBounds_ok (P := P) (b := false) (cap := s.size) h1 h2 hv hn kv kn o1 o2 o3
      refine ⟨_, ?_, .sc _⟩
      simp [Instr.sliceAt, Instr.slice, run_underlying (und_str hk), hb]
    · cases h
  · rename_i nz len cells
    cases hu with
    | im A ad len cap nz cells us hA hz hle h0 hc hr =>
      split at h
      · rename_i e l hh hk h1 h2
        split at h
        · rename_i hs
          cases h
          obtain ⟨o1, o2, o3, o4⟩ := ho
          have hb := sliceBounds_ok (P := P) (b := true) (cap := cap) h1 h2 hv hn kv kn o1 o2 (by omega)
          have hsz := run_size (P := P) c.w hs
          refine ⟨.slice (if cap = l.toNat then A else A.map (·.add (l.toNat * (td P e).size))) (hh.toNat - l.toNat) (cap - l.toNat), ?_, ?_⟩
          · simp [Instr.sliceAt, Instr.slice, run_underlying (und_slice hk), hb, hsz]
          · have hlen : hh.toNat ≤ len := by omega
            have hmul : l.toNat * (td P e).size + (hh.toNat - l.toNat) * (td P e).size = hh.toNat * (td P e).size := by
              rw [← Nat.add_mul]; congr 1; omega
            have hmul2 : hh.toNat * (td P e).size ≤ len * (td P e).size := Nat.mul_le_mul_right _ hlen
            refine .im _ (ad.add (l.toNat * (td P e).size)) _ _ _ _ (fun j => us (l.toNat * (td P e).size + j)) (fun hp => ?_) (fun hz' => ?_) (by omega) (fun e0 => by rw [e0]; simp) (fun j hj => ?_) (fun j hj => ?_)
            · have hl0 : 0 < len := by omega
              rw [if_neg (by omega), (hA hl0).1]
              exact ⟨rfl, by rw [add_block]; exact (hA hl0).2⟩
            · have := hz hz'
              split
              · exact this
              · cases A <;> simp_all
            · simp at hj
              rw [addr_add2]
              exact hc _ (by omega)
            · simp at hj
              rw [getD_take (by omega), getD_drop]
              exact hr _ (by omega)
        · cases h
      · cases h
  · rename_i i len
    cases hu with
    | id i len hi' hl' =>
      split at h
      · rename_i e l hh hk h1 h2
        split at h
        · rename_i hs
          have hsz := run_size (P := P) c.w hs
          split at h
          · cases h
            obtain ⟨rfl, o2, o3⟩ := ho
            have hb := sliceBounds_ok (P := P) (b := true) (cap := (c.β i).2) h1 h2 hv hn kv kn (Int.le_refl _) o2 (by omega)
            refine ⟨_, ?_, .id i hh.toNat hi' (by omega)⟩
            simp only [Instr.sliceAt, Instr.slice, Sem.run_bind, run_underlying (und_slice hk), Result.andThen_ok, hb, hsz, Sem.run_pure]
            simp [Addr.add]
          · cases h
            obtain ⟨o1, o2, o3⟩ := ho
            have hb := sliceBounds_ok (P := P) (b := true) (cap := (c.β i).2) h1 h2 hv hn kv kn o1 o2 (by omega)
            refine ⟨.slice (if (c.β i).2 = l.toNat then some ⟨(c.β i).1, 0, none⟩ else (some (⟨(c.β i).1, 0, none⟩ : Addr)).map (·.add (l.toNat * (td P e).size))) (hh.toNat - l.toNat) ((c.β i).2 - l.toNat), ?_, ?_⟩
            · simp [Instr.sliceAt, Instr.slice, run_underlying (und_slice hk), hb, hsz]
            · refine .ix _ i _ _ _ hi' (by omega) (fun h0 => ?_) ?_
              · rw [if_neg (by omega), Option.map_some, addr_add, Nat.zero_add]
              · split <;> rfl
        · cases h
      · cases h
  · rename_i i off len
    cases hu with
    | ix A i off len cap hi' hl' hA hs' =>
      split at h
      · rename_i e l hh hk h1 h2
        split at h
        · rename_i hs
          have hsz := run_size (P := P) c.w hs
          cases h
          obtain ⟨o1, o2, o3⟩ := ho
          have hb := sliceBounds_ok (P := P) (b := true) (cap := cap) h1 h2 hv hn kv kn o1 o2 (by omega)
          refine ⟨.slice (if cap = l.toNat then A else A.map (·.add (l.toNat * (td P e).size))) (hh.toNat - l.toNat) (cap - l.toNat), ?_, ?_⟩
          · simp [Instr.sliceAt, Instr.slice, run_underlying (und_slice hk), hb, hsz]
          · refine .ix _ i _ _ _ hi' (by omega) (fun h0 => ?_) ?_
            · rw [if_neg (by omega), hA (by omega), Option.map_some, addr_add]
            · split
              · exact hs'
              · cases A <;> simp_all
        · cases h
      · cases h
  · cases hu
    split at h
    · rename_i e l hh hk h1 h2
      split at h
      · rename_i hs
        cases h
        obtain ⟨rfl, rfl⟩ := ho
        have hb := sliceBounds_ok (P := P) (b := true) (cap := 0) h1 h2 hv hn kv kn (Int.le_refl _) (Int.le_refl _) (Int.le_refl _)
        have hsz := run_size (P := P) c.w hs
        refine ⟨_, ?_, .sc _⟩
        simp only [Instr.sliceAt, Instr.slice, Sem.run_bind, run_underlying (und_slice hk), Result.andThen_ok, hb, hsz, Sem.run_pure]
        simp
      · cases h
    · cases h
  · cases h

/-! ### made values -/
theorem iface_ok {P : Program} {t : TypeId} {x : PV} {c : Cx} {u : Value} (hk : (td P t).k.known = true ∧ (td P t).k ≠ .iface) (hu : Rel c u x) : ∃ r, (Instr.makeInterface t u).run P c.w = .ok r c.w ∧ Rel c r (.ifc t x) := by
  obtain ⟨d, hd⟩ := und_known hk.1
  refine ⟨.iface t u, ?_, .ifc t u x hu⟩
  have hne := hk.2
  rw [kd_of (TK.ne_other hk.1), hd] at hne
  simp only [Instr.makeInterface, Sem.run_bind, run_underlying hd, Result.andThen_ok]
  cases d <;> first | rfl | exact absurd rfl hne

theorem relL_map {c : Cx} {ρ : Operand → Value} {ev : Operand → PV} {l : List Operand} (h : ∀ x, x ∈ l → Rel c (ρ x) (ev x)) : RelL c (l.map ρ) (l.map ev) := ⟨by simp, fun j hj => by
  simp at hj
  simp only [List.getD_eq_getElem?_getD, List.getElem?_map, List.getElem?_eq_getElem hj]
  exact h _ (List.getElem_mem _)⟩

end Go.Proofs.Ytbbjmfkmjjinnaa.V
