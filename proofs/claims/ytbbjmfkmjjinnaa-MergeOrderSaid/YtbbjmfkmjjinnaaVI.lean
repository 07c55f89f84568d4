/- The logic run on values that are all known: operations. No law of the program is proved here. -/
import Derived.Test.YtbbjmfkmjjinnaaVG
set_option linter.all false
namespace Go.Proofs.Ytbbjmfkmjjinnaa.V
open Go

def leB (a b : Nat) : Bool := Nat.ble a b
theorem leB_ok {a b : Nat} (h : leB a b = true) : a ≤ b := Nat.le_of_ble_eq_true h

def loadB (d : TD) (H : Heap) : PV → Option PV
  | .ad i off => match H[i]? with
    | some (some o) => if d.k.known then if d.k.agg then if leB (off + d.size) o.cells.length then some (.ag ((o.cells.drop off).take d.size)) else none else if leB (off + 1) o.cells.length then some (o.cells.getD off .dead) else none else none
    | _ => none
  | .ip cells => if d.k.known then if d.k.agg then if leB d.size cells.length then some (.ag (cells.take d.size)) else none else if leB 1 cells.length then some (cells.getD 0 .dead) else none else none
  | _ => none

def storeB (d : TD) (H : Heap) : PV → PV → Option Heap
  | .ad i off, v => match H[i]? with
    | some (some o) => if d.ok then if (cellsP v).all oneB && (cellsP v).length == d.size && leB (off + (cellsP v).length) o.cells.length then some (H.set i (some { o with cells := over o.cells off (cellsP v) })) else none else none
    | _ => none
  | _, _ => none

def nonNegB (n : Int) : Bool := match n with | .ofNat _ => true | .negSucc _ => false
theorem nonNegB_ok {n : Int} (h : nonNegB n = true) : 0 ≤ n := by
  cases n with
  | ofNat n => exact Int.natCast_nonneg n
  | negSucc n => cases h
def zeroB (n : Int) : Bool := match n with | .ofNat 0 => true | _ => false
theorem zeroB_ok {n : Int} (h : zeroB n = false) : n ≠ 0 := by
  intro e; subst e; cases h

def intB (op : BinOp) (k : IntKind) (a b : Int) : Option PV :=
  match op with
  | .quo => if zeroB b then none else some (.sc (.int k (k.wrap (a.tdiv b))))
  | .rem => if zeroB b then none else some (.sc (.int k (a.tmod b)))
  | op => (intP op k a b).map (·.2)

def strB (op : BinOp) (a b : ByteArray) : Option PV :=
  match op with
  | .add => if leB (a.size + b.size) 9223372036854775807 then some (.sc (.string (a ++ b))) else none
  | op => (strP op a b).map (·.2)

def binB (op : BinOp) (k : TK) (x y : PV) : Option PV :=
  match x, y with
  | .sc (.int ka a), .sc (.int kb b) =>
    match op with
    | .shl => if nonNegB b then some (.sc (.int ka (ka.wrap (a * 2 ^ (min b.toNat ka.bits))))) else none
    | .shr => if nonNegB b then some (.sc (.int ka (a.fdiv (2 ^ (min b.toNat ka.bits))))) else none
    | op => if ka = kb then intB op ka a b else none
  | .sc (.string a), .sc (.string b) => strB op a b
  | x, y => match op with
    | .eql => (eqP k x y).map fun r => .sc (.bool r)
    | .neq => (eqP k x y).map fun r => .sc (.bool (!r))
    | _ => none

def inB (n : Int) (m : Nat) : Bool := match n with | .ofNat k => Nat.blt k m | .negSucc _ => false
theorem inB_ok {n : Int} {m : Nat} (h : inB n m = true) : 0 ≤ n ∧ n < m := by
  cases n with
  | ofNat k =>
    have : k + 1 ≤ m := Nat.le_of_ble_eq_true h
    exact ⟨Int.natCast_nonneg k, Int.ofNat_lt.2 (by omega)⟩
  | negSucc k => cases h

def indexAddrB (P : Program) (t : TypeId) (x i : PV) : Option PV :=
  match i with
  | .sc (.int _ n) => match (td P t).k with
    | .slice e => if (td P e).ok then match x with
      | .im _ len cells => if inB n len then some (.ip (cells.drop (n.toNat * (td P e).size))) else none
      | .id j len => if inB n len then some (.ad j (n.toNat * (td P e).size)) else none
      | .ix j o len => if inB n len then some (.ad j (o + n.toNat * (td P e).size)) else none
      | _ => none
      else none
    | .arr m e => if (td P e).ok then match x with
      | .ad j o => if inB n m then some (.ad j (o + n.toNat * (td P e).size)) else none
      | .ip cells => if inB n m then some (.ip (cells.drop (n.toNat * (td P e).size))) else none
      | _ => none
      else none
    | _ => none
  | _ => none

def partB (P : Program) (t : TypeId) (ps : List PV) (off : Nat) : Option PV :=
  if (td P t).k.known then if (td P t).k.agg then if leB (off + (td P t).size) ps.length then some (.ag ((ps.drop off).take (td P t).size)) else none else if leB (off + 1) ps.length then some (ps.getD off .dead) else none else none

def fieldB (P : Program) (s : TypeId) (f : Nat) : PV → Option PV
  | .ag ps => match (td P s).k with
    | .struct fs => match fs[f]? with
      | some (off, ft) => partB P ft ps off
      | none => none
    | _ => none
  | _ => none

def extractB (i : Nat) : PV → Option PV
  | .tu ps => if leB (i + 1) ps.length then some (ps.getD i .dead) else none
  | _ => none

def indexB (P : Program) (t : TypeId) (x i : PV) : Option PV :=
  match i with
  | .sc (.int _ n) => match x with
    | .sc (.string s) => match (td P t).k with
      | .str => if inB n s.size then some (.sc (.int .u8 (byteAt s n.toNat))) else none
      | _ => none
    | .ag ps => match (td P t).k with
      | .arr m e => if (td P e).ok then if inB n m then partB P e ps (n.toNat * (td P e).size) else none else none
      | _ => none
    | _ => none
  | _ => none

def sliceB (P : Program) (t : TypeId) (x : PV) (lo hi : Option PV) : Option PV :=
  match x with
  | .sc (.string s) => match (td P t).k, loP lo, hiP s.size hi with
    | .str, some l, some h => if nonNegB l && nonNegB (h - l) && nonNegB (s.size - h) then some (.sc (.string (s.extract l.toNat h.toNat))) else none
    | _, _, _ => none
  | .im nz len cells => match (td P t).k, loP lo, hiP len hi with
    | .slice e, some l, some h => if (td P e).ok then if nonNegB l && nonNegB (h - l) && nonNegB (len - h) && cells.length == len * (td P e).size then some (.im nz (h.toNat - l.toNat) ((cells.drop (l.toNat * (td P e).size)).take ((h.toNat - l.toNat) * (td P e).size))) else none else none
    | _, _, _ => none
  | .id i len => match (td P t).k, loP lo, hiP len hi with
    | .slice e, some l, some h => if (td P e).ok then match lo with
      | none => if zeroB l && nonNegB h && nonNegB (len - h) then some (.id i h.toNat) else none
      | some _ => if nonNegB l && nonNegB (h - l) && nonNegB (len - h) then some (.ix i (l.toNat * (td P e).size) (h.toNat - l.toNat)) else none
      else none
    | _, _, _ => none
  | .ix i off len => match (td P t).k, loP lo, hiP len hi with
    | .slice e, some l, some h => if (td P e).ok then if nonNegB l && nonNegB (h - l) && nonNegB (len - h) then some (.ix i (off + l.toNat * (td P e).size) (h.toNat - l.toNat)) else none else none
    | _, _, _ => none
  | .sc (.slice none 0 0) => match (td P t).k, loP lo, hiP 0 hi with
    | .slice e, some l, some h => if (td P e).ok then if zeroB l && zeroB h then some (.sc (.slice none 0 0)) else none else none
    | _, _, _ => none
  | _ => none

def buildSliceB (P : Program) (t : TypeId) (len : Nat) (parts : List (Nat × PV)) (H : Heap) : Option (PV × Heap) :=
  match (td P t).k with
  | .slice e => if (td P e).ok && (td P e).hz && (td P e).zero.length == (td P e).size && decide (0 < (td P e).size) then
      match fillP (fun i => some (i * (td P e).size, (td P e).size)) (zerosP (td P e).zero len) parts with
      | some qs => if leB (len * (td P e).size) 16777216 && qs.all oneB && qs.length == len * (td P e).size then some (.id H.length len, H ++ [some ⟨e, true, (td P e).size, qs⟩]) else none
      | none => none
    else none
  | _ => none

def makeB (P : Program) (t : TypeId) (l k : PV) (H : Heap) : Option (PV × Heap) :=
  match l, k with
  | .sc (.int _ n), .sc (.int _ m) => match (td P t).k with
    | .slice e => if (td P e).ok && (td P e).hz && (td P e).zero.length == (td P e).size && decide (0 < (td P e).size) then
        if nonNegB n && nonNegB (m - n) && leB ((td P e).bytes * m.toNat) 281474976710656 && leB m.toNat 9223372036854775807 && (td P e).zero.all Value.oneCell' then some (.id H.length n.toNat, H ++ [some ⟨e, true, (td P e).size, zerosP (td P e).zero m.toNat⟩]) else none
      else none
    | _ => none
  | _, _ => none

def srcB (sz : Nat) (H : Heap) : PV → Option (Nat × List PV)
  | .id j m => match H[j]? with
    | some (some o) => if leB (m * sz) o.cells.length then some (m, o.cells.take (m * sz)) else none
    | _ => none
  | .ix j off m => match H[j]? with
    | some (some o) => if leB (off + m * sz) o.cells.length then some (m, (o.cells.drop off).take (m * sz)) else none
    | _ => none
  | .im _ m cells => if cells.length == m * sz then some (m, cells) else none
  | .sc (.slice none 0 0) => some (0, [])
  | _ => none

def appendB (P : Program) (t u : TypeId) (x y : PV) (H : Heap) : Option (PV × Heap) :=
  match (td P t).k with
  | .slice e => if t = u && (td P e).ok && (td P e).hz && (td P e).zero.length == (td P e).size && decide (0 < (td P e).size) then
      match srcB (td P e).size H y with
      | some (m, cells) => match x with
        | .sc (.slice none 0 0) => match y with
          | .sc (.slice none 0 0) => some (.sc (.slice none 0 0), H)
          | _ => if leB 1 m && leB m 9223372036854775807 && leB (m * (td P e).bytes) 140737488355328 then some (.id H.length m, H ++ [some ⟨e, true, (td P e).size, cells⟩]) else none
        | .id i n => match H[i]? with
          | some (some o) => if o.ty = e ∧ o.sl = true ∧ o.sz = (td P e).size then
              if leB (n * (td P e).size) o.cells.length && leB (n + m) 9223372036854775807 && leB ((n + m) * (td P e).bytes) 140737488355328 then some (.id H.length (n + m), H.set i none ++ [some ⟨e, true, (td P e).size, o.cells.take (n * (td P e).size) ++ cells⟩]) else none
            else none
          | _ => none
        | _ => none
      | none => none
    else none
  | _ => none

def copyB (P : Program) (t : TypeId) (x y : PV) (H : Heap) : Option (PV × Heap) :=
  match (td P t).k, x with
  | .slice e, .id i n => match H[i]? with
    | some (some o) => if (td P e).ok && (td P e).size == 1 then match srcB 1 H y with
      | some (m, cells) => if leB n o.cells.length then some (.sc (.int .i64 (Nat.min m n : Nat)), H.set i (some { o with cells := over o.cells 0 (cells.take (Nat.min m n)) })) else none
      | none => none
      else none
    | _ => none
  | _, _ => none

theorem loadB_ok {d : TD} {H : Heap} {x p : PV} (h : loadB d H x = some p) : ∃ ok, loadP d H x = some (ok, p) ∧ ok := by
  cases x <;> simp only [loadB, loadP] at h ⊢
  all_goals first | cases h; done | skip
  all_goals (repeat' split at h)
  all_goals first | (cases h; done) | skip
  all_goals (cases h; have hc := leB_ok (by assumption); simp_all)
  all_goals first | exact ⟨True, trivial⟩ | exact ⟨_, Iff.rfl, by omega⟩

theorem storeB_ok {d : TD} {H H' : Heap} {x y : PV} (h : storeB d H x y = some H') : ∃ ok, storeP d H x y = some (ok, H') ∧ ok := by
  cases x <;> simp only [storeB, storeP] at h ⊢
  all_goals first | cases h; done | skip
  split at h
  · rename_i o ho
    split at h
    · rename_i hd
      split at h
      · rename_i hc
        cases h
        simp only [Bool.and_eq_true, beq_iff_eq] at hc
        simp only [ho, hd, if_true]
        exact ⟨_, rfl, hc.1.1, hc.1.2, leB_ok hc.2⟩
      · cases h
    · cases h
  · cases h

theorem intB_ok {op : BinOp} {k : IntKind} {a b : Int} {p : PV} (h : intB op k a b = some p) : ∃ ok, intP op k a b = some (ok, p) ∧ ok := by
  cases op <;> simp only [intB, intP] at h ⊢
  all_goals first | (cases h; exact ⟨_, rfl, trivial⟩) | (cases h; done) | skip
  all_goals (split at h <;> cases h; exact ⟨_, rfl, zeroB_ok (by simpa using ‹¬ zeroB b = true›)⟩)

theorem strB_ok {op : BinOp} {a b : ByteArray} {p : PV} (h : strB op a b = some p) : ∃ ok, strP op a b = some (ok, p) ∧ ok := by
  cases op <;> simp only [strB, strP] at h ⊢
  all_goals first | (cases h; exact ⟨_, rfl, trivial⟩) | (cases h; done) | skip
  all_goals (split at h <;> cases h; exact ⟨_, rfl, leB_ok (by assumption)⟩)

theorem binB_ok {op : BinOp} {k : TK} {x y p : PV} (h : binB op k x y = some p) : ∃ ok, binP op k x y = some (ok, p) ∧ ok := by
  unfold binB at h
  unfold binP
  split at h
  · split at h
    · split at h
      · cases h; exact ⟨_, rfl, nonNegB_ok (by assumption)⟩
      · cases h
    · split at h
      · cases h; exact ⟨_, rfl, nonNegB_ok (by assumption)⟩
      · cases h
    · rename_i h1 h2
      split at h
      · rename_i e
        obtain ⟨ok, k1, k2⟩ := intB_ok h
        refine ⟨ok, ?_, k2⟩
        simp only [if_pos e]
        exact k1
      · cases h
  · exact strB_ok h
  · rename_i n1 n2
    split at h
    · cases he : eqP k x y with
      | none => rw [he] at h; cases h
      | some r =>
        rw [he] at h; cases h
        exact ⟨True, by simp [he], trivial⟩
    · cases he : eqP k x y with
      | none => rw [he] at h; cases h
      | some r =>
        rw [he] at h; cases h
        exact ⟨True, by simp [he], trivial⟩
    · cases h

theorem indexAddrB_ok {P : Program} {t : TypeId} {x i p : PV} (h : indexAddrB P t x i = some p) : ∃ ok, indexAddrP P t x i = some (ok, p) ∧ ok := by
  unfold indexAddrB at h
  unfold indexAddrP
  repeat' split at h
  all_goals first | (cases h; done) | skip
  all_goals (cases h; have hd := inB_ok (by assumption); simp_all)
  all_goals exact ⟨True, trivial⟩

theorem partB_ok {P : Program} {t : TypeId} {ps : List PV} {off : Nat} {p : PV} (h : partB P t ps off = some p) : ∃ ok, partP P t ps off = some (ok, p) ∧ ok := by
  unfold partB at h
  unfold partP
  repeat' split at h
  all_goals first | (cases h; done) | skip
  all_goals (cases h; have hd := leB_ok (by assumption); simp_all)
  all_goals first | exact ⟨True, trivial⟩ | exact ⟨_, Iff.rfl, by omega⟩

theorem fieldB_ok {P : Program} {s : TypeId} {f : Nat} {x p : PV} (h : fieldB P s f x = some p) : ∃ ok, fieldP P s f x = some (ok, p) ∧ ok := by
  cases x <;> simp only [fieldB, fieldP] at h ⊢
  all_goals first | cases h; done | skip
  split at h
  · rename_i hk
    split at h
    · rename_i hf
      obtain ⟨ok, k1, k2⟩ := partB_ok h
      simp only [hk, hf, k1]
      exact ⟨_, rfl, k2⟩
    · cases h
  · cases h

theorem extractB_ok {i : Nat} {x p : PV} (h : extractB i x = some p) : ∃ ok, extractP i x = some (ok, p) ∧ ok := by
  cases x <;> simp only [extractB, extractP] at h ⊢
  all_goals first | cases h; done | skip
  split at h
  · cases h; exact ⟨_, rfl, leB_ok (by assumption)⟩
  · cases h

theorem indexB_ok {P : Program} {t : TypeId} {x i p : PV} (h : indexB P t x i = some p) : ∃ ok, indexP P t x i = some (ok, p) ∧ ok := by
  unfold indexB at h
  unfold indexP
  split at h
  · split at h
    · split at h
      · rename_i hk
        split at h
        · cases h
          have hd := inB_ok (by assumption)
          simp only [hk]
          exact ⟨_, rfl, hd⟩
        · cases h
      · cases h
    · split at h
      · rename_i hk
        split at h
        · rename_i h1
          split at h
          · rename_i h2
            obtain ⟨ok, k1, k2⟩ := partB_ok h
            simp only [hk, h1, if_true, k1, Option.map_some]
            exact ⟨_, rfl, inB_ok h2, k2⟩
          · cases h
        · cases h
      · cases h
    · cases h
  · cases h

theorem zeroB_yes {n : Int} (h : zeroB n = true) : n = 0 := by
  unfold zeroB at h
  split at h
  · rfl
  · cases h

theorem sliceB_ok {P : Program} {t : TypeId} {x p : PV} {lo hi : Option PV} (h : sliceB P t x lo hi = some p) : ∃ ok, sliceP P t x lo hi = some (ok, p) ∧ ok := by
  unfold sliceB at h
  unfold sliceP
  split at h
  · split at h
    · rename_i e1 e2 e3
      split at h
      · rename_i hc
        simp only [Bool.and_eq_true] at hc
        have h1 := nonNegB_ok hc.1.1
        have h2 := nonNegB_ok hc.1.2
        have h3 := nonNegB_ok hc.2
        cases h
        simp only [e1, e2, e3]
        exact ⟨_, rfl, h1, by omega, by omega⟩
      · cases h
    · cases h
  · split at h
    · rename_i e1 e2 e3
      split at h
      · rename_i hok
        split at h
        · rename_i hc
          simp only [Bool.and_eq_true, beq_iff_eq] at hc
          have h1 := nonNegB_ok hc.1.1.1
          have h2 := nonNegB_ok hc.1.1.2
          have h3 := nonNegB_ok hc.1.2
          cases h
          simp only [e1, e2, e3, hok, if_true]
          exact ⟨_, rfl, h1, by omega, by omega, hc.2⟩
        · cases h
      · cases h
    · cases h
  · split at h
    · rename_i e1 e2 e3
      split at h
      · rename_i hok
        split at h
        · split at h
          · rename_i hc
            simp only [Bool.and_eq_true] at hc
            have h2 := nonNegB_ok hc.1.2
            have h3 := nonNegB_ok hc.2
            have h1 := zeroB_yes hc.1.1
            cases h
            simp only [e1, e2, e3, hok, if_true]
            exact ⟨_, rfl, h1, h2, by omega⟩
          · cases h
        · split at h
          · rename_i hc
            simp only [Bool.and_eq_true] at hc
            have h1 := nonNegB_ok hc.1.1
            have h2 := nonNegB_ok hc.1.2
            have h3 := nonNegB_ok hc.2
            cases h
            simp only [e1, e2, e3, hok, if_true]
            exact ⟨_, rfl, h1, by omega, by omega⟩
          · cases h
      · cases h
    · cases h
  · split at h
    · rename_i e1 e2 e3
      split at h
      · rename_i hok
        split at h
        · rename_i hc
          simp only [Bool.and_eq_true] at hc
          have h1 := nonNegB_ok hc.1.1
          have h2 := nonNegB_ok hc.1.2
          have h3 := nonNegB_ok hc.2
          cases h
          simp only [e1, e2, e3, hok, if_true]
          exact ⟨_, rfl, h1, by omega, by omega⟩
        · cases h
      · cases h
    · cases h
  · split at h
    · rename_i e1 e2 e3
      split at h
      · rename_i hok
        split at h
        · rename_i hc
          simp only [Bool.and_eq_true] at hc
          cases h
          simp only [e1, e2, e3, hok, if_true]
          exact ⟨_, rfl, zeroB_yes hc.1, zeroB_yes hc.2⟩
        · cases h
      · cases h
    · cases h
  · cases h

theorem buildSliceB_ok {P : Program} {t : TypeId} {len : Nat} {parts : List (Nat × PV)} {H H' : Heap} {p : PV} (h : buildSliceB P t len parts H = some (p, H')) : ∃ ok, buildSliceP P t len parts H = some (ok, p, H') ∧ ok := by
  unfold buildSliceB at h
  unfold buildSliceP
  split at h
  · rename_i hk
    split at h
    · rename_i hc
      split at h
      · rename_i qs hq
        split at h
        · rename_i hd
          simp only [Bool.and_eq_true, beq_iff_eq] at hd
          cases h
          simp only [hk, if_pos hc, hq, Option.map_some]
          exact ⟨_, rfl, leB_ok hd.1.1, hd.1.2, hd.2⟩
        · cases h
      · cases h
    · cases h
  · cases h

theorem makeB_ok {P : Program} {t : TypeId} {l k : PV} {H H' : Heap} {p : PV} (h : makeB P t l k H = some (p, H')) : ∃ ok, makeP P t l k H = some (ok, p, H') ∧ ok := by
  unfold makeB at h
  unfold makeP
  split at h
  · rename_i kn n km m
    split at h
    · rename_i e hk
      split at h
      · rename_i hc
        split at h
        · rename_i hd
          simp only [Bool.and_eq_true] at hd
          have h1 := nonNegB_ok hd.1.1.1.1
          have h2 := nonNegB_ok hd.1.1.1.2
          have h3 := leB_ok hd.1.1.2
          have h4 := leB_ok hd.1.2
          cases h
          simp only [hk, if_pos hc]
          refine ⟨_, rfl, h1, by omega, ?_, by omega, hd.2⟩
          have e : (m.toNat : Int) = m := Int.toNat_of_nonneg (by omega)
          rw [← e]
          have : (((td P _).bytes * m.toNat : Nat) : Int) ≤ ((281474976710656 : Nat) : Int) := Int.ofNat_le.2 h3
          simpa using this
        · cases h
      · cases h
    · cases h
  · cases h

theorem srcB_ok {sz : Nat} {H : Heap} {x : PV} {m : Nat} {cells : List PV} (h : srcB sz H x = some (m, cells)) : ∃ ok, srcP sz H x = some (ok, m, cells) ∧ ok := by
  unfold srcB at h
  unfold srcP
  split at h
  · split at h
    · rename_i ho
      split at h
      · cases h
        simp only [ho]
        exact ⟨_, rfl, leB_ok (by assumption)⟩
      · cases h
    · cases h
  · split at h
    · rename_i ho
      split at h
      · cases h
        simp only [ho]
        exact ⟨_, rfl, leB_ok (by assumption)⟩
      · cases h
    · cases h
  · split at h
    · rename_i hc; cases h; exact ⟨_, rfl, by simpa using hc⟩
    · cases h
  · cases h; exact ⟨_, rfl, trivial⟩
  · cases h

theorem appendB_ok {P : Program} {t u : TypeId} {x y : PV} {H H' : Heap} {p : PV} (h : appendB P t u x y H = some (p, H')) : ∃ ok, appendP P t u x y H = some (ok, p, H') ∧ ok := by
  unfold appendB at h
  unfold appendP
  split at h
  · rename_i e hk
    split at h
    · rename_i hc
      split at h
      · rename_i m cells hs
        obtain ⟨ok, k1, k2⟩ := srcB_ok hs
        simp only [hk, if_pos hc, k1]
        split at h
        · split at h
          · cases h; exact ⟨_, rfl, k2⟩
          · rename_i hny
            split at h
            · rename_i hd
              simp only [Bool.and_eq_true] at hd
              cases h
              refine ⟨ok ∧ 0 < m ∧ m ≤ 9223372036854775807 ∧ m * (td P e).bytes ≤ 140737488355328, ?_, k2, leB_ok hd.1.1, leB_ok hd.1.2, leB_ok hd.2⟩
              split
              · split
                · exact (hny rfl).elim
                · rfl
              · rename_i hq
                cases hq
              · rename_i h1 _
                exact (h1 rfl).elim
            · cases h
        · split at h
          · rename_i o ho
            split at h
            · rename_i hq
              split at h
              · rename_i hd
                simp only [Bool.and_eq_true] at hd
                cases h
                simp only [ho, if_pos hq]
                exact ⟨_, rfl, k2, leB_ok hd.1.1, leB_ok hd.1.2, leB_ok hd.2⟩
              · cases h
            · cases h
          · cases h
        · cases h
      · cases h
    · cases h
  · cases h

theorem copyB_ok {P : Program} {t : TypeId} {x y : PV} {H H' : Heap} {p : PV} (h : copyB P t x y H = some (p, H')) : ∃ ok, copyP P t x y H = some (ok, p, H') ∧ ok := by
  unfold copyB at h
  unfold copyP
  split at h
  · rename_i hk
    split at h
    · rename_i o ho
      split at h
      · rename_i hc
        split at h
        · rename_i m cells hs
          obtain ⟨ok, k1, k2⟩ := srcB_ok hs
          split at h
          · cases h
            simp only [hk, ho, if_pos hc, k1]
            exact ⟨_, rfl, k2, leB_ok (by assumption)⟩
          · cases h
        · cases h
      · cases h
    · cases h
  · cases h

def hzB (d : TD) : Bool := d.hz && d.zero.all Value.oneCell'

/-- An operation that is no call of a function. -/
def opB (P : Program) (op : Op) (ev : Operand → PV) (H : Heap) : Option (PV × Heap) :=
  let q (r : Option PV) : Option (PV × Heap) := r.map fun p => (p, H)
  let q' (r : Option (Prop × PV)) : Option (PV × Heap) := r.map fun p => (p.2, H)
  match op with
  | .move x | .assign x => some (ev x, H)
  | .alloc t => if (td P t).hz && (td P t).zero.all Value.oneCell' then some (.ad H.length 0, H ++ [some ⟨t, false, 1, (td P t).zero.map .sc⟩]) else none
  | .box t x => if (cellsP (ev x)).all oneB then some (.ad H.length 0, H ++ [some ⟨t, false, 1, cellsP (ev x)⟩]) else none
  | .build t parts => q' (buildP P t (parts.toList.map fun (i, x) => (i, ev x)))
  | .buildSlice t len parts => buildSliceB P t len (parts.toList.map fun (i, x) => (i, ev x)) H
  | .load t x => q (loadB (td P t) H (ev x))
  | .store t x y => (storeB (td P t) H (ev x) (ev y)).map fun h => (.dead, h)
  | .nilCheck x => q' (nilCheckP (ev x))
  | .binOp op t x y _ => q (match binS P op t (ev x) (ev y) with | some p => some p | none => binB op (td P t).k (ev x) (ev y))
  | .unOp op _ x => q' (unP op (ev x))
  | .convert s d x => q' (convP (td P s) (td P d) (ev x))
  | .makeInterface t x => if concB (td P t).k then some (.ifc t (ev x), H) else none
  | .makeFunc f a b => some (.fn f (a.toList.map ev) (b.toList.map ev), H)
  | .makeSlice t l k => makeB P t (ev l) (ev k) H
  | .slice t x lo hi none => q (sliceB P t (ev x) (lo.map ev) (hi.map ev))
  | .fieldAddr t x f => q' (fieldAddrP P t f (ev x))
  | .field t x f => q (fieldB P t f (ev x))
  | .indexAddr t x i => q (indexAddrB P t (ev x) (ev i))
  | .index t x i => q (indexB P t (ev x) (ev i))
  | .extract x i => q (extractB i (ev x))
  | .call c => match c.callee with
    | .builtin b => match b, c.args.toList, c.argTypes.toList with
      | .len, [x], [t] => q' (lenP (td P t).k (ev x))
      | .append, [x, y], [t, u] => appendB P t u (ev x) (ev y) H
      | .copy, [x, y], [t, _] => copyB P t (ev x) (ev y) H
      | .min, [x, y], _ => q' (minP (ev x) (ev y))
      | .max, [x, y], _ => q' (maxP (ev x) (ev y))
      | _, _, _ => none
    | _ => none
  | _ => none

theorem opB_ok {P : Program} {op : Op} {ev : Operand → PV} {H H' : Heap} {p : PV} (h : opB P op ev H = some (p, H')) : ∃ ok, opP P op ev H = some (ok, p, H') ∧ ok := by
  have hq : ∀ {r : Option PV} {r' : Option (Prop × PV)}, (r.map fun p => (p, H)) = some (p, H') → (∀ q, r = some q → ∃ ok, r' = some (ok, q) ∧ ok) → ∃ ok, keepH H r' = some (ok, p, H') ∧ ok := by
    intro r r' h1 h2
    cases r with
    | none => cases h1
    | some q =>
      cases h1
      obtain ⟨ok, k1, k2⟩ := h2 _ rfl
      exact ⟨ok, by rw [k1]; rfl, k2⟩
  have hq' : ∀ {r : Option (Prop × PV)}, (r.map fun p => (p.2, H)) = some (p, H') → (∀ ok q, r = some (ok, q) → ok) → ∃ ok, keepH H r = some (ok, p, H') ∧ ok := by
    intro r h1 h2
    cases r with
    | none => cases h1
    | some q =>
      obtain ⟨ok, q⟩ := q
      cases h1
      exact ⟨ok, rfl, h2 ok q rfl⟩
  cases op with
  | move x => cases h; exact ⟨True, rfl, trivial⟩
  | assign x => cases h; exact ⟨True, rfl, trivial⟩
  | alloc t =>
    simp only [opB] at h
    split at h
    · rename_i hc
      simp only [Bool.and_eq_true] at hc
      cases h
      exact ⟨_, by simp only [opP, allocP, hc.1, if_true], hc.2⟩
    · cases h
  | box t x =>
    simp only [opB] at h
    split at h
    · rename_i hc
      cases h
      exact ⟨_, rfl, hc⟩
    · cases h
  | build t parts =>
    refine hq' h fun ok q hr => ?_
    unfold buildP at hr
    repeat' split at hr
    all_goals first | (cases hr; done) | skip
    all_goals (
      simp only [Option.map_eq_some_iff] at hr
      obtain ⟨qs, _, hr⟩ := hr
      cases hr; trivial)
  | buildSlice t len parts => exact buildSliceB_ok h
  | load t x => exact hq h fun q hr => loadB_ok hr
  | store t x y =>
    simp only [opB] at h
    cases hs : storeB (td P t) H (ev x) (ev y) with
    | none => rw [hs] at h; cases h
    | some h2 =>
      rw [hs] at h; cases h
      obtain ⟨ok, k1, k2⟩ := storeB_ok hs
      exact ⟨ok, by simp only [opP, k1, Option.map_some], k2⟩
  | nilCheck x =>
    refine hq' h fun ok q hr => ?_
    unfold nilCheckP at hr
    split at hr <;> cases hr <;> trivial
  | binOp op t x y _ =>
    refine hq h fun q hr => ?_
    unfold binX
    split at hr
    · rename_i p hp
      cases hr
      simp only [hp]
      exact ⟨True, rfl, trivial⟩
    · rename_i hp
      simp only [hp]
      exact binB_ok hr
  | unOp op _ x =>
    refine hq' h fun ok q hr => ?_
    unfold unP at hr
    repeat' split at hr
    all_goals (cases hr; try trivial)
  | convert s d x =>
    refine hq' h fun ok q hr => ?_
    unfold convP at hr
    repeat' split at hr
    all_goals (cases hr; try trivial)
  | makeInterface t x =>
    simp only [opB] at h
    split at h
    · rename_i hc
      cases h
      exact ⟨True, by simp only [opP, if_pos hc], trivial⟩
    · cases h
  | makeFunc f a b => cases h; exact ⟨True, rfl, trivial⟩
  | makeSlice t l k => exact makeB_ok h
  | slice t x lo hi mx =>
    cases mx with
    | none => exact hq h fun q hr => sliceB_ok hr
    | some _ => cases h
  | fieldAddr t x f =>
    refine hq' h fun ok q hr => ?_
    unfold fieldAddrP at hr
    repeat' split at hr
    all_goals (cases hr; try trivial)
  | field t x f => exact hq h fun q hr => fieldB_ok hr
  | indexAddr t x i => exact hq h fun q hr => indexAddrB_ok hr
  | index t x i => exact hq h fun q hr => indexB_ok hr
  | extract x i => exact hq h fun q hr => extractB_ok hr
  | call c =>
    obtain ⟨callee, args, ats⟩ := c
    cases callee with
    | builtin b =>
      simp only [opB] at h
      simp only [opP]
      split at h
      · rename_i e1 e2
        simp only [e1, e2]
        refine hq' h fun ok q hr => ?_
        unfold lenP at hr
        repeat' split at hr
        all_goals (cases hr; try trivial)
      · rename_i e1 e2
        simp only [e1, e2]
        exact appendB_ok h
      · rename_i e1 e2
        simp only [e1, e2]
        exact copyB_ok h
      · rename_i e1
        simp only [e1]
        refine hq' h fun ok q hr => ?_
        unfold minP at hr
        repeat' split at hr
        all_goals (cases hr; try trivial)
      · rename_i e1
        simp only [e1]
        refine hq' h fun ok q hr => ?_
        unfold maxP at hr
        repeat' split at hr
        all_goals (cases hr; try trivial)
      · cases h
    | _ => cases h
  | _ => cases h

end Go.Proofs.Ytbbjmfkmjjinnaa.V
