/- The logic's laws: a law's arguments as plain data; a contract of a law as its row. No law of the program is proved here. -/
import Derived.Test.YtbbjmfkmjjinnaaVD
import Derived.WalkKit
import Derived.ProofKit
import Derived.OpenShut
import Derived.ChangeOld
import Derived.Below
import Derived.Carry
import Derived.SizedLaws
set_option linter.all false
namespace Go.Proofs.Ytbbjmfkmjjinnaa.V
open Go Go.ChangeShapes Go.WideShapes Go.ChangeAt Go.RowKit

/-- What an argument's type is. A struct: a chain of 'pr', 'un'. -/
inductive Ty where
  | int (k : IntKind) | bool | str | sl (e : Ty) | st (f : Ty) | un | pr (a b : Ty)

def Ty.M : Ty → Type
  | .int _ => Int
  | .bool => Bool
  | .str => ByteArray
  | .sl e => List e.M
  | .st f => f.M
  | .un => Unit
  | .pr a b => a.M × b.M

def Ty.size : Ty → Nat
  | .st f => f.size
  | .un => 0
  | .pr a b => a.size + b.size
  | _ => 1

def Ty.Ok : (τ : Ty) → τ.M → Prop
  | .int k, n => (Lit.int k n).wf = true
  | .bool, _ => True
  | .str, s => s.size ≤ maxLen
  | .sl e, l => List.length (α := e.M) l ≤ maxLen ∧ ∀ x, List.Mem (α := e.M) x l → e.Ok x
  | .st f, x => f.Ok x
  | .un, _ => True
  | .pr a b, x => a.Ok x.1 ∧ b.Ok x.2

def Ty.pv : (τ : Ty) → τ.M → List PV
  | .int k, n => [.sc (.int k n)]
  | .bool, b => [.sc (.bool b)]
  | .str, s => [.sc (.string s)]
  | .sl e, l => [.im false (List.length (α := e.M) l) (List.flatMap (α := e.M) e.pv l)]
  | .st f, x => f.pv x
  | .un, _ => []
  | .pr a b, x => a.pv x.1 ++ b.pv x.2

def Ty.pv1 : (τ : Ty) → τ.M → PV
  | .st f, x => .ag (f.pv x)
  | τ, x => (τ.pv x).headD .dead

def Ty.pvs : (τ : Ty) → τ.M → List PV
  | .pr a b, x => a.pv1 x.1 :: b.pvs x.2
  | _, _ => []

def Ty.fit (P : Program) : Ty → (TypeId → Bool) × (List Field → Nat → Bool)
  | .int k => (fun t => (match P.underlying t with | some (.int k') => decide (k' = k) | _ => false) && P.cellsOf t == 1, fun _ _ => false)
  | .bool => (fun t => (match P.underlying t with | some .bool => true | _ => false) && P.cellsOf t == 1, fun _ _ => false)
  | .str => (fun t => (match P.underlying t with | some .string => true | _ => false) && P.cellsOf t == 1, fun _ _ => false)
  | .sl e => (fun t => (match P.underlying t with | some (.slice te) => (e.fit P).1 te && P.cellsOf te == e.size && decide (0 < e.size) | _ => false) && P.cellsOf t == 1, fun _ _ => false)
  | .st f => (fun t => (match P.underlying t with | some (.struct fs) => (f.fit P).2 fs.toList 0 && P.cellsOf t == f.size | _ => false), fun _ _ => false)
  | .un => (fun _ => false, fun fs _ => fs.isEmpty)
  | .pr a b => (fun _ => false, fun fs off => match fs with | f :: fs => f.offset == off && (a.fit P).1 f.type && P.cellsOf f.type == a.size && (b.fit P).2 fs (off + a.size) | [] => false)

theorem Ty.pv_length : ∀ (τ : Ty) (x : τ.M), (τ.pv x).length = τ.size
  | .int _, _ => rfl
  | .bool, _ => rfl
  | .str, _ => rfl
  | .sl _, _ => rfl
  | .st f, x => pv_length f x
  | .un, _ => rfl
  | .pr a b, x => by simp [Ty.pv, Ty.size, pv_length a, pv_length b]

/-- A context that is a world's own: all that is there stays. -/
def Cx.all (w : World) : Cx := ⟨w, fun b => b < w.heap.size, fun _ => (0, 0), 0⟩

theorem cells?_get {w : World} {base : Nat} {a : Addr} {n : Nat} {cs : List Value} (h : w.cells? base a n = some cs) : cs.length = n ∧ ∀ i, i < n → w.cell? (a.add i) = some (cs.getD i undef) := by
  unfold World.cells? at h
  split at h
  · have hl : cs.length = n := by simpa using mapM_some_length h
    refine ⟨hl, fun i hi => ?_⟩
    have := mapM_some_get h i i (by simp [hi])
    rw [this, List.getD_eq_getElem?_getD, List.getElem?_eq_getElem (by omega)]
    rfl
  · cases h

theorem cell?_lt {w : World} {a : Addr} {v : Value} (h : w.cell? a = some v) : a.block < w.heap.size := by
  rcases Nat.lt_or_ge a.block w.heap.size with h1 | h1
  · exact h1
  · have : w.heap[a.block]? = none := Array.getElem?_eq_none h1
    simp [World.cell?, this] at h

theorem flatMap_getD {α : Type} (f : α → List PV) (k : Nat) : ∀ (l : List α), (∀ x, x ∈ l → (f x).length = k) → ∀ i r, i < l.length → r < k → ∃ x, l[i]? = some x ∧ (l.flatMap f).getD (i * k + r) .dead = (f x).getD r .dead
  | [], _, i, _, hi, _ => by simp at hi
  | x :: l, h, 0, r, _, hr => by
    refine ⟨x, rfl, ?_⟩
    simp only [List.flatMap_cons, List.getD_eq_getElem?_getD, Nat.zero_mul, Nat.zero_add]
    rw [List.getElem?_append_left (by rw [h x (by simp)]; exact hr)]
  | x :: l, h, i + 1, r, hi, hr => by
    obtain ⟨y, h1, h2⟩ := flatMap_getD f k l (fun x hx => h x (by simp [hx])) i r (by simpa using hi) hr
    refine ⟨y, by simpa using h1, ?_⟩
    rw [← h2]
    simp only [List.flatMap_cons, List.getD_eq_getElem?_getD]
    have hx := h x (by simp)
    rw [List.getElem?_append_right (by rw [hx, Nat.succ_mul]; omega), hx]
    congr 2
    rw [Nat.succ_mul]; omega

theorem flatMap_length {α : Type} (f : α → List PV) (k : Nat) : ∀ (l : List α), (∀ x, x ∈ l → (f x).length = k) → (l.flatMap f).length = l.length * k
  | [], _ => by simp
  | x :: l, h => by simp [flatMap_length f k l (fun x hx => h x (by simp [hx])), h x (by simp), Nat.succ_mul]; omega

theorem choose_list {α : Type} (p : Nat → α → Prop) : ∀ (n : Nat), (∀ i, i < n → ∃ x, p i x) → ∃ l : List α, l.length = n ∧ ∀ i x, l[i]? = some x → p i x
  | 0, _ => ⟨[], rfl, fun i x h => by simp at h⟩
  | n + 1, h => by
    obtain ⟨l, h1, h2⟩ := choose_list p n (fun i hi => h i (by omega))
    obtain ⟨x, hx⟩ := h n (by omega)
    refine ⟨l ++ [x], by simp [h1], fun i y hy => ?_⟩
    rw [List.getElem?_append] at hy
    split at hy
    · exact h2 i y hy
    · rename_i hi
      have : i = n := by
        rcases Nat.lt_or_ge (i - l.length) 1 with h | h
        · omega
        · rw [List.getElem?_eq_none (by simpa using h)] at hy; cases hy
      subst this
      simp [h1] at hy
      subst hy; exact hx

section
variable {H : Type} {enc : TypeId × Value → H} {P : Program} {w : World} {base : Nat} {spare : Nat → Bool} {held : Bool}

def Reads1 (w : World) (τ : Ty) (cs : List Value) : Prop := ∃ x : τ.M, τ.Ok x ∧ RelL (Cx.all w) cs (τ.pv x) ∧ ∀ u, u ∈ cs → u.oneCell' = true

theorem relL_one {c : Cx} {v : Value} {p : PV} (h : Rel c v p) : RelL c [v] [p] := ⟨rfl, fun j hj => by
  have : j = 0 := by simp at hj; omega
  subst this; exact h⟩

theorem Ty.read : ∀ (τ : Ty), (∀ (n : Nat) (t : TypeId) (cs : List Value) x, (τ.fit P).1 t = true → DataW.trod enc P w 0 spare held n t cs = some x → Reads1 w τ cs) ∧
    (∀ (n : Nat) (fs : List Field) (off : Nat) (cs : List Value), (τ.fit P).2 fs off = true → cs.length = off + τ.size → (∀ (i : Nat) (f : Field), fs[i]? = some f → ∃ x, DataW.trod enc P w 0 spare held n f.type ((cs.drop f.offset).take (P.cellsOf f.type)) = some x) → Reads1 w τ (cs.drop off))
  | .int k => by
    refine ⟨fun n t cs x hf h => ?_, fun _ _ _ _ h => by simp [Ty.fit] at h⟩
    simp only [Ty.fit, Bool.and_eq_true] at hf
    split at hf
    · rename_i k' hu
      have : k' = k := by simpa using hf.1
      subst this
      obtain ⟨m, rfl, _, hw⟩ := DataW.trod_int hu h
      exact ⟨m, hw, relL_one (.sc _), by simp [Value.oneCell']⟩
    · simp at hf
  | .bool => by
    refine ⟨fun n t cs x hf h => ?_, fun _ _ _ _ h => by simp [Ty.fit] at h⟩
    simp only [Ty.fit, Bool.and_eq_true] at hf
    split at hf
    · rename_i hu
      obtain ⟨m, rfl, _⟩ := DataW.trod_bool hu h
      exact ⟨m, trivial, relL_one (.sc _), by simp [Value.oneCell']⟩
    · simp at hf
  | .str => by
    refine ⟨fun n t cs x hf h => ?_, fun _ _ _ _ h => by simp [Ty.fit] at h⟩
    simp only [Ty.fit, Bool.and_eq_true] at hf
    split at hf
    · rename_i hu
      obtain ⟨m, rfl, _, hs⟩ := DataW.trod_string hu h
      exact ⟨m, hs, relL_one (.sc _), by simp [Value.oneCell']⟩
    · simp at hf
  | .sl e => by
    refine ⟨fun n t cs x hf h => ?_, fun _ _ _ _ h => by simp [Ty.fit] at h⟩
    simp only [Ty.fit, Bool.and_eq_true] at hf
    split at hf
    · rename_i te hu
      simp only [Bool.and_eq_true, beq_iff_eq, decide_eq_true_eq] at hf
      obtain ⟨⟨⟨hfe, hce⟩, hpos⟩, _⟩ := hf
      rcases DataW.trod_slice hu h with ⟨rfl, _⟩ | ⟨a, len, cap, elems, rest, n', _, rfl, _, _, hl, hm, hlen, hel, _, _⟩
      · refine ⟨[], ⟨Nat.zero_le _, fun x hx => by cases hx⟩, relL_one ?_, by simp [Value.oneCell']⟩
        exact .im none ⟨0, 0, none⟩ 0 0 false [] (fun _ => undef) (fun h => by omega) (fun h => by cases h) (Nat.le_refl _) (fun _ => rfl) (fun j hj => by simp at hj) (fun j hj => by simp at hj)
      · have each : ∀ i, i < len → ∃ m : e.M, e.Ok m ∧ ∃ cs', w.cells? 0 (a.add (i * e.size)) e.size = some cs' ∧ RelL (Cx.all w) cs' (e.pv m) ∧ ∀ u, u ∈ cs' → u.oneCell' = true := by
          intro i hi
          have := hel i hi
          rw [hce, List.getElem?_eq_getElem (by omega), Option.bind_eq_some_iff] at this
          obtain ⟨cs', h1, h2⟩ := this
          obtain ⟨m, k1, k2, k3⟩ := (Ty.read e).1 n' te cs' _ hfe h2
          exact ⟨m, k1, cs', h1, k2, k3⟩
        obtain ⟨l, hll, hl2⟩ := choose_list _ len each
        have hfl := flatMap_length e.pv e.size l (fun x _ => Ty.pv_length e x)
        refine ⟨l, ⟨by omega, fun x hx => ?_⟩, relL_one ?_, by simp [Value.oneCell']⟩
        · obtain ⟨i, hi⟩ := List.getElem?_of_mem hx
          exact (hl2 i x hi).1
        · have key : ∀ j, j < (l.flatMap e.pv).length → ∃ u, w.cell? (a.add j) = some u ∧ u.oneCell' = true ∧ Rel (Cx.all w) u ((l.flatMap e.pv).getD j .dead) := by
            intro j hj
            rw [hfl] at hj
            have h1 : j / e.size < l.length := Nat.div_lt_of_lt_mul (by rw [Nat.mul_comm]; exact hj)
            have h2 : j % e.size < e.size := Nat.mod_lt _ hpos
            obtain ⟨x, hx, hg⟩ := flatMap_getD e.pv e.size l (fun x _ => Ty.pv_length e x) (j / e.size) (j % e.size) h1 h2
            have hj2 : j / e.size * e.size + j % e.size = j := by rw [Nat.mul_comm]; exact Nat.div_add_mod j e.size
            rw [hj2] at hg
            obtain ⟨_, cs', c1, c2, c3⟩ := hl2 _ x hx
            obtain ⟨g1, g2⟩ := cells?_get c1
            have hc := g2 _ h2
            rw [addr_add2, hj2] at hc
            refine ⟨_, hc, c3 _ ?_, ?_⟩
            · rw [List.getD_eq_getElem?_getD, List.getElem?_eq_getElem (by omega)]
              exact List.getElem_mem _
            · rw [hg]
              exact c2.2 _ (by rw [Ty.pv_length]; exact h2)
          have key2 : ∀ j, j < (l.flatMap e.pv).length → (w.cell? (a.add j) = some ((w.cell? (a.add j)).getD undef) ∧ ((w.cell? (a.add j)).getD undef).oneCell' = true) ∧ Rel (Cx.all w) ((w.cell? (a.add j)).getD undef) ((l.flatMap e.pv).getD j .dead) := by
            intro j hj
            obtain ⟨u, k1, k2, k3⟩ := key j hj
            rw [k1]
            exact ⟨⟨rfl, k2⟩, k3⟩
          have hlen' : (l.length : Nat) = len := hll
          have : Rel (Cx.all w) (.slice (some a) l.length cap) (.im false l.length (l.flatMap e.pv)) := by
            refine .im (some a) a _ cap false _ (fun j => (w.cell? (a.add j)).getD undef) (fun hp => ⟨rfl, ?_⟩) (fun h => by cases h) (by omega) (fun h0 => ?_) (fun j hj => (key2 j hj).1) (fun j hj => (key2 j hj).2)
            · obtain ⟨u, k1, _⟩ := key 0 (by rw [hfl]; exact Nat.mul_pos hp hpos)
              have := cell?_lt k1
              rw [add_block] at this
              exact this
            · exact List.eq_nil_of_length_eq_zero (by rw [hfl, h0, Nat.zero_mul])
          show Rel (Cx.all w) (.slice (some a) len cap) (.im false l.length (l.flatMap e.pv))
          rw [hlen'] at this ⊢
          exact this
    · simp at hf
  | .st f => by
    refine ⟨fun n t cs x hf h => ?_, fun _ _ _ _ h => by simp [Ty.fit] at h⟩
    simp only [Ty.fit] at hf
    split at hf
    · rename_i fs hu
      simp only [Bool.and_eq_true, beq_iff_eq] at hf
      obtain ⟨xs, n', _, _, hlen, hxl, hxs⟩ := DataW.trod_struct hu h
      have := (Ty.read f).2 n' fs.toList 0 cs hf.1 (by rw [hlen, hf.2]; simp) (fun i g hg => by
        have hg' : fs[i]? = some g := by simpa using hg
        have := hxs i g hg'
        have hi : i < xs.length := by rw [hxl]; exact (Array.getElem?_eq_some_iff.1 hg').1
        rw [List.getElem?_eq_getElem hi] at this
        exact ⟨_, this⟩)
      rw [List.drop_zero] at this
      exact this
    · simp at hf
  | .un => by
    refine ⟨fun _ _ _ _ hf => by simp [Ty.fit] at hf, fun n fs off cs hf hl _ => ?_⟩
    refine ⟨(), trivial, ?_, ?_⟩
    · have : cs.drop off = [] := List.drop_eq_nil_of_le (by simp [Ty.size] at hl; omega)
      rw [this]; exact ⟨rfl, fun j hj => by simp [Ty.pv] at hj⟩
    · have : cs.drop off = [] := List.drop_eq_nil_of_le (by simp [Ty.size] at hl; omega)
      rw [this]; simp
  | .pr a b => by
    refine ⟨fun _ _ _ _ hf => by simp [Ty.fit] at hf, fun n fs off cs hf hl hx => ?_⟩
    simp only [Ty.fit] at hf
    split at hf
    · rename_i f fs
      simp only [Bool.and_eq_true, beq_iff_eq] at hf
      obtain ⟨⟨⟨h1, h2⟩, h3⟩, h4⟩ := hf
      obtain ⟨x0, hx0⟩ := hx 0 f rfl
      rw [h1, h3] at hx0
      obtain ⟨xa, a1, a2, a3⟩ := (Ty.read a).1 n f.type _ x0 h2 hx0
      simp only [Ty.size] at hl
      obtain ⟨xb, b1, b2, b3⟩ := (Ty.read b).2 n fs (off + a.size) cs h4 (by omega) (fun i g hg => hx (i + 1) g (by simpa using hg))
      have e : cs.drop off = (cs.drop off).take a.size ++ cs.drop (off + a.size) := by
        rw [← List.drop_drop]; exact (List.take_append_drop _ _).symm
      refine ⟨(xa, xb), ⟨a1, b1⟩, ?_, ?_⟩
      · rw [e]; exact RelL.append a2 b2
      · rw [e]; intro u hu
        rcases List.mem_append.1 hu with hu | hu
        · exact a3 u hu
        · exact b3 u hu
    · simp at hf

/-- Arguments, each of its type. -/
def Ty.fits (P : Program) : Ty → List TypeId → Bool
  | .un, [] => true
  | .pr a b, t :: ts => (match a with | .un => false | .pr _ _ => false | _ => true) && (a.fit P).1 t && P.readableRec t && decide (t < P.types.size) && b.fits P ts
  | _, _ => false

theorem Ty.read1 {τ : Ty} {t : TypeId} {v : Value} {d : DataW H} {ps : List MemPlace} (hf : (τ.fit P).1 t = true) (hv : Value.okWide P w .any base t v) (h : DataW.Trod enc P w 0 spare held t v d ps) : ∃ x : τ.M, τ.Ok x ∧ Rel (Cx.all w) v (τ.pv1 x) := by
  obtain ⟨n, h⟩ := h
  obtain ⟨x, h1, h2, h3⟩ := (Ty.read τ).1 n t _ _ hf h
  refine ⟨x, h1, ?_⟩
  have single : ∀ {p : PV}, v.cells = #[v] → τ.pv x = [p] → Rel (Cx.all w) v p := fun e ep => by
    rw [e, ep] at h2
    simpa using h2.2 0 (by simp)
  cases τ with
  | int k =>
    simp only [Ty.fit, Bool.and_eq_true] at hf
    split at hf
    · rename_i hu; obtain ⟨m, rfl⟩ := okWide_int hu hv; exact single rfl rfl
    · simp at hf
  | bool =>
    simp only [Ty.fit, Bool.and_eq_true] at hf
    split at hf
    · rename_i hu; obtain ⟨m, rfl⟩ := okWide_bool hu hv; exact single rfl rfl
    · simp at hf
  | str =>
    simp only [Ty.fit, Bool.and_eq_true] at hf
    split at hf
    · rename_i hu; obtain ⟨m, rfl⟩ := okWide_string hu hv; exact single rfl rfl
    · simp at hf
  | sl e =>
    simp only [Ty.fit, Bool.and_eq_true] at hf
    split at hf
    · rename_i hu; obtain ⟨a, l, c, rfl⟩ := okWide_slice hu hv; exact single rfl rfl
    · simp at hf
  | st f =>
    simp only [Ty.fit] at hf
    split at hf
    · rename_i hu
      obtain ⟨cs, rfl, _⟩ := okWide_struct hu hv
      have := h2
      simp only [Value.cells] at this
      exact .ag cs.toList _ this.1 this.2
    · simp at hf
  | un => simp [Ty.fit] at hf
  | pr a b => simp [Ty.fit] at hf

theorem Ty.reads : ∀ (τ : Ty) (ts : List TypeId) (vs : List Value) (ds : List (DataW H)) (ps : List MemPlace), τ.fits P ts = true → (∀ (j : Nat) (t : TypeId) (v : Value), ts[j]? = some t → vs[j]? = some v → Value.okWide P w .any base t v) → DataW.TrodAll enc P w 0 spare held ts vs ds ps →
    ∃ x : τ.M, τ.Ok x ∧ RelL (Cx.all w) vs (τ.pvs x)
  | .un, [], vs, ds, ps, _, _, h => by
    obtain ⟨rfl, _, _⟩ := trodAll_nil h
    exact ⟨(), trivial, rfl, fun j hj => by simp [Ty.pvs] at hj⟩
  | .pr a b, t :: ts, vs, ds, ps, hf, hv, h => by
    obtain ⟨v, vs', d, ds', p, q, rfl, rfl, rfl, h1, h2⟩ := trodAll_cons h
    simp only [Ty.fits, Bool.and_eq_true] at hf
    obtain ⟨x, x1, x2⟩ := Ty.read1 hf.1.1.1.2 (hv 0 t v rfl rfl) h1
    obtain ⟨y, y1, y2⟩ := Ty.reads b ts vs' ds' q hf.2 (fun j t v ht hvj => hv (j + 1) t v (by simpa using ht) (by simpa using hvj)) h2
    refine ⟨(x, y), ⟨x1, y1⟩, by simp [Ty.pvs, y2.1], fun j hj => ?_⟩
    cases j with
    | zero => simpa [Ty.pvs] using x2
    | succ j => simpa [Ty.pvs] using y2.2 j (by simpa [Ty.pvs] using hj)
  | .un, _ :: _, _, _, _, hf, _, _ => by simp [Ty.fits] at hf
  | .pr _ _, [], _, _, _, hf, _, _ => by simp [Ty.fits] at hf
  | .int _, _, _, _, _, hf, _, _ => by simp [Ty.fits] at hf
  | .bool, _, _, _, _, hf, _, _ => by simp [Ty.fits] at hf
  | .str, _, _, _, _, hf, _, _ => by simp [Ty.fits] at hf
  | .sl _, _, _, _, _, hf, _, _ => by simp [Ty.fits] at hf
  | .st _, _, _, _, _, hf, _, _ => by simp [Ty.fits] at hf

theorem trodAll_back : ∀ (τ : Ty) (ts : List TypeId) (vs : List Value) (ds : List (DataW H)) (ps : List MemPlace) (w' : World), laidOutB P = true → τ.fits P ts = true → Below w.heap.size w w' → DataW.TrodAll enc P w 0 (fun _ => true) true ts vs ds ps →
    DataW.TrodAll enc P w' 0 (fun b => decide (b < w.heap.size)) true ts vs ds ps
  | .un, [], _, _, _, _, _, _, _, h => by
    obtain ⟨rfl, rfl, rfl⟩ := trodAll_nil h
    exact trodAll_mk0
  | .pr a b, t :: ts, vs, ds, ps, w', hl, hf, hb, h => by
    obtain ⟨v, vs', d, ds', p, q, rfl, rfl, rfl, h1, h2⟩ := trodAll_cons h
    simp only [Ty.fits, Bool.and_eq_true, decide_eq_true_eq] at hf
    have lt : ∀ x ∈ p, x.block < w.heap.size := by
      obtain ⟨m, hm⟩ := h1
      exact DataW.trod_lt m _ _ _ hm
    exact ⟨p, q, Below.trod hl hf.1.1.2 hf.1.2 h1 hb lt, trodAll_back b ts vs' ds' q w' hl hf.2 hb h2, rfl⟩
  | .un, _ :: _, _, _, _, _, _, hf, _, _ => by simp [Ty.fits] at hf
  | .pr _ _, [], _, _, _, _, _, hf, _, _ => by simp [Ty.fits] at hf
  | .int _, _, _, _, _, _, _, hf, _, _ => by simp [Ty.fits] at hf
  | .bool, _, _, _, _, _, _, hf, _, _ => by simp [Ty.fits] at hf
  | .str, _, _, _, _, _, _, hf, _, _ => by simp [Ty.fits] at hf
  | .sl _, _, _, _, _, _, _, hf, _, _ => by simp [Ty.fits] at hf
  | .st _, _, _, _, _, _, _, hf, _, _ => by simp [Ty.fits] at hf

end

/-- A law's contract, as its row has it. -/
theorem law_lifted {C : Checked} (own : ownKnob C.prog.godebug = none) (laid : laidOutB C.prog = true) {os : Os} (started : os.Started) {H : Type} {enc : TypeId × Value → H} {n : FuncId} {fn : Func} {s : ChangeSpec} {conds : List PathCond} {rt : TypeId}
    (noInit : C.prog.inits.idxOf? n = none) (hfn : C.prog.funcs[n]? = some fn)
    (witness : ∃ (w : World) (tape : Tape) (i : Input), w.os = os ∧ (w.forCall tape i).Shaped C.prog ∧ i.vars = [] ∧ Input.okWide C.prog (w.forCall tape i) .any w.heap.size n i ∧
      s.pre6 enc C.prog fn conds false (w.forCall tape i).memory i.args ∧ ({} : Assume).holds C.prog (lone (Frame.enter C.prog n i.args .normal) [] (w.forCall tape i)))
    (τ : Ty) (hfit : τ.fits C.prog fn.params.toList = true) (hrt : fn.resultTypes = #[rt]) (hb : C.prog.underlying rt = some .bool) (hvars : s.vars = [])
    (hs : ∀ ds : List (DataW H), ds.length = fn.params.size → s.fn H ds = { results := [.lit (.bool true)], args := ds })
    (main : ∀ x : τ.M, τ.Ok x → GC C.prog n (τ.pvs x) [] (.sc (.bool true)) []) :
    ReturnsInHanded {} C os n .any (s.pre6 enc C.prog fn conds false) (s.post enc C.prog fn false true false false) := by
  refine returnsInHanded_of_change_sized own started noInit hfn witness ?_
  intro W base args ds gs before hval hW _ _ _
  have hW' := hW
  obtain ⟨p, q, hA, hV, rfl, hfz, hnd⟩ := hW
  rw [hvars] at hV
  obtain ⟨rfl, rfl⟩ := trodVars_none hV
  obtain ⟨x, x1, x2⟩ := Ty.reads (base := base) τ fn.params.toList args.toList ds p hfit (fun j t v ht hv => hval j t v (by simpa using ht) (by simpa using hv)) hA
  have hds : ds.length = fn.params.size := by
    have : ∀ (ts : List TypeId) (vs : List Value) (ds : List (DataW H)) (ps : List MemPlace), DataW.TrodAll enc C.prog W 0 (fun _ => true) true ts vs ds ps → ds.length = ts.length := by
      intro ts
      induction ts with
      | nil => intro vs ds ps h; obtain ⟨_, rfl, _⟩ := trodAll_nil h; rfl
      | cons t ts ih =>
        intro vs ds ps h
        obtain ⟨v, vs', d, ds', p, q, rfl, rfl, rfl, h1, h2⟩ := trodAll_cons h
        simp [ih _ _ _ h2]
    simpa using this _ _ _ _ hA
  have h0 : HeapOk (Cx.all W) [] := ⟨rfl, fun i o h => by simp at h, fun i j o o' h => by simp at h, fun i o h => by simp at h, fun b h => h⟩
  refine (main x x1 (Cx.all W) args h0 x2).mono ?_
  rintro e w' ⟨v, S', β', rfl, _, _, hr, _, _, _, _, ho⟩
  have hv := hr.sc_inv
  subst hv
  have bel : Below W.heap.size W w' := ⟨ho.os, ho.tape, ho.output, ho.size, fun k hk => ho.block k hk (by rintro ⟨i, o, h, _⟩; simp at h)⟩
  have hsf := hs ds hds
  have e0 : ds ++ ([] : List (DataW H)) = ds := List.append_nil ds
  refine ⟨_, rfl, ds, [], p ++ [], [], p, [], hW', ?_, ?_, ?_, ?_, ?_⟩
  · rw [e0, hsf, hrt]
    exact trodAll_mk1 (shut_bool hb _)
  · rw [e0, hsf]
    exact trodAll_back τ _ _ _ _ w' laid hfit bel hA
  · rw [e0, hsf, hvars]; exact rfl
  · exact bel.frame _
  · exact fun h => by cases h

end Go.Proofs.Ytbbjmfkmjjinnaa.V
