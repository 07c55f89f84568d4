/- Plain data as the logic sees it: numbers, texts, lists, events, traces; facts of lists for loops. No law of the program is proved here. -/
import Derived.Test.YtbbjmfkmjjinnaaVS
import Derived.Test.YtbbjmfkmjjinnaaVT
import Derived.KernelRfl
set_option linter.all false
namespace Go.Proofs.Ytbbjmfkmjjinnaa.V
open Go Go.Proofs

def I (n : Int) : PV := .sc (.int .i64 n)
def U (n : Int) : PV := .sc (.int .u64 n)
def S (s : ByteArray) : PV := .sc (.string s)
def Bo (b : Bool) : PV := .sc (.bool b)

theorem rB {a b : Bool} (h : a = b) : LeP (.sc (.bool a)) (.sc (.bool b)) := by subst h; exact .refl _
theorem rI {k : IntKind} {a b : Int} (h : a = b) : LeP (.sc (.int k a)) (.sc (.int k b)) := by subst h; exact .refl _
theorem rS {a b : ByteArray} (h : a = b) : LeP (.sc (.string a)) (.sc (.string b)) := by subst h; exact .refl _

theorem drop_map1 {α : Type} [Inhabited α] (f : α → PV) (l : List α) (k : Nat) (h : k < l.length) : (l.map f).drop (k * 1) = f (l.getD k default) :: (l.drop (k + 1)).map f := by
  rw [Nat.mul_one]; exact drop_map f default l k h
theorem drop_cons {α : Type} [Inhabited α] (l : List α) (k : Nat) (h : k < l.length) : l.drop k = l.getD k default :: l.drop (k + 1) := by
  rw [List.drop_eq_getElem_cons h]; simp [List.getD_eq_getElem?_getD, h]
theorem drop_flat {α : Type} [Inhabited α] (f : α → List PV) (n : Nat) (hf : ∀ x, (f x).length = n) : ∀ (l : List α) (k : Nat), k < l.length → (l.flatMap f).drop (k * n) = f (l.getD k default) ++ (l.drop (k + 1)).flatMap f
  | x :: l, 0, _ => by simp
  | x :: l, k + 1, h => by
    have ih := drop_flat f n hf l k (by simpa using h)
    rw [List.flatMap_cons, List.drop_append, List.drop_eq_nil_of_le (by rw [hf]; rw [Nat.add_mul]; omega), hf]
    rw [show (k + 1) * n - n = k * n by rw [Nat.add_mul]; omega]
    simpa using ih
theorem length_flat {α : Type} (f : α → List PV) (n : Nat) (hf : ∀ x, (f x).length = n) : ∀ (l : List α), (l.flatMap f).length = l.length * n
  | [] => by simp
  | x :: l => by rw [List.flatMap_cons, List.length_append, hf, length_flat f n hf l, List.length_cons, Nat.add_mul]; omega
theorem take_snoc {α : Type} [Inhabited α] (l : List α) (k : Nat) (h : k < l.length) : l.take (k + 1) = l.take k ++ [l.getD k default] := by
  rw [List.take_succ_eq_append_getElem h]; simp [List.getD_eq_getElem?_getD, h]

theorem toList_loop (b : ByteArray) : ∀ (n i : Nat) (r : List UInt8), n = b.size - i → ByteArray.toList.loop b i r = r.reverse ++ b.data.toList.drop i
  | 0, i, r, h => by
    have hs : b.size = b.data.toList.length := by rw [Array.length_toList]; rfl
    rw [ByteArray.toList.loop, if_neg (by omega), List.drop_eq_nil_of_le (by omega)]; simp
  | n + 1, i, r, h => by
    have hs : b.size = b.data.toList.length := by rw [Array.length_toList]; rfl
    have hi : i < b.data.toList.length := by omega
    rw [ByteArray.toList.loop, if_pos (by omega), toList_loop b n (i + 1) _ (by omega), List.drop_eq_getElem_cons hi]
    simp only [List.reverse_cons, List.append_assoc, List.singleton_append]
    congr 2
    simp [ByteArray.get!, getElem!_def, Array.getElem?_eq_getElem (show i < b.data.size by simpa using hi)]
theorem toList_eq (b : ByteArray) : b.toList = b.data.toList := by
  unfold ByteArray.toList; rw [toList_loop b _ 0 [] rfl]; simp
theorem eq_of_toList {a b : ByteArray} (h : a.toList = b.toList) : a = b := by
  rw [toList_eq, toList_eq] at h
  cases a; cases b; simp at h; simp [h]
theorem toList_beq (a b : ByteArray) : (a.toList == b.toList) = decide (a = b) := by
  by_cases h : a = b
  · subst h; simp
  · rw [decide_eq_false h]; simpa using fun e => h (eq_of_toList e)

theorem over_z (l : List PV) : over l 0 [] = l := by simp [over]
theorem over_c (a b : PV) (l n : List PV) : over (a :: l) 0 (b :: n) = b :: over l 0 n := by simp [over]
theorem over_s (a : PV) (l n : List PV) (k : Nat) : over (a :: l) (k + 1) n = a :: over l k n := by
  unfold over; rw [show k + 1 + n.length = (k + n.length) + 1 by omega]; rfl
theorem over_map1 {α : Type} (f : α → PV) : ∀ (l : List α) (k : Nat) (x : α), k < l.length → over (l.map f) k [f x] = (l.set k x).map f
  | a :: l, 0, x, _ => by rw [List.map_cons, over_c, over_z]; rfl
  | a :: l, k + 1, x, h => by rw [List.map_cons, over_s, over_map1 f l k x (by simpa using h)]; rfl
theorem getD_ml {α : Type} [Inhabited α] (f : α → PV) (l : List α) (k : Nat) (h : k < l.length) : (l.map f).getD k .dead = f (l.getD k default) := by simp [List.getD_eq_getElem?_getD, h]
theorem take_ml {α : Type} (f : α → PV) (l : List α) : (l.map f).take l.length = l.map f := List.take_of_length_le (by rw [List.length_map]; exact Nat.le_refl _)
theorem op_nil (a : Array Operand) : #[] ++ a = a := by simp
theorem op_app (a : Array Operand) : a ++ #[] = a := by simp
theorem op_app2 (a b : List Operand) : a.toArray ++ b.toArray = (a ++ b).toArray := by simp
theorem op_none : (none : Option Operand).toArray = #[] := rfl
theorem op_some (x : Operand) : (some x).toArray = #[x] := rfl
theorem int_beq (a b : Int) : (a == b) = decide (a = b) := by by_cases h : a = b <;> simp [h]
theorem int_bne (a b : Int) : (a != b) = !decide (a = b) := by by_cases h : a = b <;> simp [h]

theorem wrapU {x : Int} (h1 : 0 ≤ x) (h2 : x ≤ 18446744073709551615) : IntKind.u64.wrap x = x := by
  simp only [IntKind.wrap, IntKind.bits, IntKind.signed, show (2 : Int) ^ 64 = 18446744073709551616 from rfl]
  simp; omega

/-! ### a slice that was begun from nothing: nil, or an object of the call's own -/
def osl (i : Nat) : Nat → PV
  | 0 => .sc (.slice none 0 0)
  | n + 1 => .id i (n + 1)
def oob (t : TypeId) (sz : Nat) : List PV → Option GObj
  | [] => none
  | c :: cs => some ⟨t, true, sz, c :: cs⟩
theorem unT_osl (i n : Nat) : unT (osl i n) = osl i n := by cases n <;> rfl
theorem stripP_osl (i n : Nat) : stripP (osl i n) = osl i n := by cases n <;> rfl
theorem holdP_osl (i n : Nat) : holdP (osl i n) = true := by cases n <;> rfl
theorem osl_pos {i n : Nat} (h : 0 < n) : osl i n = .id i n := by cases n with | zero => omega | succ n => rfl
theorem oob_pos {t : TypeId} {sz : Nat} {cs : List PV} (h : 0 < cs.length) : oob t sz cs = some ⟨t, true, sz, cs⟩ := by cases cs with | nil => simp at h | cons => rfl
theorem osl_cases (i n : Nat) (t : TypeId) (sz : Nat) (cs : List PV) (h : cs.length = n * sz) (hs : 0 < sz) : (osl i n = .sc (.slice none 0 0) ∧ oob t sz cs = none ∧ n = 0 ∧ cs = []) ∨ (osl i n = .id i n ∧ oob t sz cs = some ⟨t, true, sz, cs⟩ ∧ 0 < n) := by
  cases n with
  | zero =>
    have : cs = [] := List.eq_nil_of_length_eq_zero (by simpa using h)
    subst this
    exact .inl ⟨rfl, rfl, rfl, rfl⟩
  | succ n =>
    have : 0 < (n + 1) * sz := Nat.mul_pos (by omega) hs
    exact .inr ⟨rfl, oob_pos (by omega), by omega⟩
theorem zLB_mapC {α : Type} (f : α → PV) (l : List α) (h : ∀ x, zB (f x) = true) : zLB (l.map f) = true := zLB_map f fun x _ => h x
theorem LeO.app {σ : Nat → Option Nat} {ty : TypeId} {sz : Nat} {cs cs' : List PV} (hz : zLB cs' = true) (e : cs' = cs) (hp : 0 < cs.length) : LeO (Option.map (GObj.ren σ) (Option.some (GObj.mk ty true sz cs'))) (oob ty sz cs) := by
  subst e
  rw [oob_pos hp]
  exact ⟨rfl, rfl, rfl, LeL.of_eq (renL_closed σ hz)⟩
theorem LeO.ob {σ : Nat → Option Nat} {ty : TypeId} {sl : Bool} {sz : Nat} {cs cs' : List PV} (hz : zLB cs' = true) (e : cs' = cs) : LeO (Option.map (GObj.ren σ) (Option.some (GObj.mk ty sl sz cs'))) (Option.some (GObj.mk ty sl sz cs)) := by
  subst e
  exact ⟨rfl, rfl, rfl, LeL.of_eq (renL_closed σ hz)⟩
theorem LeO.oo {σ : Nat → Option Nat} {ty : TypeId} {sz : Nat} {cs : List PV} (hz : zLB cs = true) : LeO (Option.map (GObj.ren σ) (oob ty sz cs)) (oob ty sz cs) := by
  cases cs with
  | nil => exact trivial
  | cons c cs => exact ⟨rfl, rfl, rfl, LeL.of_eq (renL_closed σ hz)⟩
theorem RetV.sl {P : Program} {env : Env} {H : Heap} {t i n sz : Nat} {ty : TypeId} {cs : List PV} (hl : look env t = osl i n) (hH : H[i]? = some (oob ty sz cs)) (hlen : cs.length = n * sz) (hs : 0 < sz) (hz : zLB cs = true) : RetV P [.tmp t] 0 (.im false n cs) [] env H := by
  rcases osl_cases i n ty sz cs hlen hs with ⟨h1, h2, h3, h4⟩ | ⟨h1, h2, h3⟩
  · rw [h1] at hl
    refine RetV.p (ok := True ) (ps := [.sc (.slice none 0 0)]) (by simp [resP, hl, unT]) trivial (LeP.nil' h3 h4)
  · rw [h1] at hl
    rw [h2] at hH
    refine RetV.conv (Conv.frz i hH hz) (RetV.p (ok := True) (ps := [.im true n (cs.take (n * sz))]) ?_ trivial (LeP.im' rfl (List.take_of_length_le (by omega))))
    simp [resP, look_frzE, hl, frz, unT]

/-! ### events, traces -/
structure Ev where
  t : Int
  ids : List Int
deriving Inhabited, DecidableEq
structure Tr where
  names : List ByteArray
  evs : List Ev
deriving Inhabited
def intsP (l : List Int) : PV := .im false l.length (l.map I)
def strsP (l : List ByteArray) : PV := .im false l.length (l.map S)
def evC (e : Ev) : List PV := [U e.t, intsP e.ids]
def evsP (l : List Ev) : PV := .im false l.length (l.flatMap evC)
def trC (t : Tr) : List PV := [strsP t.names, evsP t.evs]
def trsP (l : List Tr) : PV := .im false l.length (l.flatMap trC)


/-! ### plain cells lead to no objects -/
mutual
theorem frz_closed (i sz : Nat) (cs : List PV) : ∀ {p : PV}, zB p = true → frz i sz cs p = p
  | .id _ _, h => by cases h
  | .ix _ _ _, h => by cases h
  | .ad _ _, h => by cases h
  | .ag ps, h => by simp only [frz]; rw [frzL_closed i sz cs (l := ps) h]
  | .tu ps, h => by simp only [frz]; rw [frzL_closed i sz cs (l := ps) h]
  | .fn f a b, h => by
    simp only [zB, Bool.and_eq_true] at h
    simp only [frz]; rw [frzL_closed i sz cs (l := a) h.1, frzL_closed i sz cs (l := b) h.2]
  | .ifc t p, h => by simp only [frz]; rw [frz_closed i sz cs (p := p) h]
  | .gv g p, h => by simp only [frz]; rw [frz_closed i sz cs (p := p) h]
  | .dead, _ => rfl
  | .sc _, _ => rfl
  | .im _ _ _, _ => rfl
  | .ip _, _ => rfl
theorem frzL_closed (i sz : Nat) (cs : List PV) : ∀ {l : List PV}, zLB l = true → frzL i sz cs l = l
  | [], _ => rfl
  | p :: l, h => by
    simp only [zLB, Bool.and_eq_true] at h
    simp only [frzL]; rw [frz_closed i sz cs h.1, frzL_closed i sz cs h.2]
end
theorem zLB_flat {α : Type} (f : α → List PV) (h : ∀ x, zLB (f x) = true) : ∀ (l : List α), zLB (l.flatMap f) = true
  | [] => rfl
  | x :: l => by rw [List.flatMap_cons]; exact zLB_append (h x) (zLB_flat f h l)
theorem zI (l : List Int) : zLB (l.map I) = true := zLB_mapC I l fun _ => rfl
theorem zS (l : List ByteArray) : zLB (l.map S) = true := zLB_mapC S l fun _ => rfl
theorem zE (l : List Ev) : zLB (l.flatMap evC) = true := zLB_flat evC (fun _ => rfl) l
theorem zT (l : List Tr) : zLB (l.flatMap trC) = true := zLB_flat trC (fun _ => rfl) l
theorem tI (vw : Bool) (H : Heap) (rs : List Nat) (l : List Int) : toCL vw H rs (l.map I) = l.map I := toCL_closed _ _ _ (zI l)
theorem tS (vw : Bool) (H : Heap) (rs : List Nat) (l : List ByteArray) : toCL vw H rs (l.map S) = l.map S := toCL_closed _ _ _ (zS l)
theorem tE (vw : Bool) (H : Heap) (rs : List Nat) (l : List Ev) : toCL vw H rs (l.flatMap evC) = l.flatMap evC := toCL_closed _ _ _ (zE l)
theorem tT (vw : Bool) (H : Heap) (rs : List Nat) (l : List Tr) : toCL vw H rs (l.flatMap trC) = l.flatMap trC := toCL_closed _ _ _ (zT l)
theorem ren_osl {σ : Nat → Option Nat} {i j : Nat} (h : σ i = some j) (n : Nat) : ren σ (osl i n) = osl j n := by cases n <;> simp [osl, ren, h]
theorem LeP.osl {σ : Nat → Option Nat} {i j : Nat} {n : Nat} (h : σ i = some j) : LeP (ren σ (osl i n)) (osl j n) := .of_eq (ren_osl h n)
theorem frz_osl {i j : Nat} (sz : Nat) (cs : List PV) (h : (j = i) = False) (n : Nat) : frz i sz cs (osl j n) = osl j n := by cases n <;> simp [osl, frz, h]
theorem frzL_app (i sz : Nat) (cs a b : List PV) : frzL i sz cs (a ++ b) = frzL i sz cs a ++ frzL i sz cs b := by simp [frzL_eq]
theorem renL_app (σ : Nat → Option Nat) (a b : List PV) : renL σ (a ++ b) = renL σ a ++ renL σ b := by simp [renL_eq]
theorem toCL_app (vw : Bool) (H : Heap) (rs : List Nat) (a b : List PV) : toCL vw H rs (a ++ b) = toCL vw H rs a ++ toCL vw H rs b := by simp [toCL_eq]
theorem zR (n : Nat) (v : Value) : zLB (List.replicate n (.sc v)) = true := by
  induction n with
  | zero => rfl
  | succ n ih => rw [List.replicate_succ]; exact ih
theorem zP (l : List (List Int)) : zLB (l.map intsP) = true := zLB_mapC intsP l fun _ => rfl
theorem fR (i sz : Nat) (cs : List PV) (n : Nat) (v : Value) : frzL i sz cs (List.replicate n (.sc v)) = List.replicate n (.sc v) := frzL_closed _ _ _ (zR n v)
theorem fP (i sz : Nat) (cs : List PV) (l : List (List Int)) : frzL i sz cs (l.map intsP) = l.map intsP := frzL_closed _ _ _ (zP l)
theorem nR (σ : Nat → Option Nat) (n : Nat) (v : Value) : renL σ (List.replicate n (.sc v)) = List.replicate n (.sc v) := renL_closed _ (zR n v)
theorem nP (σ : Nat → Option Nat) (l : List (List Int)) : renL σ (l.map intsP) = l.map intsP := renL_closed _ (zP l)
theorem tR (vw : Bool) (H : Heap) (rs : List Nat) (n : Nat) (v : Value) : toCL vw H rs (List.replicate n (.sc v)) = List.replicate n (.sc v) := toCL_closed _ _ _ (zR n v)
theorem tP (vw : Bool) (H : Heap) (rs : List Nat) (l : List (List Int)) : toCL vw H rs (l.map intsP) = l.map intsP := toCL_closed _ _ _ (zP l)
theorem LeO.mid {σ : Nat → Option Nat} {ty : TypeId} {sl : Bool} {sz : Nat} {a b : List PV} {x y : PV} (ha : zLB a = true) (hb : zLB b = true) (h : LeP (ren σ x) y) : LeO (Option.map (GObj.ren σ) (Option.some (GObj.mk ty sl sz (a ++ x :: b)))) (Option.some (GObj.mk ty sl sz (a ++ y :: b))) :=
  ⟨rfl, rfl, rfl, by
    show LeL (renL σ (a ++ x :: b)) (a ++ y :: b)
    rw [renL_app, renL_closed σ ha]
    show LeL (a ++ ren σ x :: renL σ b) _
    rw [renL_closed σ hb]
    exact LeL.append (.refl _) (LeL.cons h (.refl _))⟩
theorem vS (H : Heap) (rs : List Nat) (l : List ByteArray) : (l.map S).map (viewC H rs) = l.map S := by rw [List.map_map]; rfl
theorem vI (H : Heap) (rs : List Nat) (l : List Int) : (l.map I).map (viewC H rs) = l.map I := by rw [List.map_map]; rfl
theorem getD_mid {a b : List PV} {x : PV} {n : Nat} (h : a.length = n) : (a ++ x :: b).getD n .dead = x := by subst h; simp [List.getD_eq_getElem?_getD]
theorem over_mid {a b : List PV} {x y : PV} {n : Nat} (h : a.length = n) : over (a ++ x :: b) n [y] = a ++ y :: b := by
  subst h
  unfold over
  simp [List.drop_append]
theorem fI (i sz : Nat) (cs : List PV) (l : List Int) : frzL i sz cs (l.map I) = l.map I := frzL_closed _ _ _ (zI l)
theorem fS (i sz : Nat) (cs : List PV) (l : List ByteArray) : frzL i sz cs (l.map S) = l.map S := frzL_closed _ _ _ (zS l)
theorem fE (i sz : Nat) (cs : List PV) (l : List Ev) : frzL i sz cs (l.flatMap evC) = l.flatMap evC := frzL_closed _ _ _ (zE l)
theorem fT (i sz : Nat) (cs : List PV) (l : List Tr) : frzL i sz cs (l.flatMap trC) = l.flatMap trC := frzL_closed _ _ _ (zT l)
theorem nI (σ : Nat → Option Nat) (l : List Int) : renL σ (l.map I) = l.map I := renL_closed _ (zI l)
theorem nS (σ : Nat → Option Nat) (l : List ByteArray) : renL σ (l.map S) = l.map S := renL_closed _ (zS l)
theorem nE (σ : Nat → Option Nat) (l : List Ev) : renL σ (l.flatMap evC) = l.flatMap evC := renL_closed _ (zE l)
theorem nT (σ : Nat → Option Nat) (l : List Tr) : renL σ (l.flatMap trC) = l.flatMap trC := renL_closed _ (zT l)

end Go.Proofs.Ytbbjmfkmjjinnaa.V
