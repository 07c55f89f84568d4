/- The logic's operations that turn no memory: numbers, texts, fields, indexes, slices. No law of the program is proved here. -/
import Derived.Test.YtbbjmfkmjjinnaaV4
set_option linter.all false
namespace Go.Proofs.Ytbbjmfkmjjinnaa.V
open Go

theorem und_known {P : Program} {t : TypeId} (h : (td P t).k.known = true) : ∃ d, P.underlying t = some d := by
  have hk := kd_of (TK.ne_other h)
  cases hu : P.underlying t with
  | none => rw [hk, hu] at h; cases h
  | some d => exact ⟨d, rfl⟩

/-! ### numbers, texts, Bools -/
def bitsI (op : BinOp) (k : IntKind) (a b : Int) : Int :=
  k.wrap ((match op with
    | .and => BitVec.ofInt k.bits a &&& BitVec.ofInt k.bits b
    | .or => BitVec.ofInt k.bits a ||| BitVec.ofInt k.bits b
    | .xor => BitVec.ofInt k.bits a ^^^ BitVec.ofInt k.bits b
    | _ => BitVec.ofInt k.bits a &&& ~~~BitVec.ofInt k.bits b).toNat : Int)

def nilS : PV → Option Bool
  | .sc (.slice none 0 0) => some true
  | .id _ _ => some false
  | .ix _ _ _ => some false
  | .im true _ _ => some false
  | _ => none

def nilA : PV → Option Bool
  | .sc (.pointer none) => some true
  | .ad _ _ => some false
  | .ip _ => some false
  | _ => none

def intP (op : BinOp) (k : IntKind) (a b : Int) : Option (Prop × PV) :=
  match op with
  | .add => some (True, .sc (.int k (k.wrap (a + b))))
  | .sub => some (True, .sc (.int k (k.wrap (a - b))))
  | .mul => some (True, .sc (.int k (k.wrap (a * b))))
  | .quo => some (b ≠ 0, .sc (.int k (k.wrap (a.tdiv b))))
  | .rem => some (b ≠ 0, .sc (.int k (a.tmod b)))
  | .and => some (True, .sc (.int k (bitsI .and k a b)))
  | .or => some (True, .sc (.int k (bitsI .or k a b)))
  | .xor => some (True, .sc (.int k (bitsI .xor k a b)))
  | .andNot => some (True, .sc (.int k (bitsI .andNot k a b)))
  | .eql => some (True, .sc (.bool (a == b)))
  | .neq => some (True, .sc (.bool (a != b)))
  | .lss => some (True, .sc (.bool (decide (a < b))))
  | .leq => some (True, .sc (.bool (decide (a ≤ b))))
  | .gtr => some (True, .sc (.bool (decide (a > b))))
  | .geq => some (True, .sc (.bool (decide (a ≥ b))))
  | _ => none

def strP (op : BinOp) (a b : ByteArray) : Option (Prop × PV) :=
  match op with
  | .add => some (a.size + b.size ≤ 9223372036854775807, .sc (.string (a ++ b)))
  | .eql => some (True, .sc (.bool (a.toList == b.toList)))
  | .neq => some (True, .sc (.bool (!(a.toList == b.toList))))
  | .lss => some (True, .sc (.bool (Op.bytesLess a.toList b.toList)))
  | .leq => some (True, .sc (.bool (Op.bytesLess a.toList b.toList || a.toList == b.toList)))
  | .gtr => some (True, .sc (.bool (!(Op.bytesLess a.toList b.toList || a.toList == b.toList))))
  | .geq => some (True, .sc (.bool (!Op.bytesLess a.toList b.toList)))
  | _ => none

def eqP (k : TK) (x y : PV) : Option Bool :=
  match k, x, y with
  | .bool, .sc (.bool a), .sc (.bool b) => some (a == b)
  | .slice _, x, .sc (.slice none 0 0) => nilS x
  | .ptr _, x, .sc (.pointer none) => nilA x
  | _, _, _ => none

def binP (op : BinOp) (k : TK) (x y : PV) : Option (Prop × PV) :=
  match x, y with
  | .sc (.int ka a), .sc (.int kb b) =>
    match op with
    | .shl => some (0 ≤ b, .sc (.int ka (ka.wrap (a * 2 ^ (min b.toNat ka.bits)))))
    | .shr => some (0 ≤ b, .sc (.int ka (a.fdiv (2 ^ (min b.toNat ka.bits)))))
    | op => if ka = kb then intP op ka a b else none
  | .sc (.string a), .sc (.string b) => strP op a b
  | x, y => match op with
    | .eql => (eqP k x y).map fun r => (True, .sc (.bool r))
    | .neq => (eqP k x y).map fun r => (True, .sc (.bool (!r)))
    | _ => none

theorem int_ok {P : Program} {op : BinOp} {k : IntKind} {a b : Int} {p : PV} {ok : Prop} {t : TypeId} {x y : Operand} (w : World) (c : Cx) (h : intP op k a b = some (ok, p)) (ho : ok) :
    ∃ v, ((do eqGuard op t x y (.int k a) (.int k b); binOp op t (.int k a) (.int k b) : Sem Value)).run P w = .ok v w ∧ Rel c v p := by
  cases op <;> simp only [intP] at h <;> cases h <;> first
    | (refine ⟨_, ?_, .sc _⟩; simp [eqGuard, binOp, Op.intArith, Op.intBits, Op.intCmp, bitsI]; done)
    | (refine ⟨_, ?_, .sc _⟩; simp [eqGuard, binOp, Op.intDiv, ho]; done)
    | (refine ⟨_, ?_, .sc _⟩; simp [eqGuard, binOp, Op.intArith, Op.intBits, Op.intCmp, bitsI]; rfl)

theorem str_ok {P : Program} {op : BinOp} {a b : ByteArray} {p : PV} {ok : Prop} {t : TypeId} {x y : Operand} (w : World) (c : Cx) (h : strP op a b = some (ok, p)) (ho : ok) :
    ∃ v, ((do eqGuard op t x y (.string a) (.string b); binOp op t (.string a) (.string b) : Sem Value)).run P w = .ok v w ∧ Rel c v p := by
  cases op <;> simp only [strP] at h <;> cases h <;> first
    | (refine ⟨_, ?_, .sc _⟩; simp [eqGuard, binOp, Op.stringOp]; done)
    | (refine ⟨_, ?_, .sc _⟩
       have h1 : ¬ (((a.size + b.size : Nat) : Int) > IntKind.i64.max) := by
         have : IntKind.i64.max = 9223372036854775807 := by decide
         rw [this]; omega
       simp only [eqGuard, binOp, Op.stringOp, Sem.run_bind, Sem.run_ite, h1, if_false]
       rfl)

theorem eqGuard_quiet {P : Program} {op : BinOp} {t : TypeId} {x y : Operand} {a b : Value} (w : World) (h1 : a ≠ .nilIface) (h2 : ∀ l, a ≠ .agg l) : (eqGuard op t x y a b).run P w = .ok () w := by
  unfold eqGuard
  cases op <;> first | rfl | (cases a <;> first | rfl | exact absurd rfl h1 | exact absurd rfl (h2 _))

theorem nilS_ok {c : Cx} {v : Value} {p : PV} {r : Bool} (h : nilS p = some r) (hv : Rel c v p) : ∃ A n k, v = .slice A n k ∧ A.isNone = r := by
  unfold nilS at h
  split at h <;> cases h
  · cases hv; exact ⟨_, _, _, rfl, rfl⟩
  · cases hv; exact ⟨_, _, _, rfl, rfl⟩
  · cases hv with
    | ix A i off len cap hi hl hA hs =>
      refine ⟨_, _, _, rfl, ?_⟩
      cases A <;> simp_all
  · cases hv with
    | im A ad len cap nz cells us hA hz hl h0 hc hr =>
      refine ⟨_, _, _, rfl, ?_⟩
      have := hz rfl
      cases A <;> simp_all

theorem nilA_ok {c : Cx} {v : Value} {p : PV} {r : Bool} (h : nilA p = some r) (hv : Rel c v p) : ∃ A, v = .pointer A ∧ A.isNone = r := by
  unfold nilA at h
  split at h <;> cases h
  · cases hv; exact ⟨_, rfl, rfl⟩
  · cases hv; exact ⟨_, rfl, rfl⟩
  · cases hv; exact ⟨_, rfl, rfl⟩

theorem equalIn_bool {P : Program} {t : TypeId} (d : Nat) (a b : Bool) (w : World) (h : P.underlying t = some .bool) : (Op.equalIn (d + 1) t (.bool a) (.bool b)).run P w = .ok (a == b) w := by
  simp [Op.equalIn, run_underlying h]
theorem equalIn_slice {P : Program} {t e : TypeId} (d : Nat) (A : Option Addr) (n k : Nat) (w : World) (h : P.underlying t = some (.slice e)) : (Op.equalIn (d + 1) t (.slice A n k) (.slice none 0 0)).run P w = .ok A.isNone w := by
  cases A <;> simp [Op.equalIn, run_underlying h]
theorem equalIn_ptr {P : Program} {t e : TypeId} (d : Nat) (A : Option Addr) (w : World) (h : P.underlying t = some (.pointer e)) : (Op.equalIn (d + 1) t (.pointer A) (.pointer none)).run P w = .ok A.isNone w := by
  cases A <;> simp [Op.equalIn, run_underlying h]

theorem eq_ok {P : Program} {t : TypeId} {c : Cx} {u v : Value} {x y : PV} {r : Bool} (h : eqP (td P t).k x y = some r) (hu : Rel c u x) (hv : Rel c v y) (w : World) :
    (Op.equal t u v).run P w = .ok r w ∧ ((∃ b, u = .bool b) ∨ (∃ A n k, u = .slice A n k) ∨ ∃ A, u = .pointer A) := by
  unfold eqP at h
  split at h
  · rename_i hk
    cases h
    cases hu; cases hv
    exact ⟨equalIn_bool 9999 _ _ w (und_bool hk), .inl ⟨_, rfl⟩⟩
  · rename_i e hk
    cases hv
    obtain ⟨A, n, k, rfl, rfl⟩ := nilS_ok h hu
    exact ⟨equalIn_slice 9999 A n k w (und_slice hk), .inr (.inl ⟨_, _, _, rfl⟩)⟩
  · rename_i e hk
    cases hv
    obtain ⟨A, rfl, rfl⟩ := nilA_ok h hu
    exact ⟨equalIn_ptr 9999 A w (und_ptr hk), .inr (.inr ⟨_, rfl⟩)⟩
  · cases h

theorem bin_ok {P : Program} {op : BinOp} {t : TypeId} {x y p : PV} {ok : Prop} {xo yo : Operand} {c : Cx} {u v : Value} (h : binP op (td P t).k x y = some (ok, p)) (ho : ok) (hu : Rel c u x) (hv : Rel c v y) :
    ∃ r, ((do eqGuard op t xo yo u v; binOp op t u v : Sem Value)).run P c.w = .ok r c.w ∧ Rel c r p := by
  unfold binP at h
  split at h
  · rename_i ka a kb b
    cases hu; cases hv
    split at h
    · cases h
      refine ⟨_, ?_, .sc _⟩
      have hb : ¬ b < 0 := by have : (0 : Int) ≤ b := ho; omega
      simp only [eqGuard, binOp, Op.shift, Sem.run_bind, Sem.run_ite, hb, if_false]
      rfl
    · cases h
      refine ⟨_, ?_, .sc _⟩
      have hb : ¬ b < 0 := by have : (0 : Int) ≤ b := ho; omega
      simp only [eqGuard, binOp, Op.shift, Sem.run_bind, Sem.run_ite, hb, if_false]
      rfl
    · split at h
      · rename_i hk
        subst hk
        exact int_ok c.w c h ho
      · cases h
  · cases hu; cases hv
    exact str_ok c.w c h ho
  · split at h
    · cases hr : eqP (td P t).k x y with
      | none => rw [hr] at h; cases h
      | some r =>
        rw [hr] at h; cases h
        obtain ⟨h1, h2⟩ := eq_ok hr hu hv c.w
        refine ⟨_, ?_, .sc _⟩
        have hq : (eqGuard .eql t xo yo u v).run P c.w = .ok () c.w := eqGuard_quiet c.w (by rcases h2 with ⟨b, rfl⟩ | ⟨A, n, k, rfl⟩ | ⟨A, rfl⟩ <;> simp) (by rcases h2 with ⟨b, rfl⟩ | ⟨A, n, k, rfl⟩ | ⟨A, rfl⟩ <;> simp)
        have hb : binOp .eql t u v = (do pure (.bool (← Op.equal t u v))) := by
          rcases h2 with ⟨b, rfl⟩ | ⟨A, n, k, rfl⟩ | ⟨A, rfl⟩ <;> rfl
        simp only [Sem.run_bind, hq, Result.andThen_ok, hb, h1, Sem.run_pure]
    · cases hr : eqP (td P t).k x y with
      | none => rw [hr] at h; cases h
      | some r =>
        rw [hr] at h; cases h
        obtain ⟨h1, h2⟩ := eq_ok hr hu hv c.w
        refine ⟨_, ?_, .sc _⟩
        have hq : (eqGuard .neq t xo yo u v).run P c.w = .ok () c.w := eqGuard_quiet c.w (by rcases h2 with ⟨b, rfl⟩ | ⟨A, n, k, rfl⟩ | ⟨A, rfl⟩ <;> simp) (by rcases h2 with ⟨b, rfl⟩ | ⟨A, n, k, rfl⟩ | ⟨A, rfl⟩ <;> simp)
        have hb : binOp .neq t u v = (do pure (.bool (!(← Op.equal t u v)))) := by
          rcases h2 with ⟨b, rfl⟩ | ⟨A, n, k, rfl⟩ | ⟨A, rfl⟩ <;> rfl
        simp only [Sem.run_bind, hq, Result.andThen_ok, hb, h1, Sem.run_pure]
    · cases h

def unP (op : UnOp) : PV → Option (Prop × PV)
  | .sc (.bool b) => match op with
    | .not => some (True, .sc (.bool (!b)))
    | _ => none
  | .sc (.int k n) => match op with
    | .neg => some (True, .sc (.int k (k.wrap (0 - n))))
    | .xor => some (True, .sc (.int k (bitsI .xor k (if k.signed then -1 else k.max) n)))
    | _ => none
  | _ => none

theorem un_ok {P : Program} {op : UnOp} {x p : PV} {ok : Prop} {c : Cx} {u : Value} (h : unP op x = some (ok, p)) (hu : Rel c u x) : ∃ r, (Op.unary op u).run P c.w = .ok r c.w ∧ Rel c r p := by
  unfold unP at h
  split at h
  · cases hu
    split at h <;> cases h
    exact ⟨_, rfl, .sc _⟩
  · cases hu
    split at h <;> cases h
    · exact ⟨_, rfl, .sc _⟩
    · exact ⟨_, rfl, .sc _⟩
  · cases h

def convP (s d : TD) : PV → Option (Prop × PV)
  | .sc (.int _ n) => if s.k.known then match d.k with
    | .int k => some (True, .sc (.int k (k.wrap n)))
    | .str => some (True, .sc (.string (Utf8.encode n)))
    | _ => none
    else none
  | .sc (.string b) => if s.k.known then match d.k with
    | .str => some (True, .sc (.string b))
    | _ => none
    else none
  | _ => none

theorem conv_ok {P : Program} {s d : TypeId} {x p : PV} {ok : Prop} {c : Cx} {u : Value} (h : convP (td P s) (td P d) x = some (ok, p)) (hu : Rel c u x) : ∃ r, (convert s d u).run P c.w = .ok r c.w ∧ Rel c r p := by
  unfold convP at h
  split at h
  · cases hu
    split at h
    · rename_i hk
      obtain ⟨e, he⟩ := und_known hk
      split at h <;> cases h
      · rename_i k hd
        refine ⟨_, ?_, .sc _⟩
        simp [convert, run_underlying he, run_underlying (und_int hd), Conv.intToInt]
      · rename_i hd
        refine ⟨_, ?_, .sc _⟩
        simp [convert, run_underlying he, run_underlying (und_str hd), Conv.intToString]
    · cases h
  · cases hu
    split at h
    · rename_i hk
      obtain ⟨e, he⟩ := und_known hk
      split at h <;> cases h
      rename_i hd
      refine ⟨_, ?_, .sc _⟩
      simp [convert, run_underlying he, run_underlying (und_str hd)]
    · cases h
  · cases h

end Go.Proofs.Ytbbjmfkmjjinnaa.V
