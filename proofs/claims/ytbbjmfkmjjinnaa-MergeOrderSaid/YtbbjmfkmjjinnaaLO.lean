/- MergeOrder: whatever the input, it answers true; the input reads as it did. No condition. -/
import Derived.Test.YtbbjmfkmjjinnaaRows
import Derived.Test.YtbbjmfkmjjinnaaQW
set_option linter.all false
namespace Go.Proofs.Ytbbjmfkmjjinnaa.V
open Go Go.Proofs Go.ChangeShapes Go.WideShapes Go.ChangeAt Go.RowKit
theorem u8R {a : Int} (h : (Lit.int .u8 a).wf = true) : 0 ≤ a ∧ a ≤ 255 := by
  have : IntKind.u8.min ≤ a ∧ a ≤ IntKind.u8.max := by simpa [Lit.wf] using h
  exact ⟨this.1, this.2⟩
theorem u16R {a : Int} (h : (Lit.int .u16 a).wf = true) : 0 ≤ a ∧ a ≤ 65535 := by
  have : IntKind.u16.min ≤ a ∧ a ≤ IntKind.u16.max := by simpa [Lit.wf] using h
  exact ⟨this.1, this.2⟩
theorem u64R {a : Int} (h : (Lit.int .u64 a).wf = true) : 0 ≤ a := by
  have : IntKind.u64.min ≤ a ∧ a ≤ IntKind.u64.max := by simpa [Lit.wf] using h
  exact this.1
def tyPt : Ty := .st (.pr (.int .u64) (.pr (.sl (.int .u16)) (.pr (.int .u8) .un)))
def toPt (x : Int × List Int × Int × Unit) : Pt := ⟨x.1, x.2.1, x.2.2.1⟩
theorem pt_ok (x : Int × List Int × Int × Unit) (h : tyPt.Ok x) : (toPt x).Ok := by
  obtain ⟨h1, ⟨h2, h3⟩, h4, -⟩ := h
  have h2' : x.2.1.length ≤ maxLen := h2
  exact ⟨u64R h1, h2', fun n hn => u16R (h3 n hn), u8R h4⟩
theorem flatMap_single {α β : Type} (f : α → β) : ∀ (l : List α), l.flatMap (fun x => [f x]) = l.map f
  | [] => rfl
  | x :: l => by simp [List.flatMap_cons, flatMap_single f l]
theorem pt_pv (x : Int × List Int × Int × Unit) : tyPt.pv x = ptC (toPt x) := by
  show [PV.sc (.int .u64 x.1)] ++ ([PV.im false x.2.1.length (x.2.1.flatMap fun n => [PV.sc (.int .u16 n)])] ++ ([PV.sc (.int .u8 x.2.2.1)] ++ [])) = _
  rw [flatMap_single]; rfl
theorem pts_pv (l : List (Int × List Int × Int × Unit)) : PV.im false l.length (l.flatMap tyPt.pv) = ptsP (l.map toPt) := by
  unfold ptsP
  rw [List.length_map, List.flatMap_map]
  congr 1
  exact congrArg (fun f => l.flatMap f) (funext pt_pv)
theorem order_main (l : List (Int × List Int × Int × Unit)) (u : Unit) (h1 : l.length ≤ maxLen) (h2 : ∀ x, List.Mem x l → tyPt.Ok x) : GC Try.prog 5 [PV.im false l.length (l.flatMap tyPt.pv)] [] (.sc (.bool true)) [] := by
  rw [pts_pv]
  refine mergeOrder_walk _ (by rw [List.length_map]; exact h1) fun p hp => ?_
  obtain ⟨x, hx, rfl⟩ := List.mem_map.1 hp
  exact pt_ok x (h2 x hx)
theorem orderLifted (os : Os) (started : os.Started) (H : Type) (enc : TypeId × Value → H) :
    ReturnsInHanded {} Try.checked os 5 .any (Rows.mergeOrderSpec.pre6 enc Try.prog Try.f5 Rows.mergeOrderRow.domain false) (Rows.mergeOrderSpec.post enc Try.prog Try.f5 false true false false) := by
  refine law_lifted (C := Try.checked) (by kernel_rfl) (by kernel_rfl) started (by kernel_rfl) Try.func5
    (ChangeSpec.witness6 (enc := enc) (C := Try.checked) false ⟨#[], #[.slice none 0 0], []⟩ 8 (by kernel_rfl) (by kernel_rfl) (by kernel_rfl) (by kernel_rfl)) (rt := 4)
    (.pr (.sl tyPt) .un) (by kernel_rfl) (by kernel_rfl) (by kernel_rfl) rfl ?_ ?_
  · intro ds hd
    match ds, hd with
    | [d1], _ => rfl
  · intro x hx
    exact order_main x.1 x.2 hx.1.1 hx.1.2

theorem orderOver : Rows.mergeOrderRow.holds Try.pinned (OpenSpec.ofChange Rows.mergeOrderSpec) :=
  OpenClaim.holds_of_wide 5 Try.f5 rfl rfl rfl rfl rfl rfl rfl ⟨rfl, rfl, rfl, rfl, rfl⟩ rfl rfl rfl rfl rfl (by kernel_rfl) Try.func5 (by kernel_rfl)
    (of_decide_eq_true (by kernel_rfl)) (by unfold Func.isWrapper; first | (rw [if_pos (by decide +kernel)]; kernel_rfl) | (rw [if_neg (by decide +kernel)]; exact ⟨rfl, rfl⟩))
    (fun os started H enc _ => orderLifted os started H enc)
end Go.Proofs.Ytbbjmfkmjjinnaa.V
namespace Go.Proofs.Ytbbjmfkmjjinnaa
/-- The row. -/
theorem mergeOrder_holds : Rows.MergeOrderSaid := V.orderOver
#print axioms mergeOrder_holds
end Go.Proofs.Ytbbjmfkmjjinnaa
