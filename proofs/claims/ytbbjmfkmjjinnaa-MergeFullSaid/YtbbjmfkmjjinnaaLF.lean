/- MergeFull: whatever the input, it answers true; the input reads as it did. No condition. -/
import Derived.Test.YtbbjmfkmjjinnaaRows
import Derived.Test.YtbbjmfkmjjinnaaQO
set_option linter.all false
namespace Go.Proofs.Ytbbjmfkmjjinnaa.V
open Go Go.Proofs Go.ChangeShapes Go.WideShapes Go.ChangeAt Go.RowKit
theorem u8_range {a : Int} (h : (Lit.int .u8 a).wf = true) : 0 ≤ a ∧ a ≤ 255 := by
  have : IntKind.u8.min ≤ a ∧ a ≤ IntKind.u8.max := by simpa [Lit.wf] using h
  exact ⟨this.1, this.2⟩
theorem fullLifted (os : Os) (started : os.Started) (H : Type) (enc : TypeId × Value → H) :
    ReturnsInHanded {} Try.checked os 7 .any (Rows.mergeFullSpec.pre6 enc Try.prog Try.f7 Rows.mergeFullRow.domain false) (Rows.mergeFullSpec.post enc Try.prog Try.f7 false true false false) := by
  refine law_lifted (C := Try.checked) (by kernel_rfl) (by kernel_rfl) started (by kernel_rfl) Try.func7
    (ChangeSpec.witness6 (enc := enc) (C := Try.checked) false ⟨#[], #[.int .u8 0, .int .u8 0], []⟩ 8 (by kernel_rfl) (by kernel_rfl) (by kernel_rfl) (by kernel_rfl)) (rt := 4)
    (.pr (.int .u8) (.pr (.int .u8) .un)) (by kernel_rfl) (by kernel_rfl) (by kernel_rfl) rfl ?_ ?_
  · intro ds hd
    match ds, hd with
    | [d1, d2], _ => rfl
  · rintro ⟨a, b, _⟩ ⟨h1, h2, -⟩
    have e1 := u8_range h1
    have e2 := u8_range h2
    exact mergeFull_walk a b e1.1 e1.2 e2.1 e2.2

theorem fullOver : Rows.mergeFullRow.holds Try.pinned (OpenSpec.ofChange Rows.mergeFullSpec) :=
  OpenClaim.holds_of_wide 7 Try.f7 rfl rfl rfl rfl rfl rfl rfl ⟨rfl, rfl, rfl, rfl, rfl⟩ rfl rfl rfl rfl rfl (by kernel_rfl) Try.func7 (by kernel_rfl)
    (of_decide_eq_true (by kernel_rfl)) (by unfold Func.isWrapper; first | (rw [if_pos (by decide +kernel)]; kernel_rfl) | (rw [if_neg (by decide +kernel)]; exact ⟨rfl, rfl⟩))
    (fun os started H enc _ => fullLifted os started H enc)
end Go.Proofs.Ytbbjmfkmjjinnaa.V
namespace Go.Proofs.Ytbbjmfkmjjinnaa
/-- The row. -/
theorem mergeFull_holds : Rows.MergeFullSaid := V.fullOver
#print axioms mergeFull_holds
end Go.Proofs.Ytbbjmfkmjjinnaa
