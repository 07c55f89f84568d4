/- An object handed over for good; what every program must merge; sorting few, as Merge wants it. No law of the program is proved here. -/
import Derived.Test.YtbbjmfkmjjinnaaQL
set_option linter.all false
namespace Go.Proofs.Ytbbjmfkmjjinnaa.V
open Go Go.Proofs

/-- An object that is handed in, and given up: as memory that stays. -/
theorem GC.own {P : Program} {f : FuncId} {args : List PV} {o : GObj} {r : PV} (h : GC P f (frzL 0 o.sz o.cells args) [] r []) (hz : zLB o.cells = true) (hza : zLB (frzL 0 o.sz o.cells args) = true) : GC P f args [some o] r [none] := by
  intro c vs hp ha
  have hob := hp.blk 0 o rfl
  let c' : Cx := ⟨c.w, fun b => c.S b ∨ b = (c.β 0).1, c.β, 0⟩
  have hp' : HeapOk c' [] := ⟨rfl, fun i o h => by simp at h, fun i j o o' h => by simp at h, fun i o h => by simp at h, fun b hb => by
    rcases hb with hb | rfl
    · exact hp.lt b hb
    · exact hob.lt⟩
  have ha' : RelL c' vs.toList (frzL 0 o.sz o.cells args) := ⟨by rw [frzL_length]; exact ha.1, fun j hj => by
    rw [frzL_getD]
    have h1 := (ha.2 j (by rwa [frzL_length] at hj)).frz hob hz rfl
    have h2 := h1.toZ (by rw [← frzL_getD]; exact zLB_getD hza j)
    exact h2⟩
  refine (h c' vs hp' ha').mono ?_
  rintro e w' ⟨v, S', β', rfl, h1, h2, h3, h4, h5, h6, h7, h8⟩
  refine ⟨v, S', c.β, rfl, Nat.le_refl _, ⟨rfl, fun i o h => by cases i <;> simp at h, fun i j o o' h => by cases i <;> simp at h, fun i o h => by cases i <;> simp at h, h2.lt⟩, h3.mono (⟨fun _ h => h, fun _ _ => rfl, fun i hi => absurd hi (Nat.not_lt_zero _), Nat.zero_le _⟩ : Cx.Le ⟨w', S', β', 0⟩ ⟨w', S', c.β, 1⟩), fun _ _ => rfl, fun b hb => h5 b (.inl hb), fun b hb => ?_, fun i o h => by cases i <;> simp at h, ⟨h8.os, h8.tape, h8.output, h8.size, fun b hb hO => h8.block b hb (fun ⟨i, o, hi, _⟩ => by simp at hi)⟩⟩
  rcases h6 b hb with (h | rfl) | ⟨i, o, hi, _⟩ | h
  · exact .inl h
  · exact .inr (.inl ⟨0, o, rfl, rfl⟩)
  · simp at hi
  · exact .inr (.inr h)

def srt12 (l : List Int) : List Int := insSort ltI l 0 l.length
theorem insAll_length {α : Type} [Inhabited α] (lt : α → α → Bool) (a : Nat) : ∀ (c i : Nat) (L : List α), (insAll lt a c i L).length = L.length
  | 0, _, _ => rfl
  | c + 1, i, L => by rw [insAll, insAll_length lt a c, sink_length]
theorem srt_12 : Srt 12 srt12 := ⟨fun l h => c_sortI l l.length rfl h, fun l => insAll_length _ _ _ _ _, by omega⟩

theorem c_awake : GC Try.prog 8 [] [] (Bo true) [] := GC_run 100000 60 (by kernel_rfl)
end Go.Proofs.Ytbbjmfkmjjinnaa.V
