/- What a bounded reading tells of sights. -/
import Derived.Test.YtlhbekiplnmolaaDoorT7
set_option linter.unusedVariables false
set_option linter.unusedSimpArgs false
set_option linter.unusedVariables false
namespace Go.Proofs.YtlhbekiplnmolaaDoor
open Go.RowKit
theorem sg_bulk (s : S35.ty) : Sg.len s ≤ S35.bulk s := by
  have e : S35.bulk s = 1 + (1 + (1 + (1 + (1 + (1 + (1 + (1 + (1 + (1 + ((1 + (1 + 1) + 1) + ((1 + (1 + 1) + 1) + ((1 + (1 + 1) + 1) + (((Sg.text s).length + 1) + ((Sg.view s).length + 1)))))))))) + 1) + 1))) + 1 := rfl
  rw [e]
  unfold Sg.len
  omega
theorem lsm_of {l : List S35.ty} (h : (Sh.sl S35).ok l) (hb : (Sh.sl S35).bulk l ≤ 1048576) : LSm l := by
  refine ⟨fun s hs => sgOk (h.2 s hs), ?_⟩
  have key : ∀ l : List S35.ty, lensum l ≤ (l.map S35.bulk).sum := by
    intro l
    induction l with
    | nil => exact Nat.le_refl _
    | cons x l ih =>
      have := sg_bulk x
      simp only [lensum, List.map_cons, List.sum_cons] at *
      omega
  have e : (Sh.sl S35).bulk l = (l.map S35.bulk).sum + 1 := rfl
  have := key l
  omega
end Go.Proofs.YtlhbekiplnmolaaDoor
