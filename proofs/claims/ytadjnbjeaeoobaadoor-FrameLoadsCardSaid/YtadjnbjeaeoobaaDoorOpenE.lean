/- An entry as an argument. -/
import Derived.Test.YtadjnbjeaeoobaaDoorFrame
import Derived.Test.YtadjnbjeaeoobaaDoorEntEq
namespace Go.Proofs.YtadjnbjeaeoobaaDoor
open Go.ChangeShapes Go.WideShapes Go.ChangeAt Go.RowKit

theorem open_ent {H : Type} {enc : TypeId × Value → H} {W : World} {b0 : Nat} {v : Value} {d : DataW H} {p : List MemPlace} {sp : Nat → Bool}
    (hv : Value.okWide Tryd.prog W .any b0 24 v) (h : DataW.Trod enc Tryd.prog W 0 sp true 24 v d p) : ∃ e : Ent, e.Ok ∧ v = e.val := by
  obtain ⟨⟨cs⟩, rfl, hsz⟩ := okWide_struct Tryd.underlying24 hv
  obtain ⟨fuel, hf⟩ := h
  obtain ⟨ls, hl⟩ := fits_of_trod 2 _ _ fuel cs _ ent_flat hf
  obtain ⟨e, he, rfl⟩ := Ent.of_fit hl
  exact ⟨e, he, rfl⟩

end Go.Proofs.YtadjnbjeaeoobaaDoor
