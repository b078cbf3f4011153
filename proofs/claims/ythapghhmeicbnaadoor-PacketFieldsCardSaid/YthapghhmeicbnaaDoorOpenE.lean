/- An entry as an argument. -/
import Derived.Test.YthapghhmeicbnaaDoorFrame
import Derived.Test.YthapghhmeicbnaaDoorEntEq
namespace Go.Proofs.YthapghhmeicbnaaDoor
open Go.ChangeShapes Go.WideShapes Go.ChangeAt Go.RowKit
set_option maxRecDepth 20000

theorem open_ent {H : Type} {enc : TypeId × Value → H} {W : World} {b0 : Nat} {v : Value} {d : DataW H} {p : List MemPlace} {sp : Nat → Bool}
    (hv : Value.okWide Tryd.prog W .any b0 30 v) (h : DataW.Trod enc Tryd.prog W 0 sp true 30 v d p) : ∃ e : Ent, e.Ok ∧ v = e.val := by
  obtain ⟨⟨cs⟩, rfl, hsz⟩ := okWide_struct Tryd.underlying30 hv
  obtain ⟨fuel, hf⟩ := h
  obtain ⟨ls, hl⟩ := fits_of_trod 2 _ _ fuel cs _ ent_flat hf
  obtain ⟨e, he, rfl⟩ := Ent.of_fit hl
  exact ⟨e, he, rfl⟩

end Go.Proofs.YthapghhmeicbnaaDoor
