/- The walks of layer 3: the reference's check and bytes; what entry bytes are. -/
import Derived.Test.YthapghhmeicbnaaDoorW03c
namespace Go.Proofs.YthapghhmeicbnaaDoor
open Go.RowKit


/-- A number of an entry that may be, and its text, as naturals and lists. -/
theorem rbytes_ent (e : Ent) (he : e.Ok) (hm : e.may = true) (w : World) : Calls Tryd.prog 61 #[e.val] w fun r w' => r = .returned (.string (bs e.bytes)) ∧ Below w.heap.size w w' := by
  obtain ⟨k0, k1, s0, s1, g0, g1, hse, hnu, ht⟩ := Ent.may_bounds hm
  have b0 := u64_of he.session
  have b1 := u64_of he.number
  obtain ⟨k, s, g, se, nu, t⟩ := e
  simp only at *
  obtain ⟨k, rfl⟩ := Int.eq_ofNat_of_zero_le k0
  obtain ⟨s, rfl⟩ := Int.eq_ofNat_of_zero_le s0
  obtain ⟨g, rfl⟩ := Int.eq_ofNat_of_zero_le g0
  obtain ⟨se, rfl⟩ := Int.eq_ofNat_of_zero_le b0.1
  obtain ⟨nu, rfl⟩ := Int.eq_ofNat_of_zero_le b1.1
  obtain ⟨t, rfl⟩ : ∃ l, t = bs l := ⟨_, (bs_data t).symm⟩
  exact rbytes_any k s g se nu t w (by omega) (by omega) (by omega) (by omega) (by omega) ht


end Go.Proofs.YthapghhmeicbnaaDoor
