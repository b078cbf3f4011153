/- The walks of layer 3: the reference's check and bytes; what entry bytes are. -/
import Derived.Test.YtmiinihbbpoicaaDoorW03c
namespace Go.Proofs.YtmiinihbbpoicaaDoor
open Go.RowKit

theorem rcheck_any (e : Ent) (he : e.Ok) (w : World) : Calls Tryd.prog 12 #[e.val] w fun r w' => r = .returned (.int .i64 (okCode e.may)) ∧ Below w.heap.size w w' := by
  have hm := fun w => rmay_any e he w
  cases h : e.may with
  | false =>
    rw [h] at hm
    have HM := Lib.hid hm; clear hm h he
    obtain ⟨k, s, g, se, nu, t⟩ := e
    unfold Ent.val at *
    simp only at *
    go_enter Tryd.func12, Tryd.ntmps12
    go_wp2_with fail
    refine (HM.out _).mono ?_
    rintro r w1 ⟨rfl, hb1⟩
    go_wp2
    go_ret
    exact ⟨rfl, bthen ((Below.refl _ _).alloc (Nat.le_refl _) _) hb1⟩
  | true =>
    rw [h] at hm
    have HM := Lib.hid hm; clear hm h he
    obtain ⟨k, s, g, se, nu, t⟩ := e
    unfold Ent.val at *
    simp only at *
    go_enter Tryd.func12, Tryd.ntmps12
    go_wp2_with fail
    refine (HM.out _).mono ?_
    rintro r w1 ⟨rfl, hb1⟩
    go_wp2
    go_ret
    exact ⟨rfl, bthen ((Below.refl _ _).alloc (Nat.le_refl _) _) hb1⟩

/-- A number of an entry that may be, and its text, as naturals and lists. -/
theorem rbytes_ent (e : Ent) (he : e.Ok) (hm : e.may = true) (w : World) : Calls Tryd.prog 14 #[e.val] w fun r w' => r = .returned (.string (bs e.bytes)) ∧ Below w.heap.size w w' := by
  obtain ⟨k0, k1, s0, s1, g0, g1, hse, hnu, ht⟩ := Ent.may_bounds hm
  have b0 := u64_of he.session
  have b1 := u64_of he.number
  obtain ⟨k, s, g, se, nu, t⟩ := e
  simp only at *
  obtain ⟨k, rfl⟩ := Int.eq_ofNat_of_zero_le k0
  obtain ⟨s, rfl⟩ := Int.eq_ofNat_of_zero_le s0
  obtain ⟨g, rfl⟩ := Int.eq_ofNat_of_zero_le g0
  obtain ⟨se, rfl⟩ := Int.eq_ofNat_of_zero_le b0.1
  obtain ⟨nu, rfl⟩ := Int.eq_ofNat_of_zero_le b1.1
  obtain ⟨t, rfl⟩ : ∃ l, t = bs l := ⟨_, (bs_data t).symm⟩
  exact rbytes_any k s g se nu t w (by omega) (by omega) (by omega) (by omega) (by omega) ht

theorem rencode_any (e : Ent) (he : e.Ok) (w : World) : Calls Tryd.prog 9 #[e.val] w fun r w' => r = .returned (.tuple #[.string (bs e.enc), .int .i64 (okCode e.may)]) ∧ Below w.heap.size w w' := by
  have hm := fun w => rmay_any e he w
  cases h : e.may with
  | false =>
    rw [h] at hm
    have henc : e.enc = [] := by rw [Ent.enc, h]; rfl
    rw [henc]
    have HM := Lib.hid hm; clear hm h he henc
    obtain ⟨k, s, g, se, nu, t⟩ := e
    unfold Ent.val at *
    simp only at *
    go_enter Tryd.func9, Tryd.ntmps9
    go_wp2_with fail
    refine (HM.out _).mono ?_
    rintro r w1 ⟨rfl, hb1⟩
    go_wp2
    go_ret2
    exact ⟨rfl, bthen ((Below.refl _ _).alloc (Nat.le_refl _) _) hb1⟩
  | true =>
    rw [h] at hm
    have hB := fun w => rbytes_ent e he h w
    have henc : e.enc = e.bytes := by rw [Ent.enc, if_pos h]
    rw [henc]
    generalize e.bytes = l at *
    have HM := Lib.hid hm; have HB := Lib.hid hB; clear hm hB h he henc
    obtain ⟨k, s, g, se, nu, t⟩ := e
    unfold Ent.val at *
    simp only at *
    go_enter Tryd.func9, Tryd.ntmps9
    go_wp2_with fail
    refine (HM.out _).mono ?_
    rintro r w1 ⟨rfl, hb1⟩
    have c0 := hb1.cell (p := ⟨w.heap.size, 0, none⟩) (by simp)
    have c1 := hb1.cell (p := ⟨w.heap.size, 1, none⟩) (by simp)
    have c2 := hb1.cell (p := ⟨w.heap.size, 2, none⟩) (by simp)
    have c3 := hb1.cell (p := ⟨w.heap.size, 3, none⟩) (by simp)
    have c4 := hb1.cell (p := ⟨w.heap.size, 4, none⟩) (by simp)
    have c5 := hb1.cell (p := ⟨w.heap.size, 5, none⟩) (by simp)
    simp at c0 c1 c2 c3 c4 c5
    go_wp2_with fail
    refine (HB.out _).mono ?_
    rintro r w2 ⟨rfl, hb2⟩
    go_wp2
    go_ret2
    exact ⟨rfl, bthen (bthen ((Below.refl _ _).alloc (Nat.le_refl _) _) hb1) hb2⟩

end Go.Proofs.YtmiinihbbpoicaaDoor
