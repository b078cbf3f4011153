/- The walks of layer 3: the fixed calls, EntryDecodes. -/
import Derived.Test.YtmiinihbbpoicaaDoorW03g
namespace Go.Proofs.YtmiinihbbpoicaaDoor
open Go.RowKit

def fixE : Ent := ⟨1, 2, 1, 3, 4, ⟨#[104, 105]⟩⟩
def fixL : List UInt8 := [1, 2, 1, 0, 3, 0, 0, 0, 4, 2, 104, 105, 0, 0, 0, 0, 0, 0, 0, 0, 0, 0, 0, 0, 0, 0, 0, 0]
theorem fixE_ok : fixE.Ok := ⟨by decide, by decide, by decide, by decide, by decide, by decide⟩

set_option maxHeartbeats 2000000 in
theorem fixed03 (w : World) : Calls Tryd.prog 10 #[] w fun r w' => r = .returned (.bool true) ∧ Below w.heap.size w w' := by
  have h1 : ∀ w, Calls Tryd.prog 8 #[.agg #[.int .i64 1, .int .i64 2, .int .i64 1, .int .u64 3, .int .u64 4, .string ⟨#[104, 105]⟩]] w fun r w' => r = .returned (.tuple #[.string (bs fixL), .int .i64 0]) ∧ Below w.heap.size w w' := by
    intro w
    have h := encode_any fixE fixE_ok w
    rw [show fixE.enc = fixL by decide, show okCode fixE.may = 0 by decide] at h
    exact h
  have h2 : ∀ w, Calls Tryd.prog 15 #[.string (bs fixL)] w fun r w' => r = .returned (.tuple #[.agg #[.int .i64 1, .int .i64 2, .int .i64 1, .int .u64 3, .int .u64 4, .string ⟨#[104, 105]⟩], .int .i64 0]) ∧ Below w.heap.size w w' := by
    intro w
    have h := decode_any (bs fixL) w
    rw [bs_list, show outE fixL = fixE by decide, show outC fixL = 0 by decide] at h
    exact h
  have h3 : ∀ w, Calls Tryd.prog 15 #[.string ⟨#[]⟩] w fun r w' => r = .returned (.tuple #[.agg #[.int .i64 0, .int .i64 0, .int .i64 0, .int .u64 0, .int .u64 0, .string ⟨#[]⟩], .int .i64 30]) ∧ Below w.heap.size w w' := by
    intro w
    have h := decode_any ⟨#[]⟩ w
    rw [show (⟨#[]⟩ : ByteArray).data.toList = [] from rfl, show outE [] = Ent.zero by decide, show outC [] = 30 by decide] at h
    exact h
  have h4 := fun w => empty_any w
  have hg := ent_guard
  have heq := fun w => ent_equal fixE_ok fixE_ok w
  simp only [decide_true] at heq
  unfold fixE at heq
  simp only at heq
  have hL : (bs fixL).size = 28 := by decide
  have hL2 : (bs fixL).extract 0 12 = ⟨#[1, 2, 1, 0, 3, 0, 0, 0, 4, 2, 104, 105]⟩ := by decide
  have hL3 : fixL.length = 28 := by decide
  have H1 := Lib.hid h1; have H2 := Lib.hid h2; have H3 := Lib.hid h3; have H4 := Lib.hid h4
  clear h1 h2 h3 h4
  generalize bs fixL = z at *
  go_enter Tryd.func10, Tryd.ntmps10
  go_wp2_with fail
  refine (H1.out _).mono ?_
  rintro e w1 ⟨rfl, hb1⟩
  go_wp2_with fail
  refine (H2.out _).mono ?_
  rintro e w2 ⟨rfl, hb2⟩
  go_wp2_with fail
  refine (H3.out _).mono ?_
  rintro e w3 ⟨rfl, hb3⟩
  have hb0 : Below w.heap.size w w1 := bthen ((Below.refl _ _).alloc (Nat.le_refl _) _) hb1
  have B1 := blk_below hb2 (by have := hb1.size; simp at this ⊢; omega) (blk_below hb1 (by simp) (alloc_new w _))
  have g1 : w.heap.size < w2.heap.size := World.block_lt_of_cell? w2 _ (blk_cell B1 0)
  have B2 := blk_below hb3 (by simp) (alloc_new w2 _)
  have B3 := blk_below hb3 (by simp; omega) ((Below.heap_alloc w2 _ _ g1).trans B1)
  have hbe := bthen ((bthen hb0 hb2).alloc (by have := (bthen hb0 hb2).size; omega) _) hb3
  have a0 := blk_cell B3 0
  have a1 := blk_cell B3 1
  have a2 := blk_cell B3 2
  have a3 := blk_cell B3 3
  have a4 := blk_cell B3 4
  have a5 := blk_cell B3 5
  have c0 := blk_cell B2 0
  have c1 := blk_cell B2 1
  have c2 := blk_cell B2 2
  have c3 := blk_cell B2 3
  have c4 := blk_cell B2 4
  have c5 := blk_cell B2 5
  simp at a0 a1 a2 a3 a4 a5 c0 c1 c2 c3 c4 c5
  have g2 : w.heap.size < w3.heap.size := World.block_lt_of_cell? w3 _ a0
  have g3 : w2.heap.size < w3.heap.size := World.block_lt_of_cell? w3 _ c0
  have HBE := Lib.hid hbe
  clear B1 B2 B3 hb0 hb1 hb2 hb3 hbe
  go_wp2_with fail
  refine (H4.out _).mono ?_
  rintro e w4 ⟨rfl, hb4⟩
  go_wp2
  go_ret
  exact ⟨rfl, bthen (HBE.out.alloc HBE.out.size _) hb4⟩

theorem entryDecodes_walk (s : ByteArray) (w : World) : Calls Tryd.prog 4 #[.string s] w fun r w' => r = .returned (.bool true) ∧ Below w.heap.size w w' := by
  have h1 := fun w => decode_any s w
  have h2 := fun w => rdecode_any s w
  have he := outE_ok s.data.toList
  generalize outE s.data.toList = e at *
  generalize outC s.data.toList = c at *
  have hg := ent_guard
  have heq := fun w => ent_equal he he w
  simp only [decide_true] at heq
  obtain ⟨k, s1, g, se, nu, t⟩ := e
  unfold Ent.val at h1 h2
  simp only at h1 h2 heq
  have H1 := Lib.hid h1; have H2 := Lib.hid h2
  clear h1 h2 he
  go_enter Tryd.func4, Tryd.ntmps4
  go_wp2_with fail
  refine (H1.out _).mono ?_
  rintro r w1 ⟨rfl, hb1⟩
  go_wp2_with fail
  refine (H2.out _).mono ?_
  rintro r w2 ⟨rfl, hb2⟩
  go_wp2_with fail
  refine (fixed03 _).mono ?_
  rintro r w3 ⟨rfl, hb3⟩
  have B1 := blk_below hb3 (by have := hb2.size; simp at this ⊢; omega) ((Below.heap_alloc w2 _ _ (by have := hb2.size; simp at this ⊢; omega)).trans (blk_below hb2 (by simp) (alloc_new w1 _)))
  have B2 := blk_below hb3 (by simp) (alloc_new w2 _)
  have hb12 := bthen (hb1.alloc hb1.size _) hb2
  have hbe := bthen (hb12.alloc hb12.size _) hb3
  have a0 := blk_cell B1 0
  have a1 := blk_cell B1 1
  have a2 := blk_cell B1 2
  have a3 := blk_cell B1 3
  have a4 := blk_cell B1 4
  have a5 := blk_cell B1 5
  have c0 := blk_cell B2 0
  have c1 := blk_cell B2 1
  have c2 := blk_cell B2 2
  have c3 := blk_cell B2 3
  have c4 := blk_cell B2 4
  have c5 := blk_cell B2 5
  simp at a0 a1 a2 a3 a4 a5 c0 c1 c2 c3 c4 c5
  have HBE := Lib.hid hbe
  clear B1 B2 hb1 hb2 hb3 hb12 hbe
  go_wp2
  go_ret
  exact ⟨rfl, HBE.out⟩

end Go.Proofs.YtmiinihbbpoicaaDoor
