/- The walks of layer 3: EntryBack. Printed by wip/gen03j.py. -/
import Derived.Test.YtmiinihbbpoicaaDoorW03i
namespace Go.Proofs.YtmiinihbbpoicaaDoor
open Go.RowKit

theorem alloc_two (w : World) (o o' : Obj) : ((w.alloc o).alloc o').heap[w.heap.size + 1]? = some o' := by
  have h := alloc_new (w.alloc o) o'
  rw [show (w.alloc o).heap.size = w.heap.size + 1 by simp] at h
  exact h


set_option maxHeartbeats 2000000 in
theorem back_no (k s g se nu k2 s2 g2 se2 nu2 : Int) (t t2 : ByteArray) (z2 : List UInt8) (c2 : Int) (w : World)
    (H1 : Hid (∀ w, Calls Tryd.prog 8 #[.agg #[.int .i64 k, .int .i64 s, .int .i64 g, .int .u64 se, .int .u64 nu, .string t]] w fun r w' => r = .returned (.tuple #[.string (bs []), .int .i64 30]) ∧ Below w.heap.size w w'))
    (H2 : Hid (∀ w, Calls Tryd.prog 8 #[.agg #[.int .i64 k2, .int .i64 s2, .int .i64 g2, .int .u64 se2, .int .u64 nu2, .string t2]] w fun r w' => r = .returned (.tuple #[.string (bs z2), .int .i64 c2]) ∧ Below w.heap.size w w')) :
    Calls Tryd.prog 5 #[.agg #[.int .i64 k, .int .i64 s, .int .i64 g, .int .u64 se, .int .u64 nu, .string t], .agg #[.int .i64 k2, .int .i64 s2, .int .i64 g2, .int .u64 se2, .int .u64 nu2, .string t2]] w fun r w' => r = .returned (.bool true) ∧ Below w.heap.size w w' := by
  go_enter Tryd.func5, Tryd.ntmps5
  go_wp2_with fail
  refine (H1.out _).mono ?_
  rintro r w1 ⟨rfl, hb1⟩
  have B1 := blk_below hb1 (by simp; omega) ((Below.heap_alloc (w.alloc _) _ w.heap.size (by simp)).trans (alloc_new w _))
  have B2 := blk_below hb1 (by simp) (alloc_two w _ _)
  have hb := bthen (((Below.refl w.heap.size w).alloc (Nat.le_refl _) _).alloc (by simp) _) hb1
  clear hb1
  have d0 := blk_cell B2 0
  have d1 := blk_cell B2 1
  have d2 := blk_cell B2 2
  have d3 := blk_cell B2 3
  have d4 := blk_cell B2 4
  have d5 := blk_cell B2 5
  simp at d0 d1 d2 d3 d4 d5
  go_wp2_with fail
  refine (H2.out _).mono ?_
  rintro r w2 ⟨rfl, hb2⟩
  have B1 := blk_below hb2 (World.block_lt_of_cell? w1 _ (blk_cell B1 0)) B1
  have B2 := blk_below hb2 (World.block_lt_of_cell? w1 _ (blk_cell B2 0)) B2
  have hb := bthen hb hb2
  clear hb2 d0 d1 d2 d3 d4 d5
  go_wp2_with fail
  refine (fixed03 _).mono ?_
  rintro r w3 ⟨rfl, hb3⟩
  have B1 := blk_below hb3 (World.block_lt_of_cell? w2 _ (blk_cell B1 0)) B1
  have B2 := blk_below hb3 (World.block_lt_of_cell? w2 _ (blk_cell B2 0)) B2
  have hb := bthen hb hb3
  clear hb3
  clear B1 B2
  go_wp2_with fail
  refine (fixed03 _).mono ?_
  rintro r w4 ⟨rfl, hb4⟩
  go_wp2
  go_ret
  exact ⟨rfl, bthen hb hb4⟩

set_option maxHeartbeats 2000000 in
theorem back_30 (k s g se nu k2 s2 g2 se2 nu2 : Int) (t t2 : ByteArray) (z z2 : List UInt8) (w : World)
    (H1 : Hid (∀ w, Calls Tryd.prog 8 #[.agg #[.int .i64 k, .int .i64 s, .int .i64 g, .int .u64 se, .int .u64 nu, .string t]] w fun r w' => r = .returned (.tuple #[.string (bs z), .int .i64 0]) ∧ Below w.heap.size w w'))
    (H2 : Hid (∀ w, Calls Tryd.prog 8 #[.agg #[.int .i64 k2, .int .i64 s2, .int .i64 g2, .int .u64 se2, .int .u64 nu2, .string t2]] w fun r w' => r = .returned (.tuple #[.string (bs z2), .int .i64 30]) ∧ Below w.heap.size w w'))
    (H3 : Hid (∀ w, Calls Tryd.prog 15 #[.string (bs z)] w fun r w' => r = .returned (.tuple #[.agg #[.int .i64 k, .int .i64 s, .int .i64 g, .int .u64 se, .int .u64 nu, .string t], .int .i64 0]) ∧ Below w.heap.size w w'))
    (hl : z.length = 28)
    (heq : ∀ w, (Op.equalIn 10000 24 (.agg #[.int .i64 k, .int .i64 s, .int .i64 g, .int .u64 se, .int .u64 nu, .string t]) (.agg #[.int .i64 k, .int .i64 s, .int .i64 g, .int .u64 se, .int .u64 nu, .string t])).run Tryd.prog w = .ok true w) :
    Calls Tryd.prog 5 #[.agg #[.int .i64 k, .int .i64 s, .int .i64 g, .int .u64 se, .int .u64 nu, .string t], .agg #[.int .i64 k2, .int .i64 s2, .int .i64 g2, .int .u64 se2, .int .u64 nu2, .string t2]] w fun r w' => r = .returned (.bool true) ∧ Below w.heap.size w w' := by
  have hg := ent_guard
  have hl2 : (bs z).size = 28 := hl
  go_enter Tryd.func5, Tryd.ntmps5
  go_wp2_with fail
  refine (H1.out _).mono ?_
  rintro r w1 ⟨rfl, hb1⟩
  have B1 := blk_below hb1 (by simp; omega) ((Below.heap_alloc (w.alloc _) _ w.heap.size (by simp)).trans (alloc_new w _))
  have B2 := blk_below hb1 (by simp) (alloc_two w _ _)
  have hb := bthen (((Below.refl w.heap.size w).alloc (Nat.le_refl _) _).alloc (by simp) _) hb1
  clear hb1
  have d0 := blk_cell B2 0
  have d1 := blk_cell B2 1
  have d2 := blk_cell B2 2
  have d3 := blk_cell B2 3
  have d4 := blk_cell B2 4
  have d5 := blk_cell B2 5
  simp at d0 d1 d2 d3 d4 d5
  go_wp2_with fail
  refine (H2.out _).mono ?_
  rintro r w2 ⟨rfl, hb2⟩
  have B1 := blk_below hb2 (World.block_lt_of_cell? w1 _ (blk_cell B1 0)) B1
  have B2 := blk_below hb2 (World.block_lt_of_cell? w1 _ (blk_cell B2 0)) B2
  have hb := bthen hb hb2
  clear hb2 d0 d1 d2 d3 d4 d5
  go_wp2_with fail
  refine (fixed03 _).mono ?_
  rintro r w3 ⟨rfl, hb3⟩
  have B1 := blk_below hb3 (World.block_lt_of_cell? w2 _ (blk_cell B1 0)) B1
  have B2 := blk_below hb3 (World.block_lt_of_cell? w2 _ (blk_cell B2 0)) B2
  have hb := bthen hb hb3
  clear hb3
  go_wp2_with fail
  refine (H3.out _).mono ?_
  rintro r w4 ⟨rfl, hb4⟩
  have B1 := blk_below hb4 (World.block_lt_of_cell? w3 _ (blk_cell B1 0)) B1
  have B2 := blk_below hb4 (World.block_lt_of_cell? w3 _ (blk_cell B2 0)) B2
  have hb := bthen hb hb4
  clear hb4
  have c0 := blk_cell B1 0
  have d0 := blk_cell B2 0
  have c1 := blk_cell B1 1
  have d1 := blk_cell B2 1
  have c2 := blk_cell B1 2
  have d2 := blk_cell B2 2
  have c3 := blk_cell B1 3
  have d3 := blk_cell B2 3
  have c4 := blk_cell B1 4
  have d4 := blk_cell B2 4
  have c5 := blk_cell B1 5
  have d5 := blk_cell B2 5
  simp at c0 c1 c2 c3 c4 c5 d0 d1 d2 d3 d4 d5
  have g1 : w.heap.size < w4.heap.size := World.block_lt_of_cell? w4 _ c0
  have g2' : w.heap.size + 1 < w4.heap.size := World.block_lt_of_cell? w4 _ d0
  have HB := Lib.hid hb
  clear B1 B2 hb
  go_wp2
  go_ret
  exact ⟨rfl, HB.out.alloc HB.out.size _⟩

set_option maxHeartbeats 2000000 in
theorem back_same (k s g se nu k2 s2 g2 se2 nu2 : Int) (t t2 : ByteArray) (z z2 : List UInt8) (w : World)
    (H1 : Hid (∀ w, Calls Tryd.prog 8 #[.agg #[.int .i64 k, .int .i64 s, .int .i64 g, .int .u64 se, .int .u64 nu, .string t]] w fun r w' => r = .returned (.tuple #[.string (bs z), .int .i64 0]) ∧ Below w.heap.size w w'))
    (H2 : Hid (∀ w, Calls Tryd.prog 8 #[.agg #[.int .i64 k2, .int .i64 s2, .int .i64 g2, .int .u64 se2, .int .u64 nu2, .string t2]] w fun r w' => r = .returned (.tuple #[.string (bs z2), .int .i64 0]) ∧ Below w.heap.size w w'))
    (H3 : Hid (∀ w, Calls Tryd.prog 15 #[.string (bs z)] w fun r w' => r = .returned (.tuple #[.agg #[.int .i64 k, .int .i64 s, .int .i64 g, .int .u64 se, .int .u64 nu, .string t], .int .i64 0]) ∧ Below w.heap.size w w'))
    (hl : z.length = 28)
    (heq : ∀ w, (Op.equalIn 10000 24 (.agg #[.int .i64 k, .int .i64 s, .int .i64 g, .int .u64 se, .int .u64 nu, .string t]) (.agg #[.int .i64 k, .int .i64 s, .int .i64 g, .int .u64 se, .int .u64 nu, .string t])).run Tryd.prog w = .ok true w)
    (hz : (z == z2) = true)
    (heq2 : ∀ w, (Op.equalIn 10000 24 (.agg #[.int .i64 k, .int .i64 s, .int .i64 g, .int .u64 se, .int .u64 nu, .string t]) (.agg #[.int .i64 k2, .int .i64 s2, .int .i64 g2, .int .u64 se2, .int .u64 nu2, .string t2])).run Tryd.prog w = .ok true w) :
    Calls Tryd.prog 5 #[.agg #[.int .i64 k, .int .i64 s, .int .i64 g, .int .u64 se, .int .u64 nu, .string t], .agg #[.int .i64 k2, .int .i64 s2, .int .i64 g2, .int .u64 se2, .int .u64 nu2, .string t2]] w fun r w' => r = .returned (.bool true) ∧ Below w.heap.size w w' := by
  have hg := ent_guard
  have hl2 : (bs z).size = 28 := hl
  obtain rfl : z = z2 := eq_of_beq hz
  clear hz
  go_enter Tryd.func5, Tryd.ntmps5
  go_wp2_with fail
  refine (H1.out _).mono ?_
  rintro r w1 ⟨rfl, hb1⟩
  have B1 := blk_below hb1 (by simp; omega) ((Below.heap_alloc (w.alloc _) _ w.heap.size (by simp)).trans (alloc_new w _))
  have B2 := blk_below hb1 (by simp) (alloc_two w _ _)
  have hb := bthen (((Below.refl w.heap.size w).alloc (Nat.le_refl _) _).alloc (by simp) _) hb1
  clear hb1
  have d0 := blk_cell B2 0
  have d1 := blk_cell B2 1
  have d2 := blk_cell B2 2
  have d3 := blk_cell B2 3
  have d4 := blk_cell B2 4
  have d5 := blk_cell B2 5
  simp at d0 d1 d2 d3 d4 d5
  go_wp2_with fail
  refine (H2.out _).mono ?_
  rintro r w2 ⟨rfl, hb2⟩
  have B1 := blk_below hb2 (World.block_lt_of_cell? w1 _ (blk_cell B1 0)) B1
  have B2 := blk_below hb2 (World.block_lt_of_cell? w1 _ (blk_cell B2 0)) B2
  have hb := bthen hb hb2
  clear hb2 d0 d1 d2 d3 d4 d5
  go_wp2_with fail
  refine (fixed03 _).mono ?_
  rintro r w3 ⟨rfl, hb3⟩
  have B1 := blk_below hb3 (World.block_lt_of_cell? w2 _ (blk_cell B1 0)) B1
  have B2 := blk_below hb3 (World.block_lt_of_cell? w2 _ (blk_cell B2 0)) B2
  have hb := bthen hb hb3
  clear hb3
  go_wp2_with fail
  refine (H3.out _).mono ?_
  rintro r w4 ⟨rfl, hb4⟩
  have B1 := blk_below hb4 (World.block_lt_of_cell? w3 _ (blk_cell B1 0)) B1
  have B2 := blk_below hb4 (World.block_lt_of_cell? w3 _ (blk_cell B2 0)) B2
  have hb := bthen hb hb4
  clear hb4
  have c0 := blk_cell B1 0
  have d0 := blk_cell B2 0
  have c1 := blk_cell B1 1
  have d1 := blk_cell B2 1
  have c2 := blk_cell B1 2
  have d2 := blk_cell B2 2
  have c3 := blk_cell B1 3
  have d3 := blk_cell B2 3
  have c4 := blk_cell B1 4
  have d4 := blk_cell B2 4
  have c5 := blk_cell B1 5
  have d5 := blk_cell B2 5
  simp at c0 c1 c2 c3 c4 c5 d0 d1 d2 d3 d4 d5
  have g1 : w.heap.size < w4.heap.size := World.block_lt_of_cell? w4 _ c0
  have g2' : w.heap.size + 1 < w4.heap.size := World.block_lt_of_cell? w4 _ d0
  have HB := Lib.hid hb
  clear B1 B2 hb
  go_wp2
  go_ret
  exact ⟨rfl, HB.out.alloc HB.out.size _⟩

set_option maxHeartbeats 2000000 in
theorem back_diff (k s g se nu k2 s2 g2 se2 nu2 : Int) (t t2 : ByteArray) (z z2 : List UInt8) (w : World)
    (H1 : Hid (∀ w, Calls Tryd.prog 8 #[.agg #[.int .i64 k, .int .i64 s, .int .i64 g, .int .u64 se, .int .u64 nu, .string t]] w fun r w' => r = .returned (.tuple #[.string (bs z), .int .i64 0]) ∧ Below w.heap.size w w'))
    (H2 : Hid (∀ w, Calls Tryd.prog 8 #[.agg #[.int .i64 k2, .int .i64 s2, .int .i64 g2, .int .u64 se2, .int .u64 nu2, .string t2]] w fun r w' => r = .returned (.tuple #[.string (bs z2), .int .i64 0]) ∧ Below w.heap.size w w'))
    (H3 : Hid (∀ w, Calls Tryd.prog 15 #[.string (bs z)] w fun r w' => r = .returned (.tuple #[.agg #[.int .i64 k, .int .i64 s, .int .i64 g, .int .u64 se, .int .u64 nu, .string t], .int .i64 0]) ∧ Below w.heap.size w w'))
    (hl : z.length = 28)
    (heq : ∀ w, (Op.equalIn 10000 24 (.agg #[.int .i64 k, .int .i64 s, .int .i64 g, .int .u64 se, .int .u64 nu, .string t]) (.agg #[.int .i64 k, .int .i64 s, .int .i64 g, .int .u64 se, .int .u64 nu, .string t])).run Tryd.prog w = .ok true w)
    (hz : (z == z2) = false)
    (heq2 : ∀ w, (Op.equalIn 10000 24 (.agg #[.int .i64 k, .int .i64 s, .int .i64 g, .int .u64 se, .int .u64 nu, .string t]) (.agg #[.int .i64 k2, .int .i64 s2, .int .i64 g2, .int .u64 se2, .int .u64 nu2, .string t2])).run Tryd.prog w = .ok false w) :
    Calls Tryd.prog 5 #[.agg #[.int .i64 k, .int .i64 s, .int .i64 g, .int .u64 se, .int .u64 nu, .string t], .agg #[.int .i64 k2, .int .i64 s2, .int .i64 g2, .int .u64 se2, .int .u64 nu2, .string t2]] w fun r w' => r = .returned (.bool true) ∧ Below w.heap.size w w' := by
  have hg := ent_guard
  have hl2 : (bs z).size = 28 := hl
  go_enter Tryd.func5, Tryd.ntmps5
  go_wp2_with fail
  refine (H1.out _).mono ?_
  rintro r w1 ⟨rfl, hb1⟩
  have B1 := blk_below hb1 (by simp; omega) ((Below.heap_alloc (w.alloc _) _ w.heap.size (by simp)).trans (alloc_new w _))
  have B2 := blk_below hb1 (by simp) (alloc_two w _ _)
  have hb := bthen (((Below.refl w.heap.size w).alloc (Nat.le_refl _) _).alloc (by simp) _) hb1
  clear hb1
  have d0 := blk_cell B2 0
  have d1 := blk_cell B2 1
  have d2 := blk_cell B2 2
  have d3 := blk_cell B2 3
  have d4 := blk_cell B2 4
  have d5 := blk_cell B2 5
  simp at d0 d1 d2 d3 d4 d5
  go_wp2_with fail
  refine (H2.out _).mono ?_
  rintro r w2 ⟨rfl, hb2⟩
  have B1 := blk_below hb2 (World.block_lt_of_cell? w1 _ (blk_cell B1 0)) B1
  have B2 := blk_below hb2 (World.block_lt_of_cell? w1 _ (blk_cell B2 0)) B2
  have hb := bthen hb hb2
  clear hb2 d0 d1 d2 d3 d4 d5
  go_wp2_with fail
  refine (fixed03 _).mono ?_
  rintro r w3 ⟨rfl, hb3⟩
  have B1 := blk_below hb3 (World.block_lt_of_cell? w2 _ (blk_cell B1 0)) B1
  have B2 := blk_below hb3 (World.block_lt_of_cell? w2 _ (blk_cell B2 0)) B2
  have hb := bthen hb hb3
  clear hb3
  go_wp2_with fail
  refine (H3.out _).mono ?_
  rintro r w4 ⟨rfl, hb4⟩
  have B1 := blk_below hb4 (World.block_lt_of_cell? w3 _ (blk_cell B1 0)) B1
  have B2 := blk_below hb4 (World.block_lt_of_cell? w3 _ (blk_cell B2 0)) B2
  have hb := bthen hb hb4
  clear hb4
  have c0 := blk_cell B1 0
  have d0 := blk_cell B2 0
  have c1 := blk_cell B1 1
  have d1 := blk_cell B2 1
  have c2 := blk_cell B1 2
  have d2 := blk_cell B2 2
  have c3 := blk_cell B1 3
  have d3 := blk_cell B2 3
  have c4 := blk_cell B1 4
  have d4 := blk_cell B2 4
  have c5 := blk_cell B1 5
  have d5 := blk_cell B2 5
  simp at c0 c1 c2 c3 c4 c5 d0 d1 d2 d3 d4 d5
  have g1 : w.heap.size < w4.heap.size := World.block_lt_of_cell? w4 _ c0
  have g2' : w.heap.size + 1 < w4.heap.size := World.block_lt_of_cell? w4 _ d0
  have HB := Lib.hid hb
  clear B1 B2 hb
  go_wp2
  go_ret
  exact ⟨rfl, HB.out.alloc HB.out.size _⟩

theorem entryBack_walk (a b : Ent) (ha : a.Ok) (hb : b.Ok) (w : World) : Calls Tryd.prog 5 #[a.val, b.val] w fun r w' => r = .returned (.bool true) ∧ Below w.heap.size w w' := by
  have h1 := fun w => encode_any a ha w
  have h2 := fun w => encode_any b hb w
  cases hm : a.may with
  | false =>
    rw [show a.enc = [] by rw [Ent.enc, hm]; rfl, hm] at h1
    exact back_no _ _ _ _ _ _ _ _ _ _ _ _ _ _ w (Lib.hid h1) (Lib.hid h2)
  | true =>
    have h3 := fun w => decode_any (bs a.bytes) w
    have hd := entDec_bytes hm (u64_of ha.session).1 (u64_of ha.number).1
    rw [bs_list, show outE a.bytes = a by rw [outE, hd], show outC a.bytes = 0 by rw [outC, hd]] at h3
    rw [show a.enc = a.bytes from if_pos hm, hm] at h1
    have hl := Ent.bytes_length (Ent.may_bounds hm).2.2.2.2.2.2.2.2
    have q1 := fun w => ent_equal ha ha w
    simp only [decide_true] at q1
    cases hm2 : b.may with
    | false =>
      rw [hm2] at h2
      exact back_30 _ _ _ _ _ _ _ _ _ _ _ _ _ _ w (Lib.hid h1) (Lib.hid h2) (Lib.hid h3) hl q1
    | true =>
      rw [show b.enc = b.bytes from if_pos hm2, hm2] at h2
      have q2 := fun w => ent_equal ha hb w
      by_cases hab : a = b
      · rw [decide_eq_true hab] at q2
        exact back_same _ _ _ _ _ _ _ _ _ _ _ _ _ _ w (Lib.hid h1) (Lib.hid h2) (Lib.hid h3) hl q1 (beq_iff_eq.2 (by rw [hab])) q2
      · rw [decide_eq_false hab] at q2
        have hne : a.bytes ≠ b.bytes := by
          intro h
          have hd2 := entDec_bytes hm2 (u64_of hb.session).1 (u64_of hb.number).1
          rw [← h, hd] at hd2
          exact hab (Option.some.inj hd2)
        exact back_diff _ _ _ _ _ _ _ _ _ _ _ _ _ _ w (Lib.hid h1) (Lib.hid h2) (Lib.hid h3) hl q1 (beq_eq_false_iff_ne.2 hne) q2

end Go.Proofs.YtmiinihbbpoicaaDoor
