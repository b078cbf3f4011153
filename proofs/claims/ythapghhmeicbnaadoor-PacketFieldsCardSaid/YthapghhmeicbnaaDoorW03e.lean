/- The walks of layer 3: the reference's Decode. Printed by wip/gen03e.py. -/
import Derived.Test.YthapghhmeicbnaaDoorW03d
import Derived.Lib.QuoteBits
namespace Go.Proofs.YthapghhmeicbnaaDoor
open Go.RowKit

theorem set6 {w w7 : World} (hb : Below w.heap.size w w7) (v0 v1 v2 v3 v4 v5 : Value) : Below w.heap.size w ((((((w7.setCell ⟨w.heap.size, 0, none⟩ v0).setCell ⟨w.heap.size, 1, none⟩ v1).setCell ⟨w.heap.size, 2, none⟩ v2).setCell ⟨w.heap.size, 3, none⟩ v3).setCell ⟨w.heap.size, 4, none⟩ v4).setCell ⟨w.heap.size, 5, none⟩ v5) :=
  (((((hb.setCell (Nat.le_refl _) _).setCell (Nat.le_refl _) _).setCell (Nat.le_refl _) _).setCell (Nat.le_refl _) _).setCell (Nat.le_refl _) _).setCell (Nat.le_refl _) _
theorem blk_push {w : World} {o o' : Obj} {w6 : World} (hb : Below (w.alloc o).heap.size (w.alloc o) w6) : (w6.alloc o').heap[w.heap.size]? = some o := by
  have h1 : w6.heap[w.heap.size]? = some o := blk_below hb (by simp) (alloc_new w o)
  have h2 := (Array.getElem?_eq_some_iff.1 h1).1
  exact (Below.heap_alloc w6 o' _ h2).trans h1
theorem dralloc {w : World} {o : Obj} {n : Nat} {w6 : World} (hb : Below ((w.alloc o).drewN n).heap.size ((w.alloc o).drewN n) w6) : Below (w.alloc o).heap.size (w.alloc o) w6 := ⟨hb.os, hb.tape, hb.output, hb.size, hb.block⟩

theorem rdecode_len (l : List UInt8) (w : World) (h : l.length ≠ 28) : Calls Tryd.prog 55 #[.string (bs l)] w fun r w' => r = .returned (.tuple #[Ent.zero.val, .int .i64 30]) ∧ Below w.heap.size w w' := by
  have hc : ((l.length : Int) == 28) = false := beq_eq_false_iff_ne.2 (by omega)
  go_enter Tryd.func55, Tryd.ntmps55
  go_wp2
  refine bodyPost_ret (v := .tuple #[.agg #[.int .i64 0, .int .i64 0, .int .i64 0, .int .u64 0, .int .u64 0, .string ⟨#[]⟩], .int .i64 30]) (by simp [results, go_sem]) rfl ⟨rfl, ?_⟩
  exact (Below.refl _ _).alloc (Nat.le_refl _) _

set_option maxHeartbeats 1000000 in
theorem rdecode_ok (l l1 l2 l3 l4 l5 t r : List UInt8) (n1 n2 n3 n4 n5 : Nat) (w : World) (h : l.length = 28)
    (b1 : n1 < 256) (b2 : n2 < 256) (b3 : n3 < 256)
    (H1 : Hid (∀ w, Calls Tryd.prog 54 #[.string (bs l), .int .i64 1] w fun e w' => e = .returned (.tuple #[.int .u64 n1, .string (bs l1), .bool true]) ∧ Dr w w'))
    (H2 : Hid (∀ w, Calls Tryd.prog 54 #[.string (bs l1), .int .i64 1] w fun e w' => e = .returned (.tuple #[.int .u64 n2, .string (bs l2), .bool true]) ∧ Dr w w'))
    (H3 : Hid (∀ w, Calls Tryd.prog 54 #[.string (bs l2), .int .i64 1] w fun e w' => e = .returned (.tuple #[.int .u64 n3, .string (bs l3), .bool true]) ∧ Dr w w'))
    (H4 : Hid (∀ w, Calls Tryd.prog 54 #[.string (bs l3), .int .i64 2] w fun e w' => e = .returned (.tuple #[.int .u64 n4, .string (bs l4), .bool true]) ∧ Dr w w'))
    (H5 : Hid (∀ w, Calls Tryd.prog 54 #[.string (bs l4), .int .i64 4] w fun e w' => e = .returned (.tuple #[.int .u64 n5, .string (bs l5), .bool true]) ∧ Dr w w'))
    (H6 : Hid (∀ w, Calls Tryd.prog 65 #[.string (bs l5), .int .i64 16] w fun e w' => e = .returned (.tuple #[.string (bs t), .string (bs r), .bool true]) ∧ Below w.heap.size w w'))
    (hr : r = [0, 0])
    (H7 : Hid (∀ w, Calls Tryd.prog 51 #[.agg #[.int .i64 n1, .int .i64 n2, .int .i64 n3, .int .u64 n4, .int .u64 n5, .string (bs t)]] w fun r w' => r = .returned (.bool true) ∧ Below w.heap.size w w')) :
    Calls Tryd.prog 55 #[.string (bs l)] w fun r w' => r = .returned (.tuple #[.agg #[.int .i64 n1, .int .i64 n2, .int .i64 n3, .int .u64 n4, .int .u64 n5, .string (bs t)], .int .i64 0]) ∧ Below w.heap.size w w' := by
  have hc : ((l.length : Int) == 28) = true := by rw [h]; rfl
  have e0 : IntKind.i64.wrap (n1 : Int) = (n1 : Int) := Go.Lib.wrap_i64_small _ (by omega)
  have e1 : IntKind.i64.wrap (n2 : Int) = (n2 : Int) := Go.Lib.wrap_i64_small _ (by omega)
  have e2 : IntKind.i64.wrap (n3 : Int) = (n3 : Int) := Go.Lib.wrap_i64_small _ (by omega)
  subst hr
  go_enter Tryd.func55, Tryd.ntmps55
  go_wp2_with fail
  refine (H1.out _).mono ?_
  rintro e _ ⟨rfl, k1, rfl⟩
  go_wp2_with fail
  refine (H2.out _).mono ?_
  rintro e _ ⟨rfl, k2, rfl⟩
  go_wp2_with fail
  refine (H3.out _).mono ?_
  rintro e _ ⟨rfl, k3, rfl⟩
  go_wp2_with fail
  refine (H4.out _).mono ?_
  rintro e _ ⟨rfl, k4, rfl⟩
  go_wp2_with fail
  refine (H5.out _).mono ?_
  rintro e _ ⟨rfl, k5, rfl⟩
  go_wp2_with fail
  refine (H6.out _).mono ?_
  rintro e w6 ⟨rfl, hb6⟩
  have hb6 := dralloc hb6
  have hb : Below w.heap.size w w6 := bthen ((Below.refl _ _).alloc (Nat.le_refl _) _) hb6
  go_wp2_with fail
  refine (H7.out _).mono ?_
  rintro e w7 ⟨rfl, hb7⟩
  have B1 : w7.heap[w.heap.size]? = some (.cells #[.int .i64 0, .int .i64 0, .int .i64 0, .int .u64 0, .int .u64 0, .string ⟨#[]⟩] 30 (0, 0)) := blk_below hb7 (by have := hb6.size; simp at this ⊢; omega) (blk_push hb6)
  have B2 : w7.heap[w6.heap.size]? = some (.cells #[.int .i64 n1, .int .i64 n2, .int .i64 n3, .int .u64 n4, .int .u64 n5, .string (bs t)] 30 (0, 0)) := blk_below hb7 (by simp) (alloc_new _ _)
  have hb : Below w.heap.size w w7 := bthen (hb.alloc hb.size _) hb7
  have c0 := blk_cell B2 0
  have c1 := blk_cell B2 1
  have c2 := blk_cell B2 2
  have c3 := blk_cell B2 3
  have c4 := blk_cell B2 4
  have c5 := blk_cell B2 5
  simp at c0 c1 c2 c3 c4 c5
  clear B2 hb7
  have a0 := blk_cell B1 0
  have f0 := blk_free B1 0
  have a1 := blk_cell B1 1
  have f1 := blk_free B1 1
  have a2 := blk_cell B1 2
  have f2 := blk_free B1 2
  have a3 := blk_cell B1 3
  have f3 := blk_free B1 3
  have a4 := blk_cell B1 4
  have f4 := blk_free B1 4
  have a5 := blk_cell B1 5
  have f5 := blk_free B1 5
  simp at a0 a1 a2 a3 a4 a5
  have hB := Lib.hid hb
  clear B1 hb6 hb
  go_wp2
  refine bodyPost_ret (v := .tuple #[.agg #[.int .i64 n1, .int .i64 n2, .int .i64 n3, .int .u64 n4, .int .u64 n5, .string (bs t)], .int .i64 0]) (by simp [results, go_sem, a0, a1, a2, a3, a4, a5]) rfl ⟨rfl, ?_⟩
  exact set6 hB.out _ _ _ _ _ _

set_option maxHeartbeats 1000000 in
theorem rdecode_may (l l1 l2 l3 l4 l5 t r : List UInt8) (n1 n2 n3 n4 n5 : Nat) (w : World) (h : l.length = 28)
    (b1 : n1 < 256) (b2 : n2 < 256) (b3 : n3 < 256)
    (H1 : Hid (∀ w, Calls Tryd.prog 54 #[.string (bs l), .int .i64 1] w fun e w' => e = .returned (.tuple #[.int .u64 n1, .string (bs l1), .bool true]) ∧ Dr w w'))
    (H2 : Hid (∀ w, Calls Tryd.prog 54 #[.string (bs l1), .int .i64 1] w fun e w' => e = .returned (.tuple #[.int .u64 n2, .string (bs l2), .bool true]) ∧ Dr w w'))
    (H3 : Hid (∀ w, Calls Tryd.prog 54 #[.string (bs l2), .int .i64 1] w fun e w' => e = .returned (.tuple #[.int .u64 n3, .string (bs l3), .bool true]) ∧ Dr w w'))
    (H4 : Hid (∀ w, Calls Tryd.prog 54 #[.string (bs l3), .int .i64 2] w fun e w' => e = .returned (.tuple #[.int .u64 n4, .string (bs l4), .bool true]) ∧ Dr w w'))
    (H5 : Hid (∀ w, Calls Tryd.prog 54 #[.string (bs l4), .int .i64 4] w fun e w' => e = .returned (.tuple #[.int .u64 n5, .string (bs l5), .bool true]) ∧ Dr w w'))
    (H6 : Hid (∀ w, Calls Tryd.prog 65 #[.string (bs l5), .int .i64 16] w fun e w' => e = .returned (.tuple #[.string (bs t), .string (bs r), .bool true]) ∧ Below w.heap.size w w'))
    (hr : r = [0, 0])
    (H7 : Hid (∀ w, Calls Tryd.prog 51 #[.agg #[.int .i64 n1, .int .i64 n2, .int .i64 n3, .int .u64 n4, .int .u64 n5, .string (bs t)]] w fun r w' => r = .returned (.bool false) ∧ Below w.heap.size w w')) :
    Calls Tryd.prog 55 #[.string (bs l)] w fun r w' => r = .returned (.tuple #[.agg #[.int .i64 0, .int .i64 0, .int .i64 0, .int .u64 0, .int .u64 0, .string ⟨#[]⟩], .int .i64 30]) ∧ Below w.heap.size w w' := by
  have hc : ((l.length : Int) == 28) = true := by rw [h]; rfl
  have e0 : IntKind.i64.wrap (n1 : Int) = (n1 : Int) := Go.Lib.wrap_i64_small _ (by omega)
  have e1 : IntKind.i64.wrap (n2 : Int) = (n2 : Int) := Go.Lib.wrap_i64_small _ (by omega)
  have e2 : IntKind.i64.wrap (n3 : Int) = (n3 : Int) := Go.Lib.wrap_i64_small _ (by omega)
  subst hr
  go_enter Tryd.func55, Tryd.ntmps55
  go_wp2_with fail
  refine (H1.out _).mono ?_
  rintro e _ ⟨rfl, k1, rfl⟩
  go_wp2_with fail
  refine (H2.out _).mono ?_
  rintro e _ ⟨rfl, k2, rfl⟩
  go_wp2_with fail
  refine (H3.out _).mono ?_
  rintro e _ ⟨rfl, k3, rfl⟩
  go_wp2_with fail
  refine (H4.out _).mono ?_
  rintro e _ ⟨rfl, k4, rfl⟩
  go_wp2_with fail
  refine (H5.out _).mono ?_
  rintro e _ ⟨rfl, k5, rfl⟩
  go_wp2_with fail
  refine (H6.out _).mono ?_
  rintro e w6 ⟨rfl, hb6⟩
  have hb6 := dralloc hb6
  have hb : Below w.heap.size w w6 := bthen ((Below.refl _ _).alloc (Nat.le_refl _) _) hb6
  go_wp2_with fail
  refine (H7.out _).mono ?_
  rintro e w7 ⟨rfl, hb7⟩
  have B1 : w7.heap[w.heap.size]? = some (.cells #[.int .i64 0, .int .i64 0, .int .i64 0, .int .u64 0, .int .u64 0, .string ⟨#[]⟩] 30 (0, 0)) := blk_below hb7 (by have := hb6.size; simp at this ⊢; omega) (blk_push hb6)
  have B2 : w7.heap[w6.heap.size]? = some (.cells #[.int .i64 n1, .int .i64 n2, .int .i64 n3, .int .u64 n4, .int .u64 n5, .string (bs t)] 30 (0, 0)) := blk_below hb7 (by simp) (alloc_new _ _)
  have hb : Below w.heap.size w w7 := bthen (hb.alloc hb.size _) hb7
  clear B2 hb7
  have a0 := blk_cell B1 0
  have f0 := blk_free B1 0
  have a1 := blk_cell B1 1
  have f1 := blk_free B1 1
  have a2 := blk_cell B1 2
  have f2 := blk_free B1 2
  have a3 := blk_cell B1 3
  have f3 := blk_free B1 3
  have a4 := blk_cell B1 4
  have f4 := blk_free B1 4
  have a5 := blk_cell B1 5
  have f5 := blk_free B1 5
  simp at a0 a1 a2 a3 a4 a5
  have hB := Lib.hid hb
  clear B1 hb6 hb
  go_wp2
  refine bodyPost_ret (v := .tuple #[.agg #[.int .i64 0, .int .i64 0, .int .i64 0, .int .u64 0, .int .u64 0, .string ⟨#[]⟩], .int .i64 30]) (by simp [results, go_sem, a0, a1, a2, a3, a4, a5]) rfl ⟨rfl, ?_⟩
  exact set6 hB.out _ _ _ _ _ _

set_option maxHeartbeats 1000000 in
theorem rdecode_tail (l l1 l2 l3 l4 l5 t r : List UInt8) (n1 n2 n3 n4 n5 : Nat) (w : World) (h : l.length = 28)
    (b1 : n1 < 256) (b2 : n2 < 256) (b3 : n3 < 256)
    (H1 : Hid (∀ w, Calls Tryd.prog 54 #[.string (bs l), .int .i64 1] w fun e w' => e = .returned (.tuple #[.int .u64 n1, .string (bs l1), .bool true]) ∧ Dr w w'))
    (H2 : Hid (∀ w, Calls Tryd.prog 54 #[.string (bs l1), .int .i64 1] w fun e w' => e = .returned (.tuple #[.int .u64 n2, .string (bs l2), .bool true]) ∧ Dr w w'))
    (H3 : Hid (∀ w, Calls Tryd.prog 54 #[.string (bs l2), .int .i64 1] w fun e w' => e = .returned (.tuple #[.int .u64 n3, .string (bs l3), .bool true]) ∧ Dr w w'))
    (H4 : Hid (∀ w, Calls Tryd.prog 54 #[.string (bs l3), .int .i64 2] w fun e w' => e = .returned (.tuple #[.int .u64 n4, .string (bs l4), .bool true]) ∧ Dr w w'))
    (H5 : Hid (∀ w, Calls Tryd.prog 54 #[.string (bs l4), .int .i64 4] w fun e w' => e = .returned (.tuple #[.int .u64 n5, .string (bs l5), .bool true]) ∧ Dr w w'))
    (H6 : Hid (∀ w, Calls Tryd.prog 65 #[.string (bs l5), .int .i64 16] w fun e w' => e = .returned (.tuple #[.string (bs t), .string (bs r), .bool true]) ∧ Below w.heap.size w w'))
    (hr : r ≠ [0, 0]) :
    Calls Tryd.prog 55 #[.string (bs l)] w fun r w' => r = .returned (.tuple #[.agg #[.int .i64 0, .int .i64 0, .int .i64 0, .int .u64 0, .int .u64 0, .string ⟨#[]⟩], .int .i64 30]) ∧ Below w.heap.size w w' := by
  have hc : ((l.length : Int) == 28) = true := by rw [h]; rfl
  have e0 : IntKind.i64.wrap (n1 : Int) = (n1 : Int) := Go.Lib.wrap_i64_small _ (by omega)
  have e1 : IntKind.i64.wrap (n2 : Int) = (n2 : Int) := Go.Lib.wrap_i64_small _ (by omega)
  have e2 : IntKind.i64.wrap (n3 : Int) = (n3 : Int) := Go.Lib.wrap_i64_small _ (by omega)
  have HR := Lib.hid hr
  clear hr
  go_enter Tryd.func55, Tryd.ntmps55
  go_wp2_with fail
  refine (H1.out _).mono ?_
  rintro e _ ⟨rfl, k1, rfl⟩
  go_wp2_with fail
  refine (H2.out _).mono ?_
  rintro e _ ⟨rfl, k2, rfl⟩
  go_wp2_with fail
  refine (H3.out _).mono ?_
  rintro e _ ⟨rfl, k3, rfl⟩
  go_wp2_with fail
  refine (H4.out _).mono ?_
  rintro e _ ⟨rfl, k4, rfl⟩
  go_wp2_with fail
  refine (H5.out _).mono ?_
  rintro e _ ⟨rfl, k5, rfl⟩
  go_wp2_with fail
  refine (H6.out _).mono ?_
  rintro e w6 ⟨rfl, hb6⟩
  have hb6 := dralloc hb6
  have hb : Below w.heap.size w w6 := bthen ((Below.refl _ _).alloc (Nat.le_refl _) _) hb6
  have hb := hb.alloc hb.size (.cells #[.int .i64 n1, .int .i64 n2, .int .i64 n3, .int .u64 n4, .int .u64 n5, .string (bs t)] 30 (0, 0))
  have B1 : (w6.alloc (.cells #[.int .i64 n1, .int .i64 n2, .int .i64 n3, .int .u64 n4, .int .u64 n5, .string (bs t)] 30 (0, 0))).heap[w.heap.size]? = some (.cells #[.int .i64 0, .int .i64 0, .int .i64 0, .int .u64 0, .int .u64 0, .string ⟨#[]⟩] 30 (0, 0)) := blk_push hb6
  have a0 := blk_cell B1 0
  have f0 := blk_free B1 0
  have a1 := blk_cell B1 1
  have f1 := blk_free B1 1
  have a2 := blk_cell B1 2
  have f2 := blk_free B1 2
  have a3 := blk_cell B1 3
  have f3 := blk_free B1 3
  have a4 := blk_cell B1 4
  have f4 := blk_free B1 4
  have a5 := blk_cell B1 5
  have f5 := blk_free B1 5
  simp at a0 a1 a2 a3 a4 a5
  have hB := Lib.hid hb
  clear B1 hb6 hb
  go_wp2
  refine bodyPost_ret (v := .tuple #[.agg #[.int .i64 0, .int .i64 0, .int .i64 0, .int .u64 0, .int .u64 0, .string ⟨#[]⟩], .int .i64 30]) (by simp [results, go_sem, a0, a1, a2, a3, a4, a5]) rfl ⟨rfl, ?_⟩
  exact set6 hB.out _ _ _ _ _ _

set_option maxHeartbeats 1000000 in
theorem rdecode_text (l l1 l2 l3 l4 l5 t r : List UInt8) (n1 n2 n3 n4 n5 : Nat) (w : World) (h : l.length = 28)
    (b1 : n1 < 256) (b2 : n2 < 256) (b3 : n3 < 256)
    (H1 : Hid (∀ w, Calls Tryd.prog 54 #[.string (bs l), .int .i64 1] w fun e w' => e = .returned (.tuple #[.int .u64 n1, .string (bs l1), .bool true]) ∧ Dr w w'))
    (H2 : Hid (∀ w, Calls Tryd.prog 54 #[.string (bs l1), .int .i64 1] w fun e w' => e = .returned (.tuple #[.int .u64 n2, .string (bs l2), .bool true]) ∧ Dr w w'))
    (H3 : Hid (∀ w, Calls Tryd.prog 54 #[.string (bs l2), .int .i64 1] w fun e w' => e = .returned (.tuple #[.int .u64 n3, .string (bs l3), .bool true]) ∧ Dr w w'))
    (H4 : Hid (∀ w, Calls Tryd.prog 54 #[.string (bs l3), .int .i64 2] w fun e w' => e = .returned (.tuple #[.int .u64 n4, .string (bs l4), .bool true]) ∧ Dr w w'))
    (H5 : Hid (∀ w, Calls Tryd.prog 54 #[.string (bs l4), .int .i64 4] w fun e w' => e = .returned (.tuple #[.int .u64 n5, .string (bs l5), .bool true]) ∧ Dr w w'))
    (H6 : Hid (∀ w, Calls Tryd.prog 65 #[.string (bs l5), .int .i64 16] w fun e w' => e = .returned (.tuple #[.string (bs t), .string (bs r), .bool false]) ∧ Below w.heap.size w w')) :
    Calls Tryd.prog 55 #[.string (bs l)] w fun r w' => r = .returned (.tuple #[.agg #[.int .i64 0, .int .i64 0, .int .i64 0, .int .u64 0, .int .u64 0, .string ⟨#[]⟩], .int .i64 30]) ∧ Below w.heap.size w w' := by
  have hc : ((l.length : Int) == 28) = true := by rw [h]; rfl
  have e0 : IntKind.i64.wrap (n1 : Int) = (n1 : Int) := Go.Lib.wrap_i64_small _ (by omega)
  have e1 : IntKind.i64.wrap (n2 : Int) = (n2 : Int) := Go.Lib.wrap_i64_small _ (by omega)
  have e2 : IntKind.i64.wrap (n3 : Int) = (n3 : Int) := Go.Lib.wrap_i64_small _ (by omega)
  go_enter Tryd.func55, Tryd.ntmps55
  go_wp2_with fail
  refine (H1.out _).mono ?_
  rintro e _ ⟨rfl, k1, rfl⟩
  go_wp2_with fail
  refine (H2.out _).mono ?_
  rintro e _ ⟨rfl, k2, rfl⟩
  go_wp2_with fail
  refine (H3.out _).mono ?_
  rintro e _ ⟨rfl, k3, rfl⟩
  go_wp2_with fail
  refine (H4.out _).mono ?_
  rintro e _ ⟨rfl, k4, rfl⟩
  go_wp2_with fail
  refine (H5.out _).mono ?_
  rintro e _ ⟨rfl, k5, rfl⟩
  go_wp2_with fail
  refine (H6.out _).mono ?_
  rintro e w6 ⟨rfl, hb6⟩
  have hb6 := dralloc hb6
  have hb : Below w.heap.size w w6 := bthen ((Below.refl _ _).alloc (Nat.le_refl _) _) hb6
  have hb := hb.alloc hb.size (.cells #[.int .i64 n1, .int .i64 n2, .int .i64 n3, .int .u64 n4, .int .u64 n5, .string (bs t)] 30 (0, 0))
  have B1 : (w6.alloc (.cells #[.int .i64 n1, .int .i64 n2, .int .i64 n3, .int .u64 n4, .int .u64 n5, .string (bs t)] 30 (0, 0))).heap[w.heap.size]? = some (.cells #[.int .i64 0, .int .i64 0, .int .i64 0, .int .u64 0, .int .u64 0, .string ⟨#[]⟩] 30 (0, 0)) := blk_push hb6
  have a0 := blk_cell B1 0
  have f0 := blk_free B1 0
  have a1 := blk_cell B1 1
  have f1 := blk_free B1 1
  have a2 := blk_cell B1 2
  have f2 := blk_free B1 2
  have a3 := blk_cell B1 3
  have f3 := blk_free B1 3
  have a4 := blk_cell B1 4
  have f4 := blk_free B1 4
  have a5 := blk_cell B1 5
  have f5 := blk_free B1 5
  simp at a0 a1 a2 a3 a4 a5
  have hB := Lib.hid hb
  clear B1 hb6 hb
  go_wp2
  refine bodyPost_ret (v := .tuple #[.agg #[.int .i64 0, .int .i64 0, .int .i64 0, .int .u64 0, .int .u64 0, .string ⟨#[]⟩], .int .i64 30]) (by simp [results, go_sem, a0, a1, a2, a3, a4, a5]) rfl ⟨rfl, ?_⟩
  exact set6 hB.out _ _ _ _ _ _

end Go.Proofs.YthapghhmeicbnaaDoor
