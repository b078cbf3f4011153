/- The walks of layer 3: Decode. Printed by wip/gen03f.py. -/
import Derived.Test.YthapghhmeicbnaaDoorW03e
namespace Go.Proofs.YthapghhmeicbnaaDoor
open Go.RowKit

theorem idx_arr {P : Program} {t e : TypeId} {n : Nat} {i : TypeInfo} (h : P.underlying t = some (.array n e)) (hi : P.info? e = some i) (hc : P.cellsOf e = 1) {k0 : IntKind} (hd : P.underlying e = some (.int k0)) (cs : Array Value) (v : Value) (j : Nat) (hj : j < n) (hs : cs[j]? = some v) (w : World) :
    (Instr.index t (.agg cs) (.int .i64 j)).run P w = .ok v w := by
  have h1 : (0 : Int) ≤ (j : Int) ∧ (j : Int) < (n : Int) := by omega
  simp [Instr.index, run_underlying h, asIntOf, h1, run_sizeOf w hi, hc, part, isAgg, run_underlying hd, hs, hj]
theorem idx5 (w : World) : ∀ j, j < 5 → (Instr.index 119 (.agg #[.int .i64 1, .int .i64 1, .int .i64 1, .int .i64 2, .int .i64 4]) (.int .i64 (j : Nat))).run Tryd.prog w = .ok (.int .i64 (match j with | 0 => 1 | 1 => 1 | 2 => 1 | 3 => 2 | _ => 4)) w := by
  intro j hj
  have hi : ∃ i, Tryd.prog.info? 3 = some i := Option.isSome_iff_exists.1 (by kernel_rfl)
  obtain ⟨i, hi⟩ := hi
  refine idx_arr Tryd.underlying119 hi (by kernel_rfl) Tryd.underlying3 _ _ j hj ?_ w
  match j, hj with
  | 0, _ => rfl
  | 1, _ => rfl
  | 2, _ => rfl
  | 3, _ => rfl
  | 4, _ => rfl

theorem decode_len (l : List UInt8) (w : World) (h : l.length ≠ 28) : Calls Tryd.prog 64 #[.string (bs l)] w fun r w' => r = .returned (.tuple #[Ent.zero.val, .int .i64 30]) ∧ Below w.heap.size w w' := by
  have hc : ((l.length : Int) == 28) = false := beq_eq_false_iff_ne.2 (by omega)
  go_enter Tryd.func64, Tryd.ntmps64
  go_wp2
  refine bodyPost_ret (v := .tuple #[.agg #[.int .i64 0, .int .i64 0, .int .i64 0, .int .u64 0, .int .u64 0, .string ⟨#[]⟩], .int .i64 30]) (by simp [results, go_sem]) rfl ⟨rfl, ?_⟩
  exact (Below.refl _ _).alloc (Nat.le_refl _) _

/-- The five numbers behind k rounds. -/
def fiveAt (n0 n1 n2 n3 n4 k : Nat) : Array Value := #[.int .u64 (if 0 < k then (n0 : Int) else 0), .int .u64 (if 1 < k then (n1 : Int) else 0), .int .u64 (if 2 < k then (n2 : Int) else 0), .int .u64 (if 3 < k then (n3 : Int) else 0), .int .u64 (if 4 < k then (n4 : Int) else 0)]
def restAt (l l1 l2 l3 l4 l5 : List UInt8) (k : Nat) : List UInt8 := match k with | 0 => l | 1 => l1 | 2 => l2 | 3 => l3 | 4 => l4 | _ => l5
theorem blk_other {w : World} {g : Nat} {o : Obj} (h : w.heap[g]? = some o) {a : Addr} (u : Value) (hg : g ≠ a.block) : (w.setCell a u).heap[g]? = some o := (Below.heap_setCell w a u g hg).trans h

set_option maxHeartbeats 2000000 in
set_option maxRecDepth 10000 in
theorem decode_ok (l l1 l2 l3 l4 l5 t r z : List UInt8) (n1 n2 n3 n4 n5 : Nat) (w : World) (h : l.length = 28)
    (b1 : n1 < 256) (b2 : n2 < 256) (b3 : n3 < 256)
    (H1 : Hid (∀ w, Calls Tryd.prog 52 #[.string (bs l), .int .i64 1] w fun e w' => e = .returned (.tuple #[.int .u64 n1, .string (bs l1), .bool true]) ∧ Dr w w'))
    (H2 : Hid (∀ w, Calls Tryd.prog 52 #[.string (bs l1), .int .i64 1] w fun e w' => e = .returned (.tuple #[.int .u64 n2, .string (bs l2), .bool true]) ∧ Dr w w'))
    (H3 : Hid (∀ w, Calls Tryd.prog 52 #[.string (bs l2), .int .i64 1] w fun e w' => e = .returned (.tuple #[.int .u64 n3, .string (bs l3), .bool true]) ∧ Dr w w'))
    (H4 : Hid (∀ w, Calls Tryd.prog 52 #[.string (bs l3), .int .i64 2] w fun e w' => e = .returned (.tuple #[.int .u64 n4, .string (bs l4), .bool true]) ∧ Dr w w'))
    (H5 : Hid (∀ w, Calls Tryd.prog 52 #[.string (bs l4), .int .i64 4] w fun e w' => e = .returned (.tuple #[.int .u64 n5, .string (bs l5), .bool true]) ∧ Dr w w'))
    (H6 : Hid (∀ w, Calls Tryd.prog 69 #[.string (bs l5), .int .i64 16] w fun e w' => e = .returned (.tuple #[.string (bs t), .string (bs r), .bool true]) ∧ Dr w w'))
    (hz : z = l)
    (H7 : Hid (∀ w, Calls Tryd.prog 59 #[.agg #[.int .i64 n1, .int .i64 n2, .int .i64 n3, .int .u64 n4, .int .u64 n5, .string (bs t)]] w fun r w' => r = .returned (.tuple #[.string (bs z), .int .i64 0]) ∧ Below w.heap.size w w')) :
    Calls Tryd.prog 64 #[.string (bs l)] w fun r w' => r = .returned (.tuple #[.agg #[.int .i64 n1, .int .i64 n2, .int .i64 n3, .int .u64 n4, .int .u64 n5, .string (bs t)], .int .i64 0]) ∧ Below w.heap.size w w' := by
  have hc : ((l.length : Int) == 28) = true := by rw [h]; rfl
  have e0 : IntKind.i64.wrap (n1 : Int) = (n1 : Int) := Go.Lib.wrap_i64_small _ (by omega)
  have e1 : IntKind.i64.wrap (n2 : Int) = (n2 : Int) := Go.Lib.wrap_i64_small _ (by omega)
  have e2 : IntKind.i64.wrap (n3 : Int) = (n3 : Int) := Go.Lib.wrap_i64_small _ (by omega)
  subst hz
  go_enter Tryd.func64, Tryd.ntmps64
  go_wp2_with fail
  go_loopw [5, 20] (fun rs i wr => ∃ k : Nat, k ≤ 5 ∧ i = .int .i64 k ∧ rs = .string (bs (restAt z l1 l2 l3 l4 l5 k)) ∧ wr.heap[w.heap.size]? = some (.cells #[.int .i64 0, .int .i64 0, .int .i64 0, .int .u64 0, .int .u64 0, .string ⟨#[]⟩] 30 (0, 0)) ∧ wr.heap[w.heap.size + 1]? = some (.cells (fiveAt n1 n2 n3 n4 n5 k) 118 (0, 0)) ∧ Below w.heap.size w wr) (fun _ i _ => 5 - (intOf i).toNat)
  case atStart =>
    exact ⟨0, by omega, rfl, rfl, (Below.heap_alloc _ _ _ (by simp)).trans (alloc_new w _), (by
      have h1 := alloc_new (w.alloc (.cells #[.int .i64 0, .int .i64 0, .int .i64 0, .int .u64 0, .int .u64 0, .string ⟨#[]⟩] 30 (0, 0))) (.cells #[.int .u64 0, .int .u64 0, .int .u64 0, .int .u64 0, .int .u64 0] 118 (0, 0))
      rw [show (w.alloc (.cells #[.int .i64 0, .int .i64 0, .int .i64 0, .int .u64 0, .int .u64 0, .string ⟨#[]⟩] 30 (0, 0))).heap.size = w.heap.size + 1 by simp] at h1
      exact h1), ((Below.refl _ _).alloc (Nat.le_refl _) _).alloc (by simp) _⟩
  case round =>
    obtain ⟨k, hk, rfl, rfl, B1, BA, hb⟩ := hrel
    have hlt := World.block_lt_of_cell? wr _ (blk_cell B1 0)
    have HB1 := Lib.hid B1
    have HB := Lib.hid hb
    clear B1 hb
    rcases (show k = 5 ∨ k = 0 ∨ k = 1 ∨ k = 2 ∨ k = 3 ∨ k = 4 by omega) with rfl | rfl | rfl | rfl | rfl | rfl
    · have HBA := Lib.hid BA
      clear BA
      simp only [restAt]
      go_wp2_with fail
      refine (H6.out _).mono ?_
      rintro e w6 ⟨rfl, hd6⟩
      have hh : w6.heap = wr.heap := by obtain ⟨n, rfl⟩ := hd6; rfl
      have HB6 := Lib.hid (hd6.below_of HB.out)
      have BA := HBA.out
      have B1 := HB1.out
      rw [← hh] at BA B1 hlt
      clear hh hd6
      have a0 := blk_cell BA 0
      have a1 := blk_cell BA 1
      have a2 := blk_cell BA 2
      have a3 := blk_cell BA 3
      have a4 := blk_cell BA 4
      have HB1' := Lib.hid B1
      clear BA B1
      simp [fiveAt] at a0 a1 a2 a3 a4
      go_wp2_with fail
      refine (H7.out _).mono ?_
      rintro e w7 ⟨rfl, hb7⟩
      have B1 := blk_below hb7 (by have := hb7.size; simp at this ⊢; omega) ((Below.heap_alloc w6 _ _ hlt).trans HB1'.out)
      have B2 := blk_below hb7 (by simp) (alloc_new w6 _)
      have hB := Lib.hid (bthen (HB6.out.alloc HB6.out.size _) hb7)
      clear hb7 a0 a1 a2 a3 a4
      have d0 := blk_cell B1 0
      have f0 := blk_free B1 0
      have d1 := blk_cell B1 1
      have f1 := blk_free B1 1
      have d2 := blk_cell B1 2
      have f2 := blk_free B1 2
      have d3 := blk_cell B1 3
      have f3 := blk_free B1 3
      have d4 := blk_cell B1 4
      have f4 := blk_free B1 4
      have d5 := blk_cell B1 5
      have f5 := blk_free B1 5
      simp at d0 d1 d2 d3 d4 d5
      have c0 := blk_cell B2 0
      have c1 := blk_cell B2 1
      have c2 := blk_cell B2 2
      have c3 := blk_cell B2 3
      have c4 := blk_cell B2 4
      have c5 := blk_cell B2 5
      simp at c0 c1 c2 c3 c4 c5
      clear B1 B2
      go_wp2
      refine bodyPost_ret (v := .tuple #[.agg #[.int .i64 n1, .int .i64 n2, .int .i64 n3, .int .u64 n4, .int .u64 n5, .string (bs t)], .int .i64 0]) (by simp [results, go_sem, d0, d1, d2, d3, d4, d5]) rfl ⟨rfl, ?_⟩
      exact set6 hB.out _ _ _ _ _ _
    · have hn := blk_set BA 0 (.int .u64 (n1 : Int))
      rw [show (fiveAt n1 n2 n3 n4 n5 0).setIfInBounds 0 (.int .u64 (n1 : Int)) = fiveAt n1 n2 n3 n4 n5 1 by simp [fiveAt]] at hn
      have HN := Lib.hid hn
      have a := blk_cell BA 0
      have f := blk_free BA 0
      simp [fiveAt] at a
      have ix : (Instr.index 119 (.agg #[.int .i64 1, .int .i64 1, .int .i64 1, .int .i64 2, .int .i64 4]) (.int .i64 0)).run Tryd.prog wr = .ok (.int .i64 1) wr := idx5 wr 0 (by omega)
      clear hn BA
      simp only [restAt]
      go_wp2_with fail
      refine (H1.out _).mono ?_
      rintro e _ ⟨rfl, kk, rfl⟩
      go_wp2
      go_roundw
      case rel => exact ⟨1, by omega, rfl, rfl, blk_other HB1.out _ (by simp), HN.out, (bdrawn HB.out kk).setCell (by simp) _⟩
      case measure => simp [intOf]
    · have hn := blk_set BA 1 (.int .u64 (n2 : Int))
      rw [show (fiveAt n1 n2 n3 n4 n5 1).setIfInBounds 1 (.int .u64 (n2 : Int)) = fiveAt n1 n2 n3 n4 n5 2 by simp [fiveAt]] at hn
      have HN := Lib.hid hn
      have a := blk_cell BA 1
      have f := blk_free BA 1
      simp [fiveAt] at a
      have ix : (Instr.index 119 (.agg #[.int .i64 1, .int .i64 1, .int .i64 1, .int .i64 2, .int .i64 4]) (.int .i64 1)).run Tryd.prog wr = .ok (.int .i64 1) wr := idx5 wr 1 (by omega)
      clear hn BA
      simp only [restAt]
      go_wp2_with fail
      refine (H2.out _).mono ?_
      rintro e _ ⟨rfl, kk, rfl⟩
      go_wp2
      go_roundw
      case rel => exact ⟨2, by omega, rfl, rfl, blk_other HB1.out _ (by simp), HN.out, (bdrawn HB.out kk).setCell (by simp) _⟩
      case measure => simp [intOf]
    · have hn := blk_set BA 2 (.int .u64 (n3 : Int))
      rw [show (fiveAt n1 n2 n3 n4 n5 2).setIfInBounds 2 (.int .u64 (n3 : Int)) = fiveAt n1 n2 n3 n4 n5 3 by simp [fiveAt]] at hn
      have HN := Lib.hid hn
      have a := blk_cell BA 2
      have f := blk_free BA 2
      simp [fiveAt] at a
      have ix : (Instr.index 119 (.agg #[.int .i64 1, .int .i64 1, .int .i64 1, .int .i64 2, .int .i64 4]) (.int .i64 2)).run Tryd.prog wr = .ok (.int .i64 1) wr := idx5 wr 2 (by omega)
      clear hn BA
      simp only [restAt]
      go_wp2_with fail
      refine (H3.out _).mono ?_
      rintro e _ ⟨rfl, kk, rfl⟩
      go_wp2
      go_roundw
      case rel => exact ⟨3, by omega, rfl, rfl, blk_other HB1.out _ (by simp), HN.out, (bdrawn HB.out kk).setCell (by simp) _⟩
      case measure => simp [intOf]
    · have hn := blk_set BA 3 (.int .u64 (n4 : Int))
      rw [show (fiveAt n1 n2 n3 n4 n5 3).setIfInBounds 3 (.int .u64 (n4 : Int)) = fiveAt n1 n2 n3 n4 n5 4 by simp [fiveAt]] at hn
      have HN := Lib.hid hn
      have a := blk_cell BA 3
      have f := blk_free BA 3
      simp [fiveAt] at a
      have ix : (Instr.index 119 (.agg #[.int .i64 1, .int .i64 1, .int .i64 1, .int .i64 2, .int .i64 4]) (.int .i64 3)).run Tryd.prog wr = .ok (.int .i64 2) wr := idx5 wr 3 (by omega)
      clear hn BA
      simp only [restAt]
      go_wp2_with fail
      refine (H4.out _).mono ?_
      rintro e _ ⟨rfl, kk, rfl⟩
      go_wp2
      go_roundw
      case rel => exact ⟨4, by omega, rfl, rfl, blk_other HB1.out _ (by simp), HN.out, (bdrawn HB.out kk).setCell (by simp) _⟩
      case measure => simp [intOf]
    · have hn := blk_set BA 4 (.int .u64 (n5 : Int))
      rw [show (fiveAt n1 n2 n3 n4 n5 4).setIfInBounds 4 (.int .u64 (n5 : Int)) = fiveAt n1 n2 n3 n4 n5 5 by simp [fiveAt]] at hn
      have HN := Lib.hid hn
      have a := blk_cell BA 4
      have f := blk_free BA 4
      simp [fiveAt] at a
      have ix : (Instr.index 119 (.agg #[.int .i64 1, .int .i64 1, .int .i64 1, .int .i64 2, .int .i64 4]) (.int .i64 4)).run Tryd.prog wr = .ok (.int .i64 4) wr := idx5 wr 4 (by omega)
      clear hn BA
      simp only [restAt]
      go_wp2_with fail
      refine (H5.out _).mono ?_
      rintro e _ ⟨rfl, kk, rfl⟩
      go_wp2
      go_roundw
      case rel => exact ⟨5, by omega, rfl, rfl, blk_other HB1.out _ (by simp), HN.out, (bdrawn HB.out kk).setCell (by simp) _⟩
      case measure => simp [intOf]

set_option maxHeartbeats 2000000 in
set_option maxRecDepth 10000 in
theorem decode_may (l l1 l2 l3 l4 l5 t r z : List UInt8) (n1 n2 n3 n4 n5 : Nat) (w : World) (h : l.length = 28)
    (b1 : n1 < 256) (b2 : n2 < 256) (b3 : n3 < 256)
    (H1 : Hid (∀ w, Calls Tryd.prog 52 #[.string (bs l), .int .i64 1] w fun e w' => e = .returned (.tuple #[.int .u64 n1, .string (bs l1), .bool true]) ∧ Dr w w'))
    (H2 : Hid (∀ w, Calls Tryd.prog 52 #[.string (bs l1), .int .i64 1] w fun e w' => e = .returned (.tuple #[.int .u64 n2, .string (bs l2), .bool true]) ∧ Dr w w'))
    (H3 : Hid (∀ w, Calls Tryd.prog 52 #[.string (bs l2), .int .i64 1] w fun e w' => e = .returned (.tuple #[.int .u64 n3, .string (bs l3), .bool true]) ∧ Dr w w'))
    (H4 : Hid (∀ w, Calls Tryd.prog 52 #[.string (bs l3), .int .i64 2] w fun e w' => e = .returned (.tuple #[.int .u64 n4, .string (bs l4), .bool true]) ∧ Dr w w'))
    (H5 : Hid (∀ w, Calls Tryd.prog 52 #[.string (bs l4), .int .i64 4] w fun e w' => e = .returned (.tuple #[.int .u64 n5, .string (bs l5), .bool true]) ∧ Dr w w'))
    (H6 : Hid (∀ w, Calls Tryd.prog 69 #[.string (bs l5), .int .i64 16] w fun e w' => e = .returned (.tuple #[.string (bs t), .string (bs r), .bool true]) ∧ Dr w w'))
    (H7 : Hid (∀ w, Calls Tryd.prog 59 #[.agg #[.int .i64 n1, .int .i64 n2, .int .i64 n3, .int .u64 n4, .int .u64 n5, .string (bs t)]] w fun r w' => r = .returned (.tuple #[.string (bs z), .int .i64 30]) ∧ Below w.heap.size w w')) :
    Calls Tryd.prog 64 #[.string (bs l)] w fun r w' => r = .returned (.tuple #[.agg #[.int .i64 0, .int .i64 0, .int .i64 0, .int .u64 0, .int .u64 0, .string ⟨#[]⟩], .int .i64 30]) ∧ Below w.heap.size w w' := by
  have hc : ((l.length : Int) == 28) = true := by rw [h]; rfl
  have e0 : IntKind.i64.wrap (n1 : Int) = (n1 : Int) := Go.Lib.wrap_i64_small _ (by omega)
  have e1 : IntKind.i64.wrap (n2 : Int) = (n2 : Int) := Go.Lib.wrap_i64_small _ (by omega)
  have e2 : IntKind.i64.wrap (n3 : Int) = (n3 : Int) := Go.Lib.wrap_i64_small _ (by omega)
  go_enter Tryd.func64, Tryd.ntmps64
  go_wp2_with fail
  go_loopw [5, 20] (fun rs i wr => ∃ k : Nat, k ≤ 5 ∧ i = .int .i64 k ∧ rs = .string (bs (restAt l l1 l2 l3 l4 l5 k)) ∧ wr.heap[w.heap.size]? = some (.cells #[.int .i64 0, .int .i64 0, .int .i64 0, .int .u64 0, .int .u64 0, .string ⟨#[]⟩] 30 (0, 0)) ∧ wr.heap[w.heap.size + 1]? = some (.cells (fiveAt n1 n2 n3 n4 n5 k) 118 (0, 0)) ∧ Below w.heap.size w wr) (fun _ i _ => 5 - (intOf i).toNat)
  case atStart =>
    exact ⟨0, by omega, rfl, rfl, (Below.heap_alloc _ _ _ (by simp)).trans (alloc_new w _), (by
      have h1 := alloc_new (w.alloc (.cells #[.int .i64 0, .int .i64 0, .int .i64 0, .int .u64 0, .int .u64 0, .string ⟨#[]⟩] 30 (0, 0))) (.cells #[.int .u64 0, .int .u64 0, .int .u64 0, .int .u64 0, .int .u64 0] 118 (0, 0))
      rw [show (w.alloc (.cells #[.int .i64 0, .int .i64 0, .int .i64 0, .int .u64 0, .int .u64 0, .string ⟨#[]⟩] 30 (0, 0))).heap.size = w.heap.size + 1 by simp] at h1
      exact h1), ((Below.refl _ _).alloc (Nat.le_refl _) _).alloc (by simp) _⟩
  case round =>
    obtain ⟨k, hk, rfl, rfl, B1, BA, hb⟩ := hrel
    have hlt := World.block_lt_of_cell? wr _ (blk_cell B1 0)
    have HB1 := Lib.hid B1
    have HB := Lib.hid hb
    clear B1 hb
    rcases (show k = 5 ∨ k = 0 ∨ k = 1 ∨ k = 2 ∨ k = 3 ∨ k = 4 by omega) with rfl | rfl | rfl | rfl | rfl | rfl
    · have HBA := Lib.hid BA
      clear BA
      simp only [restAt]
      go_wp2_with fail
      refine (H6.out _).mono ?_
      rintro e w6 ⟨rfl, hd6⟩
      have hh : w6.heap = wr.heap := by obtain ⟨n, rfl⟩ := hd6; rfl
      have HB6 := Lib.hid (hd6.below_of HB.out)
      have BA := HBA.out
      have B1 := HB1.out
      rw [← hh] at BA B1 hlt
      clear hh hd6
      have a0 := blk_cell BA 0
      have a1 := blk_cell BA 1
      have a2 := blk_cell BA 2
      have a3 := blk_cell BA 3
      have a4 := blk_cell BA 4
      have HB1' := Lib.hid B1
      clear BA B1
      simp [fiveAt] at a0 a1 a2 a3 a4
      go_wp2_with fail
      refine (H7.out _).mono ?_
      rintro e w7 ⟨rfl, hb7⟩
      have B1 := blk_below hb7 (by have := hb7.size; simp at this ⊢; omega) ((Below.heap_alloc w6 _ _ hlt).trans HB1'.out)
      have B2 := blk_below hb7 (by simp) (alloc_new w6 _)
      have hB := Lib.hid (bthen (HB6.out.alloc HB6.out.size _) hb7)
      clear hb7 a0 a1 a2 a3 a4
      have d0 := blk_cell B1 0
      have f0 := blk_free B1 0
      have d1 := blk_cell B1 1
      have f1 := blk_free B1 1
      have d2 := blk_cell B1 2
      have f2 := blk_free B1 2
      have d3 := blk_cell B1 3
      have f3 := blk_free B1 3
      have d4 := blk_cell B1 4
      have f4 := blk_free B1 4
      have d5 := blk_cell B1 5
      have f5 := blk_free B1 5
      simp at d0 d1 d2 d3 d4 d5
      clear B1 B2
      go_wp2
      refine bodyPost_ret (v := .tuple #[.agg #[.int .i64 0, .int .i64 0, .int .i64 0, .int .u64 0, .int .u64 0, .string ⟨#[]⟩], .int .i64 30]) (by simp [results, go_sem, d0, d1, d2, d3, d4, d5]) rfl ⟨rfl, ?_⟩
      exact set6 hB.out _ _ _ _ _ _
    · have hn := blk_set BA 0 (.int .u64 (n1 : Int))
      rw [show (fiveAt n1 n2 n3 n4 n5 0).setIfInBounds 0 (.int .u64 (n1 : Int)) = fiveAt n1 n2 n3 n4 n5 1 by simp [fiveAt]] at hn
      have HN := Lib.hid hn
      have a := blk_cell BA 0
      have f := blk_free BA 0
      simp [fiveAt] at a
      have ix : (Instr.index 119 (.agg #[.int .i64 1, .int .i64 1, .int .i64 1, .int .i64 2, .int .i64 4]) (.int .i64 0)).run Tryd.prog wr = .ok (.int .i64 1) wr := idx5 wr 0 (by omega)
      clear hn BA
      simp only [restAt]
      go_wp2_with fail
      refine (H1.out _).mono ?_
      rintro e _ ⟨rfl, kk, rfl⟩
      go_wp2
      go_roundw
      case rel => exact ⟨1, by omega, rfl, rfl, blk_other HB1.out _ (by simp), HN.out, (bdrawn HB.out kk).setCell (by simp) _⟩
      case measure => simp [intOf]
    · have hn := blk_set BA 1 (.int .u64 (n2 : Int))
      rw [show (fiveAt n1 n2 n3 n4 n5 1).setIfInBounds 1 (.int .u64 (n2 : Int)) = fiveAt n1 n2 n3 n4 n5 2 by simp [fiveAt]] at hn
      have HN := Lib.hid hn
      have a := blk_cell BA 1
      have f := blk_free BA 1
      simp [fiveAt] at a
      have ix : (Instr.index 119 (.agg #[.int .i64 1, .int .i64 1, .int .i64 1, .int .i64 2, .int .i64 4]) (.int .i64 1)).run Tryd.prog wr = .ok (.int .i64 1) wr := idx5 wr 1 (by omega)
      clear hn BA
      simp only [restAt]
      go_wp2_with fail
      refine (H2.out _).mono ?_
      rintro e _ ⟨rfl, kk, rfl⟩
      go_wp2
      go_roundw
      case rel => exact ⟨2, by omega, rfl, rfl, blk_other HB1.out _ (by simp), HN.out, (bdrawn HB.out kk).setCell (by simp) _⟩
      case measure => simp [intOf]
    · have hn := blk_set BA 2 (.int .u64 (n3 : Int))
      rw [show (fiveAt n1 n2 n3 n4 n5 2).setIfInBounds 2 (.int .u64 (n3 : Int)) = fiveAt n1 n2 n3 n4 n5 3 by simp [fiveAt]] at hn
      have HN := Lib.hid hn
      have a := blk_cell BA 2
      have f := blk_free BA 2
      simp [fiveAt] at a
      have ix : (Instr.index 119 (.agg #[.int .i64 1, .int .i64 1, .int .i64 1, .int .i64 2, .int .i64 4]) (.int .i64 2)).run Tryd.prog wr = .ok (.int .i64 1) wr := idx5 wr 2 (by omega)
      clear hn BA
      simp only [restAt]
      go_wp2_with fail
      refine (H3.out _).mono ?_
      rintro e _ ⟨rfl, kk, rfl⟩
      go_wp2
      go_roundw
      case rel => exact ⟨3, by omega, rfl, rfl, blk_other HB1.out _ (by simp), HN.out, (bdrawn HB.out kk).setCell (by simp) _⟩
      case measure => simp [intOf]
    · have hn := blk_set BA 3 (.int .u64 (n4 : Int))
      rw [show (fiveAt n1 n2 n3 n4 n5 3).setIfInBounds 3 (.int .u64 (n4 : Int)) = fiveAt n1 n2 n3 n4 n5 4 by simp [fiveAt]] at hn
      have HN := Lib.hid hn
      have a := blk_cell BA 3
      have f := blk_free BA 3
      simp [fiveAt] at a
      have ix : (Instr.index 119 (.agg #[.int .i64 1, .int .i64 1, .int .i64 1, .int .i64 2, .int .i64 4]) (.int .i64 3)).run Tryd.prog wr = .ok (.int .i64 2) wr := idx5 wr 3 (by omega)
      clear hn BA
      simp only [restAt]
      go_wp2_with fail
      refine (H4.out _).mono ?_
      rintro e _ ⟨rfl, kk, rfl⟩
      go_wp2
      go_roundw
      case rel => exact ⟨4, by omega, rfl, rfl, blk_other HB1.out _ (by simp), HN.out, (bdrawn HB.out kk).setCell (by simp) _⟩
      case measure => simp [intOf]
    · have hn := blk_set BA 4 (.int .u64 (n5 : Int))
      rw [show (fiveAt n1 n2 n3 n4 n5 4).setIfInBounds 4 (.int .u64 (n5 : Int)) = fiveAt n1 n2 n3 n4 n5 5 by simp [fiveAt]] at hn
      have HN := Lib.hid hn
      have a := blk_cell BA 4
      have f := blk_free BA 4
      simp [fiveAt] at a
      have ix : (Instr.index 119 (.agg #[.int .i64 1, .int .i64 1, .int .i64 1, .int .i64 2, .int .i64 4]) (.int .i64 4)).run Tryd.prog wr = .ok (.int .i64 4) wr := idx5 wr 4 (by omega)
      clear hn BA
      simp only [restAt]
      go_wp2_with fail
      refine (H5.out _).mono ?_
      rintro e _ ⟨rfl, kk, rfl⟩
      go_wp2
      go_roundw
      case rel => exact ⟨5, by omega, rfl, rfl, blk_other HB1.out _ (by simp), HN.out, (bdrawn HB.out kk).setCell (by simp) _⟩
      case measure => simp [intOf]

set_option maxHeartbeats 2000000 in
set_option maxRecDepth 10000 in
theorem decode_tail (l l1 l2 l3 l4 l5 t r z : List UInt8) (n1 n2 n3 n4 n5 : Nat) (w : World) (h : l.length = 28)
    (b1 : n1 < 256) (b2 : n2 < 256) (b3 : n3 < 256)
    (H1 : Hid (∀ w, Calls Tryd.prog 52 #[.string (bs l), .int .i64 1] w fun e w' => e = .returned (.tuple #[.int .u64 n1, .string (bs l1), .bool true]) ∧ Dr w w'))
    (H2 : Hid (∀ w, Calls Tryd.prog 52 #[.string (bs l1), .int .i64 1] w fun e w' => e = .returned (.tuple #[.int .u64 n2, .string (bs l2), .bool true]) ∧ Dr w w'))
    (H3 : Hid (∀ w, Calls Tryd.prog 52 #[.string (bs l2), .int .i64 1] w fun e w' => e = .returned (.tuple #[.int .u64 n3, .string (bs l3), .bool true]) ∧ Dr w w'))
    (H4 : Hid (∀ w, Calls Tryd.prog 52 #[.string (bs l3), .int .i64 2] w fun e w' => e = .returned (.tuple #[.int .u64 n4, .string (bs l4), .bool true]) ∧ Dr w w'))
    (H5 : Hid (∀ w, Calls Tryd.prog 52 #[.string (bs l4), .int .i64 4] w fun e w' => e = .returned (.tuple #[.int .u64 n5, .string (bs l5), .bool true]) ∧ Dr w w'))
    (H6 : Hid (∀ w, Calls Tryd.prog 69 #[.string (bs l5), .int .i64 16] w fun e w' => e = .returned (.tuple #[.string (bs t), .string (bs r), .bool true]) ∧ Dr w w'))
    (hz : z ≠ l)
    (H7 : Hid (∀ w, Calls Tryd.prog 59 #[.agg #[.int .i64 n1, .int .i64 n2, .int .i64 n3, .int .u64 n4, .int .u64 n5, .string (bs t)]] w fun r w' => r = .returned (.tuple #[.string (bs z), .int .i64 0]) ∧ Below w.heap.size w w')) :
    Calls Tryd.prog 64 #[.string (bs l)] w fun r w' => r = .returned (.tuple #[.agg #[.int .i64 0, .int .i64 0, .int .i64 0, .int .u64 0, .int .u64 0, .string ⟨#[]⟩], .int .i64 30]) ∧ Below w.heap.size w w' := by
  have hc : ((l.length : Int) == 28) = true := by rw [h]; rfl
  have e0 : IntKind.i64.wrap (n1 : Int) = (n1 : Int) := Go.Lib.wrap_i64_small _ (by omega)
  have e1 : IntKind.i64.wrap (n2 : Int) = (n2 : Int) := Go.Lib.wrap_i64_small _ (by omega)
  have e2 : IntKind.i64.wrap (n3 : Int) = (n3 : Int) := Go.Lib.wrap_i64_small _ (by omega)
  have hz1 : (z == l) = false := beq_eq_false_iff_ne.2 hz
  have HZ := Lib.hid hz
  clear hz
  go_enter Tryd.func64, Tryd.ntmps64
  go_wp2_with fail
  go_loopw [5, 20] (fun rs i wr => ∃ k : Nat, k ≤ 5 ∧ i = .int .i64 k ∧ rs = .string (bs (restAt l l1 l2 l3 l4 l5 k)) ∧ wr.heap[w.heap.size]? = some (.cells #[.int .i64 0, .int .i64 0, .int .i64 0, .int .u64 0, .int .u64 0, .string ⟨#[]⟩] 30 (0, 0)) ∧ wr.heap[w.heap.size + 1]? = some (.cells (fiveAt n1 n2 n3 n4 n5 k) 118 (0, 0)) ∧ Below w.heap.size w wr) (fun _ i _ => 5 - (intOf i).toNat)
  case atStart =>
    exact ⟨0, by omega, rfl, rfl, (Below.heap_alloc _ _ _ (by simp)).trans (alloc_new w _), (by
      have h1 := alloc_new (w.alloc (.cells #[.int .i64 0, .int .i64 0, .int .i64 0, .int .u64 0, .int .u64 0, .string ⟨#[]⟩] 30 (0, 0))) (.cells #[.int .u64 0, .int .u64 0, .int .u64 0, .int .u64 0, .int .u64 0] 118 (0, 0))
      rw [show (w.alloc (.cells #[.int .i64 0, .int .i64 0, .int .i64 0, .int .u64 0, .int .u64 0, .string ⟨#[]⟩] 30 (0, 0))).heap.size = w.heap.size + 1 by simp] at h1
      exact h1), ((Below.refl _ _).alloc (Nat.le_refl _) _).alloc (by simp) _⟩
  case round =>
    obtain ⟨k, hk, rfl, rfl, B1, BA, hb⟩ := hrel
    have hlt := World.block_lt_of_cell? wr _ (blk_cell B1 0)
    have HB1 := Lib.hid B1
    have HB := Lib.hid hb
    clear B1 hb
    rcases (show k = 5 ∨ k = 0 ∨ k = 1 ∨ k = 2 ∨ k = 3 ∨ k = 4 by omega) with rfl | rfl | rfl | rfl | rfl | rfl
    · have HBA := Lib.hid BA
      clear BA
      simp only [restAt]
      go_wp2_with fail
      refine (H6.out _).mono ?_
      rintro e w6 ⟨rfl, hd6⟩
      have hh : w6.heap = wr.heap := by obtain ⟨n, rfl⟩ := hd6; rfl
      have HB6 := Lib.hid (hd6.below_of HB.out)
      have BA := HBA.out
      have B1 := HB1.out
      rw [← hh] at BA B1 hlt
      clear hh hd6
      have a0 := blk_cell BA 0
      have a1 := blk_cell BA 1
      have a2 := blk_cell BA 2
      have a3 := blk_cell BA 3
      have a4 := blk_cell BA 4
      have HB1' := Lib.hid B1
      clear BA B1
      simp [fiveAt] at a0 a1 a2 a3 a4
      go_wp2_with fail
      refine (H7.out _).mono ?_
      rintro e w7 ⟨rfl, hb7⟩
      have B1 := blk_below hb7 (by have := hb7.size; simp at this ⊢; omega) ((Below.heap_alloc w6 _ _ hlt).trans HB1'.out)
      have B2 := blk_below hb7 (by simp) (alloc_new w6 _)
      have hB := Lib.hid (bthen (HB6.out.alloc HB6.out.size _) hb7)
      clear hb7 a0 a1 a2 a3 a4
      have d0 := blk_cell B1 0
      have f0 := blk_free B1 0
      have d1 := blk_cell B1 1
      have f1 := blk_free B1 1
      have d2 := blk_cell B1 2
      have f2 := blk_free B1 2
      have d3 := blk_cell B1 3
      have f3 := blk_free B1 3
      have d4 := blk_cell B1 4
      have f4 := blk_free B1 4
      have d5 := blk_cell B1 5
      have f5 := blk_free B1 5
      simp at d0 d1 d2 d3 d4 d5
      clear B1 B2
      go_wp2
      refine bodyPost_ret (v := .tuple #[.agg #[.int .i64 0, .int .i64 0, .int .i64 0, .int .u64 0, .int .u64 0, .string ⟨#[]⟩], .int .i64 30]) (by simp [results, go_sem, d0, d1, d2, d3, d4, d5]) rfl ⟨rfl, ?_⟩
      exact set6 hB.out _ _ _ _ _ _
    · have hn := blk_set BA 0 (.int .u64 (n1 : Int))
      rw [show (fiveAt n1 n2 n3 n4 n5 0).setIfInBounds 0 (.int .u64 (n1 : Int)) = fiveAt n1 n2 n3 n4 n5 1 by simp [fiveAt]] at hn
      have HN := Lib.hid hn
      have a := blk_cell BA 0
      have f := blk_free BA 0
      simp [fiveAt] at a
      have ix : (Instr.index 119 (.agg #[.int .i64 1, .int .i64 1, .int .i64 1, .int .i64 2, .int .i64 4]) (.int .i64 0)).run Tryd.prog wr = .ok (.int .i64 1) wr := idx5 wr 0 (by omega)
      clear hn BA
      simp only [restAt]
      go_wp2_with fail
      refine (H1.out _).mono ?_
      rintro e _ ⟨rfl, kk, rfl⟩
      go_wp2
      go_roundw
      case rel => exact ⟨1, by omega, rfl, rfl, blk_other HB1.out _ (by simp), HN.out, (bdrawn HB.out kk).setCell (by simp) _⟩
      case measure => simp [intOf]
    · have hn := blk_set BA 1 (.int .u64 (n2 : Int))
      rw [show (fiveAt n1 n2 n3 n4 n5 1).setIfInBounds 1 (.int .u64 (n2 : Int)) = fiveAt n1 n2 n3 n4 n5 2 by simp [fiveAt]] at hn
      have HN := Lib.hid hn
      have a := blk_cell BA 1
      have f := blk_free BA 1
      simp [fiveAt] at a
      have ix : (Instr.index 119 (.agg #[.int .i64 1, .int .i64 1, .int .i64 1, .int .i64 2, .int .i64 4]) (.int .i64 1)).run Tryd.prog wr = .ok (.int .i64 1) wr := idx5 wr 1 (by omega)
      clear hn BA
      simp only [restAt]
      go_wp2_with fail
      refine (H2.out _).mono ?_
      rintro e _ ⟨rfl, kk, rfl⟩
      go_wp2
      go_roundw
      case rel => exact ⟨2, by omega, rfl, rfl, blk_other HB1.out _ (by simp), HN.out, (bdrawn HB.out kk).setCell (by simp) _⟩
      case measure => simp [intOf]
    · have hn := blk_set BA 2 (.int .u64 (n3 : Int))
      rw [show (fiveAt n1 n2 n3 n4 n5 2).setIfInBounds 2 (.int .u64 (n3 : Int)) = fiveAt n1 n2 n3 n4 n5 3 by simp [fiveAt]] at hn
      have HN := Lib.hid hn
      have a := blk_cell BA 2
      have f := blk_free BA 2
      simp [fiveAt] at a
      have ix : (Instr.index 119 (.agg #[.int .i64 1, .int .i64 1, .int .i64 1, .int .i64 2, .int .i64 4]) (.int .i64 2)).run Tryd.prog wr = .ok (.int .i64 1) wr := idx5 wr 2 (by omega)
      clear hn BA
      simp only [restAt]
      go_wp2_with fail
      refine (H3.out _).mono ?_
      rintro e _ ⟨rfl, kk, rfl⟩
      go_wp2
      go_roundw
      case rel => exact ⟨3, by omega, rfl, rfl, blk_other HB1.out _ (by simp), HN.out, (bdrawn HB.out kk).setCell (by simp) _⟩
      case measure => simp [intOf]
    · have hn := blk_set BA 3 (.int .u64 (n4 : Int))
      rw [show (fiveAt n1 n2 n3 n4 n5 3).setIfInBounds 3 (.int .u64 (n4 : Int)) = fiveAt n1 n2 n3 n4 n5 4 by simp [fiveAt]] at hn
      have HN := Lib.hid hn
      have a := blk_cell BA 3
      have f := blk_free BA 3
      simp [fiveAt] at a
      have ix : (Instr.index 119 (.agg #[.int .i64 1, .int .i64 1, .int .i64 1, .int .i64 2, .int .i64 4]) (.int .i64 3)).run Tryd.prog wr = .ok (.int .i64 2) wr := idx5 wr 3 (by omega)
      clear hn BA
      simp only [restAt]
      go_wp2_with fail
      refine (H4.out _).mono ?_
      rintro e _ ⟨rfl, kk, rfl⟩
      go_wp2
      go_roundw
      case rel => exact ⟨4, by omega, rfl, rfl, blk_other HB1.out _ (by simp), HN.out, (bdrawn HB.out kk).setCell (by simp) _⟩
      case measure => simp [intOf]
    · have hn := blk_set BA 4 (.int .u64 (n5 : Int))
      rw [show (fiveAt n1 n2 n3 n4 n5 4).setIfInBounds 4 (.int .u64 (n5 : Int)) = fiveAt n1 n2 n3 n4 n5 5 by simp [fiveAt]] at hn
      have HN := Lib.hid hn
      have a := blk_cell BA 4
      have f := blk_free BA 4
      simp [fiveAt] at a
      have ix : (Instr.index 119 (.agg #[.int .i64 1, .int .i64 1, .int .i64 1, .int .i64 2, .int .i64 4]) (.int .i64 4)).run Tryd.prog wr = .ok (.int .i64 4) wr := idx5 wr 4 (by omega)
      clear hn BA
      simp only [restAt]
      go_wp2_with fail
      refine (H5.out _).mono ?_
      rintro e _ ⟨rfl, kk, rfl⟩
      go_wp2
      go_roundw
      case rel => exact ⟨5, by omega, rfl, rfl, blk_other HB1.out _ (by simp), HN.out, (bdrawn HB.out kk).setCell (by simp) _⟩
      case measure => simp [intOf]

set_option maxHeartbeats 2000000 in
set_option maxRecDepth 10000 in
theorem decode_text (l l1 l2 l3 l4 l5 t r z : List UInt8) (n1 n2 n3 n4 n5 : Nat) (cc : Int) (w : World) (h : l.length = 28)
    (b1 : n1 < 256) (b2 : n2 < 256) (b3 : n3 < 256)
    (H1 : Hid (∀ w, Calls Tryd.prog 52 #[.string (bs l), .int .i64 1] w fun e w' => e = .returned (.tuple #[.int .u64 n1, .string (bs l1), .bool true]) ∧ Dr w w'))
    (H2 : Hid (∀ w, Calls Tryd.prog 52 #[.string (bs l1), .int .i64 1] w fun e w' => e = .returned (.tuple #[.int .u64 n2, .string (bs l2), .bool true]) ∧ Dr w w'))
    (H3 : Hid (∀ w, Calls Tryd.prog 52 #[.string (bs l2), .int .i64 1] w fun e w' => e = .returned (.tuple #[.int .u64 n3, .string (bs l3), .bool true]) ∧ Dr w w'))
    (H4 : Hid (∀ w, Calls Tryd.prog 52 #[.string (bs l3), .int .i64 2] w fun e w' => e = .returned (.tuple #[.int .u64 n4, .string (bs l4), .bool true]) ∧ Dr w w'))
    (H5 : Hid (∀ w, Calls Tryd.prog 52 #[.string (bs l4), .int .i64 4] w fun e w' => e = .returned (.tuple #[.int .u64 n5, .string (bs l5), .bool true]) ∧ Dr w w'))
    (H6 : Hid (∀ w, Calls Tryd.prog 69 #[.string (bs l5), .int .i64 16] w fun e w' => e = .returned (.tuple #[.string (bs t), .string (bs r), .bool false]) ∧ Dr w w'))
    (H7 : Hid (∀ w, Calls Tryd.prog 59 #[.agg #[.int .i64 n1, .int .i64 n2, .int .i64 n3, .int .u64 n4, .int .u64 n5, .string (bs t)]] w fun r w' => r = .returned (.tuple #[.string (bs z), .int .i64 cc]) ∧ Below w.heap.size w w')) :
    Calls Tryd.prog 64 #[.string (bs l)] w fun r w' => r = .returned (.tuple #[.agg #[.int .i64 0, .int .i64 0, .int .i64 0, .int .u64 0, .int .u64 0, .string ⟨#[]⟩], .int .i64 30]) ∧ Below w.heap.size w w' := by
  have hc : ((l.length : Int) == 28) = true := by rw [h]; rfl
  have e0 : IntKind.i64.wrap (n1 : Int) = (n1 : Int) := Go.Lib.wrap_i64_small _ (by omega)
  have e1 : IntKind.i64.wrap (n2 : Int) = (n2 : Int) := Go.Lib.wrap_i64_small _ (by omega)
  have e2 : IntKind.i64.wrap (n3 : Int) = (n3 : Int) := Go.Lib.wrap_i64_small _ (by omega)
  go_enter Tryd.func64, Tryd.ntmps64
  go_wp2_with fail
  go_loopw [5, 20] (fun rs i wr => ∃ k : Nat, k ≤ 5 ∧ i = .int .i64 k ∧ rs = .string (bs (restAt l l1 l2 l3 l4 l5 k)) ∧ wr.heap[w.heap.size]? = some (.cells #[.int .i64 0, .int .i64 0, .int .i64 0, .int .u64 0, .int .u64 0, .string ⟨#[]⟩] 30 (0, 0)) ∧ wr.heap[w.heap.size + 1]? = some (.cells (fiveAt n1 n2 n3 n4 n5 k) 118 (0, 0)) ∧ Below w.heap.size w wr) (fun _ i _ => 5 - (intOf i).toNat)
  case atStart =>
    exact ⟨0, by omega, rfl, rfl, (Below.heap_alloc _ _ _ (by simp)).trans (alloc_new w _), (by
      have h1 := alloc_new (w.alloc (.cells #[.int .i64 0, .int .i64 0, .int .i64 0, .int .u64 0, .int .u64 0, .string ⟨#[]⟩] 30 (0, 0))) (.cells #[.int .u64 0, .int .u64 0, .int .u64 0, .int .u64 0, .int .u64 0] 118 (0, 0))
      rw [show (w.alloc (.cells #[.int .i64 0, .int .i64 0, .int .i64 0, .int .u64 0, .int .u64 0, .string ⟨#[]⟩] 30 (0, 0))).heap.size = w.heap.size + 1 by simp] at h1
      exact h1), ((Below.refl _ _).alloc (Nat.le_refl _) _).alloc (by simp) _⟩
  case round =>
    obtain ⟨k, hk, rfl, rfl, B1, BA, hb⟩ := hrel
    have hlt := World.block_lt_of_cell? wr _ (blk_cell B1 0)
    have HB1 := Lib.hid B1
    have HB := Lib.hid hb
    clear B1 hb
    rcases (show k = 5 ∨ k = 0 ∨ k = 1 ∨ k = 2 ∨ k = 3 ∨ k = 4 by omega) with rfl | rfl | rfl | rfl | rfl | rfl
    · have HBA := Lib.hid BA
      clear BA
      simp only [restAt]
      go_wp2_with fail
      refine (H6.out _).mono ?_
      rintro e w6 ⟨rfl, hd6⟩
      have hh : w6.heap = wr.heap := by obtain ⟨n, rfl⟩ := hd6; rfl
      have HB6 := Lib.hid (hd6.below_of HB.out)
      have BA := HBA.out
      have B1 := HB1.out
      rw [← hh] at BA B1 hlt
      clear hh hd6
      have a0 := blk_cell BA 0
      have a1 := blk_cell BA 1
      have a2 := blk_cell BA 2
      have a3 := blk_cell BA 3
      have a4 := blk_cell BA 4
      have HB1' := Lib.hid B1
      clear BA B1
      simp [fiveAt] at a0 a1 a2 a3 a4
      go_wp2_with fail
      refine (H7.out _).mono ?_
      rintro e w7 ⟨rfl, hb7⟩
      have B1 := blk_below hb7 (by have := hb7.size; simp at this ⊢; omega) ((Below.heap_alloc w6 _ _ hlt).trans HB1'.out)
      have B2 := blk_below hb7 (by simp) (alloc_new w6 _)
      have hB := Lib.hid (bthen (HB6.out.alloc HB6.out.size _) hb7)
      clear hb7 a0 a1 a2 a3 a4
      have d0 := blk_cell B1 0
      have f0 := blk_free B1 0
      have d1 := blk_cell B1 1
      have f1 := blk_free B1 1
      have d2 := blk_cell B1 2
      have f2 := blk_free B1 2
      have d3 := blk_cell B1 3
      have f3 := blk_free B1 3
      have d4 := blk_cell B1 4
      have f4 := blk_free B1 4
      have d5 := blk_cell B1 5
      have f5 := blk_free B1 5
      simp at d0 d1 d2 d3 d4 d5
      clear B1 B2
      go_wp2
      refine bodyPost_ret (v := .tuple #[.agg #[.int .i64 0, .int .i64 0, .int .i64 0, .int .u64 0, .int .u64 0, .string ⟨#[]⟩], .int .i64 30]) (by simp [results, go_sem, d0, d1, d2, d3, d4, d5]) rfl ⟨rfl, ?_⟩
      exact set6 hB.out _ _ _ _ _ _
    · have hn := blk_set BA 0 (.int .u64 (n1 : Int))
      rw [show (fiveAt n1 n2 n3 n4 n5 0).setIfInBounds 0 (.int .u64 (n1 : Int)) = fiveAt n1 n2 n3 n4 n5 1 by simp [fiveAt]] at hn
      have HN := Lib.hid hn
      have a := blk_cell BA 0
      have f := blk_free BA 0
      simp [fiveAt] at a
      have ix : (Instr.index 119 (.agg #[.int .i64 1, .int .i64 1, .int .i64 1, .int .i64 2, .int .i64 4]) (.int .i64 0)).run Tryd.prog wr = .ok (.int .i64 1) wr := idx5 wr 0 (by omega)
      clear hn BA
      simp only [restAt]
      go_wp2_with fail
      refine (H1.out _).mono ?_
      rintro e _ ⟨rfl, kk, rfl⟩
      go_wp2
      go_roundw
      case rel => exact ⟨1, by omega, rfl, rfl, blk_other HB1.out _ (by simp), HN.out, (bdrawn HB.out kk).setCell (by simp) _⟩
      case measure => simp [intOf]
    · have hn := blk_set BA 1 (.int .u64 (n2 : Int))
      rw [show (fiveAt n1 n2 n3 n4 n5 1).setIfInBounds 1 (.int .u64 (n2 : Int)) = fiveAt n1 n2 n3 n4 n5 2 by simp [fiveAt]] at hn
      have HN := Lib.hid hn
      have a := blk_cell BA 1
      have f := blk_free BA 1
      simp [fiveAt] at a
      have ix : (Instr.index 119 (.agg #[.int .i64 1, .int .i64 1, .int .i64 1, .int .i64 2, .int .i64 4]) (.int .i64 1)).run Tryd.prog wr = .ok (.int .i64 1) wr := idx5 wr 1 (by omega)
      clear hn BA
      simp only [restAt]
      go_wp2_with fail
      refine (H2.out _).mono ?_
      rintro e _ ⟨rfl, kk, rfl⟩
      go_wp2
      go_roundw
      case rel => exact ⟨2, by omega, rfl, rfl, blk_other HB1.out _ (by simp), HN.out, (bdrawn HB.out kk).setCell (by simp) _⟩
      case measure => simp [intOf]
    · have hn := blk_set BA 2 (.int .u64 (n3 : Int))
      rw [show (fiveAt n1 n2 n3 n4 n5 2).setIfInBounds 2 (.int .u64 (n3 : Int)) = fiveAt n1 n2 n3 n4 n5 3 by simp [fiveAt]] at hn
      have HN := Lib.hid hn
      have a := blk_cell BA 2
      have f := blk_free BA 2
      simp [fiveAt] at a
      have ix : (Instr.index 119 (.agg #[.int .i64 1, .int .i64 1, .int .i64 1, .int .i64 2, .int .i64 4]) (.int .i64 2)).run Tryd.prog wr = .ok (.int .i64 1) wr := idx5 wr 2 (by omega)
      clear hn BA
      simp only [restAt]
      go_wp2_with fail
      refine (H3.out _).mono ?_
      rintro e _ ⟨rfl, kk, rfl⟩
      go_wp2
      go_roundw
      case rel => exact ⟨3, by omega, rfl, rfl, blk_other HB1.out _ (by simp), HN.out, (bdrawn HB.out kk).setCell (by simp) _⟩
      case measure => simp [intOf]
    · have hn := blk_set BA 3 (.int .u64 (n4 : Int))
      rw [show (fiveAt n1 n2 n3 n4 n5 3).setIfInBounds 3 (.int .u64 (n4 : Int)) = fiveAt n1 n2 n3 n4 n5 4 by simp [fiveAt]] at hn
      have HN := Lib.hid hn
      have a := blk_cell BA 3
      have f := blk_free BA 3
      simp [fiveAt] at a
      have ix : (Instr.index 119 (.agg #[.int .i64 1, .int .i64 1, .int .i64 1, .int .i64 2, .int .i64 4]) (.int .i64 3)).run Tryd.prog wr = .ok (.int .i64 2) wr := idx5 wr 3 (by omega)
      clear hn BA
      simp only [restAt]
      go_wp2_with fail
      refine (H4.out _).mono ?_
      rintro e _ ⟨rfl, kk, rfl⟩
      go_wp2
      go_roundw
      case rel => exact ⟨4, by omega, rfl, rfl, blk_other HB1.out _ (by simp), HN.out, (bdrawn HB.out kk).setCell (by simp) _⟩
      case measure => simp [intOf]
    · have hn := blk_set BA 4 (.int .u64 (n5 : Int))
      rw [show (fiveAt n1 n2 n3 n4 n5 4).setIfInBounds 4 (.int .u64 (n5 : Int)) = fiveAt n1 n2 n3 n4 n5 5 by simp [fiveAt]] at hn
      have HN := Lib.hid hn
      have a := blk_cell BA 4
      have f := blk_free BA 4
      simp [fiveAt] at a
      have ix : (Instr.index 119 (.agg #[.int .i64 1, .int .i64 1, .int .i64 1, .int .i64 2, .int .i64 4]) (.int .i64 4)).run Tryd.prog wr = .ok (.int .i64 4) wr := idx5 wr 4 (by omega)
      clear hn BA
      simp only [restAt]
      go_wp2_with fail
      refine (H5.out _).mono ?_
      rintro e _ ⟨rfl, kk, rfl⟩
      go_wp2
      go_roundw
      case rel => exact ⟨5, by omega, rfl, rfl, blk_other HB1.out _ (by simp), HN.out, (bdrawn HB.out kk).setCell (by simp) _⟩
      case measure => simp [intOf]

end Go.Proofs.YthapghhmeicbnaaDoor
