/- The walks of layer 3: EntryFields. Printed by wip/gen03k.py. -/
import Derived.Test.YtmiinihbbpoicaaDoorW03j
import Derived.BigRegion
namespace Go.Proofs.YtmiinihbbpoicaaDoor
open Go.RowKit

theorem alloc3_1 (w : World) (o0 o1 o2 : Obj) : (((w.alloc o0).alloc o1).alloc o2).drew.heap[w.heap.size + 1]? = some o1 :=
  (Below.heap_alloc ((w.alloc o0).alloc o1) o2 (w.heap.size + 1) (by simp)).trans (alloc_two w o0 o1)
theorem alloc3_2 (w : World) (o0 o1 o2 : Obj) : (((w.alloc o0).alloc o1).alloc o2).drew.heap[w.heap.size + 1 + 1]? = some o2 := by
  have h := alloc_two (w.alloc o0) o1 o2
  rw [show (w.alloc o0).heap.size = w.heap.size + 1 by simp] at h
  exact h

/-- What an entry's bytes begin with, and their end. -/
theorem bytes_nine (e : Ent) : e.bytes.take 9 = put e.kind.toNat 1 ++ put e.service.toNat 1 ++ put e.group.toNat 1 ++ put e.session.toNat 2 ++ put e.number.toNat 4 ∧ e.bytes.drop 9 = tput e.text.data.toList 16 ++ [0, 0] := by
  have h : e.bytes = (put e.kind.toNat 1 ++ put e.service.toNat 1 ++ put e.group.toNat 1 ++ put e.session.toNat 2 ++ put e.number.toNat 4) ++ (tput e.text.data.toList 16 ++ [0, 0]) := by
    simp only [Ent.bytes, List.append_assoc]
  rw [h]
  exact cut (by simp [put_length])
theorem bytes_five (e : Ent) : e.bytes.take 5 = put e.kind.toNat 1 ++ put e.service.toNat 1 ++ put e.group.toNat 1 ++ put e.session.toNat 2 := by
  have h : e.bytes = (put e.kind.toNat 1 ++ put e.service.toNat 1 ++ put e.group.toNat 1 ++ put e.session.toNat 2) ++ (put e.number.toNat 4 ++ (tput e.text.data.toList 16 ++ [0, 0])) := by
    simp only [Ent.bytes, List.append_assoc]
  rw [h]
  exact (cut (by simp [put_length])).1


set_option maxHeartbeats 4000000 in
theorem fields_no (k s g se nu n : Int) (t x : ByteArray) (A B D : ByteArray) (c2 c3 : Int) (w : World)
    (H1 : Hid (∀ w, Calls Tryd.prog 8 #[.agg #[.int .i64 k, .int .i64 s, .int .i64 g, .int .u64 se, .int .u64 nu, .string t]] w fun r w' => r = .returned (.tuple #[.string A, .int .i64 30]) ∧ Below w.heap.size w w'))
    (H2 : Hid (∀ w, Calls Tryd.prog 8 #[.agg #[.int .i64 k, .int .i64 s, .int .i64 g, .int .u64 se, .int .u64 nu, .string x]] w fun r w' => r = .returned (.tuple #[.string B, .int .i64 c2]) ∧ Below w.heap.size w w'))
    (H3 : Hid (∀ w, Calls Tryd.prog 8 #[.agg #[.int .i64 k, .int .i64 s, .int .i64 g, .int .u64 se, .int .u64 n, .string t]] w fun r w' => r = .returned (.tuple #[.string D, .int .i64 c3]) ∧ Below w.heap.size w w')) :
    Calls Tryd.prog 7 #[.agg #[.int .i64 k, .int .i64 s, .int .i64 g, .int .u64 se, .int .u64 nu, .string t], .string x, .int .u64 n] w fun r w' => r = .returned (.bool true) ∧ Below w.heap.size w w' := by
  go_enter Tryd.func7, Tryd.ntmps7
  go_wp2_with fail
  go_region
  all_goals go_wp2_with fail
  · refine (H1.out _).mono ?_
    rintro r w1 ⟨rfl, hb1⟩
    have BF := blk_below hb1 (by simp) (alloc3_1 w _ _ _)
    have BG := blk_below hb1 (by simp) (alloc3_2 w _ _ _)
    have hb := bthen ((((Below.refl w.heap.size w).alloc (Nat.le_refl _) _).alloc (by simp) _).alloc (by simp; omega) _).drew hb1
    clear hb1
    have c0 := blk_cell BF 0
    have c1 := blk_cell BF 1
    have c2 := blk_cell BF 2
    have c3 := blk_cell BF 3
    have c4 := blk_cell BF 4
    have c5 := blk_cell BF 5
    simp at c0 c1 c2 c3 c4 c5
    go_wp2_with fail
    refine (H2.out _).mono ?_
    rintro r w2 ⟨rfl, hb2⟩
    have BG := blk_below hb2 (World.block_lt_of_cell? w1 _ (blk_cell BG 0)) BG
    have hb := bthen hb hb2
    clear hb2 BF c0 c1 c2 c3 c4 c5
    have d0 := blk_cell BG 0
    have d1 := blk_cell BG 1
    have d2 := blk_cell BG 2
    have d3 := blk_cell BG 3
    have d4 := blk_cell BG 4
    have d5 := blk_cell BG 5
    simp at d0 d1 d2 d3 d4 d5
    go_wp2_with fail
    refine (H3.out _).mono ?_
    rintro r w3 ⟨rfl, hb3⟩
    have hb := bthen hb hb3
    clear hb3 BG d0 d1 d2 d3 d4 d5
    go_wp2_with fail
    refine (fixed03 _).mono ?_
    rintro r w4 ⟨rfl, hb4⟩
    have hb := bthen hb hb4
    clear hb4
    go_wp2_with fail
    refine (fixed03 _).mono ?_
    rintro r w5 ⟨rfl, hb5⟩
    go_wp2
    go_ret
    exact ⟨rfl, bthen hb hb5⟩
  · refine (H1.out _).mono ?_
    rintro r w1 ⟨rfl, hb1⟩
    have BF := blk_below hb1 (by simp) (alloc3_2 w _ _ _)
    have BG := blk_below hb1 (by simp) (alloc3_1 w _ _ _)
    have hb := bthen ((((Below.refl w.heap.size w).alloc (Nat.le_refl _) _).alloc (by simp) _).alloc (by simp; omega) _).drew hb1
    clear hb1
    have c0 := blk_cell BF 0
    have c1 := blk_cell BF 1
    have c2 := blk_cell BF 2
    have c3 := blk_cell BF 3
    have c4 := blk_cell BF 4
    have c5 := blk_cell BF 5
    simp at c0 c1 c2 c3 c4 c5
    go_wp2_with fail
    refine (H2.out _).mono ?_
    rintro r w2 ⟨rfl, hb2⟩
    have BG := blk_below hb2 (World.block_lt_of_cell? w1 _ (blk_cell BG 0)) BG
    have hb := bthen hb hb2
    clear hb2 BF c0 c1 c2 c3 c4 c5
    have d0 := blk_cell BG 0
    have d1 := blk_cell BG 1
    have d2 := blk_cell BG 2
    have d3 := blk_cell BG 3
    have d4 := blk_cell BG 4
    have d5 := blk_cell BG 5
    simp at d0 d1 d2 d3 d4 d5
    go_wp2_with fail
    refine (H3.out _).mono ?_
    rintro r w3 ⟨rfl, hb3⟩
    have hb := bthen hb hb3
    clear hb3 BG d0 d1 d2 d3 d4 d5
    go_wp2_with fail
    refine (fixed03 _).mono ?_
    rintro r w4 ⟨rfl, hb4⟩
    have hb := bthen hb hb4
    clear hb4
    go_wp2_with fail
    refine (fixed03 _).mono ?_
    rintro r w5 ⟨rfl, hb5⟩
    go_wp2
    go_ret
    exact ⟨rfl, bthen hb hb5⟩

set_option maxHeartbeats 4000000 in
theorem fields_nn (k s g se nu n : Int) (t x : ByteArray) (A B D : ByteArray) (w : World)
    (H1 : Hid (∀ w, Calls Tryd.prog 8 #[.agg #[.int .i64 k, .int .i64 s, .int .i64 g, .int .u64 se, .int .u64 nu, .string t]] w fun r w' => r = .returned (.tuple #[.string A, .int .i64 0]) ∧ Below w.heap.size w w'))
    (H2 : Hid (∀ w, Calls Tryd.prog 8 #[.agg #[.int .i64 k, .int .i64 s, .int .i64 g, .int .u64 se, .int .u64 nu, .string x]] w fun r w' => r = .returned (.tuple #[.string B, .int .i64 30]) ∧ Below w.heap.size w w'))
    (H3 : Hid (∀ w, Calls Tryd.prog 8 #[.agg #[.int .i64 k, .int .i64 s, .int .i64 g, .int .u64 se, .int .u64 n, .string t]] w fun r w' => r = .returned (.tuple #[.string D, .int .i64 30]) ∧ Below w.heap.size w w')) :
    Calls Tryd.prog 7 #[.agg #[.int .i64 k, .int .i64 s, .int .i64 g, .int .u64 se, .int .u64 nu, .string t], .string x, .int .u64 n] w fun r w' => r = .returned (.bool true) ∧ Below w.heap.size w w' := by
  go_enter Tryd.func7, Tryd.ntmps7
  go_wp2_with fail
  go_region
  all_goals go_wp2_with fail
  · refine (H1.out _).mono ?_
    rintro r w1 ⟨rfl, hb1⟩
    have BF := blk_below hb1 (by simp) (alloc3_1 w _ _ _)
    have BG := blk_below hb1 (by simp) (alloc3_2 w _ _ _)
    have hb := bthen ((((Below.refl w.heap.size w).alloc (Nat.le_refl _) _).alloc (by simp) _).alloc (by simp; omega) _).drew hb1
    clear hb1
    have c0 := blk_cell BF 0
    have c1 := blk_cell BF 1
    have c2 := blk_cell BF 2
    have c3 := blk_cell BF 3
    have c4 := blk_cell BF 4
    have c5 := blk_cell BF 5
    simp at c0 c1 c2 c3 c4 c5
    go_wp2_with fail
    refine (H2.out _).mono ?_
    rintro r w2 ⟨rfl, hb2⟩
    have BG := blk_below hb2 (World.block_lt_of_cell? w1 _ (blk_cell BG 0)) BG
    have hb := bthen hb hb2
    clear hb2 BF c0 c1 c2 c3 c4 c5
    have d0 := blk_cell BG 0
    have d1 := blk_cell BG 1
    have d2 := blk_cell BG 2
    have d3 := blk_cell BG 3
    have d4 := blk_cell BG 4
    have d5 := blk_cell BG 5
    simp at d0 d1 d2 d3 d4 d5
    go_wp2_with fail
    refine (H3.out _).mono ?_
    rintro r w3 ⟨rfl, hb3⟩
    have hb := bthen hb hb3
    clear hb3 BG d0 d1 d2 d3 d4 d5
    go_wp2_with fail
    refine (fixed03 _).mono ?_
    rintro r w4 ⟨rfl, hb4⟩
    have hb := bthen hb hb4
    clear hb4
    have HB := Lib.hid hb
    clear hb
    go_wp2_with fail
    go_quiet (fail)
    go_wp2_with fail
    go_quiet (fail)
    go_wp2
    go_ret
    exact ⟨rfl, bdrawn (bdrawn HB.out _) _⟩
  · refine (H1.out _).mono ?_
    rintro r w1 ⟨rfl, hb1⟩
    have BF := blk_below hb1 (by simp) (alloc3_2 w _ _ _)
    have BG := blk_below hb1 (by simp) (alloc3_1 w _ _ _)
    have hb := bthen ((((Below.refl w.heap.size w).alloc (Nat.le_refl _) _).alloc (by simp) _).alloc (by simp; omega) _).drew hb1
    clear hb1
    have c0 := blk_cell BF 0
    have c1 := blk_cell BF 1
    have c2 := blk_cell BF 2
    have c3 := blk_cell BF 3
    have c4 := blk_cell BF 4
    have c5 := blk_cell BF 5
    simp at c0 c1 c2 c3 c4 c5
    go_wp2_with fail
    refine (H2.out _).mono ?_
    rintro r w2 ⟨rfl, hb2⟩
    have BG := blk_below hb2 (World.block_lt_of_cell? w1 _ (blk_cell BG 0)) BG
    have hb := bthen hb hb2
    clear hb2 BF c0 c1 c2 c3 c4 c5
    have d0 := blk_cell BG 0
    have d1 := blk_cell BG 1
    have d2 := blk_cell BG 2
    have d3 := blk_cell BG 3
    have d4 := blk_cell BG 4
    have d5 := blk_cell BG 5
    simp at d0 d1 d2 d3 d4 d5
    go_wp2_with fail
    refine (H3.out _).mono ?_
    rintro r w3 ⟨rfl, hb3⟩
    have hb := bthen hb hb3
    clear hb3 BG d0 d1 d2 d3 d4 d5
    go_wp2_with fail
    refine (fixed03 _).mono ?_
    rintro r w4 ⟨rfl, hb4⟩
    have hb := bthen hb hb4
    clear hb4
    have HB := Lib.hid hb
    clear hb
    go_wp2_with fail
    go_quiet (fail)
    go_wp2_with fail
    go_quiet (fail)
    go_wp2
    go_ret
    exact ⟨rfl, bdrawn (bdrawn HB.out _) _⟩

set_option maxHeartbeats 4000000 in
theorem fields_yn (k s g se nu n : Int) (t x : ByteArray) (A B D : ByteArray) (p : ByteArray) (w : World)
    (H1 : Hid (∀ w, Calls Tryd.prog 8 #[.agg #[.int .i64 k, .int .i64 s, .int .i64 g, .int .u64 se, .int .u64 nu, .string t]] w fun r w' => r = .returned (.tuple #[.string A, .int .i64 0]) ∧ Below w.heap.size w w'))
    (H2 : Hid (∀ w, Calls Tryd.prog 8 #[.agg #[.int .i64 k, .int .i64 s, .int .i64 g, .int .u64 se, .int .u64 nu, .string x]] w fun r w' => r = .returned (.tuple #[.string B, .int .i64 0]) ∧ Below w.heap.size w w'))
    (H3 : Hid (∀ w, Calls Tryd.prog 8 #[.agg #[.int .i64 k, .int .i64 s, .int .i64 g, .int .u64 se, .int .u64 n, .string t]] w fun r w' => r = .returned (.tuple #[.string D, .int .i64 30]) ∧ Below w.heap.size w w'))
    (sA : A.size = 28)
    (sB : B.size = 28) (a9 : A.extract 0 9 = p) (b9 : B.extract 0 9 = p) :
    Calls Tryd.prog 7 #[.agg #[.int .i64 k, .int .i64 s, .int .i64 g, .int .u64 se, .int .u64 nu, .string t], .string x, .int .u64 n] w fun r w' => r = .returned (.bool true) ∧ Below w.heap.size w w' := by
  go_enter Tryd.func7, Tryd.ntmps7
  go_wp2_with fail
  go_region
  all_goals go_wp2_with fail
  · refine (H1.out _).mono ?_
    rintro r w1 ⟨rfl, hb1⟩
    have BF := blk_below hb1 (by simp) (alloc3_1 w _ _ _)
    have BG := blk_below hb1 (by simp) (alloc3_2 w _ _ _)
    have hb := bthen ((((Below.refl w.heap.size w).alloc (Nat.le_refl _) _).alloc (by simp) _).alloc (by simp; omega) _).drew hb1
    clear hb1
    have c0 := blk_cell BF 0
    have c1 := blk_cell BF 1
    have c2 := blk_cell BF 2
    have c3 := blk_cell BF 3
    have c4 := blk_cell BF 4
    have c5 := blk_cell BF 5
    simp at c0 c1 c2 c3 c4 c5
    go_wp2_with fail
    refine (H2.out _).mono ?_
    rintro r w2 ⟨rfl, hb2⟩
    have BG := blk_below hb2 (World.block_lt_of_cell? w1 _ (blk_cell BG 0)) BG
    have hb := bthen hb hb2
    clear hb2 BF c0 c1 c2 c3 c4 c5
    have d0 := blk_cell BG 0
    have d1 := blk_cell BG 1
    have d2 := blk_cell BG 2
    have d3 := blk_cell BG 3
    have d4 := blk_cell BG 4
    have d5 := blk_cell BG 5
    simp at d0 d1 d2 d3 d4 d5
    go_wp2_with fail
    refine (H3.out _).mono ?_
    rintro r w3 ⟨rfl, hb3⟩
    have hb := bthen hb hb3
    clear hb3 BG d0 d1 d2 d3 d4 d5
    go_wp2_with fail
    refine (fixed03 _).mono ?_
    rintro r w4 ⟨rfl, hb4⟩
    have hb := bthen hb hb4
    clear hb4
    have HB := Lib.hid hb
    clear hb
    go_wp2_with fail
    go_quiet (fail)
    go_wp2_with fail
    go_quiet (fail)
    go_wp2
    go_ret
    exact ⟨rfl, bdrawn (bdrawn HB.out _) _⟩
  · refine (H1.out _).mono ?_
    rintro r w1 ⟨rfl, hb1⟩
    have BF := blk_below hb1 (by simp) (alloc3_2 w _ _ _)
    have BG := blk_below hb1 (by simp) (alloc3_1 w _ _ _)
    have hb := bthen ((((Below.refl w.heap.size w).alloc (Nat.le_refl _) _).alloc (by simp) _).alloc (by simp; omega) _).drew hb1
    clear hb1
    have c0 := blk_cell BF 0
    have c1 := blk_cell BF 1
    have c2 := blk_cell BF 2
    have c3 := blk_cell BF 3
    have c4 := blk_cell BF 4
    have c5 := blk_cell BF 5
    simp at c0 c1 c2 c3 c4 c5
    go_wp2_with fail
    refine (H2.out _).mono ?_
    rintro r w2 ⟨rfl, hb2⟩
    have BG := blk_below hb2 (World.block_lt_of_cell? w1 _ (blk_cell BG 0)) BG
    have hb := bthen hb hb2
    clear hb2 BF c0 c1 c2 c3 c4 c5
    have d0 := blk_cell BG 0
    have d1 := blk_cell BG 1
    have d2 := blk_cell BG 2
    have d3 := blk_cell BG 3
    have d4 := blk_cell BG 4
    have d5 := blk_cell BG 5
    simp at d0 d1 d2 d3 d4 d5
    go_wp2_with fail
    refine (H3.out _).mono ?_
    rintro r w3 ⟨rfl, hb3⟩
    have hb := bthen hb hb3
    clear hb3 BG d0 d1 d2 d3 d4 d5
    go_wp2_with fail
    refine (fixed03 _).mono ?_
    rintro r w4 ⟨rfl, hb4⟩
    have hb := bthen hb hb4
    clear hb4
    have HB := Lib.hid hb
    clear hb
    go_wp2_with fail
    go_quiet (fail)
    go_wp2_with fail
    go_quiet (fail)
    go_wp2
    go_ret
    exact ⟨rfl, bdrawn (bdrawn HB.out _) _⟩

set_option maxHeartbeats 4000000 in
theorem fields_ny (k s g se nu n : Int) (t x : ByteArray) (A B D : ByteArray) (q r0 : ByteArray) (w : World)
    (H1 : Hid (∀ w, Calls Tryd.prog 8 #[.agg #[.int .i64 k, .int .i64 s, .int .i64 g, .int .u64 se, .int .u64 nu, .string t]] w fun r w' => r = .returned (.tuple #[.string A, .int .i64 0]) ∧ Below w.heap.size w w'))
    (H2 : Hid (∀ w, Calls Tryd.prog 8 #[.agg #[.int .i64 k, .int .i64 s, .int .i64 g, .int .u64 se, .int .u64 nu, .string x]] w fun r w' => r = .returned (.tuple #[.string B, .int .i64 30]) ∧ Below w.heap.size w w'))
    (H3 : Hid (∀ w, Calls Tryd.prog 8 #[.agg #[.int .i64 k, .int .i64 s, .int .i64 g, .int .u64 se, .int .u64 n, .string t]] w fun r w' => r = .returned (.tuple #[.string D, .int .i64 0]) ∧ Below w.heap.size w w'))
    (sA : A.size = 28)
    (sD : D.size = 28) (a5 : A.extract 0 5 = q) (d5 : D.extract 0 5 = q) (ar : A.extract 9 28 = r0) (dr : D.extract 9 28 = r0) :
    Calls Tryd.prog 7 #[.agg #[.int .i64 k, .int .i64 s, .int .i64 g, .int .u64 se, .int .u64 nu, .string t], .string x, .int .u64 n] w fun r w' => r = .returned (.bool true) ∧ Below w.heap.size w w' := by
  go_enter Tryd.func7, Tryd.ntmps7
  go_wp2_with fail
  go_region
  all_goals go_wp2_with fail
  · refine (H1.out _).mono ?_
    rintro r w1 ⟨rfl, hb1⟩
    have BF := blk_below hb1 (by simp) (alloc3_1 w _ _ _)
    have BG := blk_below hb1 (by simp) (alloc3_2 w _ _ _)
    have hb := bthen ((((Below.refl w.heap.size w).alloc (Nat.le_refl _) _).alloc (by simp) _).alloc (by simp; omega) _).drew hb1
    clear hb1
    have c0 := blk_cell BF 0
    have c1 := blk_cell BF 1
    have c2 := blk_cell BF 2
    have c3 := blk_cell BF 3
    have c4 := blk_cell BF 4
    have c5 := blk_cell BF 5
    simp at c0 c1 c2 c3 c4 c5
    go_wp2_with fail
    refine (H2.out _).mono ?_
    rintro r w2 ⟨rfl, hb2⟩
    have BG := blk_below hb2 (World.block_lt_of_cell? w1 _ (blk_cell BG 0)) BG
    have hb := bthen hb hb2
    clear hb2 BF c0 c1 c2 c3 c4 c5
    have d0 := blk_cell BG 0
    have d1 := blk_cell BG 1
    have d2 := blk_cell BG 2
    have d3 := blk_cell BG 3
    have d4 := blk_cell BG 4
    have d5 := blk_cell BG 5
    simp at d0 d1 d2 d3 d4 d5
    go_wp2_with fail
    refine (H3.out _).mono ?_
    rintro r w3 ⟨rfl, hb3⟩
    have hb := bthen hb hb3
    clear hb3 BG d0 d1 d2 d3 d4 d5
    go_wp2_with fail
    refine (fixed03 _).mono ?_
    rintro r w4 ⟨rfl, hb4⟩
    have hb := bthen hb hb4
    clear hb4
    have HB := Lib.hid hb
    clear hb
    go_wp2_with fail
    go_quiet (fail)
    go_wp2_with fail
    go_quiet (fail)
    go_wp2
    go_ret
    exact ⟨rfl, bdrawn (bdrawn HB.out _) _⟩
  · refine (H1.out _).mono ?_
    rintro r w1 ⟨rfl, hb1⟩
    have BF := blk_below hb1 (by simp) (alloc3_2 w _ _ _)
    have BG := blk_below hb1 (by simp) (alloc3_1 w _ _ _)
    have hb := bthen ((((Below.refl w.heap.size w).alloc (Nat.le_refl _) _).alloc (by simp) _).alloc (by simp; omega) _).drew hb1
    clear hb1
    have c0 := blk_cell BF 0
    have c1 := blk_cell BF 1
    have c2 := blk_cell BF 2
    have c3 := blk_cell BF 3
    have c4 := blk_cell BF 4
    have c5 := blk_cell BF 5
    simp at c0 c1 c2 c3 c4 c5
    go_wp2_with fail
    refine (H2.out _).mono ?_
    rintro r w2 ⟨rfl, hb2⟩
    have BG := blk_below hb2 (World.block_lt_of_cell? w1 _ (blk_cell BG 0)) BG
    have hb := bthen hb hb2
    clear hb2 BF c0 c1 c2 c3 c4 c5
    have d0 := blk_cell BG 0
    have d1 := blk_cell BG 1
    have d2 := blk_cell BG 2
    have d3 := blk_cell BG 3
    have d4 := blk_cell BG 4
    have d5 := blk_cell BG 5
    simp at d0 d1 d2 d3 d4 d5
    go_wp2_with fail
    refine (H3.out _).mono ?_
    rintro r w3 ⟨rfl, hb3⟩
    have hb := bthen hb hb3
    clear hb3 BG d0 d1 d2 d3 d4 d5
    go_wp2_with fail
    refine (fixed03 _).mono ?_
    rintro r w4 ⟨rfl, hb4⟩
    have hb := bthen hb hb4
    clear hb4
    have HB := Lib.hid hb
    clear hb
    go_wp2_with fail
    go_quiet (fail)
    go_wp2_with fail
    go_quiet (fail)
    go_wp2
    go_ret
    exact ⟨rfl, bdrawn (bdrawn HB.out _) _⟩

set_option maxHeartbeats 4000000 in
theorem fields_yy (k s g se nu n : Int) (t x : ByteArray) (A B D : ByteArray) (p q r0 : ByteArray) (w : World)
    (H1 : Hid (∀ w, Calls Tryd.prog 8 #[.agg #[.int .i64 k, .int .i64 s, .int .i64 g, .int .u64 se, .int .u64 nu, .string t]] w fun r w' => r = .returned (.tuple #[.string A, .int .i64 0]) ∧ Below w.heap.size w w'))
    (H2 : Hid (∀ w, Calls Tryd.prog 8 #[.agg #[.int .i64 k, .int .i64 s, .int .i64 g, .int .u64 se, .int .u64 nu, .string x]] w fun r w' => r = .returned (.tuple #[.string B, .int .i64 0]) ∧ Below w.heap.size w w'))
    (H3 : Hid (∀ w, Calls Tryd.prog 8 #[.agg #[.int .i64 k, .int .i64 s, .int .i64 g, .int .u64 se, .int .u64 n, .string t]] w fun r w' => r = .returned (.tuple #[.string D, .int .i64 0]) ∧ Below w.heap.size w w'))
    (sA : A.size = 28)
    (sB : B.size = 28) (a9 : A.extract 0 9 = p) (b9 : B.extract 0 9 = p)
    (sD : D.size = 28) (a5 : A.extract 0 5 = q) (d5 : D.extract 0 5 = q) (ar : A.extract 9 28 = r0) (dr : D.extract 9 28 = r0) :
    Calls Tryd.prog 7 #[.agg #[.int .i64 k, .int .i64 s, .int .i64 g, .int .u64 se, .int .u64 nu, .string t], .string x, .int .u64 n] w fun r w' => r = .returned (.bool true) ∧ Below w.heap.size w w' := by
  go_enter Tryd.func7, Tryd.ntmps7
  go_wp2_with fail
  go_region
  all_goals go_wp2_with fail
  · refine (H1.out _).mono ?_
    rintro r w1 ⟨rfl, hb1⟩
    have BF := blk_below hb1 (by simp) (alloc3_1 w _ _ _)
    have BG := blk_below hb1 (by simp) (alloc3_2 w _ _ _)
    have hb := bthen ((((Below.refl w.heap.size w).alloc (Nat.le_refl _) _).alloc (by simp) _).alloc (by simp; omega) _).drew hb1
    clear hb1
    have c0 := blk_cell BF 0
    have c1 := blk_cell BF 1
    have c2 := blk_cell BF 2
    have c3 := blk_cell BF 3
    have c4 := blk_cell BF 4
    have c5 := blk_cell BF 5
    simp at c0 c1 c2 c3 c4 c5
    go_wp2_with fail
    refine (H2.out _).mono ?_
    rintro r w2 ⟨rfl, hb2⟩
    have BG := blk_below hb2 (World.block_lt_of_cell? w1 _ (blk_cell BG 0)) BG
    have hb := bthen hb hb2
    clear hb2 BF c0 c1 c2 c3 c4 c5
    have d0 := blk_cell BG 0
    have d1 := blk_cell BG 1
    have d2 := blk_cell BG 2
    have d3 := blk_cell BG 3
    have d4 := blk_cell BG 4
    have d5 := blk_cell BG 5
    simp at d0 d1 d2 d3 d4 d5
    go_wp2_with fail
    refine (H3.out _).mono ?_
    rintro r w3 ⟨rfl, hb3⟩
    have hb := bthen hb hb3
    clear hb3 BG d0 d1 d2 d3 d4 d5
    go_wp2_with fail
    refine (fixed03 _).mono ?_
    rintro r w4 ⟨rfl, hb4⟩
    have hb := bthen hb hb4
    clear hb4
    have HB := Lib.hid hb
    clear hb
    go_wp2_with fail
    go_quiet (fail)
    go_wp2_with fail
    go_quiet (fail)
    go_wp2
    go_ret
    exact ⟨rfl, bdrawn (bdrawn HB.out _) _⟩
  · refine (H1.out _).mono ?_
    rintro r w1 ⟨rfl, hb1⟩
    have BF := blk_below hb1 (by simp) (alloc3_2 w _ _ _)
    have BG := blk_below hb1 (by simp) (alloc3_1 w _ _ _)
    have hb := bthen ((((Below.refl w.heap.size w).alloc (Nat.le_refl _) _).alloc (by simp) _).alloc (by simp; omega) _).drew hb1
    clear hb1
    have c0 := blk_cell BF 0
    have c1 := blk_cell BF 1
    have c2 := blk_cell BF 2
    have c3 := blk_cell BF 3
    have c4 := blk_cell BF 4
    have c5 := blk_cell BF 5
    simp at c0 c1 c2 c3 c4 c5
    go_wp2_with fail
    refine (H2.out _).mono ?_
    rintro r w2 ⟨rfl, hb2⟩
    have BG := blk_below hb2 (World.block_lt_of_cell? w1 _ (blk_cell BG 0)) BG
    have hb := bthen hb hb2
    clear hb2 BF c0 c1 c2 c3 c4 c5
    have d0 := blk_cell BG 0
    have d1 := blk_cell BG 1
    have d2 := blk_cell BG 2
    have d3 := blk_cell BG 3
    have d4 := blk_cell BG 4
    have d5 := blk_cell BG 5
    simp at d0 d1 d2 d3 d4 d5
    go_wp2_with fail
    refine (H3.out _).mono ?_
    rintro r w3 ⟨rfl, hb3⟩
    have hb := bthen hb hb3
    clear hb3 BG d0 d1 d2 d3 d4 d5
    go_wp2_with fail
    refine (fixed03 _).mono ?_
    rintro r w4 ⟨rfl, hb4⟩
    have hb := bthen hb hb4
    clear hb4
    have HB := Lib.hid hb
    clear hb
    go_wp2_with fail
    go_quiet (fail)
    go_wp2_with fail
    go_quiet (fail)
    go_wp2
    go_ret
    exact ⟨rfl, bdrawn (bdrawn HB.out _) _⟩

theorem entryFields_walk (e : Ent) (x : ByteArray) (n : Nat) (he : e.Ok) (hx : x.size ≤ maxLen) (hn : (Lit.int .u64 n).wf = true) (w : World) :
    Calls Tryd.prog 7 #[e.val, .string x, .int .u64 n] w fun r w' => r = .returned (.bool true) ∧ Below w.heap.size w w' := by
  have hf : (⟨e.kind, e.service, e.group, e.session, e.number, x⟩ : Ent).Ok := ⟨he.kind, he.service, he.group, he.session, he.number, hx⟩
  have hg : (⟨e.kind, e.service, e.group, e.session, n, e.text⟩ : Ent).Ok := ⟨he.kind, he.service, he.group, he.session, hn, he.text⟩
  have h1 := fun w => encode_any e he w
  have h2 := fun w => encode_any _ hf w
  have h3 := fun w => encode_any _ hg w
  have len : ∀ a : Ent, a.may = true → (bs a.enc).size = 28 := fun a ha => by
    rw [bs_size, Ent.enc, if_pos ha]
    exact Ent.bytes_length (Ent.may_bounds ha).2.2.2.2.2.2.2.2
  have nine : ∀ a : Ent, a.may = true → (bs a.enc).extract 0 9 = bs (put a.kind.toNat 1 ++ put a.service.toNat 1 ++ put a.group.toNat 1 ++ put a.session.toNat 2 ++ put a.number.toNat 4) := fun a ha => by
    rw [bs_extract, Ent.enc, if_pos ha, List.drop_zero, (bytes_nine a).1]
  have five : ∀ a : Ent, a.may = true → (bs a.enc).extract 0 5 = bs (put a.kind.toNat 1 ++ put a.service.toNat 1 ++ put a.group.toNat 1 ++ put a.session.toNat 2) := fun a ha => by
    rw [bs_extract, Ent.enc, if_pos ha, List.drop_zero, bytes_five a]
  have rest : ∀ a : Ent, a.may = true → (bs a.enc).extract 9 28 = bs (tput a.text.data.toList 16 ++ [0, 0]) := fun a ha => by
    have hl := len a ha
    rw [bs_size, Ent.enc, if_pos ha] at hl
    rw [bs_extract, Ent.enc, if_pos ha, (bytes_nine a).2.symm, List.take_of_length_le (by rw [List.length_drop]; omega)]
  cases m1 : e.may with
  | false => rw [m1] at h1; exact fields_no _ _ _ _ _ _ _ _ _ _ _ _ _ w (Lib.hid h1) (Lib.hid h2) (Lib.hid h3)
  | true =>
    rw [m1] at h1
    have l1 := len e m1
    cases m2 : (⟨e.kind, e.service, e.group, e.session, e.number, x⟩ : Ent).may with
    | false =>
      rw [m2] at h2
      cases m3 : (⟨e.kind, e.service, e.group, e.session, n, e.text⟩ : Ent).may with
      | false => rw [m3] at h3; exact fields_nn _ _ _ _ _ _ _ _ _ _ _ w (Lib.hid h1) (Lib.hid h2) (Lib.hid h3)
      | true => rw [m3] at h3; exact fields_ny _ _ _ _ _ _ _ _ _ _ _ _ _ w (Lib.hid h1) (Lib.hid h2) (Lib.hid h3) l1 (len _ m3) (five e m1) (five _ m3) (rest e m1) (rest _ m3)
    | true =>
      rw [m2] at h2
      cases m3 : (⟨e.kind, e.service, e.group, e.session, n, e.text⟩ : Ent).may with
      | false => rw [m3] at h3; exact fields_yn _ _ _ _ _ _ _ _ _ _ _ _ w (Lib.hid h1) (Lib.hid h2) (Lib.hid h3) l1 (len _ m2) (nine e m1) (nine _ m2)
      | true => rw [m3] at h3; exact fields_yy _ _ _ _ _ _ _ _ _ _ _ _ _ _ w (Lib.hid h1) (Lib.hid h2) (Lib.hid h3) l1 (len _ m2) (nine e m1) (nine _ m2) (len _ m3) (five e m1) (five _ m3) (rest e m1) (rest _ m3)

end Go.Proofs.YtmiinihbbpoicaaDoor
