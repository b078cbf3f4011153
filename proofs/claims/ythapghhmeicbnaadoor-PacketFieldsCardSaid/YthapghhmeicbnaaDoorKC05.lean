/- The check sum: walks. Printed by wip/k/genC.py. -/
import Derived.Test.YthapghhmeicbnaaDoorKA
set_option linter.unusedVariables false
set_option linter.unusedSimpArgs false
namespace Go.Proofs.YthapghhmeicbnaaDoor
open Go.RowKit
set_option maxRecDepth 8000

def nibTab : Array Value := #[.int .u32 0, .int .u32 498536548, .int .u32 997073096, .int .u32 651767980, .int .u32 1994146192, .int .u32 1802195444, .int .u32 1303535960, .int .u32 1342533948, .int .u32 3988292384, .int .u32 4027552580, .int .u32 3604390888, .int .u32 3412177804, .int .u32 2607071920, .int .u32 2262029012, .int .u32 2685067896, .int .u32 3183342108]
theorem nibTab_get {m : Nat} (h : m < 16) : nibTab[m]? = some (.int .u32 ((sbits 4 m : Nat) : Int)) := by
  rcases (show m = 0 ∨ m = 1 ∨ m = 2 ∨ m = 3 ∨ m = 4 ∨ m = 5 ∨ m = 6 ∨ m = 7 ∨ m = 8 ∨ m = 9 ∨ m = 10 ∨ m = 11 ∨ m = 12 ∨ m = 13 ∨ m = 14 ∨ m = 15 by omega) with rfl | rfl | rfl | rfl | rfl | rfl | rfl | rfl | rfl | rfl | rfl | rfl | rfl | rfl | rfl | rfl
  all_goals rfl
set_option maxHeartbeats 2000000 in
theorem pf_nibbles  : Pf Tryd.prog 60 #[] (.agg nibTab) := by
  refine pf_of_run Tryd.func60 rfl rfl (fun w0 => ?_)
  refine run_seq rfl ?_
  refine run_region (todo := [0]) rfl rfl ?_
  refine run_alloc rfl Tryd.zeroValue107 (fun g1 => ?_)
  refine run_endops ?_
  refine run_seq rfl ?_
  refine run_region (todo := [0]) rfl rfl ?_
  refine run_alloc rfl Tryd.zeroValue107 (fun g2 => ?_)
  refine run_endops ?_
  refine run_seq rfl ?_
  refine run_seq rfl ?_
  refine run_region (todo := [0]) rfl rfl ?_
  refine run_mv rfl ?_
  refine run_endops ?_
  refine run_block rfl ?_
  refine run_loop rfl ?_
  refine run_again ?_
  refine run_seq rfl ?_
  refine run_region (todo := [0]) rfl rfl ?_
  refine run_rd (v := .bool true) rfl (rd_cmp rfl rfl) ?_
  refine run_endops ?_
  refine run_seq rfl ?_
  refine run_true rfl rfl ?_
  refine run_skip rfl ?_
  refine run_seq rfl ?_
  refine run_block rfl ?_
  refine run_seq rfl ?_
  refine run_region (todo := [0, 1]) rfl rfl ?_
  refine run_mv rfl ?_
  refine run_mv rfl ?_
  refine run_endops ?_
  refine run_seq rfl ?_
  refine run_region (todo := [0, 1, 2]) rfl rfl ?_
  refine run_mv rfl ?_
  refine run_rd (v := .int .u32 0) rfl (rd_toInt (r := 0) Tryd.underlying3 Tryd.underlying22 rfl) ?_
  refine run_mv rfl ?_
  refine run_endops ?_
  refine run_seq rfl ?_
  refine run_seq rfl ?_
  refine run_region (todo := [0]) rfl rfl ?_
  refine run_mv rfl ?_
  refine run_endops ?_
  refine run_block rfl ?_
  refine run_loop rfl ?_
  refine run_again ?_
  refine run_seq rfl ?_
  refine run_region (todo := [0]) rfl rfl ?_
  refine run_rd (v := .bool true) rfl (rd_cmp rfl rfl) ?_
  refine run_endops ?_
  refine run_seq rfl ?_
  refine run_true rfl rfl ?_
  refine run_skip rfl ?_
  refine run_seq rfl ?_
  refine run_block rfl ?_
  refine run_seq rfl ?_
  refine run_region (todo := [0, 1, 2]) rfl rfl ?_
  refine run_mv rfl ?_
  refine run_rd (v := .int .u32 0) rfl (rd_int (v := .int .u32 0) (by kernel_rfl)) ?_
  refine run_mv rfl ?_
  refine run_endops ?_
  refine run_seq rfl ?_
  refine run_region (todo := [0, 1, 2]) rfl rfl ?_
  refine run_mv rfl ?_
  refine run_rd (v := .int .u32 0) rfl (rd_shrL (r := 0) (by decide) (by kernel_rfl)) ?_
  refine run_mv rfl ?_
  refine run_endops ?_
  refine run_seq rfl ?_
  refine run_region (todo := [0, 1]) rfl rfl ?_
  refine run_mv rfl ?_
  refine run_rd (v := .bool false) rfl (rd_cmp rfl rfl) ?_
  refine run_endops ?_
  refine run_false rfl rfl ?_
  refine run_skip rfl ?_
  refine run_endblock ?_
  refine run_region (todo := [0, 1]) rfl rfl ?_
  refine run_rd (v := .int .i64 1) rfl (rd_add (r := 1) (by decide)) ?_
  refine run_mv rfl ?_
  refine run_endops ?_
  refine run_again ?_
  refine run_seq rfl ?_
  refine run_region (todo := [0]) rfl rfl ?_
  refine run_rd (v := .bool true) rfl (rd_cmp rfl rfl) ?_
  refine run_endops ?_
  refine run_seq rfl ?_
  refine run_true rfl rfl ?_
  refine run_skip rfl ?_
  refine run_seq rfl ?_
  refine run_block rfl ?_
  refine run_seq rfl ?_
  refine run_region (todo := [0, 1, 2]) rfl rfl ?_
  refine run_mv rfl ?_
  refine run_rd (v := .int .u32 0) rfl (rd_int (v := .int .u32 0) (by kernel_rfl)) ?_
  refine run_mv rfl ?_
  refine run_endops ?_
  refine run_seq rfl ?_
  refine run_region (todo := [0, 1, 2]) rfl rfl ?_
  refine run_mv rfl ?_
  refine run_rd (v := .int .u32 0) rfl (rd_shrL (r := 0) (by decide) (by kernel_rfl)) ?_
  refine run_mv rfl ?_
  refine run_endops ?_
  refine run_seq rfl ?_
  refine run_region (todo := [0, 1]) rfl rfl ?_
  refine run_mv rfl ?_
  refine run_rd (v := .bool false) rfl (rd_cmp rfl rfl) ?_
  refine run_endops ?_
  refine run_false rfl rfl ?_
  refine run_skip rfl ?_
  refine run_endblock ?_
  refine run_region (todo := [0, 1]) rfl rfl ?_
  refine run_rd (v := .int .i64 2) rfl (rd_add (r := 2) (by decide)) ?_
  refine run_mv rfl ?_
  refine run_endops ?_
  refine run_again ?_
  refine run_seq rfl ?_
  refine run_region (todo := [0]) rfl rfl ?_
  refine run_rd (v := .bool true) rfl (rd_cmp rfl rfl) ?_
  refine run_endops ?_
  refine run_seq rfl ?_
  refine run_true rfl rfl ?_
  refine run_skip rfl ?_
  refine run_seq rfl ?_
  refine run_block rfl ?_
  refine run_seq rfl ?_
  refine run_region (todo := [0, 1, 2]) rfl rfl ?_
  refine run_mv rfl ?_
  refine run_rd (v := .int .u32 0) rfl (rd_int (v := .int .u32 0) (by kernel_rfl)) ?_
  refine run_mv rfl ?_
  refine run_endops ?_
  refine run_seq rfl ?_
  refine run_region (todo := [0, 1, 2]) rfl rfl ?_
  refine run_mv rfl ?_
  refine run_rd (v := .int .u32 0) rfl (rd_shrL (r := 0) (by decide) (by kernel_rfl)) ?_
  refine run_mv rfl ?_
  refine run_endops ?_
  refine run_seq rfl ?_
  refine run_region (todo := [0, 1]) rfl rfl ?_
  refine run_mv rfl ?_
  refine run_rd (v := .bool false) rfl (rd_cmp rfl rfl) ?_
  refine run_endops ?_
  refine run_false rfl rfl ?_
  refine run_skip rfl ?_
  refine run_endblock ?_
  refine run_region (todo := [0, 1]) rfl rfl ?_
  refine run_rd (v := .int .i64 3) rfl (rd_add (r := 3) (by decide)) ?_
  refine run_mv rfl ?_
  refine run_endops ?_
  refine run_again ?_
  refine run_seq rfl ?_
  refine run_region (todo := [0]) rfl rfl ?_
  refine run_rd (v := .bool true) rfl (rd_cmp rfl rfl) ?_
  refine run_endops ?_
  refine run_seq rfl ?_
  refine run_true rfl rfl ?_
  refine run_skip rfl ?_
  refine run_seq rfl ?_
  refine run_block rfl ?_
  refine run_seq rfl ?_
  refine run_region (todo := [0, 1, 2]) rfl rfl ?_
  refine run_mv rfl ?_
  refine run_rd (v := .int .u32 0) rfl (rd_int (v := .int .u32 0) (by kernel_rfl)) ?_
  refine run_mv rfl ?_
  refine run_endops ?_
  refine run_seq rfl ?_
  refine run_region (todo := [0, 1, 2]) rfl rfl ?_
  refine run_mv rfl ?_
  refine run_rd (v := .int .u32 0) rfl (rd_shrL (r := 0) (by decide) (by kernel_rfl)) ?_
  refine run_mv rfl ?_
  refine run_endops ?_
  refine run_seq rfl ?_
  refine run_region (todo := [0, 1]) rfl rfl ?_
  refine run_mv rfl ?_
  refine run_rd (v := .bool false) rfl (rd_cmp rfl rfl) ?_
  refine run_endops ?_
  refine run_false rfl rfl ?_
  refine run_skip rfl ?_
  refine run_endblock ?_
  refine run_region (todo := [0, 1]) rfl rfl ?_
  refine run_rd (v := .int .i64 4) rfl (rd_add (r := 4) (by decide)) ?_
  refine run_mv rfl ?_
  refine run_endops ?_
  refine run_again ?_
  refine run_seq rfl ?_
  refine run_region (todo := [0]) rfl rfl ?_
  refine run_rd (v := .bool false) rfl (rd_cmp rfl rfl) ?_
  refine run_endops ?_
  refine run_seq rfl ?_
  refine run_false rfl rfl ?_
  refine run_exit rfl rfl ?_
  refine run_region (todo := [0, 1, 2, 3]) rfl rfl ?_
  refine run_mv rfl ?_
  refine run_mv rfl ?_
  refine run_rd (v := .pointer (some ⟨g2, 0, none⟩)) rfl (rd_indexAddrA (m := 0) (o := 0) Tryd.underlying107 rfl (by decide) Tryd.sizeOf22 rfl) ?_
  refine run_store (j := 0) (c' := #[.int .u32 0, .int .u32 0, .int .u32 0, .int .u32 0, .int .u32 0, .int .u32 0, .int .u32 0, .int .u32 0, .int .u32 0, .int .u32 0, .int .u32 0, .int .u32 0, .int .u32 0, .int .u32 0, .int .u32 0, .int .u32 0]) rfl Tryd.sizeOf22 rfl rfl rfl rfl (by kernel_rfl) rfl ?_
  refine run_endops ?_
  refine run_endblock ?_
  refine run_region (todo := [0, 1]) rfl rfl ?_
  refine run_rd (v := .int .i64 1) rfl (rd_add (r := 1) (by decide)) ?_
  refine run_mv rfl ?_
  refine run_endops ?_
  refine run_again ?_
  refine run_seq rfl ?_
  refine run_region (todo := [0]) rfl rfl ?_
  refine run_rd (v := .bool true) rfl (rd_cmp rfl rfl) ?_
  refine run_endops ?_
  refine run_seq rfl ?_
  refine run_true rfl rfl ?_
  refine run_skip rfl ?_
  refine run_seq rfl ?_
  refine run_block rfl ?_
  refine run_seq rfl ?_
  refine run_region (todo := [0, 1]) rfl rfl ?_
  refine run_mv rfl ?_
  refine run_mv rfl ?_
  refine run_endops ?_
  refine run_seq rfl ?_
  refine run_region (todo := [0, 1, 2]) rfl rfl ?_
  refine run_mv rfl ?_
  refine run_rd (v := .int .u32 1) rfl (rd_toInt (r := 1) Tryd.underlying3 Tryd.underlying22 rfl) ?_
  refine run_mv rfl ?_
  refine run_endops ?_
  refine run_seq rfl ?_
  refine run_seq rfl ?_
  refine run_region (todo := [0]) rfl rfl ?_
  refine run_mv rfl ?_
  refine run_endops ?_
  refine run_block rfl ?_
  refine run_loop rfl ?_
  refine run_again ?_
  refine run_seq rfl ?_
  refine run_region (todo := [0]) rfl rfl ?_
  refine run_rd (v := .bool true) rfl (rd_cmp rfl rfl) ?_
  refine run_endops ?_
  refine run_seq rfl ?_
  refine run_true rfl rfl ?_
  refine run_skip rfl ?_
  refine run_seq rfl ?_
  refine run_block rfl ?_
  refine run_seq rfl ?_
  refine run_region (todo := [0, 1, 2]) rfl rfl ?_
  refine run_mv rfl ?_
  refine run_rd (v := .int .u32 1) rfl (rd_int (v := .int .u32 1) (by kernel_rfl)) ?_
  refine run_mv rfl ?_
  refine run_endops ?_
  refine run_seq rfl ?_
  refine run_region (todo := [0, 1, 2]) rfl rfl ?_
  refine run_mv rfl ?_
  refine run_rd (v := .int .u32 0) rfl (rd_shrL (r := 0) (by decide) (by kernel_rfl)) ?_
  refine run_mv rfl ?_
  refine run_endops ?_
  refine run_seq rfl ?_
  refine run_region (todo := [0, 1]) rfl rfl ?_
  refine run_mv rfl ?_
  refine run_rd (v := .bool true) rfl (rd_cmp rfl rfl) ?_
  refine run_endops ?_
  refine run_true rfl rfl ?_
  refine run_region (todo := [0, 1, 2]) rfl rfl ?_
  refine run_mv rfl ?_
  refine run_rd (v := .int .u32 3988292384) rfl (rd_int (v := .int .u32 3988292384) (by kernel_rfl)) ?_
  refine run_mv rfl ?_
  refine run_endops ?_
  refine run_endblock ?_
  refine run_region (todo := [0, 1]) rfl rfl ?_
  refine run_rd (v := .int .i64 1) rfl (rd_add (r := 1) (by decide)) ?_
  refine run_mv rfl ?_
  refine run_endops ?_
  refine run_again ?_
  refine run_seq rfl ?_
  refine run_region (todo := [0]) rfl rfl ?_
  refine run_rd (v := .bool true) rfl (rd_cmp rfl rfl) ?_
  refine run_endops ?_
  refine run_seq rfl ?_
  refine run_true rfl rfl ?_
  refine run_skip rfl ?_
  refine run_seq rfl ?_
  refine run_block rfl ?_
  refine run_seq rfl ?_
  refine run_region (todo := [0, 1, 2]) rfl rfl ?_
  refine run_mv rfl ?_
  refine run_rd (v := .int .u32 0) rfl (rd_int (v := .int .u32 0) (by kernel_rfl)) ?_
  refine run_mv rfl ?_
  refine run_endops ?_
  refine run_seq rfl ?_
  refine run_region (todo := [0, 1, 2]) rfl rfl ?_
  refine run_mv rfl ?_
  refine run_rd (v := .int .u32 1994146192) rfl (rd_shrL (r := 1994146192) (by decide) (by kernel_rfl)) ?_
  refine run_mv rfl ?_
  refine run_endops ?_
  refine run_seq rfl ?_
  refine run_region (todo := [0, 1]) rfl rfl ?_
  refine run_mv rfl ?_
  refine run_rd (v := .bool false) rfl (rd_cmp rfl rfl) ?_
  refine run_endops ?_
  refine run_false rfl rfl ?_
  refine run_skip rfl ?_
  refine run_endblock ?_
  refine run_region (todo := [0, 1]) rfl rfl ?_
  refine run_rd (v := .int .i64 2) rfl (rd_add (r := 2) (by decide)) ?_
  refine run_mv rfl ?_
  refine run_endops ?_
  refine run_again ?_
  refine run_seq rfl ?_
  refine run_region (todo := [0]) rfl rfl ?_
  refine run_rd (v := .bool true) rfl (rd_cmp rfl rfl) ?_
  refine run_endops ?_
  refine run_seq rfl ?_
  refine run_true rfl rfl ?_
  refine run_skip rfl ?_
  refine run_seq rfl ?_
  refine run_block rfl ?_
  refine run_seq rfl ?_
  refine run_region (todo := [0, 1, 2]) rfl rfl ?_
  refine run_mv rfl ?_
  refine run_rd (v := .int .u32 0) rfl (rd_int (v := .int .u32 0) (by kernel_rfl)) ?_
  refine run_mv rfl ?_
  refine run_endops ?_
  refine run_seq rfl ?_
  refine run_region (todo := [0, 1, 2]) rfl rfl ?_
  refine run_mv rfl ?_
  refine run_rd (v := .int .u32 997073096) rfl (rd_shrL (r := 997073096) (by decide) (by kernel_rfl)) ?_
  refine run_mv rfl ?_
  refine run_endops ?_
  refine run_seq rfl ?_
  refine run_region (todo := [0, 1]) rfl rfl ?_
  refine run_mv rfl ?_
  refine run_rd (v := .bool false) rfl (rd_cmp rfl rfl) ?_
  refine run_endops ?_
  refine run_false rfl rfl ?_
  refine run_skip rfl ?_
  refine run_endblock ?_
  refine run_region (todo := [0, 1]) rfl rfl ?_
  refine run_rd (v := .int .i64 3) rfl (rd_add (r := 3) (by decide)) ?_
  refine run_mv rfl ?_
  refine run_endops ?_
  refine run_again ?_
  refine run_seq rfl ?_
  refine run_region (todo := [0]) rfl rfl ?_
  refine run_rd (v := .bool true) rfl (rd_cmp rfl rfl) ?_
  refine run_endops ?_
  refine run_seq rfl ?_
  refine run_true rfl rfl ?_
  refine run_skip rfl ?_
  refine run_seq rfl ?_
  refine run_block rfl ?_
  refine run_seq rfl ?_
  refine run_region (todo := [0, 1, 2]) rfl rfl ?_
  refine run_mv rfl ?_
  refine run_rd (v := .int .u32 0) rfl (rd_int (v := .int .u32 0) (by kernel_rfl)) ?_
  refine run_mv rfl ?_
  refine run_endops ?_
  refine run_seq rfl ?_
  refine run_region (todo := [0, 1, 2]) rfl rfl ?_
  refine run_mv rfl ?_
  refine run_rd (v := .int .u32 498536548) rfl (rd_shrL (r := 498536548) (by decide) (by kernel_rfl)) ?_
  refine run_mv rfl ?_
  refine run_endops ?_
  refine run_seq rfl ?_
  refine run_region (todo := [0, 1]) rfl rfl ?_
  refine run_mv rfl ?_
  refine run_rd (v := .bool false) rfl (rd_cmp rfl rfl) ?_
  refine run_endops ?_
  refine run_false rfl rfl ?_
  refine run_skip rfl ?_
  refine run_endblock ?_
  refine run_region (todo := [0, 1]) rfl rfl ?_
  refine run_rd (v := .int .i64 4) rfl (rd_add (r := 4) (by decide)) ?_
  refine run_mv rfl ?_
  refine run_endops ?_
  refine run_again ?_
  refine run_seq rfl ?_
  refine run_region (todo := [0]) rfl rfl ?_
  refine run_rd (v := .bool false) rfl (rd_cmp rfl rfl) ?_
  refine run_endops ?_
  refine run_seq rfl ?_
  refine run_false rfl rfl ?_
  refine run_exit rfl rfl ?_
  refine run_region (todo := [0, 1, 2, 3]) rfl rfl ?_
  refine run_mv rfl ?_
  refine run_mv rfl ?_
  refine run_rd (v := .pointer (some ⟨g2, 1, none⟩)) rfl (rd_indexAddrA (m := 1) (o := 1) Tryd.underlying107 rfl (by decide) Tryd.sizeOf22 rfl) ?_
  refine run_store (j := 0) (c' := #[.int .u32 0, .int .u32 498536548, .int .u32 0, .int .u32 0, .int .u32 0, .int .u32 0, .int .u32 0, .int .u32 0, .int .u32 0, .int .u32 0, .int .u32 0, .int .u32 0, .int .u32 0, .int .u32 0, .int .u32 0, .int .u32 0]) rfl Tryd.sizeOf22 rfl rfl rfl rfl (by kernel_rfl) rfl ?_
  refine run_endops ?_
  refine run_endblock ?_
  refine run_region (todo := [0, 1]) rfl rfl ?_
  refine run_rd (v := .int .i64 2) rfl (rd_add (r := 2) (by decide)) ?_
  refine run_mv rfl ?_
  refine run_endops ?_
  refine run_again ?_
  refine run_seq rfl ?_
  refine run_region (todo := [0]) rfl rfl ?_
  refine run_rd (v := .bool true) rfl (rd_cmp rfl rfl) ?_
  refine run_endops ?_
  refine run_seq rfl ?_
  refine run_true rfl rfl ?_
  refine run_skip rfl ?_
  refine run_seq rfl ?_
  refine run_block rfl ?_
  refine run_seq rfl ?_
  refine run_region (todo := [0, 1]) rfl rfl ?_
  refine run_mv rfl ?_
  refine run_mv rfl ?_
  refine run_endops ?_
  refine run_seq rfl ?_
  refine run_region (todo := [0, 1, 2]) rfl rfl ?_
  refine run_mv rfl ?_
  refine run_rd (v := .int .u32 2) rfl (rd_toInt (r := 2) Tryd.underlying3 Tryd.underlying22 rfl) ?_
  refine run_mv rfl ?_
  refine run_endops ?_
  refine run_seq rfl ?_
  refine run_seq rfl ?_
  refine run_region (todo := [0]) rfl rfl ?_
  refine run_mv rfl ?_
  refine run_endops ?_
  refine run_block rfl ?_
  refine run_loop rfl ?_
  refine run_again ?_
  refine run_seq rfl ?_
  refine run_region (todo := [0]) rfl rfl ?_
  refine run_rd (v := .bool true) rfl (rd_cmp rfl rfl) ?_
  refine run_endops ?_
  refine run_seq rfl ?_
  refine run_true rfl rfl ?_
  refine run_skip rfl ?_
  refine run_seq rfl ?_
  refine run_block rfl ?_
  refine run_seq rfl ?_
  refine run_region (todo := [0, 1, 2]) rfl rfl ?_
  refine run_mv rfl ?_
  refine run_rd (v := .int .u32 0) rfl (rd_int (v := .int .u32 0) (by kernel_rfl)) ?_
  refine run_mv rfl ?_
  refine run_endops ?_
  refine run_seq rfl ?_
  refine run_region (todo := [0, 1, 2]) rfl rfl ?_
  refine run_mv rfl ?_
  refine run_rd (v := .int .u32 1) rfl (rd_shrL (r := 1) (by decide) (by kernel_rfl)) ?_
  refine run_mv rfl ?_
  refine run_endops ?_
  refine run_seq rfl ?_
  refine run_region (todo := [0, 1]) rfl rfl ?_
  refine run_mv rfl ?_
  refine run_rd (v := .bool false) rfl (rd_cmp rfl rfl) ?_
  refine run_endops ?_
  refine run_false rfl rfl ?_
  refine run_skip rfl ?_
  refine run_endblock ?_
  refine run_region (todo := [0, 1]) rfl rfl ?_
  refine run_rd (v := .int .i64 1) rfl (rd_add (r := 1) (by decide)) ?_
  refine run_mv rfl ?_
  refine run_endops ?_
  refine run_again ?_
  refine run_seq rfl ?_
  refine run_region (todo := [0]) rfl rfl ?_
  refine run_rd (v := .bool true) rfl (rd_cmp rfl rfl) ?_
  refine run_endops ?_
  refine run_seq rfl ?_
  refine run_true rfl rfl ?_
  refine run_skip rfl ?_
  refine run_seq rfl ?_
  refine run_block rfl ?_
  refine run_seq rfl ?_
  refine run_region (todo := [0, 1, 2]) rfl rfl ?_
  refine run_mv rfl ?_
  refine run_rd (v := .int .u32 1) rfl (rd_int (v := .int .u32 1) (by kernel_rfl)) ?_
  refine run_mv rfl ?_
  refine run_endops ?_
  refine run_seq rfl ?_
  refine run_region (todo := [0, 1, 2]) rfl rfl ?_
  refine run_mv rfl ?_
  refine run_rd (v := .int .u32 0) rfl (rd_shrL (r := 0) (by decide) (by kernel_rfl)) ?_
  refine run_mv rfl ?_
  refine run_endops ?_
  refine run_seq rfl ?_
  refine run_region (todo := [0, 1]) rfl rfl ?_
  refine run_mv rfl ?_
  refine run_rd (v := .bool true) rfl (rd_cmp rfl rfl) ?_
  refine run_endops ?_
  refine run_true rfl rfl ?_
  refine run_region (todo := [0, 1, 2]) rfl rfl ?_
  refine run_mv rfl ?_
  refine run_rd (v := .int .u32 3988292384) rfl (rd_int (v := .int .u32 3988292384) (by kernel_rfl)) ?_
  refine run_mv rfl ?_
  refine run_endops ?_
  refine run_endblock ?_
  refine run_region (todo := [0, 1]) rfl rfl ?_
  refine run_rd (v := .int .i64 2) rfl (rd_add (r := 2) (by decide)) ?_
  refine run_mv rfl ?_
  refine run_endops ?_
  refine run_again ?_
  refine run_seq rfl ?_
  refine run_region (todo := [0]) rfl rfl ?_
  refine run_rd (v := .bool true) rfl (rd_cmp rfl rfl) ?_
  refine run_endops ?_
  refine run_seq rfl ?_
  refine run_true rfl rfl ?_
  refine run_skip rfl ?_
  refine run_seq rfl ?_
  refine run_block rfl ?_
  refine run_seq rfl ?_
  refine run_region (todo := [0, 1, 2]) rfl rfl ?_
  refine run_mv rfl ?_
  refine run_rd (v := .int .u32 0) rfl (rd_int (v := .int .u32 0) (by kernel_rfl)) ?_
  refine run_mv rfl ?_
  refine run_endops ?_
  refine run_seq rfl ?_
  refine run_region (todo := [0, 1, 2]) rfl rfl ?_
  refine run_mv rfl ?_
  refine run_rd (v := .int .u32 1994146192) rfl (rd_shrL (r := 1994146192) (by decide) (by kernel_rfl)) ?_
  refine run_mv rfl ?_
  refine run_endops ?_
  refine run_seq rfl ?_
  refine run_region (todo := [0, 1]) rfl rfl ?_
  refine run_mv rfl ?_
  refine run_rd (v := .bool false) rfl (rd_cmp rfl rfl) ?_
  refine run_endops ?_
  refine run_false rfl rfl ?_
  refine run_skip rfl ?_
  refine run_endblock ?_
  refine run_region (todo := [0, 1]) rfl rfl ?_
  refine run_rd (v := .int .i64 3) rfl (rd_add (r := 3) (by decide)) ?_
  refine run_mv rfl ?_
  refine run_endops ?_
  refine run_again ?_
  refine run_seq rfl ?_
  refine run_region (todo := [0]) rfl rfl ?_
  refine run_rd (v := .bool true) rfl (rd_cmp rfl rfl) ?_
  refine run_endops ?_
  refine run_seq rfl ?_
  refine run_true rfl rfl ?_
  refine run_skip rfl ?_
  refine run_seq rfl ?_
  refine run_block rfl ?_
  refine run_seq rfl ?_
  refine run_region (todo := [0, 1, 2]) rfl rfl ?_
  refine run_mv rfl ?_
  refine run_rd (v := .int .u32 0) rfl (rd_int (v := .int .u32 0) (by kernel_rfl)) ?_
  refine run_mv rfl ?_
  refine run_endops ?_
  refine run_seq rfl ?_
  refine run_region (todo := [0, 1, 2]) rfl rfl ?_
  refine run_mv rfl ?_
  refine run_rd (v := .int .u32 997073096) rfl (rd_shrL (r := 997073096) (by decide) (by kernel_rfl)) ?_
  refine run_mv rfl ?_
  refine run_endops ?_
  refine run_seq rfl ?_
  refine run_region (todo := [0, 1]) rfl rfl ?_
  refine run_mv rfl ?_
  refine run_rd (v := .bool false) rfl (rd_cmp rfl rfl) ?_
  refine run_endops ?_
  refine run_false rfl rfl ?_
  refine run_skip rfl ?_
  refine run_endblock ?_
  refine run_region (todo := [0, 1]) rfl rfl ?_
  refine run_rd (v := .int .i64 4) rfl (rd_add (r := 4) (by decide)) ?_
  refine run_mv rfl ?_
  refine run_endops ?_
  refine run_again ?_
  refine run_seq rfl ?_
  refine run_region (todo := [0]) rfl rfl ?_
  refine run_rd (v := .bool false) rfl (rd_cmp rfl rfl) ?_
  refine run_endops ?_
  refine run_seq rfl ?_
  refine run_false rfl rfl ?_
  refine run_exit rfl rfl ?_
  refine run_region (todo := [0, 1, 2, 3]) rfl rfl ?_
  refine run_mv rfl ?_
  refine run_mv rfl ?_
  refine run_rd (v := .pointer (some ⟨g2, 2, none⟩)) rfl (rd_indexAddrA (m := 2) (o := 2) Tryd.underlying107 rfl (by decide) Tryd.sizeOf22 rfl) ?_
  refine run_store (j := 0) (c' := #[.int .u32 0, .int .u32 498536548, .int .u32 997073096, .int .u32 0, .int .u32 0, .int .u32 0, .int .u32 0, .int .u32 0, .int .u32 0, .int .u32 0, .int .u32 0, .int .u32 0, .int .u32 0, .int .u32 0, .int .u32 0, .int .u32 0]) rfl Tryd.sizeOf22 rfl rfl rfl rfl (by kernel_rfl) rfl ?_
  refine run_endops ?_
  refine run_endblock ?_
  refine run_region (todo := [0, 1]) rfl rfl ?_
  refine run_rd (v := .int .i64 3) rfl (rd_add (r := 3) (by decide)) ?_
  refine run_mv rfl ?_
  refine run_endops ?_
  refine run_again ?_
  refine run_seq rfl ?_
  refine run_region (todo := [0]) rfl rfl ?_
  refine run_rd (v := .bool true) rfl (rd_cmp rfl rfl) ?_
  refine run_endops ?_
  refine run_seq rfl ?_
  refine run_true rfl rfl ?_
  refine run_skip rfl ?_
  refine run_seq rfl ?_
  refine run_block rfl ?_
  refine run_seq rfl ?_
  refine run_region (todo := [0, 1]) rfl rfl ?_
  refine run_mv rfl ?_
  refine run_mv rfl ?_
  refine run_endops ?_
  refine run_seq rfl ?_
  refine run_region (todo := [0, 1, 2]) rfl rfl ?_
  refine run_mv rfl ?_
  refine run_rd (v := .int .u32 3) rfl (rd_toInt (r := 3) Tryd.underlying3 Tryd.underlying22 rfl) ?_
  refine run_mv rfl ?_
  refine run_endops ?_
  refine run_seq rfl ?_
  refine run_seq rfl ?_
  refine run_region (todo := [0]) rfl rfl ?_
  refine run_mv rfl ?_
  refine run_endops ?_
  refine run_block rfl ?_
  refine run_loop rfl ?_
  refine run_again ?_
  refine run_seq rfl ?_
  refine run_region (todo := [0]) rfl rfl ?_
  refine run_rd (v := .bool true) rfl (rd_cmp rfl rfl) ?_
  refine run_endops ?_
  refine run_seq rfl ?_
  refine run_true rfl rfl ?_
  refine run_skip rfl ?_
  refine run_seq rfl ?_
  refine run_block rfl ?_
  refine run_seq rfl ?_
  refine run_region (todo := [0, 1, 2]) rfl rfl ?_
  refine run_mv rfl ?_
  refine run_rd (v := .int .u32 1) rfl (rd_int (v := .int .u32 1) (by kernel_rfl)) ?_
  refine run_mv rfl ?_
  refine run_endops ?_
  refine run_seq rfl ?_
  refine run_region (todo := [0, 1, 2]) rfl rfl ?_
  refine run_mv rfl ?_
  refine run_rd (v := .int .u32 1) rfl (rd_shrL (r := 1) (by decide) (by kernel_rfl)) ?_
  refine run_mv rfl ?_
  refine run_endops ?_
  refine run_seq rfl ?_
  refine run_region (todo := [0, 1]) rfl rfl ?_
  refine run_mv rfl ?_
  refine run_rd (v := .bool true) rfl (rd_cmp rfl rfl) ?_
  refine run_endops ?_
  refine run_true rfl rfl ?_
  refine run_region (todo := [0, 1, 2]) rfl rfl ?_
  refine run_mv rfl ?_
  refine run_rd (v := .int .u32 3988292385) rfl (rd_int (v := .int .u32 3988292385) (by kernel_rfl)) ?_
  refine run_mv rfl ?_
  refine run_endops ?_
  refine run_endblock ?_
  refine run_region (todo := [0, 1]) rfl rfl ?_
  refine run_rd (v := .int .i64 1) rfl (rd_add (r := 1) (by decide)) ?_
  refine run_mv rfl ?_
  refine run_endops ?_
  refine run_again ?_
  refine run_seq rfl ?_
  refine run_region (todo := [0]) rfl rfl ?_
  refine run_rd (v := .bool true) rfl (rd_cmp rfl rfl) ?_
  refine run_endops ?_
  refine run_seq rfl ?_
  refine run_true rfl rfl ?_
  refine run_skip rfl ?_
  refine run_seq rfl ?_
  refine run_block rfl ?_
  refine run_seq rfl ?_
  refine run_region (todo := [0, 1, 2]) rfl rfl ?_
  refine run_mv rfl ?_
  refine run_rd (v := .int .u32 1) rfl (rd_int (v := .int .u32 1) (by kernel_rfl)) ?_
  refine run_mv rfl ?_
  refine run_endops ?_
  refine run_seq rfl ?_
  refine run_region (todo := [0, 1, 2]) rfl rfl ?_
  refine run_mv rfl ?_
  refine run_rd (v := .int .u32 1994146192) rfl (rd_shrL (r := 1994146192) (by decide) (by kernel_rfl)) ?_
  refine run_mv rfl ?_
  refine run_endops ?_
  refine run_seq rfl ?_
  refine run_region (todo := [0, 1]) rfl rfl ?_
  refine run_mv rfl ?_
  refine run_rd (v := .bool true) rfl (rd_cmp rfl rfl) ?_
  refine run_endops ?_
  refine run_true rfl rfl ?_
  refine run_region (todo := [0, 1, 2]) rfl rfl ?_
  refine run_mv rfl ?_
  refine run_rd (v := .int .u32 2607071920) rfl (rd_int (v := .int .u32 2607071920) (by kernel_rfl)) ?_
  refine run_mv rfl ?_
  refine run_endops ?_
  refine run_endblock ?_
  refine run_region (todo := [0, 1]) rfl rfl ?_
  refine run_rd (v := .int .i64 2) rfl (rd_add (r := 2) (by decide)) ?_
  refine run_mv rfl ?_
  refine run_endops ?_
  refine run_again ?_
  refine run_seq rfl ?_
  refine run_region (todo := [0]) rfl rfl ?_
  refine run_rd (v := .bool true) rfl (rd_cmp rfl rfl) ?_
  refine run_endops ?_
  refine run_seq rfl ?_
  refine run_true rfl rfl ?_
  refine run_skip rfl ?_
  refine run_seq rfl ?_
  refine run_block rfl ?_
  refine run_seq rfl ?_
  refine run_region (todo := [0, 1, 2]) rfl rfl ?_
  refine run_mv rfl ?_
  refine run_rd (v := .int .u32 0) rfl (rd_int (v := .int .u32 0) (by kernel_rfl)) ?_
  refine run_mv rfl ?_
  refine run_endops ?_
  refine run_seq rfl ?_
  refine run_region (todo := [0, 1, 2]) rfl rfl ?_
  refine run_mv rfl ?_
  refine run_rd (v := .int .u32 1303535960) rfl (rd_shrL (r := 1303535960) (by decide) (by kernel_rfl)) ?_
  refine run_mv rfl ?_
  refine run_endops ?_
  refine run_seq rfl ?_
  refine run_region (todo := [0, 1]) rfl rfl ?_
  refine run_mv rfl ?_
  refine run_rd (v := .bool false) rfl (rd_cmp rfl rfl) ?_
  refine run_endops ?_
  refine run_false rfl rfl ?_
  refine run_skip rfl ?_
  refine run_endblock ?_
  refine run_region (todo := [0, 1]) rfl rfl ?_
  refine run_rd (v := .int .i64 3) rfl (rd_add (r := 3) (by decide)) ?_
  refine run_mv rfl ?_
  refine run_endops ?_
  refine run_again ?_
  refine run_seq rfl ?_
  refine run_region (todo := [0]) rfl rfl ?_
  refine run_rd (v := .bool true) rfl (rd_cmp rfl rfl) ?_
  refine run_endops ?_
  refine run_seq rfl ?_
  refine run_true rfl rfl ?_
  refine run_skip rfl ?_
  refine run_seq rfl ?_
  refine run_block rfl ?_
  refine run_seq rfl ?_
  refine run_region (todo := [0, 1, 2]) rfl rfl ?_
  refine run_mv rfl ?_
  refine run_rd (v := .int .u32 0) rfl (rd_int (v := .int .u32 0) (by kernel_rfl)) ?_
  refine run_mv rfl ?_
  refine run_endops ?_
  refine run_seq rfl ?_
  refine run_region (todo := [0, 1, 2]) rfl rfl ?_
  refine run_mv rfl ?_
  refine run_rd (v := .int .u32 651767980) rfl (rd_shrL (r := 651767980) (by decide) (by kernel_rfl)) ?_
  refine run_mv rfl ?_
  refine run_endops ?_
  refine run_seq rfl ?_
  refine run_region (todo := [0, 1]) rfl rfl ?_
  refine run_mv rfl ?_
  refine run_rd (v := .bool false) rfl (rd_cmp rfl rfl) ?_
  refine run_endops ?_
  refine run_false rfl rfl ?_
  refine run_skip rfl ?_
  refine run_endblock ?_
  refine run_region (todo := [0, 1]) rfl rfl ?_
  refine run_rd (v := .int .i64 4) rfl (rd_add (r := 4) (by decide)) ?_
  refine run_mv rfl ?_
  refine run_endops ?_
  refine run_again ?_
  refine run_seq rfl ?_
  refine run_region (todo := [0]) rfl rfl ?_
  refine run_rd (v := .bool false) rfl (rd_cmp rfl rfl) ?_
  refine run_endops ?_
  refine run_seq rfl ?_
  refine run_false rfl rfl ?_
  refine run_exit rfl rfl ?_
  refine run_region (todo := [0, 1, 2, 3]) rfl rfl ?_
  refine run_mv rfl ?_
  refine run_mv rfl ?_
  refine run_rd (v := .pointer (some ⟨g2, 3, none⟩)) rfl (rd_indexAddrA (m := 3) (o := 3) Tryd.underlying107 rfl (by decide) Tryd.sizeOf22 rfl) ?_
  refine run_store (j := 0) (c' := #[.int .u32 0, .int .u32 498536548, .int .u32 997073096, .int .u32 651767980, .int .u32 0, .int .u32 0, .int .u32 0, .int .u32 0, .int .u32 0, .int .u32 0, .int .u32 0, .int .u32 0, .int .u32 0, .int .u32 0, .int .u32 0, .int .u32 0]) rfl Tryd.sizeOf22 rfl rfl rfl rfl (by kernel_rfl) rfl ?_
  refine run_endops ?_
  refine run_endblock ?_
  refine run_region (todo := [0, 1]) rfl rfl ?_
  refine run_rd (v := .int .i64 4) rfl (rd_add (r := 4) (by decide)) ?_
  refine run_mv rfl ?_
  refine run_endops ?_
  refine run_again ?_
  refine run_seq rfl ?_
  refine run_region (todo := [0]) rfl rfl ?_
  refine run_rd (v := .bool true) rfl (rd_cmp rfl rfl) ?_
  refine run_endops ?_
  refine run_seq rfl ?_
  refine run_true rfl rfl ?_
  refine run_skip rfl ?_
  refine run_seq rfl ?_
  refine run_block rfl ?_
  refine run_seq rfl ?_
  refine run_region (todo := [0, 1]) rfl rfl ?_
  refine run_mv rfl ?_
  refine run_mv rfl ?_
  refine run_endops ?_
  refine run_seq rfl ?_
  refine run_region (todo := [0, 1, 2]) rfl rfl ?_
  refine run_mv rfl ?_
  refine run_rd (v := .int .u32 4) rfl (rd_toInt (r := 4) Tryd.underlying3 Tryd.underlying22 rfl) ?_
  refine run_mv rfl ?_
  refine run_endops ?_
  refine run_seq rfl ?_
  refine run_seq rfl ?_
  refine run_region (todo := [0]) rfl rfl ?_
  refine run_mv rfl ?_
  refine run_endops ?_
  refine run_block rfl ?_
  refine run_loop rfl ?_
  refine run_again ?_
  refine run_seq rfl ?_
  refine run_region (todo := [0]) rfl rfl ?_
  refine run_rd (v := .bool true) rfl (rd_cmp rfl rfl) ?_
  refine run_endops ?_
  refine run_seq rfl ?_
  refine run_true rfl rfl ?_
  refine run_skip rfl ?_
  refine run_seq rfl ?_
  refine run_block rfl ?_
  refine run_seq rfl ?_
  refine run_region (todo := [0, 1, 2]) rfl rfl ?_
  refine run_mv rfl ?_
  refine run_rd (v := .int .u32 0) rfl (rd_int (v := .int .u32 0) (by kernel_rfl)) ?_
  refine run_mv rfl ?_
  refine run_endops ?_
  refine run_seq rfl ?_
  refine run_region (todo := [0, 1, 2]) rfl rfl ?_
  refine run_mv rfl ?_
  refine run_rd (v := .int .u32 2) rfl (rd_shrL (r := 2) (by decide) (by kernel_rfl)) ?_
  refine run_mv rfl ?_
  refine run_endops ?_
  refine run_seq rfl ?_
  refine run_region (todo := [0, 1]) rfl rfl ?_
  refine run_mv rfl ?_
  refine run_rd (v := .bool false) rfl (rd_cmp rfl rfl) ?_
  refine run_endops ?_
  refine run_false rfl rfl ?_
  refine run_skip rfl ?_
  refine run_endblock ?_
  refine run_region (todo := [0, 1]) rfl rfl ?_
  refine run_rd (v := .int .i64 1) rfl (rd_add (r := 1) (by decide)) ?_
  refine run_mv rfl ?_
  refine run_endops ?_
  refine run_again ?_
  refine run_seq rfl ?_
  refine run_region (todo := [0]) rfl rfl ?_
  refine run_rd (v := .bool true) rfl (rd_cmp rfl rfl) ?_
  refine run_endops ?_
  refine run_seq rfl ?_
  refine run_true rfl rfl ?_
  refine run_skip rfl ?_
  refine run_seq rfl ?_
  refine run_block rfl ?_
  refine run_seq rfl ?_
  refine run_region (todo := [0, 1, 2]) rfl rfl ?_
  refine run_mv rfl ?_
  refine run_rd (v := .int .u32 0) rfl (rd_int (v := .int .u32 0) (by kernel_rfl)) ?_
  refine run_mv rfl ?_
  refine run_endops ?_
  refine run_seq rfl ?_
  refine run_region (todo := [0, 1, 2]) rfl rfl ?_
  refine run_mv rfl ?_
  refine run_rd (v := .int .u32 1) rfl (rd_shrL (r := 1) (by decide) (by kernel_rfl)) ?_
  refine run_mv rfl ?_
  refine run_endops ?_
  refine run_seq rfl ?_
  refine run_region (todo := [0, 1]) rfl rfl ?_
  refine run_mv rfl ?_
  refine run_rd (v := .bool false) rfl (rd_cmp rfl rfl) ?_
  refine run_endops ?_
  refine run_false rfl rfl ?_
  refine run_skip rfl ?_
  refine run_endblock ?_
  refine run_region (todo := [0, 1]) rfl rfl ?_
  refine run_rd (v := .int .i64 2) rfl (rd_add (r := 2) (by decide)) ?_
  refine run_mv rfl ?_
  refine run_endops ?_
  refine run_again ?_
  refine run_seq rfl ?_
  refine run_region (todo := [0]) rfl rfl ?_
  refine run_rd (v := .bool true) rfl (rd_cmp rfl rfl) ?_
  refine run_endops ?_
  refine run_seq rfl ?_
  refine run_true rfl rfl ?_
  refine run_skip rfl ?_
  refine run_seq rfl ?_
  refine run_block rfl ?_
  refine run_seq rfl ?_
  refine run_region (todo := [0, 1, 2]) rfl rfl ?_
  refine run_mv rfl ?_
  refine run_rd (v := .int .u32 1) rfl (rd_int (v := .int .u32 1) (by kernel_rfl)) ?_
  refine run_mv rfl ?_
  refine run_endops ?_
  refine run_seq rfl ?_
  refine run_region (todo := [0, 1, 2]) rfl rfl ?_
  refine run_mv rfl ?_
  refine run_rd (v := .int .u32 0) rfl (rd_shrL (r := 0) (by decide) (by kernel_rfl)) ?_
  refine run_mv rfl ?_
  refine run_endops ?_
  refine run_seq rfl ?_
  refine run_region (todo := [0, 1]) rfl rfl ?_
  refine run_mv rfl ?_
  refine run_rd (v := .bool true) rfl (rd_cmp rfl rfl) ?_
  refine run_endops ?_
  refine run_true rfl rfl ?_
  refine run_region (todo := [0, 1, 2]) rfl rfl ?_
  refine run_mv rfl ?_
  refine run_rd (v := .int .u32 3988292384) rfl (rd_int (v := .int .u32 3988292384) (by kernel_rfl)) ?_
  refine run_mv rfl ?_
  refine run_endops ?_
  refine run_endblock ?_
  refine run_region (todo := [0, 1]) rfl rfl ?_
  refine run_rd (v := .int .i64 3) rfl (rd_add (r := 3) (by decide)) ?_
  refine run_mv rfl ?_
  refine run_endops ?_
  refine run_again ?_
  refine run_seq rfl ?_
  refine run_region (todo := [0]) rfl rfl ?_
  refine run_rd (v := .bool true) rfl (rd_cmp rfl rfl) ?_
  refine run_endops ?_
  refine run_seq rfl ?_
  refine run_true rfl rfl ?_
  refine run_skip rfl ?_
  refine run_seq rfl ?_
  refine run_block rfl ?_
  refine run_seq rfl ?_
  refine run_region (todo := [0, 1, 2]) rfl rfl ?_
  refine run_mv rfl ?_
  refine run_rd (v := .int .u32 0) rfl (rd_int (v := .int .u32 0) (by kernel_rfl)) ?_
  refine run_mv rfl ?_
  refine run_endops ?_
  refine run_seq rfl ?_
  refine run_region (todo := [0, 1, 2]) rfl rfl ?_
  refine run_mv rfl ?_
  refine run_rd (v := .int .u32 1994146192) rfl (rd_shrL (r := 1994146192) (by decide) (by kernel_rfl)) ?_
  refine run_mv rfl ?_
  refine run_endops ?_
  refine run_seq rfl ?_
  refine run_region (todo := [0, 1]) rfl rfl ?_
  refine run_mv rfl ?_
  refine run_rd (v := .bool false) rfl (rd_cmp rfl rfl) ?_
  refine run_endops ?_
  refine run_false rfl rfl ?_
  refine run_skip rfl ?_
  refine run_endblock ?_
  refine run_region (todo := [0, 1]) rfl rfl ?_
  refine run_rd (v := .int .i64 4) rfl (rd_add (r := 4) (by decide)) ?_
  refine run_mv rfl ?_
  refine run_endops ?_
  refine run_again ?_
  refine run_seq rfl ?_
  refine run_region (todo := [0]) rfl rfl ?_
  refine run_rd (v := .bool false) rfl (rd_cmp rfl rfl) ?_
  refine run_endops ?_
  refine run_seq rfl ?_
  refine run_false rfl rfl ?_
  refine run_exit rfl rfl ?_
  refine run_region (todo := [0, 1, 2, 3]) rfl rfl ?_
  refine run_mv rfl ?_
  refine run_mv rfl ?_
  refine run_rd (v := .pointer (some ⟨g2, 4, none⟩)) rfl (rd_indexAddrA (m := 4) (o := 4) Tryd.underlying107 rfl (by decide) Tryd.sizeOf22 rfl) ?_
  refine run_store (j := 0) (c' := #[.int .u32 0, .int .u32 498536548, .int .u32 997073096, .int .u32 651767980, .int .u32 1994146192, .int .u32 0, .int .u32 0, .int .u32 0, .int .u32 0, .int .u32 0, .int .u32 0, .int .u32 0, .int .u32 0, .int .u32 0, .int .u32 0, .int .u32 0]) rfl Tryd.sizeOf22 rfl rfl rfl rfl (by kernel_rfl) rfl ?_
  refine run_endops ?_
  refine run_endblock ?_
  refine run_region (todo := [0, 1]) rfl rfl ?_
  refine run_rd (v := .int .i64 5) rfl (rd_add (r := 5) (by decide)) ?_
  refine run_mv rfl ?_
  refine run_endops ?_
  refine run_again ?_
  refine run_seq rfl ?_
  refine run_region (todo := [0]) rfl rfl ?_
  refine run_rd (v := .bool true) rfl (rd_cmp rfl rfl) ?_
  refine run_endops ?_
  refine run_seq rfl ?_
  refine run_true rfl rfl ?_
  refine run_skip rfl ?_
  refine run_seq rfl ?_
  refine run_block rfl ?_
  refine run_seq rfl ?_
  refine run_region (todo := [0, 1]) rfl rfl ?_
  refine run_mv rfl ?_
  refine run_mv rfl ?_
  refine run_endops ?_
  refine run_seq rfl ?_
  refine run_region (todo := [0, 1, 2]) rfl rfl ?_
  refine run_mv rfl ?_
  refine run_rd (v := .int .u32 5) rfl (rd_toInt (r := 5) Tryd.underlying3 Tryd.underlying22 rfl) ?_
  refine run_mv rfl ?_
  refine run_endops ?_
  refine run_seq rfl ?_
  refine run_seq rfl ?_
  refine run_region (todo := [0]) rfl rfl ?_
  refine run_mv rfl ?_
  refine run_endops ?_
  refine run_block rfl ?_
  refine run_loop rfl ?_
  refine run_again ?_
  refine run_seq rfl ?_
  refine run_region (todo := [0]) rfl rfl ?_
  refine run_rd (v := .bool true) rfl (rd_cmp rfl rfl) ?_
  refine run_endops ?_
  refine run_seq rfl ?_
  refine run_true rfl rfl ?_
  refine run_skip rfl ?_
  refine run_seq rfl ?_
  refine run_block rfl ?_
  refine run_seq rfl ?_
  refine run_region (todo := [0, 1, 2]) rfl rfl ?_
  refine run_mv rfl ?_
  refine run_rd (v := .int .u32 1) rfl (rd_int (v := .int .u32 1) (by kernel_rfl)) ?_
  refine run_mv rfl ?_
  refine run_endops ?_
  refine run_seq rfl ?_
  refine run_region (todo := [0, 1, 2]) rfl rfl ?_
  refine run_mv rfl ?_
  refine run_rd (v := .int .u32 2) rfl (rd_shrL (r := 2) (by decide) (by kernel_rfl)) ?_
  refine run_mv rfl ?_
  refine run_endops ?_
  refine run_seq rfl ?_
  refine run_region (todo := [0, 1]) rfl rfl ?_
  refine run_mv rfl ?_
  refine run_rd (v := .bool true) rfl (rd_cmp rfl rfl) ?_
  refine run_endops ?_
  refine run_true rfl rfl ?_
  refine run_region (todo := [0, 1, 2]) rfl rfl ?_
  refine run_mv rfl ?_
  refine run_rd (v := .int .u32 3988292386) rfl (rd_int (v := .int .u32 3988292386) (by kernel_rfl)) ?_
  refine run_mv rfl ?_
  refine run_endops ?_
  refine run_endblock ?_
  refine run_region (todo := [0, 1]) rfl rfl ?_
  refine run_rd (v := .int .i64 1) rfl (rd_add (r := 1) (by decide)) ?_
  refine run_mv rfl ?_
  refine run_endops ?_
  refine run_again ?_
  refine run_seq rfl ?_
  refine run_region (todo := [0]) rfl rfl ?_
  refine run_rd (v := .bool true) rfl (rd_cmp rfl rfl) ?_
  refine run_endops ?_
  refine run_seq rfl ?_
  refine run_true rfl rfl ?_
  refine run_skip rfl ?_
  refine run_seq rfl ?_
  refine run_block rfl ?_
  refine run_seq rfl ?_
  refine run_region (todo := [0, 1, 2]) rfl rfl ?_
  refine run_mv rfl ?_
  refine run_rd (v := .int .u32 0) rfl (rd_int (v := .int .u32 0) (by kernel_rfl)) ?_
  refine run_mv rfl ?_
  refine run_endops ?_
  refine run_seq rfl ?_
  refine run_region (todo := [0, 1, 2]) rfl rfl ?_
  refine run_mv rfl ?_
  refine run_rd (v := .int .u32 1994146193) rfl (rd_shrL (r := 1994146193) (by decide) (by kernel_rfl)) ?_
  refine run_mv rfl ?_
  refine run_endops ?_
  refine run_seq rfl ?_
  refine run_region (todo := [0, 1]) rfl rfl ?_
  refine run_mv rfl ?_
  refine run_rd (v := .bool false) rfl (rd_cmp rfl rfl) ?_
  refine run_endops ?_
  refine run_false rfl rfl ?_
  refine run_skip rfl ?_
  refine run_endblock ?_
  refine run_region (todo := [0, 1]) rfl rfl ?_
  refine run_rd (v := .int .i64 2) rfl (rd_add (r := 2) (by decide)) ?_
  refine run_mv rfl ?_
  refine run_endops ?_
  refine run_again ?_
  refine run_seq rfl ?_
  refine run_region (todo := [0]) rfl rfl ?_
  refine run_rd (v := .bool true) rfl (rd_cmp rfl rfl) ?_
  refine run_endops ?_
  refine run_seq rfl ?_
  refine run_true rfl rfl ?_
  refine run_skip rfl ?_
  refine run_seq rfl ?_
  refine run_block rfl ?_
  refine run_seq rfl ?_
  refine run_region (todo := [0, 1, 2]) rfl rfl ?_
  refine run_mv rfl ?_
  refine run_rd (v := .int .u32 1) rfl (rd_int (v := .int .u32 1) (by kernel_rfl)) ?_
  refine run_mv rfl ?_
  refine run_endops ?_
  refine run_seq rfl ?_
  refine run_region (todo := [0, 1, 2]) rfl rfl ?_
  refine run_mv rfl ?_
  refine run_rd (v := .int .u32 997073096) rfl (rd_shrL (r := 997073096) (by decide) (by kernel_rfl)) ?_
  refine run_mv rfl ?_
  refine run_endops ?_
  refine run_seq rfl ?_
  refine run_region (todo := [0, 1]) rfl rfl ?_
  refine run_mv rfl ?_
  refine run_rd (v := .bool true) rfl (rd_cmp rfl rfl) ?_
  refine run_endops ?_
  refine run_true rfl rfl ?_
  refine run_region (todo := [0, 1, 2]) rfl rfl ?_
  refine run_mv rfl ?_
  refine run_rd (v := .int .u32 3604390888) rfl (rd_int (v := .int .u32 3604390888) (by kernel_rfl)) ?_
  refine run_mv rfl ?_
  refine run_endops ?_
  refine run_endblock ?_
  refine run_region (todo := [0, 1]) rfl rfl ?_
  refine run_rd (v := .int .i64 3) rfl (rd_add (r := 3) (by decide)) ?_
  refine run_mv rfl ?_
  refine run_endops ?_
  refine run_again ?_
  refine run_seq rfl ?_
  refine run_region (todo := [0]) rfl rfl ?_
  refine run_rd (v := .bool true) rfl (rd_cmp rfl rfl) ?_
  refine run_endops ?_
  refine run_seq rfl ?_
  refine run_true rfl rfl ?_
  refine run_skip rfl ?_
  refine run_seq rfl ?_
  refine run_block rfl ?_
  refine run_seq rfl ?_
  refine run_region (todo := [0, 1, 2]) rfl rfl ?_
  refine run_mv rfl ?_
  refine run_rd (v := .int .u32 0) rfl (rd_int (v := .int .u32 0) (by kernel_rfl)) ?_
  refine run_mv rfl ?_
  refine run_endops ?_
  refine run_seq rfl ?_
  refine run_region (todo := [0, 1, 2]) rfl rfl ?_
  refine run_mv rfl ?_
  refine run_rd (v := .int .u32 1802195444) rfl (rd_shrL (r := 1802195444) (by decide) (by kernel_rfl)) ?_
  refine run_mv rfl ?_
  refine run_endops ?_
  refine run_seq rfl ?_
  refine run_region (todo := [0, 1]) rfl rfl ?_
  refine run_mv rfl ?_
  refine run_rd (v := .bool false) rfl (rd_cmp rfl rfl) ?_
  refine run_endops ?_
  refine run_false rfl rfl ?_
  refine run_skip rfl ?_
  refine run_endblock ?_
  refine run_region (todo := [0, 1]) rfl rfl ?_
  refine run_rd (v := .int .i64 4) rfl (rd_add (r := 4) (by decide)) ?_
  refine run_mv rfl ?_
  refine run_endops ?_
  refine run_again ?_
  refine run_seq rfl ?_
  refine run_region (todo := [0]) rfl rfl ?_
  refine run_rd (v := .bool false) rfl (rd_cmp rfl rfl) ?_
  refine run_endops ?_
  refine run_seq rfl ?_
  refine run_false rfl rfl ?_
  refine run_exit rfl rfl ?_
  refine run_region (todo := [0, 1, 2, 3]) rfl rfl ?_
  refine run_mv rfl ?_
  refine run_mv rfl ?_
  refine run_rd (v := .pointer (some ⟨g2, 5, none⟩)) rfl (rd_indexAddrA (m := 5) (o := 5) Tryd.underlying107 rfl (by decide) Tryd.sizeOf22 rfl) ?_
  refine run_store (j := 0) (c' := #[.int .u32 0, .int .u32 498536548, .int .u32 997073096, .int .u32 651767980, .int .u32 1994146192, .int .u32 1802195444, .int .u32 0, .int .u32 0, .int .u32 0, .int .u32 0, .int .u32 0, .int .u32 0, .int .u32 0, .int .u32 0, .int .u32 0, .int .u32 0]) rfl Tryd.sizeOf22 rfl rfl rfl rfl (by kernel_rfl) rfl ?_
  refine run_endops ?_
  refine run_endblock ?_
  refine run_region (todo := [0, 1]) rfl rfl ?_
  refine run_rd (v := .int .i64 6) rfl (rd_add (r := 6) (by decide)) ?_
  refine run_mv rfl ?_
  refine run_endops ?_
  refine run_again ?_
  refine run_seq rfl ?_
  refine run_region (todo := [0]) rfl rfl ?_
  refine run_rd (v := .bool true) rfl (rd_cmp rfl rfl) ?_
  refine run_endops ?_
  refine run_seq rfl ?_
  refine run_true rfl rfl ?_
  refine run_skip rfl ?_
  refine run_seq rfl ?_
  refine run_block rfl ?_
  refine run_seq rfl ?_
  refine run_region (todo := [0, 1]) rfl rfl ?_
  refine run_mv rfl ?_
  refine run_mv rfl ?_
  refine run_endops ?_
  refine run_seq rfl ?_
  refine run_region (todo := [0, 1, 2]) rfl rfl ?_
  refine run_mv rfl ?_
  refine run_rd (v := .int .u32 6) rfl (rd_toInt (r := 6) Tryd.underlying3 Tryd.underlying22 rfl) ?_
  refine run_mv rfl ?_
  refine run_endops ?_
  refine run_seq rfl ?_
  refine run_seq rfl ?_
  refine run_region (todo := [0]) rfl rfl ?_
  refine run_mv rfl ?_
  refine run_endops ?_
  refine run_block rfl ?_
  refine run_loop rfl ?_
  refine run_again ?_
  refine run_seq rfl ?_
  refine run_region (todo := [0]) rfl rfl ?_
  refine run_rd (v := .bool true) rfl (rd_cmp rfl rfl) ?_
  refine run_endops ?_
  refine run_seq rfl ?_
  refine run_true rfl rfl ?_
  refine run_skip rfl ?_
  refine run_seq rfl ?_
  refine run_block rfl ?_
  refine run_seq rfl ?_
  refine run_region (todo := [0, 1, 2]) rfl rfl ?_
  refine run_mv rfl ?_
  refine run_rd (v := .int .u32 0) rfl (rd_int (v := .int .u32 0) (by kernel_rfl)) ?_
  refine run_mv rfl ?_
  refine run_endops ?_
  refine run_seq rfl ?_
  refine run_region (todo := [0, 1, 2]) rfl rfl ?_
  refine run_mv rfl ?_
  refine run_rd (v := .int .u32 3) rfl (rd_shrL (r := 3) (by decide) (by kernel_rfl)) ?_
  refine run_mv rfl ?_
  refine run_endops ?_
  refine run_seq rfl ?_
  refine run_region (todo := [0, 1]) rfl rfl ?_
  refine run_mv rfl ?_
  refine run_rd (v := .bool false) rfl (rd_cmp rfl rfl) ?_
  refine run_endops ?_
  refine run_false rfl rfl ?_
  refine run_skip rfl ?_
  refine run_endblock ?_
  refine run_region (todo := [0, 1]) rfl rfl ?_
  refine run_rd (v := .int .i64 1) rfl (rd_add (r := 1) (by decide)) ?_
  refine run_mv rfl ?_
  refine run_endops ?_
  refine run_again ?_
  refine run_seq rfl ?_
  refine run_region (todo := [0]) rfl rfl ?_
  refine run_rd (v := .bool true) rfl (rd_cmp rfl rfl) ?_
  refine run_endops ?_
  refine run_seq rfl ?_
  refine run_true rfl rfl ?_
  refine run_skip rfl ?_
  refine run_seq rfl ?_
  refine run_block rfl ?_
  refine run_seq rfl ?_
  refine run_region (todo := [0, 1, 2]) rfl rfl ?_
  refine run_mv rfl ?_
  refine run_rd (v := .int .u32 1) rfl (rd_int (v := .int .u32 1) (by kernel_rfl)) ?_
  refine run_mv rfl ?_
  refine run_endops ?_
  refine run_seq rfl ?_
  refine run_region (todo := [0, 1, 2]) rfl rfl ?_
  refine run_mv rfl ?_
  refine run_rd (v := .int .u32 1) rfl (rd_shrL (r := 1) (by decide) (by kernel_rfl)) ?_
  refine run_mv rfl ?_
  refine run_endops ?_
  refine run_seq rfl ?_
  refine run_region (todo := [0, 1]) rfl rfl ?_
  refine run_mv rfl ?_
  refine run_rd (v := .bool true) rfl (rd_cmp rfl rfl) ?_
  refine run_endops ?_
  refine run_true rfl rfl ?_
  refine run_region (todo := [0, 1, 2]) rfl rfl ?_
  refine run_mv rfl ?_
  refine run_rd (v := .int .u32 3988292385) rfl (rd_int (v := .int .u32 3988292385) (by kernel_rfl)) ?_
  refine run_mv rfl ?_
  refine run_endops ?_
  refine run_endblock ?_
  refine run_region (todo := [0, 1]) rfl rfl ?_
  refine run_rd (v := .int .i64 2) rfl (rd_add (r := 2) (by decide)) ?_
  refine run_mv rfl ?_
  refine run_endops ?_
  refine run_again ?_
  refine run_seq rfl ?_
  refine run_region (todo := [0]) rfl rfl ?_
  refine run_rd (v := .bool true) rfl (rd_cmp rfl rfl) ?_
  refine run_endops ?_
  refine run_seq rfl ?_
  refine run_true rfl rfl ?_
  refine run_skip rfl ?_
  refine run_seq rfl ?_
  refine run_block rfl ?_
  refine run_seq rfl ?_
  refine run_region (todo := [0, 1, 2]) rfl rfl ?_
  refine run_mv rfl ?_
  refine run_rd (v := .int .u32 1) rfl (rd_int (v := .int .u32 1) (by kernel_rfl)) ?_
  refine run_mv rfl ?_
  refine run_endops ?_
  refine run_seq rfl ?_
  refine run_region (todo := [0, 1, 2]) rfl rfl ?_
  refine run_mv rfl ?_
  refine run_rd (v := .int .u32 1994146192) rfl (rd_shrL (r := 1994146192) (by decide) (by kernel_rfl)) ?_
  refine run_mv rfl ?_
  refine run_endops ?_
  refine run_seq rfl ?_
  refine run_region (todo := [0, 1]) rfl rfl ?_
  refine run_mv rfl ?_
  refine run_rd (v := .bool true) rfl (rd_cmp rfl rfl) ?_
  refine run_endops ?_
  refine run_true rfl rfl ?_
  refine run_region (todo := [0, 1, 2]) rfl rfl ?_
  refine run_mv rfl ?_
  refine run_rd (v := .int .u32 2607071920) rfl (rd_int (v := .int .u32 2607071920) (by kernel_rfl)) ?_
  refine run_mv rfl ?_
  refine run_endops ?_
  refine run_endblock ?_
  refine run_region (todo := [0, 1]) rfl rfl ?_
  refine run_rd (v := .int .i64 3) rfl (rd_add (r := 3) (by decide)) ?_
  refine run_mv rfl ?_
  refine run_endops ?_
  refine run_again ?_
  refine run_seq rfl ?_
  refine run_region (todo := [0]) rfl rfl ?_
  refine run_rd (v := .bool true) rfl (rd_cmp rfl rfl) ?_
  refine run_endops ?_
  refine run_seq rfl ?_
  refine run_true rfl rfl ?_
  refine run_skip rfl ?_
  refine run_seq rfl ?_
  refine run_block rfl ?_
  refine run_seq rfl ?_
  refine run_region (todo := [0, 1, 2]) rfl rfl ?_
  refine run_mv rfl ?_
  refine run_rd (v := .int .u32 0) rfl (rd_int (v := .int .u32 0) (by kernel_rfl)) ?_
  refine run_mv rfl ?_
  refine run_endops ?_
  refine run_seq rfl ?_
  refine run_region (todo := [0, 1, 2]) rfl rfl ?_
  refine run_mv rfl ?_
  refine run_rd (v := .int .u32 1303535960) rfl (rd_shrL (r := 1303535960) (by decide) (by kernel_rfl)) ?_
  refine run_mv rfl ?_
  refine run_endops ?_
  refine run_seq rfl ?_
  refine run_region (todo := [0, 1]) rfl rfl ?_
  refine run_mv rfl ?_
  refine run_rd (v := .bool false) rfl (rd_cmp rfl rfl) ?_
  refine run_endops ?_
  refine run_false rfl rfl ?_
  refine run_skip rfl ?_
  refine run_endblock ?_
  refine run_region (todo := [0, 1]) rfl rfl ?_
  refine run_rd (v := .int .i64 4) rfl (rd_add (r := 4) (by decide)) ?_
  refine run_mv rfl ?_
  refine run_endops ?_
  refine run_again ?_
  refine run_seq rfl ?_
  refine run_region (todo := [0]) rfl rfl ?_
  refine run_rd (v := .bool false) rfl (rd_cmp rfl rfl) ?_
  refine run_endops ?_
  refine run_seq rfl ?_
  refine run_false rfl rfl ?_
  refine run_exit rfl rfl ?_
  refine run_region (todo := [0, 1, 2, 3]) rfl rfl ?_
  refine run_mv rfl ?_
  refine run_mv rfl ?_
  refine run_rd (v := .pointer (some ⟨g2, 6, none⟩)) rfl (rd_indexAddrA (m := 6) (o := 6) Tryd.underlying107 rfl (by decide) Tryd.sizeOf22 rfl) ?_
  refine run_store (j := 0) (c' := #[.int .u32 0, .int .u32 498536548, .int .u32 997073096, .int .u32 651767980, .int .u32 1994146192, .int .u32 1802195444, .int .u32 1303535960, .int .u32 0, .int .u32 0, .int .u32 0, .int .u32 0, .int .u32 0, .int .u32 0, .int .u32 0, .int .u32 0, .int .u32 0]) rfl Tryd.sizeOf22 rfl rfl rfl rfl (by kernel_rfl) rfl ?_
  refine run_endops ?_
  refine run_endblock ?_
  refine run_region (todo := [0, 1]) rfl rfl ?_
  refine run_rd (v := .int .i64 7) rfl (rd_add (r := 7) (by decide)) ?_
  refine run_mv rfl ?_
  refine run_endops ?_
  refine run_again ?_
  refine run_seq rfl ?_
  refine run_region (todo := [0]) rfl rfl ?_
  refine run_rd (v := .bool true) rfl (rd_cmp rfl rfl) ?_
  refine run_endops ?_
  refine run_seq rfl ?_
  refine run_true rfl rfl ?_
  refine run_skip rfl ?_
  refine run_seq rfl ?_
  refine run_block rfl ?_
  refine run_seq rfl ?_
  refine run_region (todo := [0, 1]) rfl rfl ?_
  refine run_mv rfl ?_
  refine run_mv rfl ?_
  refine run_endops ?_
  refine run_seq rfl ?_
  refine run_region (todo := [0, 1, 2]) rfl rfl ?_
  refine run_mv rfl ?_
  refine run_rd (v := .int .u32 7) rfl (rd_toInt (r := 7) Tryd.underlying3 Tryd.underlying22 rfl) ?_
  refine run_mv rfl ?_
  refine run_endops ?_
  refine run_seq rfl ?_
  refine run_seq rfl ?_
  refine run_region (todo := [0]) rfl rfl ?_
  refine run_mv rfl ?_
  refine run_endops ?_
  refine run_block rfl ?_
  refine run_loop rfl ?_
  refine run_again ?_
  refine run_seq rfl ?_
  refine run_region (todo := [0]) rfl rfl ?_
  refine run_rd (v := .bool true) rfl (rd_cmp rfl rfl) ?_
  refine run_endops ?_
  refine run_seq rfl ?_
  refine run_true rfl rfl ?_
  refine run_skip rfl ?_
  refine run_seq rfl ?_
  refine run_block rfl ?_
  refine run_seq rfl ?_
  refine run_region (todo := [0, 1, 2]) rfl rfl ?_
  refine run_mv rfl ?_
  refine run_rd (v := .int .u32 1) rfl (rd_int (v := .int .u32 1) (by kernel_rfl)) ?_
  refine run_mv rfl ?_
  refine run_endops ?_
  refine run_seq rfl ?_
  refine run_region (todo := [0, 1, 2]) rfl rfl ?_
  refine run_mv rfl ?_
  refine run_rd (v := .int .u32 3) rfl (rd_shrL (r := 3) (by decide) (by kernel_rfl)) ?_
  refine run_mv rfl ?_
  refine run_endops ?_
  refine run_seq rfl ?_
  refine run_region (todo := [0, 1]) rfl rfl ?_
  refine run_mv rfl ?_
  refine run_rd (v := .bool true) rfl (rd_cmp rfl rfl) ?_
  refine run_endops ?_
  refine run_true rfl rfl ?_
  refine run_region (todo := [0, 1, 2]) rfl rfl ?_
  refine run_mv rfl ?_
  refine run_rd (v := .int .u32 3988292387) rfl (rd_int (v := .int .u32 3988292387) (by kernel_rfl)) ?_
  refine run_mv rfl ?_
  refine run_endops ?_
  refine run_endblock ?_
  refine run_region (todo := [0, 1]) rfl rfl ?_
  refine run_rd (v := .int .i64 1) rfl (rd_add (r := 1) (by decide)) ?_
  refine run_mv rfl ?_
  refine run_endops ?_
  refine run_again ?_
  refine run_seq rfl ?_
  refine run_region (todo := [0]) rfl rfl ?_
  refine run_rd (v := .bool true) rfl (rd_cmp rfl rfl) ?_
  refine run_endops ?_
  refine run_seq rfl ?_
  refine run_true rfl rfl ?_
  refine run_skip rfl ?_
  refine run_seq rfl ?_
  refine run_block rfl ?_
  refine run_seq rfl ?_
  refine run_region (todo := [0, 1, 2]) rfl rfl ?_
  refine run_mv rfl ?_
  refine run_rd (v := .int .u32 1) rfl (rd_int (v := .int .u32 1) (by kernel_rfl)) ?_
  refine run_mv rfl ?_
  refine run_endops ?_
  refine run_seq rfl ?_
  refine run_region (todo := [0, 1, 2]) rfl rfl ?_
  refine run_mv rfl ?_
  refine run_rd (v := .int .u32 1994146193) rfl (rd_shrL (r := 1994146193) (by decide) (by kernel_rfl)) ?_
  refine run_mv rfl ?_
  refine run_endops ?_
  refine run_seq rfl ?_
  refine run_region (todo := [0, 1]) rfl rfl ?_
  refine run_mv rfl ?_
  refine run_rd (v := .bool true) rfl (rd_cmp rfl rfl) ?_
  refine run_endops ?_
  refine run_true rfl rfl ?_
  refine run_region (todo := [0, 1, 2]) rfl rfl ?_
  refine run_mv rfl ?_
  refine run_rd (v := .int .u32 2607071921) rfl (rd_int (v := .int .u32 2607071921) (by kernel_rfl)) ?_
  refine run_mv rfl ?_
  refine run_endops ?_
  refine run_endblock ?_
  refine run_region (todo := [0, 1]) rfl rfl ?_
  refine run_rd (v := .int .i64 2) rfl (rd_add (r := 2) (by decide)) ?_
  refine run_mv rfl ?_
  refine run_endops ?_
  refine run_again ?_
  refine run_seq rfl ?_
  refine run_region (todo := [0]) rfl rfl ?_
  refine run_rd (v := .bool true) rfl (rd_cmp rfl rfl) ?_
  refine run_endops ?_
  refine run_seq rfl ?_
  refine run_true rfl rfl ?_
  refine run_skip rfl ?_
  refine run_seq rfl ?_
  refine run_block rfl ?_
  refine run_seq rfl ?_
  refine run_region (todo := [0, 1, 2]) rfl rfl ?_
  refine run_mv rfl ?_
  refine run_rd (v := .int .u32 1) rfl (rd_int (v := .int .u32 1) (by kernel_rfl)) ?_
  refine run_mv rfl ?_
  refine run_endops ?_
  refine run_seq rfl ?_
  refine run_region (todo := [0, 1, 2]) rfl rfl ?_
  refine run_mv rfl ?_
  refine run_rd (v := .int .u32 1303535960) rfl (rd_shrL (r := 1303535960) (by decide) (by kernel_rfl)) ?_
  refine run_mv rfl ?_
  refine run_endops ?_
  refine run_seq rfl ?_
  refine run_region (todo := [0, 1]) rfl rfl ?_
  refine run_mv rfl ?_
  refine run_rd (v := .bool true) rfl (rd_cmp rfl rfl) ?_
  refine run_endops ?_
  refine run_true rfl rfl ?_
  refine run_region (todo := [0, 1, 2]) rfl rfl ?_
  refine run_mv rfl ?_
  refine run_rd (v := .int .u32 2685067896) rfl (rd_int (v := .int .u32 2685067896) (by kernel_rfl)) ?_
  refine run_mv rfl ?_
  refine run_endops ?_
  refine run_endblock ?_
  refine run_region (todo := [0, 1]) rfl rfl ?_
  refine run_rd (v := .int .i64 3) rfl (rd_add (r := 3) (by decide)) ?_
  refine run_mv rfl ?_
  refine run_endops ?_
  refine run_again ?_
  refine run_seq rfl ?_
  refine run_region (todo := [0]) rfl rfl ?_
  refine run_rd (v := .bool true) rfl (rd_cmp rfl rfl) ?_
  refine run_endops ?_
  refine run_seq rfl ?_
  refine run_true rfl rfl ?_
  refine run_skip rfl ?_
  refine run_seq rfl ?_
  refine run_block rfl ?_
  refine run_seq rfl ?_
  refine run_region (todo := [0, 1, 2]) rfl rfl ?_
  refine run_mv rfl ?_
  refine run_rd (v := .int .u32 0) rfl (rd_int (v := .int .u32 0) (by kernel_rfl)) ?_
  refine run_mv rfl ?_
  refine run_endops ?_
  refine run_seq rfl ?_
  refine run_region (todo := [0, 1, 2]) rfl rfl ?_
  refine run_mv rfl ?_
  refine run_rd (v := .int .u32 1342533948) rfl (rd_shrL (r := 1342533948) (by decide) (by kernel_rfl)) ?_
  refine run_mv rfl ?_
  refine run_endops ?_
  refine run_seq rfl ?_
  refine run_region (todo := [0, 1]) rfl rfl ?_
  refine run_mv rfl ?_
  refine run_rd (v := .bool false) rfl (rd_cmp rfl rfl) ?_
  refine run_endops ?_
  refine run_false rfl rfl ?_
  refine run_skip rfl ?_
  refine run_endblock ?_
  refine run_region (todo := [0, 1]) rfl rfl ?_
  refine run_rd (v := .int .i64 4) rfl (rd_add (r := 4) (by decide)) ?_
  refine run_mv rfl ?_
  refine run_endops ?_
  refine run_again ?_
  refine run_seq rfl ?_
  refine run_region (todo := [0]) rfl rfl ?_
  refine run_rd (v := .bool false) rfl (rd_cmp rfl rfl) ?_
  refine run_endops ?_
  refine run_seq rfl ?_
  refine run_false rfl rfl ?_
  refine run_exit rfl rfl ?_
  refine run_region (todo := [0, 1, 2, 3]) rfl rfl ?_
  refine run_mv rfl ?_
  refine run_mv rfl ?_
  refine run_rd (v := .pointer (some ⟨g2, 7, none⟩)) rfl (rd_indexAddrA (m := 7) (o := 7) Tryd.underlying107 rfl (by decide) Tryd.sizeOf22 rfl) ?_
  refine run_store (j := 0) (c' := #[.int .u32 0, .int .u32 498536548, .int .u32 997073096, .int .u32 651767980, .int .u32 1994146192, .int .u32 1802195444, .int .u32 1303535960, .int .u32 1342533948, .int .u32 0, .int .u32 0, .int .u32 0, .int .u32 0, .int .u32 0, .int .u32 0, .int .u32 0, .int .u32 0]) rfl Tryd.sizeOf22 rfl rfl rfl rfl (by kernel_rfl) rfl ?_
  refine run_endops ?_
  refine run_endblock ?_
  refine run_region (todo := [0, 1]) rfl rfl ?_
  refine run_rd (v := .int .i64 8) rfl (rd_add (r := 8) (by decide)) ?_
  refine run_mv rfl ?_
  refine run_endops ?_
  refine run_again ?_
  refine run_seq rfl ?_
  refine run_region (todo := [0]) rfl rfl ?_
  refine run_rd (v := .bool true) rfl (rd_cmp rfl rfl) ?_
  refine run_endops ?_
  refine run_seq rfl ?_
  refine run_true rfl rfl ?_
  refine run_skip rfl ?_
  refine run_seq rfl ?_
  refine run_block rfl ?_
  refine run_seq rfl ?_
  refine run_region (todo := [0, 1]) rfl rfl ?_
  refine run_mv rfl ?_
  refine run_mv rfl ?_
  refine run_endops ?_
  refine run_seq rfl ?_
  refine run_region (todo := [0, 1, 2]) rfl rfl ?_
  refine run_mv rfl ?_
  refine run_rd (v := .int .u32 8) rfl (rd_toInt (r := 8) Tryd.underlying3 Tryd.underlying22 rfl) ?_
  refine run_mv rfl ?_
  refine run_endops ?_
  refine run_seq rfl ?_
  refine run_seq rfl ?_
  refine run_region (todo := [0]) rfl rfl ?_
  refine run_mv rfl ?_
  refine run_endops ?_
  refine run_block rfl ?_
  refine run_loop rfl ?_
  refine run_again ?_
  refine run_seq rfl ?_
  refine run_region (todo := [0]) rfl rfl ?_
  refine run_rd (v := .bool true) rfl (rd_cmp rfl rfl) ?_
  refine run_endops ?_
  refine run_seq rfl ?_
  refine run_true rfl rfl ?_
  refine run_skip rfl ?_
  refine run_seq rfl ?_
  refine run_block rfl ?_
  refine run_seq rfl ?_
  refine run_region (todo := [0, 1, 2]) rfl rfl ?_
  refine run_mv rfl ?_
  refine run_rd (v := .int .u32 0) rfl (rd_int (v := .int .u32 0) (by kernel_rfl)) ?_
  refine run_mv rfl ?_
  refine run_endops ?_
  refine run_seq rfl ?_
  refine run_region (todo := [0, 1, 2]) rfl rfl ?_
  refine run_mv rfl ?_
  refine run_rd (v := .int .u32 4) rfl (rd_shrL (r := 4) (by decide) (by kernel_rfl)) ?_
  refine run_mv rfl ?_
  refine run_endops ?_
  refine run_seq rfl ?_
  refine run_region (todo := [0, 1]) rfl rfl ?_
  refine run_mv rfl ?_
  refine run_rd (v := .bool false) rfl (rd_cmp rfl rfl) ?_
  refine run_endops ?_
  refine run_false rfl rfl ?_
  refine run_skip rfl ?_
  refine run_endblock ?_
  refine run_region (todo := [0, 1]) rfl rfl ?_
  refine run_rd (v := .int .i64 1) rfl (rd_add (r := 1) (by decide)) ?_
  refine run_mv rfl ?_
  refine run_endops ?_
  refine run_again ?_
  refine run_seq rfl ?_
  refine run_region (todo := [0]) rfl rfl ?_
  refine run_rd (v := .bool true) rfl (rd_cmp rfl rfl) ?_
  refine run_endops ?_
  refine run_seq rfl ?_
  refine run_true rfl rfl ?_
  refine run_skip rfl ?_
  refine run_seq rfl ?_
  refine run_block rfl ?_
  refine run_seq rfl ?_
  refine run_region (todo := [0, 1, 2]) rfl rfl ?_
  refine run_mv rfl ?_
  refine run_rd (v := .int .u32 0) rfl (rd_int (v := .int .u32 0) (by kernel_rfl)) ?_
  refine run_mv rfl ?_
  refine run_endops ?_
  refine run_seq rfl ?_
  refine run_region (todo := [0, 1, 2]) rfl rfl ?_
  refine run_mv rfl ?_
  refine run_rd (v := .int .u32 2) rfl (rd_shrL (r := 2) (by decide) (by kernel_rfl)) ?_
  refine run_mv rfl ?_
  refine run_endops ?_
  refine run_seq rfl ?_
  refine run_region (todo := [0, 1]) rfl rfl ?_
  refine run_mv rfl ?_
  refine run_rd (v := .bool false) rfl (rd_cmp rfl rfl) ?_
  refine run_endops ?_
  refine run_false rfl rfl ?_
  refine run_skip rfl ?_
  refine run_endblock ?_
  refine run_region (todo := [0, 1]) rfl rfl ?_
  refine run_rd (v := .int .i64 2) rfl (rd_add (r := 2) (by decide)) ?_
  refine run_mv rfl ?_
  refine run_endops ?_
  refine run_again ?_
  refine run_seq rfl ?_
  refine run_region (todo := [0]) rfl rfl ?_
  refine run_rd (v := .bool true) rfl (rd_cmp rfl rfl) ?_
  refine run_endops ?_
  refine run_seq rfl ?_
  refine run_true rfl rfl ?_
  refine run_skip rfl ?_
  refine run_seq rfl ?_
  refine run_block rfl ?_
  refine run_seq rfl ?_
  refine run_region (todo := [0, 1, 2]) rfl rfl ?_
  refine run_mv rfl ?_
  refine run_rd (v := .int .u32 0) rfl (rd_int (v := .int .u32 0) (by kernel_rfl)) ?_
  refine run_mv rfl ?_
  refine run_endops ?_
  refine run_seq rfl ?_
  refine run_region (todo := [0, 1, 2]) rfl rfl ?_
  refine run_mv rfl ?_
  refine run_rd (v := .int .u32 1) rfl (rd_shrL (r := 1) (by decide) (by kernel_rfl)) ?_
  refine run_mv rfl ?_
  refine run_endops ?_
  refine run_seq rfl ?_
  refine run_region (todo := [0, 1]) rfl rfl ?_
  refine run_mv rfl ?_
  refine run_rd (v := .bool false) rfl (rd_cmp rfl rfl) ?_
  refine run_endops ?_
  refine run_false rfl rfl ?_
  refine run_skip rfl ?_
  refine run_endblock ?_
  refine run_region (todo := [0, 1]) rfl rfl ?_
  refine run_rd (v := .int .i64 3) rfl (rd_add (r := 3) (by decide)) ?_
  refine run_mv rfl ?_
  refine run_endops ?_
  refine run_again ?_
  refine run_seq rfl ?_
  refine run_region (todo := [0]) rfl rfl ?_
  refine run_rd (v := .bool true) rfl (rd_cmp rfl rfl) ?_
  refine run_endops ?_
  refine run_seq rfl ?_
  refine run_true rfl rfl ?_
  refine run_skip rfl ?_
  refine run_seq rfl ?_
  refine run_block rfl ?_
  refine run_seq rfl ?_
  refine run_region (todo := [0, 1, 2]) rfl rfl ?_
  refine run_mv rfl ?_
  refine run_rd (v := .int .u32 1) rfl (rd_int (v := .int .u32 1) (by kernel_rfl)) ?_
  refine run_mv rfl ?_
  refine run_endops ?_
  refine run_seq rfl ?_
  refine run_region (todo := [0, 1, 2]) rfl rfl ?_
  refine run_mv rfl ?_
  refine run_rd (v := .int .u32 0) rfl (rd_shrL (r := 0) (by decide) (by kernel_rfl)) ?_
  refine run_mv rfl ?_
  refine run_endops ?_
  refine run_seq rfl ?_
  refine run_region (todo := [0, 1]) rfl rfl ?_
  refine run_mv rfl ?_
  refine run_rd (v := .bool true) rfl (rd_cmp rfl rfl) ?_
  refine run_endops ?_
  refine run_true rfl rfl ?_
  refine run_region (todo := [0, 1, 2]) rfl rfl ?_
  refine run_mv rfl ?_
  refine run_rd (v := .int .u32 3988292384) rfl (rd_int (v := .int .u32 3988292384) (by kernel_rfl)) ?_
  refine run_mv rfl ?_
  refine run_endops ?_
  refine run_endblock ?_
  refine run_region (todo := [0, 1]) rfl rfl ?_
  refine run_rd (v := .int .i64 4) rfl (rd_add (r := 4) (by decide)) ?_
  refine run_mv rfl ?_
  refine run_endops ?_
  refine run_again ?_
  refine run_seq rfl ?_
  refine run_region (todo := [0]) rfl rfl ?_
  refine run_rd (v := .bool false) rfl (rd_cmp rfl rfl) ?_
  refine run_endops ?_
  refine run_seq rfl ?_
  refine run_false rfl rfl ?_
  refine run_exit rfl rfl ?_
  refine run_region (todo := [0, 1, 2, 3]) rfl rfl ?_
  refine run_mv rfl ?_
  refine run_mv rfl ?_
  refine run_rd (v := .pointer (some ⟨g2, 8, none⟩)) rfl (rd_indexAddrA (m := 8) (o := 8) Tryd.underlying107 rfl (by decide) Tryd.sizeOf22 rfl) ?_
  refine run_store (j := 0) (c' := #[.int .u32 0, .int .u32 498536548, .int .u32 997073096, .int .u32 651767980, .int .u32 1994146192, .int .u32 1802195444, .int .u32 1303535960, .int .u32 1342533948, .int .u32 3988292384, .int .u32 0, .int .u32 0, .int .u32 0, .int .u32 0, .int .u32 0, .int .u32 0, .int .u32 0]) rfl Tryd.sizeOf22 rfl rfl rfl rfl (by kernel_rfl) rfl ?_
  refine run_endops ?_
  refine run_endblock ?_
  refine run_region (todo := [0, 1]) rfl rfl ?_
  refine run_rd (v := .int .i64 9) rfl (rd_add (r := 9) (by decide)) ?_
  refine run_mv rfl ?_
  refine run_endops ?_
  refine run_again ?_
  refine run_seq rfl ?_
  refine run_region (todo := [0]) rfl rfl ?_
  refine run_rd (v := .bool true) rfl (rd_cmp rfl rfl) ?_
  refine run_endops ?_
  refine run_seq rfl ?_
  refine run_true rfl rfl ?_
  refine run_skip rfl ?_
  refine run_seq rfl ?_
  refine run_block rfl ?_
  refine run_seq rfl ?_
  refine run_region (todo := [0, 1]) rfl rfl ?_
  refine run_mv rfl ?_
  refine run_mv rfl ?_
  refine run_endops ?_
  refine run_seq rfl ?_
  refine run_region (todo := [0, 1, 2]) rfl rfl ?_
  refine run_mv rfl ?_
  refine run_rd (v := .int .u32 9) rfl (rd_toInt (r := 9) Tryd.underlying3 Tryd.underlying22 rfl) ?_
  refine run_mv rfl ?_
  refine run_endops ?_
  refine run_seq rfl ?_
  refine run_seq rfl ?_
  refine run_region (todo := [0]) rfl rfl ?_
  refine run_mv rfl ?_
  refine run_endops ?_
  refine run_block rfl ?_
  refine run_loop rfl ?_
  refine run_again ?_
  refine run_seq rfl ?_
  refine run_region (todo := [0]) rfl rfl ?_
  refine run_rd (v := .bool true) rfl (rd_cmp rfl rfl) ?_
  refine run_endops ?_
  refine run_seq rfl ?_
  refine run_true rfl rfl ?_
  refine run_skip rfl ?_
  refine run_seq rfl ?_
  refine run_block rfl ?_
  refine run_seq rfl ?_
  refine run_region (todo := [0, 1, 2]) rfl rfl ?_
  refine run_mv rfl ?_
  refine run_rd (v := .int .u32 1) rfl (rd_int (v := .int .u32 1) (by kernel_rfl)) ?_
  refine run_mv rfl ?_
  refine run_endops ?_
  refine run_seq rfl ?_
  refine run_region (todo := [0, 1, 2]) rfl rfl ?_
  refine run_mv rfl ?_
  refine run_rd (v := .int .u32 4) rfl (rd_shrL (r := 4) (by decide) (by kernel_rfl)) ?_
  refine run_mv rfl ?_
  refine run_endops ?_
  refine run_seq rfl ?_
  refine run_region (todo := [0, 1]) rfl rfl ?_
  refine run_mv rfl ?_
  refine run_rd (v := .bool true) rfl (rd_cmp rfl rfl) ?_
  refine run_endops ?_
  refine run_true rfl rfl ?_
  refine run_region (todo := [0, 1, 2]) rfl rfl ?_
  refine run_mv rfl ?_
  refine run_rd (v := .int .u32 3988292388) rfl (rd_int (v := .int .u32 3988292388) (by kernel_rfl)) ?_
  refine run_mv rfl ?_
  refine run_endops ?_
  refine run_endblock ?_
  refine run_region (todo := [0, 1]) rfl rfl ?_
  refine run_rd (v := .int .i64 1) rfl (rd_add (r := 1) (by decide)) ?_
  refine run_mv rfl ?_
  refine run_endops ?_
  refine run_again ?_
  refine run_seq rfl ?_
  refine run_region (todo := [0]) rfl rfl ?_
  refine run_rd (v := .bool true) rfl (rd_cmp rfl rfl) ?_
  refine run_endops ?_
  refine run_seq rfl ?_
  refine run_true rfl rfl ?_
  refine run_skip rfl ?_
  refine run_seq rfl ?_
  refine run_block rfl ?_
  refine run_seq rfl ?_
  refine run_region (todo := [0, 1, 2]) rfl rfl ?_
  refine run_mv rfl ?_
  refine run_rd (v := .int .u32 0) rfl (rd_int (v := .int .u32 0) (by kernel_rfl)) ?_
  refine run_mv rfl ?_
  refine run_endops ?_
  refine run_seq rfl ?_
  refine run_region (todo := [0, 1, 2]) rfl rfl ?_
  refine run_mv rfl ?_
  refine run_rd (v := .int .u32 1994146194) rfl (rd_shrL (r := 1994146194) (by decide) (by kernel_rfl)) ?_
  refine run_mv rfl ?_
  refine run_endops ?_
  refine run_seq rfl ?_
  refine run_region (todo := [0, 1]) rfl rfl ?_
  refine run_mv rfl ?_
  refine run_rd (v := .bool false) rfl (rd_cmp rfl rfl) ?_
  refine run_endops ?_
  refine run_false rfl rfl ?_
  refine run_skip rfl ?_
  refine run_endblock ?_
  refine run_region (todo := [0, 1]) rfl rfl ?_
  refine run_rd (v := .int .i64 2) rfl (rd_add (r := 2) (by decide)) ?_
  refine run_mv rfl ?_
  refine run_endops ?_
  refine run_again ?_
  refine run_seq rfl ?_
  refine run_region (todo := [0]) rfl rfl ?_
  refine run_rd (v := .bool true) rfl (rd_cmp rfl rfl) ?_
  refine run_endops ?_
  refine run_seq rfl ?_
  refine run_true rfl rfl ?_
  refine run_skip rfl ?_
  refine run_seq rfl ?_
  refine run_block rfl ?_
  refine run_seq rfl ?_
  refine run_region (todo := [0, 1, 2]) rfl rfl ?_
  refine run_mv rfl ?_
  refine run_rd (v := .int .u32 0) rfl (rd_int (v := .int .u32 0) (by kernel_rfl)) ?_
  refine run_mv rfl ?_
  refine run_endops ?_
  refine run_seq rfl ?_
  refine run_region (todo := [0, 1, 2]) rfl rfl ?_
  refine run_mv rfl ?_
  refine run_rd (v := .int .u32 997073097) rfl (rd_shrL (r := 997073097) (by decide) (by kernel_rfl)) ?_
  refine run_mv rfl ?_
  refine run_endops ?_
  refine run_seq rfl ?_
  refine run_region (todo := [0, 1]) rfl rfl ?_
  refine run_mv rfl ?_
  refine run_rd (v := .bool false) rfl (rd_cmp rfl rfl) ?_
  refine run_endops ?_
  refine run_false rfl rfl ?_
  refine run_skip rfl ?_
  refine run_endblock ?_
  refine run_region (todo := [0, 1]) rfl rfl ?_
  refine run_rd (v := .int .i64 3) rfl (rd_add (r := 3) (by decide)) ?_
  refine run_mv rfl ?_
  refine run_endops ?_
  refine run_again ?_
  refine run_seq rfl ?_
  refine run_region (todo := [0]) rfl rfl ?_
  refine run_rd (v := .bool true) rfl (rd_cmp rfl rfl) ?_
  refine run_endops ?_
  refine run_seq rfl ?_
  refine run_true rfl rfl ?_
  refine run_skip rfl ?_
  refine run_seq rfl ?_
  refine run_block rfl ?_
  refine run_seq rfl ?_
  refine run_region (todo := [0, 1, 2]) rfl rfl ?_
  refine run_mv rfl ?_
  refine run_rd (v := .int .u32 1) rfl (rd_int (v := .int .u32 1) (by kernel_rfl)) ?_
  refine run_mv rfl ?_
  refine run_endops ?_
  refine run_seq rfl ?_
  refine run_region (todo := [0, 1, 2]) rfl rfl ?_
  refine run_mv rfl ?_
  refine run_rd (v := .int .u32 498536548) rfl (rd_shrL (r := 498536548) (by decide) (by kernel_rfl)) ?_
  refine run_mv rfl ?_
  refine run_endops ?_
  refine run_seq rfl ?_
  refine run_region (todo := [0, 1]) rfl rfl ?_
  refine run_mv rfl ?_
  refine run_rd (v := .bool true) rfl (rd_cmp rfl rfl) ?_
  refine run_endops ?_
  refine run_true rfl rfl ?_
  refine run_region (todo := [0, 1, 2]) rfl rfl ?_
  refine run_mv rfl ?_
  refine run_rd (v := .int .u32 4027552580) rfl (rd_int (v := .int .u32 4027552580) (by kernel_rfl)) ?_
  refine run_mv rfl ?_
  refine run_endops ?_
  refine run_endblock ?_
  refine run_region (todo := [0, 1]) rfl rfl ?_
  refine run_rd (v := .int .i64 4) rfl (rd_add (r := 4) (by decide)) ?_
  refine run_mv rfl ?_
  refine run_endops ?_
  refine run_again ?_
  refine run_seq rfl ?_
  refine run_region (todo := [0]) rfl rfl ?_
  refine run_rd (v := .bool false) rfl (rd_cmp rfl rfl) ?_
  refine run_endops ?_
  refine run_seq rfl ?_
  refine run_false rfl rfl ?_
  refine run_exit rfl rfl ?_
  refine run_region (todo := [0, 1, 2, 3]) rfl rfl ?_
  refine run_mv rfl ?_
  refine run_mv rfl ?_
  refine run_rd (v := .pointer (some ⟨g2, 9, none⟩)) rfl (rd_indexAddrA (m := 9) (o := 9) Tryd.underlying107 rfl (by decide) Tryd.sizeOf22 rfl) ?_
  refine run_store (j := 0) (c' := #[.int .u32 0, .int .u32 498536548, .int .u32 997073096, .int .u32 651767980, .int .u32 1994146192, .int .u32 1802195444, .int .u32 1303535960, .int .u32 1342533948, .int .u32 3988292384, .int .u32 4027552580, .int .u32 0, .int .u32 0, .int .u32 0, .int .u32 0, .int .u32 0, .int .u32 0]) rfl Tryd.sizeOf22 rfl rfl rfl rfl (by kernel_rfl) rfl ?_
  refine run_endops ?_
  refine run_endblock ?_
  refine run_region (todo := [0, 1]) rfl rfl ?_
  refine run_rd (v := .int .i64 10) rfl (rd_add (r := 10) (by decide)) ?_
  refine run_mv rfl ?_
  refine run_endops ?_
  refine run_again ?_
  refine run_seq rfl ?_
  refine run_region (todo := [0]) rfl rfl ?_
  refine run_rd (v := .bool true) rfl (rd_cmp rfl rfl) ?_
  refine run_endops ?_
  refine run_seq rfl ?_
  refine run_true rfl rfl ?_
  refine run_skip rfl ?_
  refine run_seq rfl ?_
  refine run_block rfl ?_
  refine run_seq rfl ?_
  refine run_region (todo := [0, 1]) rfl rfl ?_
  refine run_mv rfl ?_
  refine run_mv rfl ?_
  refine run_endops ?_
  refine run_seq rfl ?_
  refine run_region (todo := [0, 1, 2]) rfl rfl ?_
  refine run_mv rfl ?_
  refine run_rd (v := .int .u32 10) rfl (rd_toInt (r := 10) Tryd.underlying3 Tryd.underlying22 rfl) ?_
  refine run_mv rfl ?_
  refine run_endops ?_
  refine run_seq rfl ?_
  refine run_seq rfl ?_
  refine run_region (todo := [0]) rfl rfl ?_
  refine run_mv rfl ?_
  refine run_endops ?_
  refine run_block rfl ?_
  refine run_loop rfl ?_
  refine run_again ?_
  refine run_seq rfl ?_
  refine run_region (todo := [0]) rfl rfl ?_
  refine run_rd (v := .bool true) rfl (rd_cmp rfl rfl) ?_
  refine run_endops ?_
  refine run_seq rfl ?_
  refine run_true rfl rfl ?_
  refine run_skip rfl ?_
  refine run_seq rfl ?_
  refine run_block rfl ?_
  refine run_seq rfl ?_
  refine run_region (todo := [0, 1, 2]) rfl rfl ?_
  refine run_mv rfl ?_
  refine run_rd (v := .int .u32 0) rfl (rd_int (v := .int .u32 0) (by kernel_rfl)) ?_
  refine run_mv rfl ?_
  refine run_endops ?_
  refine run_seq rfl ?_
  refine run_region (todo := [0, 1, 2]) rfl rfl ?_
  refine run_mv rfl ?_
  refine run_rd (v := .int .u32 5) rfl (rd_shrL (r := 5) (by decide) (by kernel_rfl)) ?_
  refine run_mv rfl ?_
  refine run_endops ?_
  refine run_seq rfl ?_
  refine run_region (todo := [0, 1]) rfl rfl ?_
  refine run_mv rfl ?_
  refine run_rd (v := .bool false) rfl (rd_cmp rfl rfl) ?_
  refine run_endops ?_
  refine run_false rfl rfl ?_
  refine run_skip rfl ?_
  refine run_endblock ?_
  refine run_region (todo := [0, 1]) rfl rfl ?_
  refine run_rd (v := .int .i64 1) rfl (rd_add (r := 1) (by decide)) ?_
  refine run_mv rfl ?_
  refine run_endops ?_
  refine run_again ?_
  refine run_seq rfl ?_
  refine run_region (todo := [0]) rfl rfl ?_
  refine run_rd (v := .bool true) rfl (rd_cmp rfl rfl) ?_
  refine run_endops ?_
  refine run_seq rfl ?_
  refine run_true rfl rfl ?_
  refine run_skip rfl ?_
  refine run_seq rfl ?_
  refine run_block rfl ?_
  refine run_seq rfl ?_
  refine run_region (todo := [0, 1, 2]) rfl rfl ?_
  refine run_mv rfl ?_
  refine run_rd (v := .int .u32 1) rfl (rd_int (v := .int .u32 1) (by kernel_rfl)) ?_
  refine run_mv rfl ?_
  refine run_endops ?_
  refine run_seq rfl ?_
  refine run_region (todo := [0, 1, 2]) rfl rfl ?_
  refine run_mv rfl ?_
  refine run_rd (v := .int .u32 2) rfl (rd_shrL (r := 2) (by decide) (by kernel_rfl)) ?_
  refine run_mv rfl ?_
  refine run_endops ?_
  refine run_seq rfl ?_
  refine run_region (todo := [0, 1]) rfl rfl ?_
  refine run_mv rfl ?_
  refine run_rd (v := .bool true) rfl (rd_cmp rfl rfl) ?_
  refine run_endops ?_
  refine run_true rfl rfl ?_
  refine run_region (todo := [0, 1, 2]) rfl rfl ?_
  refine run_mv rfl ?_
  refine run_rd (v := .int .u32 3988292386) rfl (rd_int (v := .int .u32 3988292386) (by kernel_rfl)) ?_
  refine run_mv rfl ?_
  refine run_endops ?_
  refine run_endblock ?_
  refine run_region (todo := [0, 1]) rfl rfl ?_
  refine run_rd (v := .int .i64 2) rfl (rd_add (r := 2) (by decide)) ?_
  refine run_mv rfl ?_
  refine run_endops ?_
  refine run_again ?_
  refine run_seq rfl ?_
  refine run_region (todo := [0]) rfl rfl ?_
  refine run_rd (v := .bool true) rfl (rd_cmp rfl rfl) ?_
  refine run_endops ?_
  refine run_seq rfl ?_
  refine run_true rfl rfl ?_
  refine run_skip rfl ?_
  refine run_seq rfl ?_
  refine run_block rfl ?_
  refine run_seq rfl ?_
  refine run_region (todo := [0, 1, 2]) rfl rfl ?_
  refine run_mv rfl ?_
  refine run_rd (v := .int .u32 0) rfl (rd_int (v := .int .u32 0) (by kernel_rfl)) ?_
  refine run_mv rfl ?_
  refine run_endops ?_
  refine run_seq rfl ?_
  refine run_region (todo := [0, 1, 2]) rfl rfl ?_
  refine run_mv rfl ?_
  refine run_rd (v := .int .u32 1994146193) rfl (rd_shrL (r := 1994146193) (by decide) (by kernel_rfl)) ?_
  refine run_mv rfl ?_
  refine run_endops ?_
  refine run_seq rfl ?_
  refine run_region (todo := [0, 1]) rfl rfl ?_
  refine run_mv rfl ?_
  refine run_rd (v := .bool false) rfl (rd_cmp rfl rfl) ?_
  refine run_endops ?_
  refine run_false rfl rfl ?_
  refine run_skip rfl ?_
  refine run_endblock ?_
  refine run_region (todo := [0, 1]) rfl rfl ?_
  refine run_rd (v := .int .i64 3) rfl (rd_add (r := 3) (by decide)) ?_
  refine run_mv rfl ?_
  refine run_endops ?_
  refine run_again ?_
  refine run_seq rfl ?_
  refine run_region (todo := [0]) rfl rfl ?_
  refine run_rd (v := .bool true) rfl (rd_cmp rfl rfl) ?_
  refine run_endops ?_
  refine run_seq rfl ?_
  refine run_true rfl rfl ?_
  refine run_skip rfl ?_
  refine run_seq rfl ?_
  refine run_block rfl ?_
  refine run_seq rfl ?_
  refine run_region (todo := [0, 1, 2]) rfl rfl ?_
  refine run_mv rfl ?_
  refine run_rd (v := .int .u32 1) rfl (rd_int (v := .int .u32 1) (by kernel_rfl)) ?_
  refine run_mv rfl ?_
  refine run_endops ?_
  refine run_seq rfl ?_
  refine run_region (todo := [0, 1, 2]) rfl rfl ?_
  refine run_mv rfl ?_
  refine run_rd (v := .int .u32 997073096) rfl (rd_shrL (r := 997073096) (by decide) (by kernel_rfl)) ?_
  refine run_mv rfl ?_
  refine run_endops ?_
  refine run_seq rfl ?_
  refine run_region (todo := [0, 1]) rfl rfl ?_
  refine run_mv rfl ?_
  refine run_rd (v := .bool true) rfl (rd_cmp rfl rfl) ?_
  refine run_endops ?_
  refine run_true rfl rfl ?_
  refine run_region (todo := [0, 1, 2]) rfl rfl ?_
  refine run_mv rfl ?_
  refine run_rd (v := .int .u32 3604390888) rfl (rd_int (v := .int .u32 3604390888) (by kernel_rfl)) ?_
  refine run_mv rfl ?_
  refine run_endops ?_
  refine run_endblock ?_
  refine run_region (todo := [0, 1]) rfl rfl ?_
  refine run_rd (v := .int .i64 4) rfl (rd_add (r := 4) (by decide)) ?_
  refine run_mv rfl ?_
  refine run_endops ?_
  refine run_again ?_
  refine run_seq rfl ?_
  refine run_region (todo := [0]) rfl rfl ?_
  refine run_rd (v := .bool false) rfl (rd_cmp rfl rfl) ?_
  refine run_endops ?_
  refine run_seq rfl ?_
  refine run_false rfl rfl ?_
  refine run_exit rfl rfl ?_
  refine run_region (todo := [0, 1, 2, 3]) rfl rfl ?_
  refine run_mv rfl ?_
  refine run_mv rfl ?_
  refine run_rd (v := .pointer (some ⟨g2, 10, none⟩)) rfl (rd_indexAddrA (m := 10) (o := 10) Tryd.underlying107 rfl (by decide) Tryd.sizeOf22 rfl) ?_
  refine run_store (j := 0) (c' := #[.int .u32 0, .int .u32 498536548, .int .u32 997073096, .int .u32 651767980, .int .u32 1994146192, .int .u32 1802195444, .int .u32 1303535960, .int .u32 1342533948, .int .u32 3988292384, .int .u32 4027552580, .int .u32 3604390888, .int .u32 0, .int .u32 0, .int .u32 0, .int .u32 0, .int .u32 0]) rfl Tryd.sizeOf22 rfl rfl rfl rfl (by kernel_rfl) rfl ?_
  refine run_endops ?_
  refine run_endblock ?_
  refine run_region (todo := [0, 1]) rfl rfl ?_
  refine run_rd (v := .int .i64 11) rfl (rd_add (r := 11) (by decide)) ?_
  refine run_mv rfl ?_
  refine run_endops ?_
  refine run_again ?_
  refine run_seq rfl ?_
  refine run_region (todo := [0]) rfl rfl ?_
  refine run_rd (v := .bool true) rfl (rd_cmp rfl rfl) ?_
  refine run_endops ?_
  refine run_seq rfl ?_
  refine run_true rfl rfl ?_
  refine run_skip rfl ?_
  refine run_seq rfl ?_
  refine run_block rfl ?_
  refine run_seq rfl ?_
  refine run_region (todo := [0, 1]) rfl rfl ?_
  refine run_mv rfl ?_
  refine run_mv rfl ?_
  refine run_endops ?_
  refine run_seq rfl ?_
  refine run_region (todo := [0, 1, 2]) rfl rfl ?_
  refine run_mv rfl ?_
  refine run_rd (v := .int .u32 11) rfl (rd_toInt (r := 11) Tryd.underlying3 Tryd.underlying22 rfl) ?_
  refine run_mv rfl ?_
  refine run_endops ?_
  refine run_seq rfl ?_
  refine run_seq rfl ?_
  refine run_region (todo := [0]) rfl rfl ?_
  refine run_mv rfl ?_
  refine run_endops ?_
  refine run_block rfl ?_
  refine run_loop rfl ?_
  refine run_again ?_
  refine run_seq rfl ?_
  refine run_region (todo := [0]) rfl rfl ?_
  refine run_rd (v := .bool true) rfl (rd_cmp rfl rfl) ?_
  refine run_endops ?_
  refine run_seq rfl ?_
  refine run_true rfl rfl ?_
  refine run_skip rfl ?_
  refine run_seq rfl ?_
  refine run_block rfl ?_
  refine run_seq rfl ?_
  refine run_region (todo := [0, 1, 2]) rfl rfl ?_
  refine run_mv rfl ?_
  refine run_rd (v := .int .u32 1) rfl (rd_int (v := .int .u32 1) (by kernel_rfl)) ?_
  refine run_mv rfl ?_
  refine run_endops ?_
  refine run_seq rfl ?_
  refine run_region (todo := [0, 1, 2]) rfl rfl ?_
  refine run_mv rfl ?_
  refine run_rd (v := .int .u32 5) rfl (rd_shrL (r := 5) (by decide) (by kernel_rfl)) ?_
  refine run_mv rfl ?_
  refine run_endops ?_
  refine run_seq rfl ?_
  refine run_region (todo := [0, 1]) rfl rfl ?_
  refine run_mv rfl ?_
  refine run_rd (v := .bool true) rfl (rd_cmp rfl rfl) ?_
  refine run_endops ?_
  refine run_true rfl rfl ?_
  refine run_region (todo := [0, 1, 2]) rfl rfl ?_
  refine run_mv rfl ?_
  refine run_rd (v := .int .u32 3988292389) rfl (rd_int (v := .int .u32 3988292389) (by kernel_rfl)) ?_
  refine run_mv rfl ?_
  refine run_endops ?_
  refine run_endblock ?_
  refine run_region (todo := [0, 1]) rfl rfl ?_
  refine run_rd (v := .int .i64 1) rfl (rd_add (r := 1) (by decide)) ?_
  refine run_mv rfl ?_
  refine run_endops ?_
  refine run_again ?_
  refine run_seq rfl ?_
  refine run_region (todo := [0]) rfl rfl ?_
  refine run_rd (v := .bool true) rfl (rd_cmp rfl rfl) ?_
  refine run_endops ?_
  refine run_seq rfl ?_
  refine run_true rfl rfl ?_
  refine run_skip rfl ?_
  refine run_seq rfl ?_
  refine run_block rfl ?_
  refine run_seq rfl ?_
  refine run_region (todo := [0, 1, 2]) rfl rfl ?_
  refine run_mv rfl ?_
  refine run_rd (v := .int .u32 1) rfl (rd_int (v := .int .u32 1) (by kernel_rfl)) ?_
  refine run_mv rfl ?_
  refine run_endops ?_
  refine run_seq rfl ?_
  refine run_region (todo := [0, 1, 2]) rfl rfl ?_
  refine run_mv rfl ?_
  refine run_rd (v := .int .u32 1994146194) rfl (rd_shrL (r := 1994146194) (by decide) (by kernel_rfl)) ?_
  refine run_mv rfl ?_
  refine run_endops ?_
  refine run_seq rfl ?_
  refine run_region (todo := [0, 1]) rfl rfl ?_
  refine run_mv rfl ?_
  refine run_rd (v := .bool true) rfl (rd_cmp rfl rfl) ?_
  refine run_endops ?_
  refine run_true rfl rfl ?_
  refine run_region (todo := [0, 1, 2]) rfl rfl ?_
  refine run_mv rfl ?_
  refine run_rd (v := .int .u32 2607071922) rfl (rd_int (v := .int .u32 2607071922) (by kernel_rfl)) ?_
  refine run_mv rfl ?_
  refine run_endops ?_
  refine run_endblock ?_
  refine run_region (todo := [0, 1]) rfl rfl ?_
  refine run_rd (v := .int .i64 2) rfl (rd_add (r := 2) (by decide)) ?_
  refine run_mv rfl ?_
  refine run_endops ?_
  refine run_again ?_
  refine run_seq rfl ?_
  refine run_region (todo := [0]) rfl rfl ?_
  refine run_rd (v := .bool true) rfl (rd_cmp rfl rfl) ?_
  refine run_endops ?_
  refine run_seq rfl ?_
  refine run_true rfl rfl ?_
  refine run_skip rfl ?_
  refine run_seq rfl ?_
  refine run_block rfl ?_
  refine run_seq rfl ?_
  refine run_region (todo := [0, 1, 2]) rfl rfl ?_
  refine run_mv rfl ?_
  refine run_rd (v := .int .u32 0) rfl (rd_int (v := .int .u32 0) (by kernel_rfl)) ?_
  refine run_mv rfl ?_
  refine run_endops ?_
  refine run_seq rfl ?_
  refine run_region (todo := [0, 1, 2]) rfl rfl ?_
  refine run_mv rfl ?_
  refine run_rd (v := .int .u32 1303535961) rfl (rd_shrL (r := 1303535961) (by decide) (by kernel_rfl)) ?_
  refine run_mv rfl ?_
  refine run_endops ?_
  refine run_seq rfl ?_
  refine run_region (todo := [0, 1]) rfl rfl ?_
  refine run_mv rfl ?_
  refine run_rd (v := .bool false) rfl (rd_cmp rfl rfl) ?_
  refine run_endops ?_
  refine run_false rfl rfl ?_
  refine run_skip rfl ?_
  refine run_endblock ?_
  refine run_region (todo := [0, 1]) rfl rfl ?_
  refine run_rd (v := .int .i64 3) rfl (rd_add (r := 3) (by decide)) ?_
  refine run_mv rfl ?_
  refine run_endops ?_
  refine run_again ?_
  refine run_seq rfl ?_
  refine run_region (todo := [0]) rfl rfl ?_
  refine run_rd (v := .bool true) rfl (rd_cmp rfl rfl) ?_
  refine run_endops ?_
  refine run_seq rfl ?_
  refine run_true rfl rfl ?_
  refine run_skip rfl ?_
  refine run_seq rfl ?_
  refine run_block rfl ?_
  refine run_seq rfl ?_
  refine run_region (todo := [0, 1, 2]) rfl rfl ?_
  refine run_mv rfl ?_
  refine run_rd (v := .int .u32 1) rfl (rd_int (v := .int .u32 1) (by kernel_rfl)) ?_
  refine run_mv rfl ?_
  refine run_endops ?_
  refine run_seq rfl ?_
  refine run_region (todo := [0, 1, 2]) rfl rfl ?_
  refine run_mv rfl ?_
  refine run_rd (v := .int .u32 651767980) rfl (rd_shrL (r := 651767980) (by decide) (by kernel_rfl)) ?_
  refine run_mv rfl ?_
  refine run_endops ?_
  refine run_seq rfl ?_
  refine run_region (todo := [0, 1]) rfl rfl ?_
  refine run_mv rfl ?_
  refine run_rd (v := .bool true) rfl (rd_cmp rfl rfl) ?_
  refine run_endops ?_
  refine run_true rfl rfl ?_
  refine run_region (todo := [0, 1, 2]) rfl rfl ?_
  refine run_mv rfl ?_
  refine run_rd (v := .int .u32 3412177804) rfl (rd_int (v := .int .u32 3412177804) (by kernel_rfl)) ?_
  refine run_mv rfl ?_
  refine run_endops ?_
  refine run_endblock ?_
  refine run_region (todo := [0, 1]) rfl rfl ?_
  refine run_rd (v := .int .i64 4) rfl (rd_add (r := 4) (by decide)) ?_
  refine run_mv rfl ?_
  refine run_endops ?_
  refine run_again ?_
  refine run_seq rfl ?_
  refine run_region (todo := [0]) rfl rfl ?_
  refine run_rd (v := .bool false) rfl (rd_cmp rfl rfl) ?_
  refine run_endops ?_
  refine run_seq rfl ?_
  refine run_false rfl rfl ?_
  refine run_exit rfl rfl ?_
  refine run_region (todo := [0, 1, 2, 3]) rfl rfl ?_
  refine run_mv rfl ?_
  refine run_mv rfl ?_
  refine run_rd (v := .pointer (some ⟨g2, 11, none⟩)) rfl (rd_indexAddrA (m := 11) (o := 11) Tryd.underlying107 rfl (by decide) Tryd.sizeOf22 rfl) ?_
  refine run_store (j := 0) (c' := #[.int .u32 0, .int .u32 498536548, .int .u32 997073096, .int .u32 651767980, .int .u32 1994146192, .int .u32 1802195444, .int .u32 1303535960, .int .u32 1342533948, .int .u32 3988292384, .int .u32 4027552580, .int .u32 3604390888, .int .u32 3412177804, .int .u32 0, .int .u32 0, .int .u32 0, .int .u32 0]) rfl Tryd.sizeOf22 rfl rfl rfl rfl (by kernel_rfl) rfl ?_
  refine run_endops ?_
  refine run_endblock ?_
  refine run_region (todo := [0, 1]) rfl rfl ?_
  refine run_rd (v := .int .i64 12) rfl (rd_add (r := 12) (by decide)) ?_
  refine run_mv rfl ?_
  refine run_endops ?_
  refine run_again ?_
  refine run_seq rfl ?_
  refine run_region (todo := [0]) rfl rfl ?_
  refine run_rd (v := .bool true) rfl (rd_cmp rfl rfl) ?_
  refine run_endops ?_
  refine run_seq rfl ?_
  refine run_true rfl rfl ?_
  refine run_skip rfl ?_
  refine run_seq rfl ?_
  refine run_block rfl ?_
  refine run_seq rfl ?_
  refine run_region (todo := [0, 1]) rfl rfl ?_
  refine run_mv rfl ?_
  refine run_mv rfl ?_
  refine run_endops ?_
  refine run_seq rfl ?_
  refine run_region (todo := [0, 1, 2]) rfl rfl ?_
  refine run_mv rfl ?_
  refine run_rd (v := .int .u32 12) rfl (rd_toInt (r := 12) Tryd.underlying3 Tryd.underlying22 rfl) ?_
  refine run_mv rfl ?_
  refine run_endops ?_
  refine run_seq rfl ?_
  refine run_seq rfl ?_
  refine run_region (todo := [0]) rfl rfl ?_
  refine run_mv rfl ?_
  refine run_endops ?_
  refine run_block rfl ?_
  refine run_loop rfl ?_
  refine run_again ?_
  refine run_seq rfl ?_
  refine run_region (todo := [0]) rfl rfl ?_
  refine run_rd (v := .bool true) rfl (rd_cmp rfl rfl) ?_
  refine run_endops ?_
  refine run_seq rfl ?_
  refine run_true rfl rfl ?_
  refine run_skip rfl ?_
  refine run_seq rfl ?_
  refine run_block rfl ?_
  refine run_seq rfl ?_
  refine run_region (todo := [0, 1, 2]) rfl rfl ?_
  refine run_mv rfl ?_
  refine run_rd (v := .int .u32 0) rfl (rd_int (v := .int .u32 0) (by kernel_rfl)) ?_
  refine run_mv rfl ?_
  refine run_endops ?_
  refine run_seq rfl ?_
  refine run_region (todo := [0, 1, 2]) rfl rfl ?_
  refine run_mv rfl ?_
  refine run_rd (v := .int .u32 6) rfl (rd_shrL (r := 6) (by decide) (by kernel_rfl)) ?_
  refine run_mv rfl ?_
  refine run_endops ?_
  refine run_seq rfl ?_
  refine run_region (todo := [0, 1]) rfl rfl ?_
  refine run_mv rfl ?_
  refine run_rd (v := .bool false) rfl (rd_cmp rfl rfl) ?_
  refine run_endops ?_
  refine run_false rfl rfl ?_
  refine run_skip rfl ?_
  refine run_endblock ?_
  refine run_region (todo := [0, 1]) rfl rfl ?_
  refine run_rd (v := .int .i64 1) rfl (rd_add (r := 1) (by decide)) ?_
  refine run_mv rfl ?_
  refine run_endops ?_
  refine run_again ?_
  refine run_seq rfl ?_
  refine run_region (todo := [0]) rfl rfl ?_
  refine run_rd (v := .bool true) rfl (rd_cmp rfl rfl) ?_
  refine run_endops ?_
  refine run_seq rfl ?_
  refine run_true rfl rfl ?_
  refine run_skip rfl ?_
  refine run_seq rfl ?_
  refine run_block rfl ?_
  refine run_seq rfl ?_
  refine run_region (todo := [0, 1, 2]) rfl rfl ?_
  refine run_mv rfl ?_
  refine run_rd (v := .int .u32 0) rfl (rd_int (v := .int .u32 0) (by kernel_rfl)) ?_
  refine run_mv rfl ?_
  refine run_endops ?_
  refine run_seq rfl ?_
  refine run_region (todo := [0, 1, 2]) rfl rfl ?_
  refine run_mv rfl ?_
  refine run_rd (v := .int .u32 3) rfl (rd_shrL (r := 3) (by decide) (by kernel_rfl)) ?_
  refine run_mv rfl ?_
  refine run_endops ?_
  refine run_seq rfl ?_
  refine run_region (todo := [0, 1]) rfl rfl ?_
  refine run_mv rfl ?_
  refine run_rd (v := .bool false) rfl (rd_cmp rfl rfl) ?_
  refine run_endops ?_
  refine run_false rfl rfl ?_
  refine run_skip rfl ?_
  refine run_endblock ?_
  refine run_region (todo := [0, 1]) rfl rfl ?_
  refine run_rd (v := .int .i64 2) rfl (rd_add (r := 2) (by decide)) ?_
  refine run_mv rfl ?_
  refine run_endops ?_
  refine run_again ?_
  refine run_seq rfl ?_
  refine run_region (todo := [0]) rfl rfl ?_
  refine run_rd (v := .bool true) rfl (rd_cmp rfl rfl) ?_
  refine run_endops ?_
  refine run_seq rfl ?_
  refine run_true rfl rfl ?_
  refine run_skip rfl ?_
  refine run_seq rfl ?_
  refine run_block rfl ?_
  refine run_seq rfl ?_
  refine run_region (todo := [0, 1, 2]) rfl rfl ?_
  refine run_mv rfl ?_
  refine run_rd (v := .int .u32 1) rfl (rd_int (v := .int .u32 1) (by kernel_rfl)) ?_
  refine run_mv rfl ?_
  refine run_endops ?_
  refine run_seq rfl ?_
  refine run_region (todo := [0, 1, 2]) rfl rfl ?_
  refine run_mv rfl ?_
  refine run_rd (v := .int .u32 1) rfl (rd_shrL (r := 1) (by decide) (by kernel_rfl)) ?_
  refine run_mv rfl ?_
  refine run_endops ?_
  refine run_seq rfl ?_
  refine run_region (todo := [0, 1]) rfl rfl ?_
  refine run_mv rfl ?_
  refine run_rd (v := .bool true) rfl (rd_cmp rfl rfl) ?_
  refine run_endops ?_
  refine run_true rfl rfl ?_
  refine run_region (todo := [0, 1, 2]) rfl rfl ?_
  refine run_mv rfl ?_
  refine run_rd (v := .int .u32 3988292385) rfl (rd_int (v := .int .u32 3988292385) (by kernel_rfl)) ?_
  refine run_mv rfl ?_
  refine run_endops ?_
  refine run_endblock ?_
  refine run_region (todo := [0, 1]) rfl rfl ?_
  refine run_rd (v := .int .i64 3) rfl (rd_add (r := 3) (by decide)) ?_
  refine run_mv rfl ?_
  refine run_endops ?_
  refine run_again ?_
  refine run_seq rfl ?_
  refine run_region (todo := [0]) rfl rfl ?_
  refine run_rd (v := .bool true) rfl (rd_cmp rfl rfl) ?_
  refine run_endops ?_
  refine run_seq rfl ?_
  refine run_true rfl rfl ?_
  refine run_skip rfl ?_
  refine run_seq rfl ?_
  refine run_block rfl ?_
  refine run_seq rfl ?_
  refine run_region (todo := [0, 1, 2]) rfl rfl ?_
  refine run_mv rfl ?_
  refine run_rd (v := .int .u32 1) rfl (rd_int (v := .int .u32 1) (by kernel_rfl)) ?_
  refine run_mv rfl ?_
  refine run_endops ?_
  refine run_seq rfl ?_
  refine run_region (todo := [0, 1, 2]) rfl rfl ?_
  refine run_mv rfl ?_
  refine run_rd (v := .int .u32 1994146192) rfl (rd_shrL (r := 1994146192) (by decide) (by kernel_rfl)) ?_
  refine run_mv rfl ?_
  refine run_endops ?_
  refine run_seq rfl ?_
  refine run_region (todo := [0, 1]) rfl rfl ?_
  refine run_mv rfl ?_
  refine run_rd (v := .bool true) rfl (rd_cmp rfl rfl) ?_
  refine run_endops ?_
  refine run_true rfl rfl ?_
  refine run_region (todo := [0, 1, 2]) rfl rfl ?_
  refine run_mv rfl ?_
  refine run_rd (v := .int .u32 2607071920) rfl (rd_int (v := .int .u32 2607071920) (by kernel_rfl)) ?_
  refine run_mv rfl ?_
  refine run_endops ?_
  refine run_endblock ?_
  refine run_region (todo := [0, 1]) rfl rfl ?_
  refine run_rd (v := .int .i64 4) rfl (rd_add (r := 4) (by decide)) ?_
  refine run_mv rfl ?_
  refine run_endops ?_
  refine run_again ?_
  refine run_seq rfl ?_
  refine run_region (todo := [0]) rfl rfl ?_
  refine run_rd (v := .bool false) rfl (rd_cmp rfl rfl) ?_
  refine run_endops ?_
  refine run_seq rfl ?_
  refine run_false rfl rfl ?_
  refine run_exit rfl rfl ?_
  refine run_region (todo := [0, 1, 2, 3]) rfl rfl ?_
  refine run_mv rfl ?_
  refine run_mv rfl ?_
  refine run_rd (v := .pointer (some ⟨g2, 12, none⟩)) rfl (rd_indexAddrA (m := 12) (o := 12) Tryd.underlying107 rfl (by decide) Tryd.sizeOf22 rfl) ?_
  refine run_store (j := 0) (c' := #[.int .u32 0, .int .u32 498536548, .int .u32 997073096, .int .u32 651767980, .int .u32 1994146192, .int .u32 1802195444, .int .u32 1303535960, .int .u32 1342533948, .int .u32 3988292384, .int .u32 4027552580, .int .u32 3604390888, .int .u32 3412177804, .int .u32 2607071920, .int .u32 0, .int .u32 0, .int .u32 0]) rfl Tryd.sizeOf22 rfl rfl rfl rfl (by kernel_rfl) rfl ?_
  refine run_endops ?_
  refine run_endblock ?_
  refine run_region (todo := [0, 1]) rfl rfl ?_
  refine run_rd (v := .int .i64 13) rfl (rd_add (r := 13) (by decide)) ?_
  refine run_mv rfl ?_
  refine run_endops ?_
  refine run_again ?_
  refine run_seq rfl ?_
  refine run_region (todo := [0]) rfl rfl ?_
  refine run_rd (v := .bool true) rfl (rd_cmp rfl rfl) ?_
  refine run_endops ?_
  refine run_seq rfl ?_
  refine run_true rfl rfl ?_
  refine run_skip rfl ?_
  refine run_seq rfl ?_
  refine run_block rfl ?_
  refine run_seq rfl ?_
  refine run_region (todo := [0, 1]) rfl rfl ?_
  refine run_mv rfl ?_
  refine run_mv rfl ?_
  refine run_endops ?_
  refine run_seq rfl ?_
  refine run_region (todo := [0, 1, 2]) rfl rfl ?_
  refine run_mv rfl ?_
  refine run_rd (v := .int .u32 13) rfl (rd_toInt (r := 13) Tryd.underlying3 Tryd.underlying22 rfl) ?_
  refine run_mv rfl ?_
  refine run_endops ?_
  refine run_seq rfl ?_
  refine run_seq rfl ?_
  refine run_region (todo := [0]) rfl rfl ?_
  refine run_mv rfl ?_
  refine run_endops ?_
  refine run_block rfl ?_
  refine run_loop rfl ?_
  refine run_again ?_
  refine run_seq rfl ?_
  refine run_region (todo := [0]) rfl rfl ?_
  refine run_rd (v := .bool true) rfl (rd_cmp rfl rfl) ?_
  refine run_endops ?_
  refine run_seq rfl ?_
  refine run_true rfl rfl ?_
  refine run_skip rfl ?_
  refine run_seq rfl ?_
  refine run_block rfl ?_
  refine run_seq rfl ?_
  refine run_region (todo := [0, 1, 2]) rfl rfl ?_
  refine run_mv rfl ?_
  refine run_rd (v := .int .u32 1) rfl (rd_int (v := .int .u32 1) (by kernel_rfl)) ?_
  refine run_mv rfl ?_
  refine run_endops ?_
  refine run_seq rfl ?_
  refine run_region (todo := [0, 1, 2]) rfl rfl ?_
  refine run_mv rfl ?_
  refine run_rd (v := .int .u32 6) rfl (rd_shrL (r := 6) (by decide) (by kernel_rfl)) ?_
  refine run_mv rfl ?_
  refine run_endops ?_
  refine run_seq rfl ?_
  refine run_region (todo := [0, 1]) rfl rfl ?_
  refine run_mv rfl ?_
  refine run_rd (v := .bool true) rfl (rd_cmp rfl rfl) ?_
  refine run_endops ?_
  refine run_true rfl rfl ?_
  refine run_region (todo := [0, 1, 2]) rfl rfl ?_
  refine run_mv rfl ?_
  refine run_rd (v := .int .u32 3988292390) rfl (rd_int (v := .int .u32 3988292390) (by kernel_rfl)) ?_
  refine run_mv rfl ?_
  refine run_endops ?_
  refine run_endblock ?_
  refine run_region (todo := [0, 1]) rfl rfl ?_
  refine run_rd (v := .int .i64 1) rfl (rd_add (r := 1) (by decide)) ?_
  refine run_mv rfl ?_
  refine run_endops ?_
  refine run_again ?_
  refine run_seq rfl ?_
  refine run_region (todo := [0]) rfl rfl ?_
  refine run_rd (v := .bool true) rfl (rd_cmp rfl rfl) ?_
  refine run_endops ?_
  refine run_seq rfl ?_
  refine run_true rfl rfl ?_
  refine run_skip rfl ?_
  refine run_seq rfl ?_
  refine run_block rfl ?_
  refine run_seq rfl ?_
  refine run_region (todo := [0, 1, 2]) rfl rfl ?_
  refine run_mv rfl ?_
  refine run_rd (v := .int .u32 0) rfl (rd_int (v := .int .u32 0) (by kernel_rfl)) ?_
  refine run_mv rfl ?_
  refine run_endops ?_
  refine run_seq rfl ?_
  refine run_region (todo := [0, 1, 2]) rfl rfl ?_
  refine run_mv rfl ?_
  refine run_rd (v := .int .u32 1994146195) rfl (rd_shrL (r := 1994146195) (by decide) (by kernel_rfl)) ?_
  refine run_mv rfl ?_
  refine run_endops ?_
  refine run_seq rfl ?_
  refine run_region (todo := [0, 1]) rfl rfl ?_
  refine run_mv rfl ?_
  refine run_rd (v := .bool false) rfl (rd_cmp rfl rfl) ?_
  refine run_endops ?_
  refine run_false rfl rfl ?_
  refine run_skip rfl ?_
  refine run_endblock ?_
  refine run_region (todo := [0, 1]) rfl rfl ?_
  refine run_rd (v := .int .i64 2) rfl (rd_add (r := 2) (by decide)) ?_
  refine run_mv rfl ?_
  refine run_endops ?_
  refine run_again ?_
  refine run_seq rfl ?_
  refine run_region (todo := [0]) rfl rfl ?_
  refine run_rd (v := .bool true) rfl (rd_cmp rfl rfl) ?_
  refine run_endops ?_
  refine run_seq rfl ?_
  refine run_true rfl rfl ?_
  refine run_skip rfl ?_
  refine run_seq rfl ?_
  refine run_block rfl ?_
  refine run_seq rfl ?_
  refine run_region (todo := [0, 1, 2]) rfl rfl ?_
  refine run_mv rfl ?_
  refine run_rd (v := .int .u32 1) rfl (rd_int (v := .int .u32 1) (by kernel_rfl)) ?_
  refine run_mv rfl ?_
  refine run_endops ?_
  refine run_seq rfl ?_
  refine run_region (todo := [0, 1, 2]) rfl rfl ?_
  refine run_mv rfl ?_
  refine run_rd (v := .int .u32 997073097) rfl (rd_shrL (r := 997073097) (by decide) (by kernel_rfl)) ?_
  refine run_mv rfl ?_
  refine run_endops ?_
  refine run_seq rfl ?_
  refine run_region (todo := [0, 1]) rfl rfl ?_
  refine run_mv rfl ?_
  refine run_rd (v := .bool true) rfl (rd_cmp rfl rfl) ?_
  refine run_endops ?_
  refine run_true rfl rfl ?_
  refine run_region (todo := [0, 1, 2]) rfl rfl ?_
  refine run_mv rfl ?_
  refine run_rd (v := .int .u32 3604390889) rfl (rd_int (v := .int .u32 3604390889) (by kernel_rfl)) ?_
  refine run_mv rfl ?_
  refine run_endops ?_
  refine run_endblock ?_
  refine run_region (todo := [0, 1]) rfl rfl ?_
  refine run_rd (v := .int .i64 3) rfl (rd_add (r := 3) (by decide)) ?_
  refine run_mv rfl ?_
  refine run_endops ?_
  refine run_again ?_
  refine run_seq rfl ?_
  refine run_region (todo := [0]) rfl rfl ?_
  refine run_rd (v := .bool true) rfl (rd_cmp rfl rfl) ?_
  refine run_endops ?_
  refine run_seq rfl ?_
  refine run_true rfl rfl ?_
  refine run_skip rfl ?_
  refine run_seq rfl ?_
  refine run_block rfl ?_
  refine run_seq rfl ?_
  refine run_region (todo := [0, 1, 2]) rfl rfl ?_
  refine run_mv rfl ?_
  refine run_rd (v := .int .u32 1) rfl (rd_int (v := .int .u32 1) (by kernel_rfl)) ?_
  refine run_mv rfl ?_
  refine run_endops ?_
  refine run_seq rfl ?_
  refine run_region (todo := [0, 1, 2]) rfl rfl ?_
  refine run_mv rfl ?_
  refine run_rd (v := .int .u32 1802195444) rfl (rd_shrL (r := 1802195444) (by decide) (by kernel_rfl)) ?_
  refine run_mv rfl ?_
  refine run_endops ?_
  refine run_seq rfl ?_
  refine run_region (todo := [0, 1]) rfl rfl ?_
  refine run_mv rfl ?_
  refine run_rd (v := .bool true) rfl (rd_cmp rfl rfl) ?_
  refine run_endops ?_
  refine run_true rfl rfl ?_
  refine run_region (todo := [0, 1, 2]) rfl rfl ?_
  refine run_mv rfl ?_
  refine run_rd (v := .int .u32 2262029012) rfl (rd_int (v := .int .u32 2262029012) (by kernel_rfl)) ?_
  refine run_mv rfl ?_
  refine run_endops ?_
  refine run_endblock ?_
  refine run_region (todo := [0, 1]) rfl rfl ?_
  refine run_rd (v := .int .i64 4) rfl (rd_add (r := 4) (by decide)) ?_
  refine run_mv rfl ?_
  refine run_endops ?_
  refine run_again ?_
  refine run_seq rfl ?_
  refine run_region (todo := [0]) rfl rfl ?_
  refine run_rd (v := .bool false) rfl (rd_cmp rfl rfl) ?_
  refine run_endops ?_
  refine run_seq rfl ?_
  refine run_false rfl rfl ?_
  refine run_exit rfl rfl ?_
  refine run_region (todo := [0, 1, 2, 3]) rfl rfl ?_
  refine run_mv rfl ?_
  refine run_mv rfl ?_
  refine run_rd (v := .pointer (some ⟨g2, 13, none⟩)) rfl (rd_indexAddrA (m := 13) (o := 13) Tryd.underlying107 rfl (by decide) Tryd.sizeOf22 rfl) ?_
  refine run_store (j := 0) (c' := #[.int .u32 0, .int .u32 498536548, .int .u32 997073096, .int .u32 651767980, .int .u32 1994146192, .int .u32 1802195444, .int .u32 1303535960, .int .u32 1342533948, .int .u32 3988292384, .int .u32 4027552580, .int .u32 3604390888, .int .u32 3412177804, .int .u32 2607071920, .int .u32 2262029012, .int .u32 0, .int .u32 0]) rfl Tryd.sizeOf22 rfl rfl rfl rfl (by kernel_rfl) rfl ?_
  refine run_endops ?_
  refine run_endblock ?_
  refine run_region (todo := [0, 1]) rfl rfl ?_
  refine run_rd (v := .int .i64 14) rfl (rd_add (r := 14) (by decide)) ?_
  refine run_mv rfl ?_
  refine run_endops ?_
  refine run_again ?_
  refine run_seq rfl ?_
  refine run_region (todo := [0]) rfl rfl ?_
  refine run_rd (v := .bool true) rfl (rd_cmp rfl rfl) ?_
  refine run_endops ?_
  refine run_seq rfl ?_
  refine run_true rfl rfl ?_
  refine run_skip rfl ?_
  refine run_seq rfl ?_
  refine run_block rfl ?_
  refine run_seq rfl ?_
  refine run_region (todo := [0, 1]) rfl rfl ?_
  refine run_mv rfl ?_
  refine run_mv rfl ?_
  refine run_endops ?_
  refine run_seq rfl ?_
  refine run_region (todo := [0, 1, 2]) rfl rfl ?_
  refine run_mv rfl ?_
  refine run_rd (v := .int .u32 14) rfl (rd_toInt (r := 14) Tryd.underlying3 Tryd.underlying22 rfl) ?_
  refine run_mv rfl ?_
  refine run_endops ?_
  refine run_seq rfl ?_
  refine run_seq rfl ?_
  refine run_region (todo := [0]) rfl rfl ?_
  refine run_mv rfl ?_
  refine run_endops ?_
  refine run_block rfl ?_
  refine run_loop rfl ?_
  refine run_again ?_
  refine run_seq rfl ?_
  refine run_region (todo := [0]) rfl rfl ?_
  refine run_rd (v := .bool true) rfl (rd_cmp rfl rfl) ?_
  refine run_endops ?_
  refine run_seq rfl ?_
  refine run_true rfl rfl ?_
  refine run_skip rfl ?_
  refine run_seq rfl ?_
  refine run_block rfl ?_
  refine run_seq rfl ?_
  refine run_region (todo := [0, 1, 2]) rfl rfl ?_
  refine run_mv rfl ?_
  refine run_rd (v := .int .u32 0) rfl (rd_int (v := .int .u32 0) (by kernel_rfl)) ?_
  refine run_mv rfl ?_
  refine run_endops ?_
  refine run_seq rfl ?_
  refine run_region (todo := [0, 1, 2]) rfl rfl ?_
  refine run_mv rfl ?_
  refine run_rd (v := .int .u32 7) rfl (rd_shrL (r := 7) (by decide) (by kernel_rfl)) ?_
  refine run_mv rfl ?_
  refine run_endops ?_
  refine run_seq rfl ?_
  refine run_region (todo := [0, 1]) rfl rfl ?_
  refine run_mv rfl ?_
  refine run_rd (v := .bool false) rfl (rd_cmp rfl rfl) ?_
  refine run_endops ?_
  refine run_false rfl rfl ?_
  refine run_skip rfl ?_
  refine run_endblock ?_
  refine run_region (todo := [0, 1]) rfl rfl ?_
  refine run_rd (v := .int .i64 1) rfl (rd_add (r := 1) (by decide)) ?_
  refine run_mv rfl ?_
  refine run_endops ?_
  refine run_again ?_
  refine run_seq rfl ?_
  refine run_region (todo := [0]) rfl rfl ?_
  refine run_rd (v := .bool true) rfl (rd_cmp rfl rfl) ?_
  refine run_endops ?_
  refine run_seq rfl ?_
  refine run_true rfl rfl ?_
  refine run_skip rfl ?_
  refine run_seq rfl ?_
  refine run_block rfl ?_
  refine run_seq rfl ?_
  refine run_region (todo := [0, 1, 2]) rfl rfl ?_
  refine run_mv rfl ?_
  refine run_rd (v := .int .u32 1) rfl (rd_int (v := .int .u32 1) (by kernel_rfl)) ?_
  refine run_mv rfl ?_
  refine run_endops ?_
  refine run_seq rfl ?_
  refine run_region (todo := [0, 1, 2]) rfl rfl ?_
  refine run_mv rfl ?_
  refine run_rd (v := .int .u32 3) rfl (rd_shrL (r := 3) (by decide) (by kernel_rfl)) ?_
  refine run_mv rfl ?_
  refine run_endops ?_
  refine run_seq rfl ?_
  refine run_region (todo := [0, 1]) rfl rfl ?_
  refine run_mv rfl ?_
  refine run_rd (v := .bool true) rfl (rd_cmp rfl rfl) ?_
  refine run_endops ?_
  refine run_true rfl rfl ?_
  refine run_region (todo := [0, 1, 2]) rfl rfl ?_
  refine run_mv rfl ?_
  refine run_rd (v := .int .u32 3988292387) rfl (rd_int (v := .int .u32 3988292387) (by kernel_rfl)) ?_
  refine run_mv rfl ?_
  refine run_endops ?_
  refine run_endblock ?_
  refine run_region (todo := [0, 1]) rfl rfl ?_
  refine run_rd (v := .int .i64 2) rfl (rd_add (r := 2) (by decide)) ?_
  refine run_mv rfl ?_
  refine run_endops ?_
  refine run_again ?_
  refine run_seq rfl ?_
  refine run_region (todo := [0]) rfl rfl ?_
  refine run_rd (v := .bool true) rfl (rd_cmp rfl rfl) ?_
  refine run_endops ?_
  refine run_seq rfl ?_
  refine run_true rfl rfl ?_
  refine run_skip rfl ?_
  refine run_seq rfl ?_
  refine run_block rfl ?_
  refine run_seq rfl ?_
  refine run_region (todo := [0, 1, 2]) rfl rfl ?_
  refine run_mv rfl ?_
  refine run_rd (v := .int .u32 1) rfl (rd_int (v := .int .u32 1) (by kernel_rfl)) ?_
  refine run_mv rfl ?_
  refine run_endops ?_
  refine run_seq rfl ?_
  refine run_region (todo := [0, 1, 2]) rfl rfl ?_
  refine run_mv rfl ?_
  refine run_rd (v := .int .u32 1994146193) rfl (rd_shrL (r := 1994146193) (by decide) (by kernel_rfl)) ?_
  refine run_mv rfl ?_
  refine run_endops ?_
  refine run_seq rfl ?_
  refine run_region (todo := [0, 1]) rfl rfl ?_
  refine run_mv rfl ?_
  refine run_rd (v := .bool true) rfl (rd_cmp rfl rfl) ?_
  refine run_endops ?_
  refine run_true rfl rfl ?_
  refine run_region (todo := [0, 1, 2]) rfl rfl ?_
  refine run_mv rfl ?_
  refine run_rd (v := .int .u32 2607071921) rfl (rd_int (v := .int .u32 2607071921) (by kernel_rfl)) ?_
  refine run_mv rfl ?_
  refine run_endops ?_
  refine run_endblock ?_
  refine run_region (todo := [0, 1]) rfl rfl ?_
  refine run_rd (v := .int .i64 3) rfl (rd_add (r := 3) (by decide)) ?_
  refine run_mv rfl ?_
  refine run_endops ?_
  refine run_again ?_
  refine run_seq rfl ?_
  refine run_region (todo := [0]) rfl rfl ?_
  refine run_rd (v := .bool true) rfl (rd_cmp rfl rfl) ?_
  refine run_endops ?_
  refine run_seq rfl ?_
  refine run_true rfl rfl ?_
  refine run_skip rfl ?_
  refine run_seq rfl ?_
  refine run_block rfl ?_
  refine run_seq rfl ?_
  refine run_region (todo := [0, 1, 2]) rfl rfl ?_
  refine run_mv rfl ?_
  refine run_rd (v := .int .u32 1) rfl (rd_int (v := .int .u32 1) (by kernel_rfl)) ?_
  refine run_mv rfl ?_
  refine run_endops ?_
  refine run_seq rfl ?_
  refine run_region (todo := [0, 1, 2]) rfl rfl ?_
  refine run_mv rfl ?_
  refine run_rd (v := .int .u32 1303535960) rfl (rd_shrL (r := 1303535960) (by decide) (by kernel_rfl)) ?_
  refine run_mv rfl ?_
  refine run_endops ?_
  refine run_seq rfl ?_
  refine run_region (todo := [0, 1]) rfl rfl ?_
  refine run_mv rfl ?_
  refine run_rd (v := .bool true) rfl (rd_cmp rfl rfl) ?_
  refine run_endops ?_
  refine run_true rfl rfl ?_
  refine run_region (todo := [0, 1, 2]) rfl rfl ?_
  refine run_mv rfl ?_
  refine run_rd (v := .int .u32 2685067896) rfl (rd_int (v := .int .u32 2685067896) (by kernel_rfl)) ?_
  refine run_mv rfl ?_
  refine run_endops ?_
  refine run_endblock ?_
  refine run_region (todo := [0, 1]) rfl rfl ?_
  refine run_rd (v := .int .i64 4) rfl (rd_add (r := 4) (by decide)) ?_
  refine run_mv rfl ?_
  refine run_endops ?_
  refine run_again ?_
  refine run_seq rfl ?_
  refine run_region (todo := [0]) rfl rfl ?_
  refine run_rd (v := .bool false) rfl (rd_cmp rfl rfl) ?_
  refine run_endops ?_
  refine run_seq rfl ?_
  refine run_false rfl rfl ?_
  refine run_exit rfl rfl ?_
  refine run_region (todo := [0, 1, 2, 3]) rfl rfl ?_
  refine run_mv rfl ?_
  refine run_mv rfl ?_
  refine run_rd (v := .pointer (some ⟨g2, 14, none⟩)) rfl (rd_indexAddrA (m := 14) (o := 14) Tryd.underlying107 rfl (by decide) Tryd.sizeOf22 rfl) ?_
  refine run_store (j := 0) (c' := #[.int .u32 0, .int .u32 498536548, .int .u32 997073096, .int .u32 651767980, .int .u32 1994146192, .int .u32 1802195444, .int .u32 1303535960, .int .u32 1342533948, .int .u32 3988292384, .int .u32 4027552580, .int .u32 3604390888, .int .u32 3412177804, .int .u32 2607071920, .int .u32 2262029012, .int .u32 2685067896, .int .u32 0]) rfl Tryd.sizeOf22 rfl rfl rfl rfl (by kernel_rfl) rfl ?_
  refine run_endops ?_
  refine run_endblock ?_
  refine run_region (todo := [0, 1]) rfl rfl ?_
  refine run_rd (v := .int .i64 15) rfl (rd_add (r := 15) (by decide)) ?_
  refine run_mv rfl ?_
  refine run_endops ?_
  refine run_again ?_
  refine run_seq rfl ?_
  refine run_region (todo := [0]) rfl rfl ?_
  refine run_rd (v := .bool true) rfl (rd_cmp rfl rfl) ?_
  refine run_endops ?_
  refine run_seq rfl ?_
  refine run_true rfl rfl ?_
  refine run_skip rfl ?_
  refine run_seq rfl ?_
  refine run_block rfl ?_
  refine run_seq rfl ?_
  refine run_region (todo := [0, 1]) rfl rfl ?_
  refine run_mv rfl ?_
  refine run_mv rfl ?_
  refine run_endops ?_
  refine run_seq rfl ?_
  refine run_region (todo := [0, 1, 2]) rfl rfl ?_
  refine run_mv rfl ?_
  refine run_rd (v := .int .u32 15) rfl (rd_toInt (r := 15) Tryd.underlying3 Tryd.underlying22 rfl) ?_
  refine run_mv rfl ?_
  refine run_endops ?_
  refine run_seq rfl ?_
  refine run_seq rfl ?_
  refine run_region (todo := [0]) rfl rfl ?_
  refine run_mv rfl ?_
  refine run_endops ?_
  refine run_block rfl ?_
  refine run_loop rfl ?_
  refine run_again ?_
  refine run_seq rfl ?_
  refine run_region (todo := [0]) rfl rfl ?_
  refine run_rd (v := .bool true) rfl (rd_cmp rfl rfl) ?_
  refine run_endops ?_
  refine run_seq rfl ?_
  refine run_true rfl rfl ?_
  refine run_skip rfl ?_
  refine run_seq rfl ?_
  refine run_block rfl ?_
  refine run_seq rfl ?_
  refine run_region (todo := [0, 1, 2]) rfl rfl ?_
  refine run_mv rfl ?_
  refine run_rd (v := .int .u32 1) rfl (rd_int (v := .int .u32 1) (by kernel_rfl)) ?_
  refine run_mv rfl ?_
  refine run_endops ?_
  refine run_seq rfl ?_
  refine run_region (todo := [0, 1, 2]) rfl rfl ?_
  refine run_mv rfl ?_
  refine run_rd (v := .int .u32 7) rfl (rd_shrL (r := 7) (by decide) (by kernel_rfl)) ?_
  refine run_mv rfl ?_
  refine run_endops ?_
  refine run_seq rfl ?_
  refine run_region (todo := [0, 1]) rfl rfl ?_
  refine run_mv rfl ?_
  refine run_rd (v := .bool true) rfl (rd_cmp rfl rfl) ?_
  refine run_endops ?_
  refine run_true rfl rfl ?_
  refine run_region (todo := [0, 1, 2]) rfl rfl ?_
  refine run_mv rfl ?_
  refine run_rd (v := .int .u32 3988292391) rfl (rd_int (v := .int .u32 3988292391) (by kernel_rfl)) ?_
  refine run_mv rfl ?_
  refine run_endops ?_
  refine run_endblock ?_
  refine run_region (todo := [0, 1]) rfl rfl ?_
  refine run_rd (v := .int .i64 1) rfl (rd_add (r := 1) (by decide)) ?_
  refine run_mv rfl ?_
  refine run_endops ?_
  refine run_again ?_
  refine run_seq rfl ?_
  refine run_region (todo := [0]) rfl rfl ?_
  refine run_rd (v := .bool true) rfl (rd_cmp rfl rfl) ?_
  refine run_endops ?_
  refine run_seq rfl ?_
  refine run_true rfl rfl ?_
  refine run_skip rfl ?_
  refine run_seq rfl ?_
  refine run_block rfl ?_
  refine run_seq rfl ?_
  refine run_region (todo := [0, 1, 2]) rfl rfl ?_
  refine run_mv rfl ?_
  refine run_rd (v := .int .u32 1) rfl (rd_int (v := .int .u32 1) (by kernel_rfl)) ?_
  refine run_mv rfl ?_
  refine run_endops ?_
  refine run_seq rfl ?_
  refine run_region (todo := [0, 1, 2]) rfl rfl ?_
  refine run_mv rfl ?_
  refine run_rd (v := .int .u32 1994146195) rfl (rd_shrL (r := 1994146195) (by decide) (by kernel_rfl)) ?_
  refine run_mv rfl ?_
  refine run_endops ?_
  refine run_seq rfl ?_
  refine run_region (todo := [0, 1]) rfl rfl ?_
  refine run_mv rfl ?_
  refine run_rd (v := .bool true) rfl (rd_cmp rfl rfl) ?_
  refine run_endops ?_
  refine run_true rfl rfl ?_
  refine run_region (todo := [0, 1, 2]) rfl rfl ?_
  refine run_mv rfl ?_
  refine run_rd (v := .int .u32 2607071923) rfl (rd_int (v := .int .u32 2607071923) (by kernel_rfl)) ?_
  refine run_mv rfl ?_
  refine run_endops ?_
  refine run_endblock ?_
  refine run_region (todo := [0, 1]) rfl rfl ?_
  refine run_rd (v := .int .i64 2) rfl (rd_add (r := 2) (by decide)) ?_
  refine run_mv rfl ?_
  refine run_endops ?_
  refine run_again ?_
  refine run_seq rfl ?_
  refine run_region (todo := [0]) rfl rfl ?_
  refine run_rd (v := .bool true) rfl (rd_cmp rfl rfl) ?_
  refine run_endops ?_
  refine run_seq rfl ?_
  refine run_true rfl rfl ?_
  refine run_skip rfl ?_
  refine run_seq rfl ?_
  refine run_block rfl ?_
  refine run_seq rfl ?_
  refine run_region (todo := [0, 1, 2]) rfl rfl ?_
  refine run_mv rfl ?_
  refine run_rd (v := .int .u32 1) rfl (rd_int (v := .int .u32 1) (by kernel_rfl)) ?_
  refine run_mv rfl ?_
  refine run_endops ?_
  refine run_seq rfl ?_
  refine run_region (todo := [0, 1, 2]) rfl rfl ?_
  refine run_mv rfl ?_
  refine run_rd (v := .int .u32 1303535961) rfl (rd_shrL (r := 1303535961) (by decide) (by kernel_rfl)) ?_
  refine run_mv rfl ?_
  refine run_endops ?_
  refine run_seq rfl ?_
  refine run_region (todo := [0, 1]) rfl rfl ?_
  refine run_mv rfl ?_
  refine run_rd (v := .bool true) rfl (rd_cmp rfl rfl) ?_
  refine run_endops ?_
  refine run_true rfl rfl ?_
  refine run_region (todo := [0, 1, 2]) rfl rfl ?_
  refine run_mv rfl ?_
  refine run_rd (v := .int .u32 2685067897) rfl (rd_int (v := .int .u32 2685067897) (by kernel_rfl)) ?_
  refine run_mv rfl ?_
  refine run_endops ?_
  refine run_endblock ?_
  refine run_region (todo := [0, 1]) rfl rfl ?_
  refine run_rd (v := .int .i64 3) rfl (rd_add (r := 3) (by decide)) ?_
  refine run_mv rfl ?_
  refine run_endops ?_
  refine run_again ?_
  refine run_seq rfl ?_
  refine run_region (todo := [0]) rfl rfl ?_
  refine run_rd (v := .bool true) rfl (rd_cmp rfl rfl) ?_
  refine run_endops ?_
  refine run_seq rfl ?_
  refine run_true rfl rfl ?_
  refine run_skip rfl ?_
  refine run_seq rfl ?_
  refine run_block rfl ?_
  refine run_seq rfl ?_
  refine run_region (todo := [0, 1, 2]) rfl rfl ?_
  refine run_mv rfl ?_
  refine run_rd (v := .int .u32 1) rfl (rd_int (v := .int .u32 1) (by kernel_rfl)) ?_
  refine run_mv rfl ?_
  refine run_endops ?_
  refine run_seq rfl ?_
  refine run_region (todo := [0, 1, 2]) rfl rfl ?_
  refine run_mv rfl ?_
  refine run_rd (v := .int .u32 1342533948) rfl (rd_shrL (r := 1342533948) (by decide) (by kernel_rfl)) ?_
  refine run_mv rfl ?_
  refine run_endops ?_
  refine run_seq rfl ?_
  refine run_region (todo := [0, 1]) rfl rfl ?_
  refine run_mv rfl ?_
  refine run_rd (v := .bool true) rfl (rd_cmp rfl rfl) ?_
  refine run_endops ?_
  refine run_true rfl rfl ?_
  refine run_region (todo := [0, 1, 2]) rfl rfl ?_
  refine run_mv rfl ?_
  refine run_rd (v := .int .u32 3183342108) rfl (rd_int (v := .int .u32 3183342108) (by kernel_rfl)) ?_
  refine run_mv rfl ?_
  refine run_endops ?_
  refine run_endblock ?_
  refine run_region (todo := [0, 1]) rfl rfl ?_
  refine run_rd (v := .int .i64 4) rfl (rd_add (r := 4) (by decide)) ?_
  refine run_mv rfl ?_
  refine run_endops ?_
  refine run_again ?_
  refine run_seq rfl ?_
  refine run_region (todo := [0]) rfl rfl ?_
  refine run_rd (v := .bool false) rfl (rd_cmp rfl rfl) ?_
  refine run_endops ?_
  refine run_seq rfl ?_
  refine run_false rfl rfl ?_
  refine run_exit rfl rfl ?_
  refine run_region (todo := [0, 1, 2, 3]) rfl rfl ?_
  refine run_mv rfl ?_
  refine run_mv rfl ?_
  refine run_rd (v := .pointer (some ⟨g2, 15, none⟩)) rfl (rd_indexAddrA (m := 15) (o := 15) Tryd.underlying107 rfl (by decide) Tryd.sizeOf22 rfl) ?_
  refine run_store (j := 0) (c' := #[.int .u32 0, .int .u32 498536548, .int .u32 997073096, .int .u32 651767980, .int .u32 1994146192, .int .u32 1802195444, .int .u32 1303535960, .int .u32 1342533948, .int .u32 3988292384, .int .u32 4027552580, .int .u32 3604390888, .int .u32 3412177804, .int .u32 2607071920, .int .u32 2262029012, .int .u32 2685067896, .int .u32 3183342108]) rfl Tryd.sizeOf22 rfl rfl rfl rfl (by kernel_rfl) rfl ?_
  refine run_endops ?_
  refine run_endblock ?_
  refine run_region (todo := [0, 1]) rfl rfl ?_
  refine run_rd (v := .int .i64 16) rfl (rd_add (r := 16) (by decide)) ?_
  refine run_mv rfl ?_
  refine run_endops ?_
  refine run_again ?_
  refine run_seq rfl ?_
  refine run_region (todo := [0]) rfl rfl ?_
  refine run_rd (v := .bool false) rfl (rd_cmp rfl rfl) ?_
  refine run_endops ?_
  refine run_seq rfl ?_
  refine run_false rfl rfl ?_
  refine run_exit rfl rfl ?_
  refine run_seq rfl ?_
  refine run_region (todo := [0, 1]) rfl rfl ?_
  refine run_rd (v := .agg #[.int .u32 0, .int .u32 498536548, .int .u32 997073096, .int .u32 651767980, .int .u32 1994146192, .int .u32 1802195444, .int .u32 1303535960, .int .u32 1342533948, .int .u32 3988292384, .int .u32 4027552580, .int .u32 3604390888, .int .u32 3412177804, .int .u32 2607071920, .int .u32 2262029012, .int .u32 2685067896, .int .u32 3183342108]) rfl (rd_loadW (j := 0) Tryd.isAgg107 Tryd.sizeOf107 rfl rfl) ?_
  refine run_storeW (j := 1) (c' := #[.int .u32 0, .int .u32 498536548, .int .u32 997073096, .int .u32 651767980, .int .u32 1994146192, .int .u32 1802195444, .int .u32 1303535960, .int .u32 1342533948, .int .u32 3988292384, .int .u32 4027552580, .int .u32 3604390888, .int .u32 3412177804, .int .u32 2607071920, .int .u32 2262029012, .int .u32 2685067896, .int .u32 3183342108]) rfl Tryd.sizeOf107 rfl rfl rfl rfl rfl rfl ?_
  refine run_endops ?_
  refine run_ret rfl (v := .agg #[.int .u32 0, .int .u32 498536548, .int .u32 997073096, .int .u32 651767980, .int .u32 1994146192, .int .u32 1802195444, .int .u32 1303535960, .int .u32 1342533948, .int .u32 3988292384, .int .u32 4027552580, .int .u32 3604390888, .int .u32 3412177804, .int .u32 2607071920, .int .u32 2262029012, .int .u32 2685067896, .int .u32 3183342108]) (res1 rfl ⟨_, rfl, rdv (rd_loadW (j := 1) Tryd.isAgg107 Tryd.sizeOf107 rfl rfl)⟩) ?_
  rfl

theorem pf_crcOf (l : List UInt8) (hmx : l.length ≤ 9223372036854775806) : Pf Tryd.prog 45 #[.string (bs l)] (.int .u32 ((crc l : Nat) : Int)) := by
  refine pf_of_run Tryd.func45 rfl rfl (fun w0 => ?_)
  refine run_seq rfl ?_
  refine run_region (todo := [0]) rfl rfl ?_
  refine run_mv rfl ?_
  refine run_endops ?_
  refine run_seq rfl ?_
  refine run_region (todo := [0, 1, 2]) rfl rfl ?_
  refine run_pf0 (v := .agg nibTab) rfl Tryd.call60 pf_nibbles ?_
  refine run_alloc rfl Tryd.zeroValue107 (fun g1 => ?_)
  refine run_storeW (j := 0) (c' := nibTab) rfl Tryd.sizeOf107 rfl rfl rfl rfl rfl rfl ?_
  refine run_endops ?_
  refine run_seq rfl ?_
  refine run_region (todo := [0]) rfl rfl ?_
  refine run_mv rfl ?_
  refine run_endops ?_
  refine run_seq rfl ?_
  refine run_seq rfl ?_
  refine run_region (todo := [0, 1, 2]) rfl rfl ?_
  refine run_mv rfl ?_
  refine run_rd (v := .int .i64 ((l.length : Nat) : Int)) rfl (rd_lenStr Tryd.underlying9 rfl) ?_
  refine run_mv rfl ?_
  refine run_endops ?_
  refine run_block rfl ?_
  refine run_loop rfl ?_
  refine run_ind2 (fun (k : Nat) (r : Nat) => l.length - k) (fun (k : Nat) (r : Nat) => [(0, .string (bs l)), (2, .int .u32 0), (3, .pointer (some ⟨g1, 0, none⟩)), (4, .int .u32 ((r : Nat) : Int)), (8, .int .i64 ((l.length : Nat) : Int)), (9, .int .i64 (k : Int))]) (fun (k : Nat) (r : Nat) => [.blk g1 (.cells nibTab 107)]) (fun (k : Nat) (r : Nat) => k ≤ l.length ∧ r < 4294967296 ∧ r = sall 4294967295 (l.take k)) 0 4294967295 ⟨Nat.zero_le _, by decide, rfl⟩ [0] ⟨rfl, rfl, rfl, rfl, rfl, rfl, trivial⟩ ⟨rfl, trivial⟩ (by decide) (fun k r hI ih => ?_)
  obtain ⟨hk0, hr, hrk⟩ := hI
  refine run_again ?_
  refine run_seq rfl ?_
  refine run_region (todo := [0]) rfl rfl ?_
  refine run_rd (v := .bool (decide ((k : Int) < ((l.length : Nat) : Int)))) rfl (rd_cmp rfl rfl) ?_
  refine run_endops ?_
  refine run_seq rfl ?_
  refine run_if rfl rfl (fun hb1 => ?_) (fun hb1 => ?_)
  · have hk : k < l.length := by have := of_decide_eq_true hb1; omega
    obtain ⟨x, hx⟩ := item_at hk
    have hr1 := xor32_lt hr x
    refine run_skip rfl ?_
    refine run_seq rfl ?_
    refine run_block rfl ?_
    refine run_seq rfl ?_
    refine run_region (todo := [0, 1]) rfl rfl ?_
    refine run_mv rfl ?_
    refine run_mv rfl ?_
    refine run_endops ?_
    refine run_seq rfl ?_
    refine run_region (todo := [0, 1, 2, 3, 4, 5, 6]) rfl rfl ?_
    refine run_mv rfl ?_
    refine run_mv rfl ?_
    refine run_mv rfl ?_
    refine run_rd (v := .int .u8 ((x.toNat : Nat) : Int)) rfl (rd_byteL Tryd.underlying9 hx rfl) ?_
    refine run_rd (v := .int .u32 ((x.toNat : Nat) : Int)) rfl (rd_toInt Tryd.underlying5 Tryd.underlying22 (wrap_u32N (u8_lt32 _))) ?_
    refine run_rd (v := .int .u32 (((r ^^^ x.toNat) : Nat) : Int)) rfl (rd_xor32 hr (u8_lt32 _)) ?_
    refine run_mv rfl ?_
    refine run_endops ?_
    refine run_seq rfl ?_
    refine run_region (todo := [0, 1, 2, 3, 4, 5, 6, 7]) rfl rfl ?_
    refine run_mv rfl ?_
    refine run_rd (v := .int .u32 (((r ^^^ x.toNat) / 16 : Nat) : Int)) rfl (rd_shrN (s := 4) (m := 16) rfl rfl rfl) ?_
    refine run_mv rfl ?_
    refine run_rd (v := .int .u32 ((((r ^^^ x.toNat) % 16) : Nat) : Int)) rfl (rd_and15 hr1) ?_
    refine run_rd (v := .pointer (some ⟨g1, ((r ^^^ x.toNat) % 16), none⟩)) rfl (rd_indexAddrA (m := ((r ^^^ x.toNat) % 16)) (o := ((r ^^^ x.toNat) % 16)) Tryd.underlying107 rfl (by omega) Tryd.sizeOf22 (by omega)) ?_
    refine run_rd (v := .int .u32 (((sbits 4 ((r ^^^ x.toNat) % 16)) : Nat) : Int)) rfl (rd_load (j := 0) (v := .int .u32 (((sbits 4 ((r ^^^ x.toNat) % 16)) : Nat) : Int)) Tryd.isAgg22 rfl (nibTab_get (by omega))) ?_
    refine run_rd (v := .int .u32 (((sbits 4 (r ^^^ x.toNat)) : Nat) : Int)) rfl (rd_nib hr1) ?_
    refine run_mv rfl ?_
    refine run_endops ?_
    refine run_region (todo := [0, 1, 2, 3, 4, 5, 6, 7]) rfl rfl ?_
    refine run_mv rfl ?_
    refine run_rd (v := .int .u32 (((sbits 4 (r ^^^ x.toNat)) / 16 : Nat) : Int)) rfl (rd_shrN (s := 4) (m := 16) rfl rfl rfl) ?_
    refine run_mv rfl ?_
    refine run_rd (v := .int .u32 ((((sbits 4 (r ^^^ x.toNat)) % 16) : Nat) : Int)) rfl (rd_and15 (sbits_lt hr1)) ?_
    refine run_rd (v := .pointer (some ⟨g1, ((sbits 4 (r ^^^ x.toNat)) % 16), none⟩)) rfl (rd_indexAddrA (m := ((sbits 4 (r ^^^ x.toNat)) % 16)) (o := ((sbits 4 (r ^^^ x.toNat)) % 16)) Tryd.underlying107 rfl (by omega) Tryd.sizeOf22 (by omega)) ?_
    refine run_rd (v := .int .u32 (((sbits 4 ((sbits 4 (r ^^^ x.toNat)) % 16)) : Nat) : Int)) rfl (rd_load (j := 0) (v := .int .u32 (((sbits 4 ((sbits 4 (r ^^^ x.toNat)) % 16)) : Nat) : Int)) Tryd.isAgg22 rfl (nibTab_get (by omega))) ?_
    refine run_rd (v := .int .u32 (((sbits 4 (sbits 4 (r ^^^ x.toNat))) : Nat) : Int)) rfl (rd_nib (sbits_lt hr1)) ?_
    refine run_mv rfl ?_
    refine run_endops ?_
    refine run_endblock ?_
    refine run_region (todo := [0, 1]) rfl rfl ?_
    refine run_rd (v := .int .i64 ((k : Int) + 1)) rfl (rd_add (r := (k : Int) + 1) (IntWalk.i64_in _ (by omega))) ?_
    refine run_mv rfl ?_
    refine run_endops ?_
    exact run_less [0] (ih (k + 1) (sbits 4 (sbits 4 (r ^^^ x.toNat))) ⟨hk, sbits_lt (sbits_lt hr1), by rw [sbyte_nib, hrk, sall_step hx]⟩ (by omega)) ⟨rfl, rfl, rfl, rfl, rfl, rfl, trivial⟩ ⟨rfl, trivial⟩ (by decide)
  · have hk : ¬ (k : Int) < ((l.length : Nat) : Int) := of_decide_eq_false hb1
    refine run_exit rfl rfl ?_
    refine run_seq rfl ?_
    refine run_region (todo := [0, 1, 2]) rfl rfl ?_
    refine run_mv rfl ?_
    refine run_rd (v := .int .u32 (((4294967295 - r) : Nat) : Int)) rfl (rd_compl32 hr) ?_
    refine run_mv rfl ?_
    refine run_endops ?_
    refine run_ret rfl (v := .int .u32 (((4294967295 - r) : Nat) : Int)) (res1 rfl rfl) ?_
    exact congrArg (fun (z : Nat) => Value.int .u32 (z : Int)) (by rw [hrk, List.take_of_length_le (by omega)]; rfl)

theorem pf_crcSeal (l : List UInt8) (hmx : l.length ≤ 9223372036854775800) : Pf Tryd.prog 25 #[.string (bs l)] (.string (bs (seal4 l))) := by
  refine pf_of_run Tryd.func25 rfl rfl (fun w0 => ?_)
  refine run_seq rfl ?_
  refine run_region (todo := [0]) rfl rfl ?_
  refine run_mv rfl ?_
  refine run_endops ?_
  refine run_seq rfl ?_
  refine run_region (todo := [0, 1, 2]) rfl rfl ?_
  refine run_mv rfl ?_
  refine run_pf0 (v := .int .u32 (((crc l) : Nat) : Int)) rfl Tryd.call45 (pf_crcOf l (by omega)) ?_
  refine run_mv rfl ?_
  refine run_endops ?_
  refine run_seq rfl ?_
  refine run_region (todo := [0, 1, 2, 3, 4, 5, 6, 7, 8, 9, 10, 11, 12, 13, 14, 15]) rfl rfl ?_
  refine run_mv rfl ?_
  refine run_mv rfl ?_
  refine run_rd (v := .int .u8 (((UInt8.ofNat (crc l)).toNat : Nat) : Int)) rfl (rd_toInt Tryd.underlying22 Tryd.underlying5 (wrap_u8N (crc l))) ?_
  refine run_mv rfl ?_
  refine run_rd (v := .int .u32 (((crc l) / 256 : Nat) : Int)) rfl (rd_shrN (s := 8) (m := 256) rfl rfl rfl) ?_
  refine run_rd (v := .int .u8 (((UInt8.ofNat ((crc l) / 256)).toNat : Nat) : Int)) rfl (rd_toInt Tryd.underlying22 Tryd.underlying5 (wrap_u8N ((crc l) / 256))) ?_
  refine run_mv rfl ?_
  refine run_rd (v := .int .u32 (((crc l) / 65536 : Nat) : Int)) rfl (rd_shrN (s := 16) (m := 65536) rfl rfl rfl) ?_
  refine run_rd (v := .int .u8 (((UInt8.ofNat ((crc l) / 65536)).toNat : Nat) : Int)) rfl (rd_toInt Tryd.underlying22 Tryd.underlying5 (wrap_u8N ((crc l) / 65536))) ?_
  refine run_mv rfl ?_
  refine run_rd (v := .int .u32 (((crc l) / 16777216 : Nat) : Int)) rfl (rd_shrN (s := 24) (m := 16777216) rfl rfl rfl) ?_
  refine run_rd (v := .int .u8 (((UInt8.ofNat ((crc l) / 16777216)).toNat : Nat) : Int)) rfl (rd_toInt Tryd.underlying22 Tryd.underlying5 (wrap_u8N ((crc l) / 16777216))) ?_
  refine run_lit (c := #[.int .u8 (((UInt8.ofNat (crc l)).toNat : Nat) : Int), .int .u8 (((UInt8.ofNat ((crc l) / 256)).toNat : Nat) : Int), .int .u8 (((UInt8.ofNat ((crc l) / 65536)).toNat : Nat) : Int), .int .u8 (((UInt8.ofNat ((crc l) / 16777216)).toNat : Nat) : Int)]) rfl Tryd.underlying57 Tryd.sizeOf5 Tryd.zeroValue5 rfl rfl (by kernel_rfl) (fun g1 => ?_)
  refine run_rd (v := .string (bs [(UInt8.ofNat (crc l)), (UInt8.ofNat ((crc l) / 256)), (UInt8.ofNat ((crc l) / 65536)), (UInt8.ofNat ((crc l) / 16777216))])) rfl (rd_bytesMap (j := 0) (l := [(UInt8.ofNat (crc l)), (UInt8.ofNat ((crc l) / 256)), (UInt8.ofNat ((crc l) / 65536)), (UInt8.ofNat ((crc l) / 16777216))]) Tryd.underlying57 Tryd.underlying5 Tryd.underlying9 rfl rfl) ?_
  refine run_rd (v := .string (bs (l ++ [(UInt8.ofNat (crc l)), (UInt8.ofNat ((crc l) / 256)), (UInt8.ofNat ((crc l) / 65536)), (UInt8.ofNat ((crc l) / 16777216))]))) rfl (rd_cat (l := l) (m := [(UInt8.ofNat (crc l)), (UInt8.ofNat ((crc l) / 256)), (UInt8.ofNat ((crc l) / 65536)), (UInt8.ofNat ((crc l) / 16777216))]) (by simp only [List.length_cons, List.length_nil, four]; omega) rfl) ?_
  refine run_mv rfl ?_
  refine run_endops ?_
  refine run_ret rfl (v := .string (bs (l ++ [(UInt8.ofNat (crc l)), (UInt8.ofNat ((crc l) / 256)), (UInt8.ofNat ((crc l) / 65536)), (UInt8.ofNat ((crc l) / 16777216))]))) (res1 rfl rfl) ?_
  rfl

theorem pf_crcOk (l : List UInt8) (hmx : l.length ≤ 9223372036854775800) : Pf Tryd.prog 30 #[.string (bs l)] (.bool (crcOk l)) := by
  refine pf_of_run Tryd.func30 rfl rfl (fun w0 => ?_)
  refine run_seq rfl ?_
  refine run_region (todo := [0]) rfl rfl ?_
  refine run_mv rfl ?_
  refine run_endops ?_
  refine run_seq rfl ?_
  refine run_region (todo := [0, 1, 2, 3]) rfl rfl ?_
  refine run_mv rfl ?_
  refine run_rd (v := .int .i64 ((l.length : Nat) : Int)) rfl (rd_lenStr Tryd.underlying9 rfl) ?_
  refine run_rd (v := .int .i64 (((l.length : Nat) : Int) - 4)) rfl (rd_sub (r := ((l.length : Nat) : Int) - 4) (IntWalk.i64_in _ (by omega))) ?_
  refine run_mv rfl ?_
  refine run_endops ?_
  refine run_seq rfl ?_
  rcases Bool.eq_false_or_eq_true (decide ((((l.length : Nat) : Int) - 4) ≥ 0)) with hb1 | hb1
  · have h4 : 4 ≤ l.length := by have := of_decide_eq_true hb1; omega
    have hn : (((l.length : Nat) : Int) - 4 : Int) = ((l.length - 4 : Nat) : Int) := by omega
    refine run_region (todo := [0, 1, 2, 3, 4, 5, 6, 7, 8, 9, 10]) rfl rfl ?_
    refine run_mv rfl ?_
    refine run_rd (v := .bool true) rfl (rd_cmp rfl hb1) ?_
    refine run_mv rfl ?_
    refine run_mvG rfl ?_
    refine run_mvG rfl ?_
    refine run_rdG (v := .string (bs (l.take (l.length - 4)))) rfl (rd_substr (l := 0) (h := l.length - 4) Tryd.underlying9 (.inr ⟨rfl, rfl⟩) (.inl (by rw [hn])) (by omega) (by rw [bs_size]; omega) (by rw [bs_extract]; rfl)) ?_
    refine run_pf0G (v := .string (bs (seal4 (l.take (l.length - 4))))) rfl Tryd.call25 (pf_crcSeal (l.take (l.length - 4)) (by simp only [List.length_take]; omega)) ?_
    refine run_mvG rfl ?_
    refine run_rdG (v := .bool (decide ((seal4 (l.take (l.length - 4))) = l))) rfl (rd_bseq) ?_
    refine run_pick (v := .bool (decide ((seal4 (l.take (l.length - 4))) = l))) rfl rfl ?_
    refine run_mv rfl ?_
    refine run_endops ?_
    refine run_ret rfl (v := .bool (decide ((seal4 (l.take (l.length - 4))) = l))) (res1 rfl rfl) ?_
    exact congrArg Value.bool (crcOk_seal4 h4)
  · have h4 : ¬ 4 ≤ l.length := by have := of_decide_eq_false hb1; omega
    refine run_region (todo := [0, 1, 2, 3, 4, 5, 6, 7, 8, 9, 10]) rfl rfl ?_
    refine run_mv rfl ?_
    refine run_rd (v := .bool false) rfl (rd_cmp rfl hb1) ?_
    refine run_mv rfl ?_
    refine run_skipped rfl ?_
    refine run_skipped rfl ?_
    refine run_skipped rfl ?_
    refine run_skipped rfl ?_
    refine run_skipped rfl ?_
    refine run_skipped rfl ?_
    refine run_pick (v := .bool false) rfl rfl ?_
    refine run_mv rfl ?_
    refine run_endops ?_
    refine run_ret rfl (v := .bool false) (res1 rfl rfl) ?_
    exact congrArg Value.bool (crcOk_short h4).symm

theorem pf_step (r : Nat) (b : UInt8) (hr : r < 4294967296) : Pf Tryd.prog 56 #[.int .u32 ((r : Nat) : Int), .int .u8 ((b.toNat : Nat) : Int)] (.int .u32 ((sbyte r b : Nat) : Int)) := by
  refine pf_of_run Tryd.func56 rfl rfl (fun w0 => ?_)
  refine run_seq rfl ?_
  refine run_region (todo := [0]) rfl rfl ?_
  refine run_mv rfl ?_
  refine run_endops ?_
  refine run_seq rfl ?_
  refine run_region (todo := [0, 1, 2, 3, 4]) rfl rfl ?_
  refine run_mv rfl ?_
  refine run_mv rfl ?_
  refine run_rd (v := .int .u32 ((b.toNat : Nat) : Int)) rfl (rd_toInt Tryd.underlying5 Tryd.underlying22 (wrap_u32N (u8_lt32 _))) ?_
  refine run_rd (v := .int .u32 (((r ^^^ b.toNat) : Nat) : Int)) rfl (rd_xor32 (by omega) (u8_lt32 _)) ?_
  refine run_mv rfl ?_
  refine run_endops ?_
  refine run_seq rfl ?_
  refine run_seq rfl ?_
  refine run_region (todo := [0]) rfl rfl ?_
  refine run_mv rfl ?_
  refine run_endops ?_
  refine run_block rfl ?_
  refine run_loop rfl ?_
  refine run_ind2 (fun (k : Nat) (q : Nat) => 8 - k) (fun (k : Nat) (q : Nat) => [(0, .int .u32 ((q : Nat) : Int)), (4, .int .u32 0), (5, .int .i64 (k : Int))]) (fun (k : Nat) (q : Nat) => []) (fun (k : Nat) (q : Nat) => k ≤ 8 ∧ q < 4294967296 ∧ q = sbits k (r ^^^ b.toNat)) 0 (r ^^^ b.toNat) ⟨by decide, xor32_lt hr b, rfl⟩ [] ⟨rfl, rfl, rfl, trivial⟩ trivial (by decide) (fun k q hI ih => ?_)
  obtain ⟨hk0, hq, hqk⟩ := hI
  refine run_again ?_
  refine run_seq rfl ?_
  refine run_seq rfl ?_
  refine run_region (todo := [0, 1]) rfl rfl ?_
  refine run_mv rfl ?_
  refine run_rd (v := .bool (decide ((k : Int) < 8))) rfl (rd_cmp rfl rfl) ?_
  refine run_endops ?_
  refine run_if rfl rfl (fun hb1 => ?_) (fun hb1 => ?_)
  · have hk : k < 8 := by have := of_decide_eq_true hb1; omega
    refine run_skip rfl ?_
    refine run_seq rfl ?_
    refine run_block rfl ?_
    refine run_seq rfl ?_
    refine run_region (todo := [0, 1, 2]) rfl rfl ?_
    refine run_mv rfl ?_
    refine run_rd (v := .int .u32 ((q % 2 : Nat) : Int)) rfl (rd_remU (b := 2) (by decide)) ?_
    refine run_rd (v := .bool (((q % 2 : Nat) : Int) == 1)) rfl (rd_cmp rfl rfl) ?_
    refine run_endops ?_
    refine run_if rfl rfl (fun hb2 => ?_) (fun hb2 => ?_)
    · have h2 : q % 2 = 1 := by have := eq_of_beq hb2; omega
      have he : sbit q = q / 2 ^^^ 3988292384 := if_pos h2
      refine run_region (todo := [0, 1, 2, 3]) rfl rfl ?_
      refine run_mv rfl ?_
      refine run_rd (v := .int .u32 (((q / 2) : Nat) : Int)) rfl (rd_quoU (b := 2) (by decide) hq) ?_
      refine run_rd (v := .int .u32 ((((q / 2) ^^^ 3988292384) : Nat) : Int)) rfl (rd_xor32 (by omega) (by decide)) ?_
      refine run_mv rfl ?_
      refine run_endops ?_
      refine run_endblock ?_
      refine run_region (todo := [0, 1, 2]) rfl rfl ?_
      refine run_mv rfl ?_
      refine run_rd (v := .int .i64 ((k : Int) + 1)) rfl (rd_add (r := (k : Int) + 1) (IntWalk.i64_in _ (by omega))) ?_
      refine run_mv rfl ?_
      refine run_endops ?_
      exact run_less [] (ih (k + 1) (q / 2 ^^^ 3988292384) ⟨hk, he ▸ sbit_lt hq, by rw [sbits_one, ← hqk, ← he]⟩ (by omega)) ⟨rfl, rfl, rfl, trivial⟩ trivial (by decide)
    · have h2 : ¬ q % 2 = 1 := fun e => ne_of_beq_f hb2 (by rw [e]; rfl)
      have he : sbit q = q / 2 := if_neg h2
      refine run_region (todo := [0, 1, 2]) rfl rfl ?_
      refine run_mv rfl ?_
      refine run_rd (v := .int .u32 (((q / 2) : Nat) : Int)) rfl (rd_quoU (b := 2) (by decide) hq) ?_
      refine run_mv rfl ?_
      refine run_endops ?_
      refine run_endblock ?_
      refine run_region (todo := [0, 1, 2]) rfl rfl ?_
      refine run_mv rfl ?_
      refine run_rd (v := .int .i64 ((k : Int) + 1)) rfl (rd_add (r := (k : Int) + 1) (IntWalk.i64_in _ (by omega))) ?_
      refine run_mv rfl ?_
      refine run_endops ?_
      exact run_less [] (ih (k + 1) (q / 2) ⟨hk, he ▸ sbit_lt hq, by rw [sbits_one, ← hqk, ← he]⟩ (by omega)) ⟨rfl, rfl, rfl, trivial⟩ trivial (by decide)
  · have hk : k = 8 := by have := of_decide_eq_false hb1; omega
    refine run_exit rfl rfl ?_
    refine run_seq rfl ?_
    refine run_region (todo := [0, 1]) rfl rfl ?_
    refine run_mv rfl ?_
    refine run_mv rfl ?_
    refine run_endops ?_
    refine run_ret rfl (v := .int .u32 ((q : Nat) : Int)) (res1 rfl rfl) ?_
    subst hk
    exact congrArg (fun (z : Nat) => Value.int .u32 (z : Int)) hqk

theorem pf_rOf (l : List UInt8) (hmx : l.length ≤ 9223372036854775806) : Pf Tryd.prog 41 #[.string (bs l)] (.int .u32 ((crc l : Nat) : Int)) := by
  refine pf_of_run Tryd.func41 rfl rfl (fun w0 => ?_)
  refine run_seq rfl ?_
  refine run_region (todo := [0]) rfl rfl ?_
  refine run_mv rfl ?_
  refine run_endops ?_
  refine run_seq rfl ?_
  refine run_region (todo := [0]) rfl rfl ?_
  refine run_mv rfl ?_
  refine run_endops ?_
  refine run_seq rfl ?_
  refine run_seq rfl ?_
  refine run_region (todo := [0]) rfl rfl ?_
  refine run_mv rfl ?_
  refine run_endops ?_
  refine run_block rfl ?_
  refine run_loop rfl ?_
  refine run_ind2 (fun (k : Nat) (r : Nat) => l.length - k) (fun (k : Nat) (r : Nat) => [(0, .string (bs l)), (2, .int .u32 0), (3, .int .u32 ((r : Nat) : Int)), (4, .int .i64 (k : Int))]) (fun (k : Nat) (r : Nat) => []) (fun (k : Nat) (r : Nat) => k ≤ l.length ∧ r < 4294967296 ∧ r = sall 4294967295 (l.take k)) 0 4294967295 ⟨Nat.zero_le _, by decide, rfl⟩ [] ⟨rfl, rfl, rfl, rfl, trivial⟩ trivial (by decide) (fun k r hI ih => ?_)
  obtain ⟨hk0, hr, hrk⟩ := hI
  refine run_again ?_
  refine run_seq rfl ?_
  refine run_seq rfl ?_
  refine run_region (todo := [0, 1, 2, 3]) rfl rfl ?_
  refine run_mv rfl ?_
  refine run_mv rfl ?_
  refine run_rd (v := .int .i64 ((l.length : Nat) : Int)) rfl (rd_lenStr Tryd.underlying9 rfl) ?_
  refine run_rd (v := .bool (decide ((k : Int) < ((l.length : Nat) : Int)))) rfl (rd_cmp rfl rfl) ?_
  refine run_endops ?_
  refine run_if rfl rfl (fun hb1 => ?_) (fun hb1 => ?_)
  · have hk : k < l.length := by have := of_decide_eq_true hb1; omega
    obtain ⟨x, hx⟩ := item_at hk
    have hr1 := xor32_lt hr x
    refine run_skip rfl ?_
    refine run_seq rfl ?_
    refine run_block rfl ?_
    refine run_region (todo := [0, 1, 2, 3, 4, 5]) rfl rfl ?_
    refine run_mv rfl ?_
    refine run_mv rfl ?_
    refine run_mv rfl ?_
    refine run_rd (v := .int .u8 ((x.toNat : Nat) : Int)) rfl (rd_byteL Tryd.underlying9 hx rfl) ?_
    refine run_pf0 (v := .int .u32 (((sbyte r x) : Nat) : Int)) rfl Tryd.call56 (pf_step r x hr) ?_
    refine run_mv rfl ?_
    refine run_endops ?_
    refine run_endblock ?_
    refine run_region (todo := [0, 1, 2]) rfl rfl ?_
    refine run_mv rfl ?_
    refine run_rd (v := .int .i64 ((k : Int) + 1)) rfl (rd_add (r := (k : Int) + 1) (IntWalk.i64_in _ (by omega))) ?_
    refine run_mv rfl ?_
    refine run_endops ?_
    exact run_less [] (ih (k + 1) (sbyte r x) ⟨hk, sbyte_lt hr x, by rw [hrk, sall_step hx]⟩ (by omega)) ⟨rfl, rfl, rfl, rfl, trivial⟩ trivial (by decide)
  · have hk : ¬ (k : Int) < ((l.length : Nat) : Int) := of_decide_eq_false hb1
    refine run_exit rfl rfl ?_
    refine run_seq rfl ?_
    refine run_region (todo := [0, 1, 2]) rfl rfl ?_
    refine run_mv rfl ?_
    refine run_rd (v := .int .u32 (((4294967295 - r) : Nat) : Int)) rfl (rd_sub32 hr) ?_
    refine run_mv rfl ?_
    refine run_endops ?_
    refine run_ret rfl (v := .int .u32 (((4294967295 - r) : Nat) : Int)) (res1 rfl rfl) ?_
    exact congrArg (fun (z : Nat) => Value.int .u32 (z : Int)) (by rw [hrk, List.take_of_length_le (by omega)]; rfl)

theorem pf_four (n : Nat) (hn : n < 4294967296) : Pf Tryd.prog 40 #[.int .u32 ((n : Nat) : Int)] (.string (bs (four n))) := by
  refine pf_of_run Tryd.func40 rfl rfl (fun w0 => ?_)
  refine run_seq rfl ?_
  refine run_region (todo := [0]) rfl rfl ?_
  refine run_mv rfl ?_
  refine run_endops ?_
  refine run_seq rfl ?_
  refine run_region (todo := [0, 1]) rfl rfl ?_
  refine run_make (m := 4) (c := #[.int .u8 0, .int .u8 0, .int .u8 0, .int .u8 0]) rfl Tryd.underlying57 (by kernel_rfl) rfl (by kernel_rfl) (fun g1 => ?_)
  refine run_mv rfl ?_
  refine run_endops ?_
  refine run_seq rfl ?_
  refine run_seq rfl ?_
  refine run_region (todo := [0]) rfl rfl ?_
  refine run_mv rfl ?_
  refine run_endops ?_
  refine run_block rfl ?_
  refine run_loop rfl ?_
  refine run_again ?_
  refine run_seq rfl ?_
  refine run_seq rfl ?_
  refine run_region (todo := [0, 1]) rfl rfl ?_
  refine run_mv rfl ?_
  refine run_rd (v := .bool true) rfl (rd_cmp rfl rfl) ?_
  refine run_endops ?_
  refine run_true rfl rfl ?_
  refine run_skip rfl ?_
  refine run_seq rfl ?_
  refine run_block rfl ?_
  refine run_seq rfl ?_
  refine run_region (todo := [0, 1, 2, 3, 4, 5, 6]) rfl rfl ?_
  refine run_mv rfl ?_
  refine run_mv rfl ?_
  refine run_mv rfl ?_
  refine run_rd (v := .int .u32 ((n % 256 : Nat) : Int)) rfl (rd_remU (b := 256) (by decide)) ?_
  refine run_rd (v := .int .u8 (((UInt8.ofNat (n % 256)).toNat : Nat) : Int)) rfl (rd_toInt Tryd.underlying22 Tryd.underlying5 (wrap_u8N (n % 256))) ?_
  refine run_rd (v := .pointer (some ⟨g1, 0, none⟩)) rfl (rd_indexAddrS (m := 0) (o := 0) Tryd.underlying57 rfl (by decide) Tryd.sizeOf5 rfl) ?_
  refine run_store (j := 0) (c' := #[.int .u8 (((UInt8.ofNat (n % 256)).toNat : Nat) : Int), .int .u8 0, .int .u8 0, .int .u8 0]) rfl Tryd.sizeOf5 rfl rfl rfl rfl (by kernel_rfl) rfl ?_
  refine run_endops ?_
  refine run_region (todo := [0, 1, 2]) rfl rfl ?_
  refine run_mv rfl ?_
  refine run_rd (v := .int .u32 (((n / 256) : Nat) : Int)) rfl (rd_quoU (b := 256) (by decide) (by omega)) ?_
  refine run_mv rfl ?_
  refine run_endops ?_
  refine run_endblock ?_
  refine run_region (todo := [0, 1, 2]) rfl rfl ?_
  refine run_mv rfl ?_
  refine run_rd (v := .int .i64 1) rfl (rd_add (r := 1) (by decide)) ?_
  refine run_mv rfl ?_
  refine run_endops ?_
  refine run_again ?_
  refine run_seq rfl ?_
  refine run_seq rfl ?_
  refine run_region (todo := [0, 1]) rfl rfl ?_
  refine run_mv rfl ?_
  refine run_rd (v := .bool true) rfl (rd_cmp rfl rfl) ?_
  refine run_endops ?_
  refine run_true rfl rfl ?_
  refine run_skip rfl ?_
  refine run_seq rfl ?_
  refine run_block rfl ?_
  refine run_seq rfl ?_
  refine run_region (todo := [0, 1, 2, 3, 4, 5, 6]) rfl rfl ?_
  refine run_mv rfl ?_
  refine run_mv rfl ?_
  refine run_mv rfl ?_
  refine run_rd (v := .int .u32 (((n / 256) % 256 : Nat) : Int)) rfl (rd_remU (b := 256) (by decide)) ?_
  refine run_rd (v := .int .u8 (((UInt8.ofNat ((n / 256) % 256)).toNat : Nat) : Int)) rfl (rd_toInt Tryd.underlying22 Tryd.underlying5 (wrap_u8N ((n / 256) % 256))) ?_
  refine run_rd (v := .pointer (some ⟨g1, 1, none⟩)) rfl (rd_indexAddrS (m := 1) (o := 1) Tryd.underlying57 rfl (by decide) Tryd.sizeOf5 rfl) ?_
  refine run_store (j := 0) (c' := #[.int .u8 (((UInt8.ofNat (n % 256)).toNat : Nat) : Int), .int .u8 (((UInt8.ofNat ((n / 256) % 256)).toNat : Nat) : Int), .int .u8 0, .int .u8 0]) rfl Tryd.sizeOf5 rfl rfl rfl rfl (by kernel_rfl) rfl ?_
  refine run_endops ?_
  refine run_region (todo := [0, 1, 2]) rfl rfl ?_
  refine run_mv rfl ?_
  refine run_rd (v := .int .u32 ((((n / 256) / 256) : Nat) : Int)) rfl (rd_quoU (b := 256) (by decide) (by omega)) ?_
  refine run_mv rfl ?_
  refine run_endops ?_
  refine run_endblock ?_
  refine run_region (todo := [0, 1, 2]) rfl rfl ?_
  refine run_mv rfl ?_
  refine run_rd (v := .int .i64 2) rfl (rd_add (r := 2) (by decide)) ?_
  refine run_mv rfl ?_
  refine run_endops ?_
  refine run_again ?_
  refine run_seq rfl ?_
  refine run_seq rfl ?_
  refine run_region (todo := [0, 1]) rfl rfl ?_
  refine run_mv rfl ?_
  refine run_rd (v := .bool true) rfl (rd_cmp rfl rfl) ?_
  refine run_endops ?_
  refine run_true rfl rfl ?_
  refine run_skip rfl ?_
  refine run_seq rfl ?_
  refine run_block rfl ?_
  refine run_seq rfl ?_
  refine run_region (todo := [0, 1, 2, 3, 4, 5, 6]) rfl rfl ?_
  refine run_mv rfl ?_
  refine run_mv rfl ?_
  refine run_mv rfl ?_
  refine run_rd (v := .int .u32 ((((n / 256) / 256) % 256 : Nat) : Int)) rfl (rd_remU (b := 256) (by decide)) ?_
  refine run_rd (v := .int .u8 (((UInt8.ofNat (((n / 256) / 256) % 256)).toNat : Nat) : Int)) rfl (rd_toInt Tryd.underlying22 Tryd.underlying5 (wrap_u8N (((n / 256) / 256) % 256))) ?_
  refine run_rd (v := .pointer (some ⟨g1, 2, none⟩)) rfl (rd_indexAddrS (m := 2) (o := 2) Tryd.underlying57 rfl (by decide) Tryd.sizeOf5 rfl) ?_
  refine run_store (j := 0) (c' := #[.int .u8 (((UInt8.ofNat (n % 256)).toNat : Nat) : Int), .int .u8 (((UInt8.ofNat ((n / 256) % 256)).toNat : Nat) : Int), .int .u8 (((UInt8.ofNat (((n / 256) / 256) % 256)).toNat : Nat) : Int), .int .u8 0]) rfl Tryd.sizeOf5 rfl rfl rfl rfl (by kernel_rfl) rfl ?_
  refine run_endops ?_
  refine run_region (todo := [0, 1, 2]) rfl rfl ?_
  refine run_mv rfl ?_
  refine run_rd (v := .int .u32 (((((n / 256) / 256) / 256) : Nat) : Int)) rfl (rd_quoU (b := 256) (by decide) (by omega)) ?_
  refine run_mv rfl ?_
  refine run_endops ?_
  refine run_endblock ?_
  refine run_region (todo := [0, 1, 2]) rfl rfl ?_
  refine run_mv rfl ?_
  refine run_rd (v := .int .i64 3) rfl (rd_add (r := 3) (by decide)) ?_
  refine run_mv rfl ?_
  refine run_endops ?_
  refine run_again ?_
  refine run_seq rfl ?_
  refine run_seq rfl ?_
  refine run_region (todo := [0, 1]) rfl rfl ?_
  refine run_mv rfl ?_
  refine run_rd (v := .bool true) rfl (rd_cmp rfl rfl) ?_
  refine run_endops ?_
  refine run_true rfl rfl ?_
  refine run_skip rfl ?_
  refine run_seq rfl ?_
  refine run_block rfl ?_
  refine run_seq rfl ?_
  refine run_region (todo := [0, 1, 2, 3, 4, 5, 6]) rfl rfl ?_
  refine run_mv rfl ?_
  refine run_mv rfl ?_
  refine run_mv rfl ?_
  refine run_rd (v := .int .u32 (((((n / 256) / 256) / 256) % 256 : Nat) : Int)) rfl (rd_remU (b := 256) (by decide)) ?_
  refine run_rd (v := .int .u8 (((UInt8.ofNat ((((n / 256) / 256) / 256) % 256)).toNat : Nat) : Int)) rfl (rd_toInt Tryd.underlying22 Tryd.underlying5 (wrap_u8N ((((n / 256) / 256) / 256) % 256))) ?_
  refine run_rd (v := .pointer (some ⟨g1, 3, none⟩)) rfl (rd_indexAddrS (m := 3) (o := 3) Tryd.underlying57 rfl (by decide) Tryd.sizeOf5 rfl) ?_
  refine run_store (j := 0) (c' := #[.int .u8 (((UInt8.ofNat (n % 256)).toNat : Nat) : Int), .int .u8 (((UInt8.ofNat ((n / 256) % 256)).toNat : Nat) : Int), .int .u8 (((UInt8.ofNat (((n / 256) / 256) % 256)).toNat : Nat) : Int), .int .u8 (((UInt8.ofNat ((((n / 256) / 256) / 256) % 256)).toNat : Nat) : Int)]) rfl Tryd.sizeOf5 rfl rfl rfl rfl (by kernel_rfl) rfl ?_
  refine run_endops ?_
  refine run_region (todo := [0, 1, 2]) rfl rfl ?_
  refine run_mv rfl ?_
  refine run_rd (v := .int .u32 ((((((n / 256) / 256) / 256) / 256) : Nat) : Int)) rfl (rd_quoU (b := 256) (by decide) (by omega)) ?_
  refine run_mv rfl ?_
  refine run_endops ?_
  refine run_endblock ?_
  refine run_region (todo := [0, 1, 2]) rfl rfl ?_
  refine run_mv rfl ?_
  refine run_rd (v := .int .i64 4) rfl (rd_add (r := 4) (by decide)) ?_
  refine run_mv rfl ?_
  refine run_endops ?_
  refine run_again ?_
  refine run_seq rfl ?_
  refine run_seq rfl ?_
  refine run_region (todo := [0, 1]) rfl rfl ?_
  refine run_mv rfl ?_
  refine run_rd (v := .bool false) rfl (rd_cmp rfl rfl) ?_
  refine run_endops ?_
  refine run_false rfl rfl ?_
  refine run_exit rfl rfl ?_
  refine run_seq rfl ?_
  refine run_region (todo := [0, 1, 2]) rfl rfl ?_
  refine run_mv rfl ?_
  refine run_rd (v := .string (bs [(UInt8.ofNat (n % 256)), (UInt8.ofNat ((n / 256) % 256)), (UInt8.ofNat (((n / 256) / 256) % 256)), (UInt8.ofNat ((((n / 256) / 256) / 256) % 256))])) rfl (rd_bytesMap (j := 0) (l := [(UInt8.ofNat (n % 256)), (UInt8.ofNat ((n / 256) % 256)), (UInt8.ofNat (((n / 256) / 256) % 256)), (UInt8.ofNat ((((n / 256) / 256) / 256) % 256))]) Tryd.underlying57 Tryd.underlying5 Tryd.underlying9 rfl rfl) ?_
  refine run_mv rfl ?_
  refine run_endops ?_
  refine run_ret rfl (v := .string (bs [(UInt8.ofNat (n % 256)), (UInt8.ofNat ((n / 256) % 256)), (UInt8.ofNat (((n / 256) / 256) % 256)), (UInt8.ofNat ((((n / 256) / 256) / 256) % 256))])) (res1 rfl rfl) ?_
  exact congrArg (fun z => Value.string (bs z)) (four_eq n)

theorem pf_rSeal (l : List UInt8) (hmx : l.length ≤ 9223372036854775800) : Pf Tryd.prog 16 #[.string (bs l)] (.string (bs (seal4 l))) := by
  refine pf_of_run Tryd.func16 rfl rfl (fun w0 => ?_)
  refine run_seq rfl ?_
  refine run_region (todo := [0]) rfl rfl ?_
  refine run_mv rfl ?_
  refine run_endops ?_
  refine run_seq rfl ?_
  refine run_region (todo := [0, 1, 2, 3, 4, 5]) rfl rfl ?_
  refine run_mv rfl ?_
  refine run_mv rfl ?_
  refine run_pf0 (v := .int .u32 (((crc l) : Nat) : Int)) rfl Tryd.call41 (pf_rOf l (by omega)) ?_
  refine run_pf0 (v := .string (bs (four (crc l)))) rfl Tryd.call40 (pf_four (crc l) (crc_lt _)) ?_
  refine run_rd (v := .string (bs (l ++ (four (crc l))))) rfl (rd_cat (l := l) (m := (four (crc l))) (by simp only [List.length_cons, List.length_nil, four]; omega) rfl) ?_
  refine run_mv rfl ?_
  refine run_endops ?_
  refine run_ret rfl (v := .string (bs (l ++ (four (crc l))))) (res1 rfl rfl) ?_
  rfl

theorem pf_rOk (l : List UInt8) (hmx : l.length ≤ 9223372036854775800) : Pf Tryd.prog 35 #[.string (bs l)] (.bool (crcOk l)) := by
  refine pf_of_run Tryd.func35 rfl rfl (fun w0 => ?_)
  refine run_seq rfl ?_
  refine run_region (todo := [0]) rfl rfl ?_
  refine run_mv rfl ?_
  refine run_endops ?_
  refine run_seq rfl ?_
  rcases Bool.eq_false_or_eq_true (decide (((l.length : Nat) : Int) ≥ 4)) with hb1 | hb1
  · have h4 : 4 ≤ l.length := by have := of_decide_eq_true hb1; omega
    have hn : (((l.length : Nat) : Int) - 4 : Int) = ((l.length - 4 : Nat) : Int) := by omega
    refine run_draw (l := [0, 1, 2, 3, 4, 5, 6, 7, 8, 9, 10, 11, 12, 13, 14, 15, 16, 17, 18]) rfl rfl (by kernel_rfl) (by kernel_rfl) ?_
    refine q_mv rfl ?_
    refine q_val (v := .int .i64 ((l.length : Nat) : Int)) rfl (rd_lenStr Tryd.underlying9 rfl) ?_
    refine q_val (v := .bool true) rfl (rd_cmp rfl hb1) ?_
    refine q_mv rfl ?_
    refine q_mv rfl ?_
    refine q_mv rfl ?_
    refine q_val (v := .int .i64 ((l.length : Nat) : Int)) rfl (rd_lenStr Tryd.underlying9 rfl) ?_
    refine q_val (v := .int .i64 (((l.length : Nat) : Int) - 4)) rfl (rd_sub (r := ((l.length : Nat) : Int) - 4) (IntWalk.i64_in _ (by omega))) ?_
    refine q_val (v := .string (bs (l.drop (l.length - 4)))) rfl (rd_substr (l := l.length - 4) (h := l.length) Tryd.underlying9 (.inl (by rw [hn])) (.inr ⟨rfl, by rw [bs_size]⟩) (by omega) (by rw [bs_size]; omega) (by rw [bs_extract, List.take_of_length_le (by simp)])) ?_
    refine q_mv rfl ?_
    refine q_mv rfl ?_
    refine q_val (v := .int .i64 ((l.length : Nat) : Int)) rfl (rd_lenStr Tryd.underlying9 rfl) ?_
    refine q_val (v := .int .i64 (((l.length : Nat) : Int) - 4)) rfl (rd_sub (r := ((l.length : Nat) : Int) - 4) (IntWalk.i64_in _ (by omega))) ?_
    refine q_val (v := .string (bs (l.take (l.length - 4)))) rfl (rd_substr (l := 0) (h := l.length - 4) Tryd.underlying9 (.inr ⟨rfl, rfl⟩) (.inl (by rw [hn])) (by omega) (by rw [bs_size]; omega) (by rw [bs_extract]; rfl)) ?_
    refine q_pf0 (v := .int .u32 (((crc (l.take (l.length - 4))) : Nat) : Int)) rfl Tryd.call41 (pf_rOf (l.take (l.length - 4)) (by simp only [List.length_take]; omega)) ?_
    refine q_pf0 (v := .string (bs (four (crc (l.take (l.length - 4)))))) rfl Tryd.call40 (pf_four (crc (l.take (l.length - 4))) (crc_lt _)) ?_
    refine q_val (v := .bool (decide ((l.drop (l.length - 4)) = (four (crc (l.take (l.length - 4))))))) rfl (rd_bseq) ?_
    refine q_pick (v := .bool (decide ((l.drop (l.length - 4)) = (four (crc (l.take (l.length - 4))))))) rfl rfl ?_
    refine q_mv rfl ?_
    refine q_end ?_
    refine run_ret rfl (v := .bool (decide ((l.drop (l.length - 4)) = (four (crc (l.take (l.length - 4))))))) (res1 rfl rfl) ?_
    exact congrArg Value.bool (crcOk_four h4)
  · have h4 : ¬ 4 ≤ l.length := by have := of_decide_eq_false hb1; omega
    refine run_draw (l := [0, 1, 2, 3, 4, 5, 6, 7, 8, 9, 10, 11, 12, 13, 14, 15, 16, 17, 18]) rfl rfl (by kernel_rfl) (by kernel_rfl) ?_
    refine q_mv rfl ?_
    refine q_val (v := .int .i64 ((l.length : Nat) : Int)) rfl (rd_lenStr Tryd.underlying9 rfl) ?_
    refine q_val (v := .bool false) rfl (rd_cmp rfl hb1) ?_
    refine q_mv rfl ?_
    refine q_skip rfl ?_
    refine q_skip rfl ?_
    refine q_skip rfl ?_
    refine q_skip rfl ?_
    refine q_skip rfl ?_
    refine q_skip rfl ?_
    refine q_skip rfl ?_
    refine q_skip rfl ?_
    refine q_skip rfl ?_
    refine q_skip rfl ?_
    refine q_skip rfl ?_
    refine q_skip rfl ?_
    refine q_skip rfl ?_
    refine q_pick (v := .bool false) rfl rfl ?_
    refine q_mv rfl ?_
    refine q_end ?_
    refine run_ret rfl (v := .bool false) (res1 rfl rfl) ?_
    exact congrArg Value.bool (crcOk_short h4).symm

theorem pf_turn (l : List UInt8) (a : Int) (m : Nat) (hm : m < 4294967296) (hmx : l.length ≤ 9223372036854775800) : Pf Tryd.prog 17 #[.string (bs l), .int .i64 a, .int .u32 ((m : Nat) : Int)] (.string (bs (turnTo l a (four m) 4))) := by
  refine pf_of_run Tryd.func17 rfl rfl (fun w0 => ?_)
  refine run_seq rfl ?_
  refine run_region (todo := [0]) rfl rfl ?_
  refine run_mv rfl ?_
  refine run_endops ?_
  refine run_seq rfl ?_
  refine run_region (todo := [0, 1, 2]) rfl rfl ?_
  refine run_mv rfl ?_
  refine run_strBytes (l := l) rfl Tryd.underlying9 Tryd.underlying57 Tryd.underlying5 (fun g1 cg1 frg1 hfg1 => ?_)
  refine run_mv rfl ?_
  refine run_endops ?_
  refine run_seq rfl ?_
  refine run_region (todo := [0, 1, 2]) rfl rfl ?_
  refine run_mv rfl ?_
  refine run_pf0 (v := .string (bs (four m))) rfl Tryd.call40 (pf_four m hm) ?_
  refine run_mv rfl ?_
  refine run_endops ?_
  refine run_seq rfl ?_
  refine run_seq rfl ?_
  refine run_region (todo := [0]) rfl rfl ?_
  refine run_mv rfl ?_
  refine run_endops ?_
  refine run_block rfl ?_
  refine run_loop rfl ?_
  refine run_ind1 (fun (j : Nat) => 4 - j) (fun (j : Nat) => [(1, .int .i64 a), (6, .string ⟨#[]⟩), (7, .slice (some ⟨g1, 0, none⟩) l.length cg1), (8, .string (bs (four m))), (9, .int .i64 (j : Int))]) (fun (j : Nat) => [.blk g1 (.cells (bytesRow (bs (turnTo l a (four m) j)) cg1) 5 frg1)]) (fun (j : Nat) => j ≤ 4) 0 (by decide) [0] ⟨rfl, rfl, rfl, rfl, rfl, trivial⟩ ⟨rfl, trivial⟩ (by decide) (fun j hI ih => ?_)
  refine run_again ?_
  refine run_seq rfl ?_
  refine run_seq rfl ?_
  refine run_region (todo := [0, 1]) rfl rfl ?_
  refine run_mv rfl ?_
  refine run_rd (v := .bool (decide ((j : Int) < 4))) rfl (rd_cmp rfl rfl) ?_
  refine run_endops ?_
  refine run_if rfl rfl (fun hb1 => ?_) (fun hb1 => ?_)
  · have hj : j < 4 := by have := of_decide_eq_true hb1; omega
    refine run_skip rfl ?_
    refine run_seq rfl ?_
    refine run_block rfl ?_
    refine run_seq rfl ?_
    rcases Bool.eq_false_or_eq_true (decide (a ≥ 0)) with hb2 | hb2
    · have ha : 0 ≤ a := of_decide_eq_true hb2
      refine run_region (todo := [0, 1, 2, 3, 4, 5, 6, 7, 8, 9]) rfl rfl ?_
      refine run_mv rfl ?_
      refine run_rd (v := .bool true) rfl (rd_cmp rfl hb2) ?_
      refine run_mv rfl ?_
      refine run_mvG rfl ?_
      refine run_mvG rfl ?_
      refine run_rdG (v := .int .i64 ((l.length : Nat) : Int)) rfl (rd_len Tryd.underlying57) ?_
      refine run_mvG rfl ?_
      refine run_rdG (v := .int .i64 (((l.length : Nat) : Int) - (j : Int))) rfl (rd_sub (r := ((l.length : Nat) : Int) - (j : Int)) (IntWalk.i64_in _ (by omega))) ?_
      refine run_rdG (v := .bool (decide (a < (((l.length : Nat) : Int) - (j : Int))))) rfl (rd_cmp rfl rfl) ?_
      refine run_pick (v := .bool (decide (a < (((l.length : Nat) : Int) - (j : Int))))) rfl rfl ?_
      refine run_endops ?_
      refine run_if rfl rfl (fun hb3 => ?_) (fun hb3 => ?_)
      · have hc : 0 ≤ a ∧ a < (l.length : Int) - (j : Int) := ⟨ha, of_decide_eq_true hb3⟩
        have hpl : a.toNat + j < l.length := by have := hc.2; omega
        have hpt : a.toNat + j < (turnTo l a (four m) j).length := by rw [turnTo_length]; exact hpl
        have hpa : a + (j : Int) = ((a.toNat + j : Nat) : Int) := by omega
        obtain ⟨x, hx⟩ := item_at hpt
        obtain ⟨y, hy⟩ := item_at (l := four m) (q := j) (by simpa [four] using hj)
        refine any_draw (n := 16) rfl rfl rfl (by kernel_rfl) ?_
        refine any_takeM (i := 0) rfl (by kernel_rfl) (by kernel_rfl) (by kernel_rfl) ?_
        refine any_takeM (i := 1) rfl (by kernel_rfl) (by kernel_rfl) (by kernel_rfl) ?_
        refine any_takeM (i := 2) rfl (by kernel_rfl) (by kernel_rfl) (by kernel_rfl) ?_
        refine any_take (i := 3) (v := .int .i64 (a + (j : Int))) rfl (fun w => (rd_add (r := a + (j : Int)) (IntWalk.i64_in _ (by omega))) w (Sat.start w)) (by kernel_rfl) (by kernel_rfl) (by kernel_rfl) ?_
        refine any_takeM (i := 4) rfl (by kernel_rfl) (by kernel_rfl) (by kernel_rfl) ?_
        refine any_takeM (i := 5) rfl (by kernel_rfl) (by kernel_rfl) (by kernel_rfl) ?_
        refine any_takeM (i := 6) rfl (by kernel_rfl) (by kernel_rfl) (by kernel_rfl) ?_
        refine any_take (i := 7) (v := .int .i64 (a + (j : Int))) rfl (fun w => (rd_add (r := a + (j : Int)) (IntWalk.i64_in _ (by omega))) w (Sat.start w)) (by kernel_rfl) (by kernel_rfl) (by kernel_rfl) ?_
        refine any_take (i := 8) (v := .pointer (some ⟨g1, (a.toNat + j), none⟩)) rfl (fun w => (rd_indexAddrS (m := (a.toNat + j)) (o := (a.toNat + j)) Tryd.underlying57 hpa hpl Tryd.sizeOf5 (by omega)) w (Sat.start w)) (by kernel_rfl) (by kernel_rfl) (by kernel_rfl) ?_
        refine any_takeM (i := 10) rfl (by kernel_rfl) (by kernel_rfl) (by kernel_rfl) ?_
        refine any_takeM (i := 11) rfl (by kernel_rfl) (by kernel_rfl) (by kernel_rfl) ?_
        refine any_take (i := 12) (v := .int .u8 ((y.toNat : Nat) : Int)) rfl (fun w => (rd_byteL Tryd.underlying9 hy rfl) w (Sat.start w)) (by kernel_rfl) (by kernel_rfl) (by kernel_rfl) ?_
        refine any_one (i := 9) (by kernel_rfl) ?_
        refine ro_rd (v := .int .u8 ((x.toNat : Nat) : Int)) rfl (rd_load (j := 0) (v := .int .u8 ((x.toNat : Nat) : Int)) Tryd.isAgg5 rfl (bytesRow_get hx)) ?_
        refine any_take (i := 13) (v := .int .u8 (((x ^^^ y).toNat : Nat) : Int)) rfl (fun w => (rd_xor8) w (Sat.start w)) (by kernel_rfl) (by kernel_rfl) (by kernel_rfl) ?_
        refine any_take (i := 14) (v := .pointer (some ⟨g1, (a.toNat + j), none⟩)) rfl (fun w => (rd_indexAddrS (m := (a.toNat + j)) (o := (a.toNat + j)) Tryd.underlying57 hpa hpl Tryd.sizeOf5 (by omega)) w (Sat.start w)) (by kernel_rfl) (by kernel_rfl) (by kernel_rfl) ?_
        refine any_one (i := 15) (by kernel_rfl) ?_
        refine ro_storeFr (j := 0) rfl Tryd.sizeOf5 rfl rfl rfl (Nat.lt_of_lt_of_le hpt (bytesRow_ge _ _)) (Nat.lt_of_lt_of_le hpl hfg1) (turn_cells hc hx hy) rfl ?_
        refine any_end (by kernel_rfl) ?_
        refine run_endblock ?_
        refine run_region (todo := [0, 1, 2]) rfl rfl ?_
        refine run_mv rfl ?_
        refine run_rd (v := .int .i64 ((j : Int) + 1)) rfl (rd_add (r := (j : Int) + 1) (IntWalk.i64_in _ (by omega))) ?_
        refine run_mv rfl ?_
        refine run_endops ?_
        exact run_less [0] (ih (j + 1) hj (by omega)) ⟨rfl, rfl, rfl, rfl, rfl, trivial⟩ ⟨rfl, trivial⟩ (by decide)
      · have hna := of_decide_eq_false hb3
        have ht : turnTo l a (four m) (j + 1) = turnTo l a (four m) j := if_neg (fun e => hna e.2)
        refine run_skip rfl ?_
        refine run_endblock ?_
        refine run_region (todo := [0, 1, 2]) rfl rfl ?_
        refine run_mv rfl ?_
        refine run_rd (v := .int .i64 ((j : Int) + 1)) rfl (rd_add (r := (j : Int) + 1) (IntWalk.i64_in _ (by omega))) ?_
        refine run_mv rfl ?_
        refine run_endops ?_
        exact run_less [0] (ih (j + 1) hj (by omega)) ⟨rfl, rfl, rfl, rfl, rfl, trivial⟩ ⟨(by rw [ht]; rfl), trivial⟩ (by decide)
    · have ha : ¬ 0 ≤ a := of_decide_eq_false hb2
      have ht : turnTo l a (four m) (j + 1) = turnTo l a (four m) j := if_neg (fun e => ha e.1)
      refine run_region (todo := [0, 1, 2, 3, 4, 5, 6, 7, 8, 9]) rfl rfl ?_
      refine run_mv rfl ?_
      refine run_rd (v := .bool false) rfl (rd_cmp rfl hb2) ?_
      refine run_mv rfl ?_
      refine run_skipped rfl ?_
      refine run_skipped rfl ?_
      refine run_skipped rfl ?_
      refine run_skipped rfl ?_
      refine run_skipped rfl ?_
      refine run_skipped rfl ?_
      refine run_pick (v := .bool false) rfl rfl ?_
      refine run_endops ?_
      refine run_false rfl rfl ?_
      refine run_skip rfl ?_
      refine run_endblock ?_
      refine run_region (todo := [0, 1, 2]) rfl rfl ?_
      refine run_mv rfl ?_
      refine run_rd (v := .int .i64 ((j : Int) + 1)) rfl (rd_add (r := (j : Int) + 1) (IntWalk.i64_in _ (by omega))) ?_
      refine run_mv rfl ?_
      refine run_endops ?_
      exact run_less [0] (ih (j + 1) hj (by omega)) ⟨rfl, rfl, rfl, rfl, rfl, trivial⟩ ⟨(by rw [ht]; rfl), trivial⟩ (by decide)
  · have hj : j = 4 := by have := of_decide_eq_false hb1; omega
    refine run_exit rfl rfl ?_
    refine run_seq rfl ?_
    refine run_region (todo := [0, 1, 2]) rfl rfl ?_
    refine run_mv rfl ?_
    refine run_rd (v := .string (bs (turnTo l a (four m) j))) rfl (rd_bytesStr (j := 0) (l := (turnTo l a (four m) j)) Tryd.underlying57 Tryd.underlying5 Tryd.underlying9 rfl (turnTo_length _ _ _ _).symm) ?_
    refine run_mv rfl ?_
    refine run_endops ?_
    refine run_ret rfl (v := .string (bs (turnTo l a (four m) j))) (res1 rfl rfl) ?_
    subst hj
    rfl

end Go.Proofs.YthapghhmeicbnaaDoor
