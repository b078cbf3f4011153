/- Frames: another lane, in the reference. Printed by wip/k/genF.py. -/
import Derived.Test.YthapghhmeicbnaaDoorKFw05
set_option linter.unusedVariables false
set_option linter.unusedSimpArgs false
namespace Go.Proofs.YthapghhmeicbnaaDoor
open Go.RowKit

theorem rwith_0_0 (f : Fr) (A : Option Addr) (c : Nat) (w0 : World) (hA : Cells w0 A (encE.row ([] : List Ent))) : Fn Tryd.prog 18 #[f.val, .int .i64 0, .slice A (([] : List Ent).length) c] w0 (fun v _ => v = (f.with 0 ([] : List Ent)).val) := by
  have dl0 : decide ((0 : Int) < ((([] : List Ent).length : Nat) : Int)) = false := decide_eq_false (by simp)
  have dl1 : decide ((1 : Int) < ((([] : List Ent).length : Nat) : Int)) = false := decide_eq_false (by simp)
  refine fn_of_run Tryd.func18 rfl rfl ?_
  refine run_seq rfl ?_
  refine run_region (todo := [0, 1]) rfl rfl ?_
  refine run_box rfl (fun g1 => ?_)
  refine run_alloc rfl Tryd.zeroValue33 (fun g2 => ?_)
  refine run_endops ?_
  refine run_seq rfl ?_
  refine run_seq rfl ?_
  refine run_region (todo := [0, 1, 2, 3, 4, 5]) rfl rfl ?_
  refine run_mv rfl ?_
  refine run_rd (v := .bool false) rfl (rd_cmp rfl rfl) ?_
  refine run_mv rfl ?_
  refine run_mvG rfl ?_
  refine run_rdG (v := .bool false) rfl (rd_cmp rfl rfl) ?_
  refine run_pick (v := .bool false) rfl rfl ?_
  refine run_endops ?_
  refine run_false rfl rfl ?_
  refine run_skip rfl ?_
  refine run_seq rfl ?_
  refine run_seq rfl ?_
  refine run_region (todo := [0]) rfl rfl ?_
  refine run_mv rfl ?_
  refine run_endops ?_
  refine run_block rfl ?_
  refine run_loop rfl ?_
  refine run_again ?_
  refine run_seq rfl ?_
  refine run_seq rfl ?_
  refine run_region (todo := [0, 1]) rfl rfl ?_
  refine run_mv rfl ?_
  refine run_rd (v := .bool true) rfl (rd_cmp rfl rfl) ?_
  refine run_endops ?_
  refine run_true rfl rfl ?_
  refine run_skip rfl ?_
  refine run_seq rfl ?_
  refine run_block rfl ?_
  refine run_seq rfl ?_
  refine run_region (todo := [0, 1, 2, 3, 4, 5]) rfl rfl ?_
  refine run_mv rfl ?_
  refine run_mv rfl ?_
  refine run_rd (v := .agg #[.int .i64 0, .int .i64 0, .int .i64 0, .int .u64 0, .int .u64 0, .string ⟨#[]⟩]) rfl ((fun w _ => by kernel_rfl)) ?_
  refine run_rd (v := .pointer (some ⟨g1, 0, none⟩)) rfl (rd_indexAddrA (m := 0) (o := 0) Tryd.underlying33 rfl (by decide) Tryd.sizeOf31 rfl) ?_
  refine run_rd (v := .pointer (some ⟨g1, 0, none⟩)) rfl (rd_indexAddrA (m := 0) (o := 0) Tryd.underlying31 rfl (by decide) Tryd.sizeOf30 rfl) ?_
  refine run_store (j := 1) (c' := #[.int .i64 0, .int .i64 0, .int .i64 0, .int .u64 0, .int .u64 0, .string ⟨#[]⟩, .int .i64 f.a1.kind, .int .i64 f.a1.service, .int .i64 f.a1.group, .int .u64 f.a1.session, .int .u64 f.a1.number, .string f.a1.text, .int .i64 f.b0.kind, .int .i64 f.b0.service, .int .i64 f.b0.group, .int .u64 f.b0.session, .int .u64 f.b0.number, .string f.b0.text, .int .i64 f.b1.kind, .int .i64 f.b1.service, .int .i64 f.b1.group, .int .u64 f.b1.session, .int .u64 f.b1.number, .string f.b1.text, .int .i64 f.c0.kind, .int .i64 f.c0.service, .int .i64 f.c0.group, .int .u64 f.c0.session, .int .u64 f.c0.number, .string f.c0.text, .int .i64 f.c1.kind, .int .i64 f.c1.service, .int .i64 f.c1.group, .int .u64 f.c1.session, .int .u64 f.c1.number, .string f.c1.text]) rfl Tryd.sizeOf30 rfl rfl rfl rfl (by kernel_rfl) rfl ?_
  refine run_endops ?_
  refine run_seq rfl ?_
  refine run_region (todo := [0, 1, 2, 3]) rfl rfl ?_
  refine run_mv rfl ?_
  refine run_mv rfl ?_
  refine run_rd (v := .int .i64 ((([] : List Ent).length : Nat) : Int)) rfl (rd_len Tryd.underlying50) ?_
  refine run_rd (v := .bool false) rfl (rd_cmp rfl dl0) ?_
  refine run_endops ?_
  refine run_false rfl rfl ?_
  refine run_skip rfl ?_
  refine run_endblock ?_
  refine run_region (todo := [0, 1, 2]) rfl rfl ?_
  refine run_mv rfl ?_
  refine run_rd (v := .int .i64 1) rfl (rd_add (r := 1) (by decide)) ?_
  refine run_mv rfl ?_
  refine run_endops ?_
  refine run_again ?_
  refine run_seq rfl ?_
  refine run_seq rfl ?_
  refine run_region (todo := [0, 1]) rfl rfl ?_
  refine run_mv rfl ?_
  refine run_rd (v := .bool true) rfl (rd_cmp rfl rfl) ?_
  refine run_endops ?_
  refine run_true rfl rfl ?_
  refine run_skip rfl ?_
  refine run_seq rfl ?_
  refine run_block rfl ?_
  refine run_seq rfl ?_
  refine run_region (todo := [0, 1, 2, 3, 4, 5]) rfl rfl ?_
  refine run_mv rfl ?_
  refine run_mv rfl ?_
  refine run_rd (v := .agg #[.int .i64 0, .int .i64 0, .int .i64 0, .int .u64 0, .int .u64 0, .string ⟨#[]⟩]) rfl ((fun w _ => by kernel_rfl)) ?_
  refine run_rd (v := .pointer (some ⟨g1, 0, none⟩)) rfl (rd_indexAddrA (m := 0) (o := 0) Tryd.underlying33 rfl (by decide) Tryd.sizeOf31 rfl) ?_
  refine run_rd (v := .pointer (some ⟨g1, 6, none⟩)) rfl (rd_indexAddrA (m := 1) (o := 6) Tryd.underlying31 rfl (by decide) Tryd.sizeOf30 rfl) ?_
  refine run_store (j := 1) (c' := #[.int .i64 0, .int .i64 0, .int .i64 0, .int .u64 0, .int .u64 0, .string ⟨#[]⟩, .int .i64 0, .int .i64 0, .int .i64 0, .int .u64 0, .int .u64 0, .string ⟨#[]⟩, .int .i64 f.b0.kind, .int .i64 f.b0.service, .int .i64 f.b0.group, .int .u64 f.b0.session, .int .u64 f.b0.number, .string f.b0.text, .int .i64 f.b1.kind, .int .i64 f.b1.service, .int .i64 f.b1.group, .int .u64 f.b1.session, .int .u64 f.b1.number, .string f.b1.text, .int .i64 f.c0.kind, .int .i64 f.c0.service, .int .i64 f.c0.group, .int .u64 f.c0.session, .int .u64 f.c0.number, .string f.c0.text, .int .i64 f.c1.kind, .int .i64 f.c1.service, .int .i64 f.c1.group, .int .u64 f.c1.session, .int .u64 f.c1.number, .string f.c1.text]) rfl Tryd.sizeOf30 rfl rfl rfl rfl (by kernel_rfl) rfl ?_
  refine run_endops ?_
  refine run_seq rfl ?_
  refine run_region (todo := [0, 1, 2, 3]) rfl rfl ?_
  refine run_mv rfl ?_
  refine run_mv rfl ?_
  refine run_rd (v := .int .i64 ((([] : List Ent).length : Nat) : Int)) rfl (rd_len Tryd.underlying50) ?_
  refine run_rd (v := .bool false) rfl (rd_cmp rfl dl1) ?_
  refine run_endops ?_
  refine run_false rfl rfl ?_
  refine run_skip rfl ?_
  refine run_endblock ?_
  refine run_region (todo := [0, 1, 2]) rfl rfl ?_
  refine run_mv rfl ?_
  refine run_rd (v := .int .i64 2) rfl (rd_add (r := 2) (by decide)) ?_
  refine run_mv rfl ?_
  refine run_endops ?_
  refine run_again ?_
  refine run_seq rfl ?_
  refine run_seq rfl ?_
  refine run_region (todo := [0, 1]) rfl rfl ?_
  refine run_mv rfl ?_
  refine run_rd (v := .bool false) rfl (rd_cmp rfl rfl) ?_
  refine run_endops ?_
  refine run_false rfl rfl ?_
  refine run_exit rfl rfl ?_
  refine run_seq rfl ?_
  refine run_region (todo := [0, 1]) rfl rfl ?_
  refine run_rd (v := .agg #[.int .i64 0, .int .i64 0, .int .i64 0, .int .u64 0, .int .u64 0, .string ⟨#[]⟩, .int .i64 0, .int .i64 0, .int .i64 0, .int .u64 0, .int .u64 0, .string ⟨#[]⟩, .int .i64 f.b0.kind, .int .i64 f.b0.service, .int .i64 f.b0.group, .int .u64 f.b0.session, .int .u64 f.b0.number, .string f.b0.text, .int .i64 f.b1.kind, .int .i64 f.b1.service, .int .i64 f.b1.group, .int .u64 f.b1.session, .int .u64 f.b1.number, .string f.b1.text, .int .i64 f.c0.kind, .int .i64 f.c0.service, .int .i64 f.c0.group, .int .u64 f.c0.session, .int .u64 f.c0.number, .string f.c0.text, .int .i64 f.c1.kind, .int .i64 f.c1.service, .int .i64 f.c1.group, .int .u64 f.c1.session, .int .u64 f.c1.number, .string f.c1.text]) rfl (rd_loadW (j := 1) Tryd.isAgg33 Tryd.sizeOf33 rfl rfl) ?_
  refine run_storeW (j := 0) (c' := #[.int .i64 0, .int .i64 0, .int .i64 0, .int .u64 0, .int .u64 0, .string ⟨#[]⟩, .int .i64 0, .int .i64 0, .int .i64 0, .int .u64 0, .int .u64 0, .string ⟨#[]⟩, .int .i64 f.b0.kind, .int .i64 f.b0.service, .int .i64 f.b0.group, .int .u64 f.b0.session, .int .u64 f.b0.number, .string f.b0.text, .int .i64 f.b1.kind, .int .i64 f.b1.service, .int .i64 f.b1.group, .int .u64 f.b1.session, .int .u64 f.b1.number, .string f.b1.text, .int .i64 f.c0.kind, .int .i64 f.c0.service, .int .i64 f.c0.group, .int .u64 f.c0.session, .int .u64 f.c0.number, .string f.c0.text, .int .i64 f.c1.kind, .int .i64 f.c1.service, .int .i64 f.c1.group, .int .u64 f.c1.session, .int .u64 f.c1.number, .string f.c1.text]) rfl Tryd.sizeOf33 rfl rfl rfl rfl rfl rfl ?_
  refine run_endops ?_
  refine run_ret rfl (v := .agg #[.int .i64 0, .int .i64 0, .int .i64 0, .int .u64 0, .int .u64 0, .string ⟨#[]⟩, .int .i64 0, .int .i64 0, .int .i64 0, .int .u64 0, .int .u64 0, .string ⟨#[]⟩, .int .i64 f.b0.kind, .int .i64 f.b0.service, .int .i64 f.b0.group, .int .u64 f.b0.session, .int .u64 f.b0.number, .string f.b0.text, .int .i64 f.b1.kind, .int .i64 f.b1.service, .int .i64 f.b1.group, .int .u64 f.b1.session, .int .u64 f.b1.number, .string f.b1.text, .int .i64 f.c0.kind, .int .i64 f.c0.service, .int .i64 f.c0.group, .int .u64 f.c0.session, .int .u64 f.c0.number, .string f.c0.text, .int .i64 f.c1.kind, .int .i64 f.c1.service, .int .i64 f.c1.group, .int .u64 f.c1.session, .int .u64 f.c1.number, .string f.c1.text]) (res1 rfl ⟨_, rfl, rdv (rd_loadW (j := 0) Tryd.isAgg33 Tryd.sizeOf33 rfl rfl)⟩) ?_
  rfl

theorem rwith_0_1 (f : Fr) (e1 : Ent) (A : Option Addr) (c : Nat) (w0 : World) (hA : Cells w0 A (encE.row [e1])) : Fn Tryd.prog 18 #[f.val, .int .i64 0, .slice A ([e1].length) c] w0 (fun v _ => v = (f.with 0 [e1]).val) := by
  have dl0 : decide ((0 : Int) < (([e1].length : Nat) : Int)) = true := decide_eq_true (by simp)
  have dl1 : decide ((1 : Int) < (([e1].length : Nat) : Int)) = false := decide_eq_false (by simp)
  refine fn_of_run Tryd.func18 rfl rfl ?_
  refine run_seq rfl ?_
  refine run_region (todo := [0, 1]) rfl rfl ?_
  refine run_box rfl (fun g1 => ?_)
  refine run_alloc rfl Tryd.zeroValue33 (fun g2 => ?_)
  refine run_endops ?_
  refine run_seq rfl ?_
  refine run_seq rfl ?_
  refine run_region (todo := [0, 1, 2, 3, 4, 5]) rfl rfl ?_
  refine run_mv rfl ?_
  refine run_rd (v := .bool false) rfl (rd_cmp rfl rfl) ?_
  refine run_mv rfl ?_
  refine run_mvG rfl ?_
  refine run_rdG (v := .bool false) rfl (rd_cmp rfl rfl) ?_
  refine run_pick (v := .bool false) rfl rfl ?_
  refine run_endops ?_
  refine run_false rfl rfl ?_
  refine run_skip rfl ?_
  refine run_seq rfl ?_
  refine run_seq rfl ?_
  refine run_region (todo := [0]) rfl rfl ?_
  refine run_mv rfl ?_
  refine run_endops ?_
  refine run_block rfl ?_
  refine run_loop rfl ?_
  refine run_again ?_
  refine run_seq rfl ?_
  refine run_seq rfl ?_
  refine run_region (todo := [0, 1]) rfl rfl ?_
  refine run_mv rfl ?_
  refine run_rd (v := .bool true) rfl (rd_cmp rfl rfl) ?_
  refine run_endops ?_
  refine run_true rfl rfl ?_
  refine run_skip rfl ?_
  refine run_seq rfl ?_
  refine run_block rfl ?_
  refine run_seq rfl ?_
  refine run_region (todo := [0, 1, 2, 3, 4, 5]) rfl rfl ?_
  refine run_mv rfl ?_
  refine run_mv rfl ?_
  refine run_rd (v := .agg #[.int .i64 0, .int .i64 0, .int .i64 0, .int .u64 0, .int .u64 0, .string ⟨#[]⟩]) rfl ((fun w _ => by kernel_rfl)) ?_
  refine run_rd (v := .pointer (some ⟨g1, 0, none⟩)) rfl (rd_indexAddrA (m := 0) (o := 0) Tryd.underlying33 rfl (by decide) Tryd.sizeOf31 rfl) ?_
  refine run_rd (v := .pointer (some ⟨g1, 0, none⟩)) rfl (rd_indexAddrA (m := 0) (o := 0) Tryd.underlying31 rfl (by decide) Tryd.sizeOf30 rfl) ?_
  refine run_store (j := 1) (c' := #[.int .i64 0, .int .i64 0, .int .i64 0, .int .u64 0, .int .u64 0, .string ⟨#[]⟩, .int .i64 f.a1.kind, .int .i64 f.a1.service, .int .i64 f.a1.group, .int .u64 f.a1.session, .int .u64 f.a1.number, .string f.a1.text, .int .i64 f.b0.kind, .int .i64 f.b0.service, .int .i64 f.b0.group, .int .u64 f.b0.session, .int .u64 f.b0.number, .string f.b0.text, .int .i64 f.b1.kind, .int .i64 f.b1.service, .int .i64 f.b1.group, .int .u64 f.b1.session, .int .u64 f.b1.number, .string f.b1.text, .int .i64 f.c0.kind, .int .i64 f.c0.service, .int .i64 f.c0.group, .int .u64 f.c0.session, .int .u64 f.c0.number, .string f.c0.text, .int .i64 f.c1.kind, .int .i64 f.c1.service, .int .i64 f.c1.group, .int .u64 f.c1.session, .int .u64 f.c1.number, .string f.c1.text]) rfl Tryd.sizeOf30 rfl rfl rfl rfl (by kernel_rfl) rfl ?_
  refine run_endops ?_
  refine run_seq rfl ?_
  refine run_region (todo := [0, 1, 2, 3]) rfl rfl ?_
  refine run_mv rfl ?_
  refine run_mv rfl ?_
  refine run_rd (v := .int .i64 (([e1].length : Nat) : Int)) rfl (rd_len Tryd.underlying50) ?_
  refine run_rd (v := .bool true) rfl (rd_cmp rfl dl0) ?_
  refine run_endops ?_
  refine run_true rfl rfl ?_
  refine any_draw (n := 9) rfl rfl rfl (by kernel_rfl) ?_
  refine any_takeM (i := 0) rfl (by kernel_rfl) (by kernel_rfl) (by kernel_rfl) ?_
  refine any_takeM (i := 1) rfl (by kernel_rfl) (by kernel_rfl) (by kernel_rfl) ?_
  refine any_takeM (i := 2) rfl (by kernel_rfl) (by kernel_rfl) (by kernel_rfl) ?_
  refine any_takeM (i := 3) rfl (by kernel_rfl) (by kernel_rfl) (by kernel_rfl) ?_
  refine any_take (i := 6) (v := .pointer (some ⟨g1, 0, none⟩)) rfl (fun w => (rd_indexAddrA (m := 0) (o := 0) Tryd.underlying33 rfl (by decide) Tryd.sizeOf31 rfl) w (Sat.start w)) (by kernel_rfl) (by kernel_rfl) (by kernel_rfl) ?_
  refine any_one (i := 4) (by kernel_rfl) ?_
  refine ro_rd (v := .pointer (elemAddr A (0 * 6))) rfl (rd_elem (m := 0) (o := 0 * 6) (know_old hA) Tryd.underlying50 Tryd.sizeOf30 rfl (lt_of_item (rfl : [e1][0]? = some e1) rfl) (Nat.lt_of_lt_of_le (m := 0 * 6 + 6) (by omega) (row_lt (E := encE) (rfl : [e1][0]? = some e1))) rfl) ?_
  refine any_one (i := 5) (by kernel_rfl) ?_
  refine ro_rd (v := .agg e1.arr) rfl (rd_elemLoadA (u := e1.arr) (know_old hA) Tryd.isAgg30 Tryd.sizeOf30 rfl (row_all (E := encE) (rfl : [e1][0]? = some e1)) (row_lt (E := encE) (rfl : [e1][0]? = some e1))) ?_
  refine any_take (i := 7) (v := .pointer (some ⟨g1, 0, none⟩)) rfl (fun w => (rd_indexAddrA (m := 0) (o := 0) Tryd.underlying31 rfl (by decide) Tryd.sizeOf30 rfl) w (Sat.start w)) (by kernel_rfl) (by kernel_rfl) (by kernel_rfl) ?_
  refine any_one (i := 8) (by kernel_rfl) ?_
  refine ro_store (j := 1) (c' := #[.int .i64 e1.kind, .int .i64 e1.service, .int .i64 e1.group, .int .u64 e1.session, .int .u64 e1.number, .string e1.text, .int .i64 f.a1.kind, .int .i64 f.a1.service, .int .i64 f.a1.group, .int .u64 f.a1.session, .int .u64 f.a1.number, .string f.a1.text, .int .i64 f.b0.kind, .int .i64 f.b0.service, .int .i64 f.b0.group, .int .u64 f.b0.session, .int .u64 f.b0.number, .string f.b0.text, .int .i64 f.b1.kind, .int .i64 f.b1.service, .int .i64 f.b1.group, .int .u64 f.b1.session, .int .u64 f.b1.number, .string f.b1.text, .int .i64 f.c0.kind, .int .i64 f.c0.service, .int .i64 f.c0.group, .int .u64 f.c0.session, .int .u64 f.c0.number, .string f.c0.text, .int .i64 f.c1.kind, .int .i64 f.c1.service, .int .i64 f.c1.group, .int .u64 f.c1.session, .int .u64 f.c1.number, .string f.c1.text]) rfl Tryd.sizeOf30 rfl rfl rfl rfl (by kernel_rfl) rfl ?_
  refine any_end (by kernel_rfl) ?_
  refine run_endblock ?_
  refine run_region (todo := [0, 1, 2]) rfl rfl ?_
  refine run_mv rfl ?_
  refine run_rd (v := .int .i64 1) rfl (rd_add (r := 1) (by decide)) ?_
  refine run_mv rfl ?_
  refine run_endops ?_
  refine run_again ?_
  refine run_seq rfl ?_
  refine run_seq rfl ?_
  refine run_region (todo := [0, 1]) rfl rfl ?_
  refine run_mv rfl ?_
  refine run_rd (v := .bool true) rfl (rd_cmp rfl rfl) ?_
  refine run_endops ?_
  refine run_true rfl rfl ?_
  refine run_skip rfl ?_
  refine run_seq rfl ?_
  refine run_block rfl ?_
  refine run_seq rfl ?_
  refine run_region (todo := [0, 1, 2, 3, 4, 5]) rfl rfl ?_
  refine run_mv rfl ?_
  refine run_mv rfl ?_
  refine run_rd (v := .agg #[.int .i64 0, .int .i64 0, .int .i64 0, .int .u64 0, .int .u64 0, .string ⟨#[]⟩]) rfl ((fun w _ => by kernel_rfl)) ?_
  refine run_rd (v := .pointer (some ⟨g1, 0, none⟩)) rfl (rd_indexAddrA (m := 0) (o := 0) Tryd.underlying33 rfl (by decide) Tryd.sizeOf31 rfl) ?_
  refine run_rd (v := .pointer (some ⟨g1, 6, none⟩)) rfl (rd_indexAddrA (m := 1) (o := 6) Tryd.underlying31 rfl (by decide) Tryd.sizeOf30 rfl) ?_
  refine run_store (j := 1) (c' := #[.int .i64 e1.kind, .int .i64 e1.service, .int .i64 e1.group, .int .u64 e1.session, .int .u64 e1.number, .string e1.text, .int .i64 0, .int .i64 0, .int .i64 0, .int .u64 0, .int .u64 0, .string ⟨#[]⟩, .int .i64 f.b0.kind, .int .i64 f.b0.service, .int .i64 f.b0.group, .int .u64 f.b0.session, .int .u64 f.b0.number, .string f.b0.text, .int .i64 f.b1.kind, .int .i64 f.b1.service, .int .i64 f.b1.group, .int .u64 f.b1.session, .int .u64 f.b1.number, .string f.b1.text, .int .i64 f.c0.kind, .int .i64 f.c0.service, .int .i64 f.c0.group, .int .u64 f.c0.session, .int .u64 f.c0.number, .string f.c0.text, .int .i64 f.c1.kind, .int .i64 f.c1.service, .int .i64 f.c1.group, .int .u64 f.c1.session, .int .u64 f.c1.number, .string f.c1.text]) rfl Tryd.sizeOf30 rfl rfl rfl rfl (by kernel_rfl) rfl ?_
  refine run_endops ?_
  refine run_seq rfl ?_
  refine run_region (todo := [0, 1, 2, 3]) rfl rfl ?_
  refine run_mv rfl ?_
  refine run_mv rfl ?_
  refine run_rd (v := .int .i64 (([e1].length : Nat) : Int)) rfl (rd_len Tryd.underlying50) ?_
  refine run_rd (v := .bool false) rfl (rd_cmp rfl dl1) ?_
  refine run_endops ?_
  refine run_false rfl rfl ?_
  refine run_skip rfl ?_
  refine run_endblock ?_
  refine run_region (todo := [0, 1, 2]) rfl rfl ?_
  refine run_mv rfl ?_
  refine run_rd (v := .int .i64 2) rfl (rd_add (r := 2) (by decide)) ?_
  refine run_mv rfl ?_
  refine run_endops ?_
  refine run_again ?_
  refine run_seq rfl ?_
  refine run_seq rfl ?_
  refine run_region (todo := [0, 1]) rfl rfl ?_
  refine run_mv rfl ?_
  refine run_rd (v := .bool false) rfl (rd_cmp rfl rfl) ?_
  refine run_endops ?_
  refine run_false rfl rfl ?_
  refine run_exit rfl rfl ?_
  refine run_seq rfl ?_
  refine run_region (todo := [0, 1]) rfl rfl ?_
  refine run_rd (v := .agg #[.int .i64 e1.kind, .int .i64 e1.service, .int .i64 e1.group, .int .u64 e1.session, .int .u64 e1.number, .string e1.text, .int .i64 0, .int .i64 0, .int .i64 0, .int .u64 0, .int .u64 0, .string ⟨#[]⟩, .int .i64 f.b0.kind, .int .i64 f.b0.service, .int .i64 f.b0.group, .int .u64 f.b0.session, .int .u64 f.b0.number, .string f.b0.text, .int .i64 f.b1.kind, .int .i64 f.b1.service, .int .i64 f.b1.group, .int .u64 f.b1.session, .int .u64 f.b1.number, .string f.b1.text, .int .i64 f.c0.kind, .int .i64 f.c0.service, .int .i64 f.c0.group, .int .u64 f.c0.session, .int .u64 f.c0.number, .string f.c0.text, .int .i64 f.c1.kind, .int .i64 f.c1.service, .int .i64 f.c1.group, .int .u64 f.c1.session, .int .u64 f.c1.number, .string f.c1.text]) rfl (rd_loadW (j := 1) Tryd.isAgg33 Tryd.sizeOf33 rfl rfl) ?_
  refine run_storeW (j := 0) (c' := #[.int .i64 e1.kind, .int .i64 e1.service, .int .i64 e1.group, .int .u64 e1.session, .int .u64 e1.number, .string e1.text, .int .i64 0, .int .i64 0, .int .i64 0, .int .u64 0, .int .u64 0, .string ⟨#[]⟩, .int .i64 f.b0.kind, .int .i64 f.b0.service, .int .i64 f.b0.group, .int .u64 f.b0.session, .int .u64 f.b0.number, .string f.b0.text, .int .i64 f.b1.kind, .int .i64 f.b1.service, .int .i64 f.b1.group, .int .u64 f.b1.session, .int .u64 f.b1.number, .string f.b1.text, .int .i64 f.c0.kind, .int .i64 f.c0.service, .int .i64 f.c0.group, .int .u64 f.c0.session, .int .u64 f.c0.number, .string f.c0.text, .int .i64 f.c1.kind, .int .i64 f.c1.service, .int .i64 f.c1.group, .int .u64 f.c1.session, .int .u64 f.c1.number, .string f.c1.text]) rfl Tryd.sizeOf33 rfl rfl rfl rfl rfl rfl ?_
  refine run_endops ?_
  refine run_ret rfl (v := .agg #[.int .i64 e1.kind, .int .i64 e1.service, .int .i64 e1.group, .int .u64 e1.session, .int .u64 e1.number, .string e1.text, .int .i64 0, .int .i64 0, .int .i64 0, .int .u64 0, .int .u64 0, .string ⟨#[]⟩, .int .i64 f.b0.kind, .int .i64 f.b0.service, .int .i64 f.b0.group, .int .u64 f.b0.session, .int .u64 f.b0.number, .string f.b0.text, .int .i64 f.b1.kind, .int .i64 f.b1.service, .int .i64 f.b1.group, .int .u64 f.b1.session, .int .u64 f.b1.number, .string f.b1.text, .int .i64 f.c0.kind, .int .i64 f.c0.service, .int .i64 f.c0.group, .int .u64 f.c0.session, .int .u64 f.c0.number, .string f.c0.text, .int .i64 f.c1.kind, .int .i64 f.c1.service, .int .i64 f.c1.group, .int .u64 f.c1.session, .int .u64 f.c1.number, .string f.c1.text]) (res1 rfl ⟨_, rfl, rdv (rd_loadW (j := 0) Tryd.isAgg33 Tryd.sizeOf33 rfl rfl)⟩) ?_
  rfl

theorem rwith_0_2 (f : Fr) (e1 e2 : Ent) (l : List Ent) (A : Option Addr) (c : Nat) (w0 : World) (hA : Cells w0 A (encE.row (e1 :: e2 :: l))) : Fn Tryd.prog 18 #[f.val, .int .i64 0, .slice A ((e1 :: e2 :: l).length) c] w0 (fun v _ => v = (f.with 0 (e1 :: e2 :: l)).val) := by
  have dl0 : decide ((0 : Int) < (((e1 :: e2 :: l).length : Nat) : Int)) = true := decide_eq_true (by simp; omega)
  have dl1 : decide ((1 : Int) < (((e1 :: e2 :: l).length : Nat) : Int)) = true := decide_eq_true (by simp; omega)
  refine fn_of_run Tryd.func18 rfl rfl ?_
  refine run_seq rfl ?_
  refine run_region (todo := [0, 1]) rfl rfl ?_
  refine run_box rfl (fun g1 => ?_)
  refine run_alloc rfl Tryd.zeroValue33 (fun g2 => ?_)
  refine run_endops ?_
  refine run_seq rfl ?_
  refine run_seq rfl ?_
  refine run_region (todo := [0, 1, 2, 3, 4, 5]) rfl rfl ?_
  refine run_mv rfl ?_
  refine run_rd (v := .bool false) rfl (rd_cmp rfl rfl) ?_
  refine run_mv rfl ?_
  refine run_mvG rfl ?_
  refine run_rdG (v := .bool false) rfl (rd_cmp rfl rfl) ?_
  refine run_pick (v := .bool false) rfl rfl ?_
  refine run_endops ?_
  refine run_false rfl rfl ?_
  refine run_skip rfl ?_
  refine run_seq rfl ?_
  refine run_seq rfl ?_
  refine run_region (todo := [0]) rfl rfl ?_
  refine run_mv rfl ?_
  refine run_endops ?_
  refine run_block rfl ?_
  refine run_loop rfl ?_
  refine run_again ?_
  refine run_seq rfl ?_
  refine run_seq rfl ?_
  refine run_region (todo := [0, 1]) rfl rfl ?_
  refine run_mv rfl ?_
  refine run_rd (v := .bool true) rfl (rd_cmp rfl rfl) ?_
  refine run_endops ?_
  refine run_true rfl rfl ?_
  refine run_skip rfl ?_
  refine run_seq rfl ?_
  refine run_block rfl ?_
  refine run_seq rfl ?_
  refine run_region (todo := [0, 1, 2, 3, 4, 5]) rfl rfl ?_
  refine run_mv rfl ?_
  refine run_mv rfl ?_
  refine run_rd (v := .agg #[.int .i64 0, .int .i64 0, .int .i64 0, .int .u64 0, .int .u64 0, .string ⟨#[]⟩]) rfl ((fun w _ => by kernel_rfl)) ?_
  refine run_rd (v := .pointer (some ⟨g1, 0, none⟩)) rfl (rd_indexAddrA (m := 0) (o := 0) Tryd.underlying33 rfl (by decide) Tryd.sizeOf31 rfl) ?_
  refine run_rd (v := .pointer (some ⟨g1, 0, none⟩)) rfl (rd_indexAddrA (m := 0) (o := 0) Tryd.underlying31 rfl (by decide) Tryd.sizeOf30 rfl) ?_
  refine run_store (j := 1) (c' := #[.int .i64 0, .int .i64 0, .int .i64 0, .int .u64 0, .int .u64 0, .string ⟨#[]⟩, .int .i64 f.a1.kind, .int .i64 f.a1.service, .int .i64 f.a1.group, .int .u64 f.a1.session, .int .u64 f.a1.number, .string f.a1.text, .int .i64 f.b0.kind, .int .i64 f.b0.service, .int .i64 f.b0.group, .int .u64 f.b0.session, .int .u64 f.b0.number, .string f.b0.text, .int .i64 f.b1.kind, .int .i64 f.b1.service, .int .i64 f.b1.group, .int .u64 f.b1.session, .int .u64 f.b1.number, .string f.b1.text, .int .i64 f.c0.kind, .int .i64 f.c0.service, .int .i64 f.c0.group, .int .u64 f.c0.session, .int .u64 f.c0.number, .string f.c0.text, .int .i64 f.c1.kind, .int .i64 f.c1.service, .int .i64 f.c1.group, .int .u64 f.c1.session, .int .u64 f.c1.number, .string f.c1.text]) rfl Tryd.sizeOf30 rfl rfl rfl rfl (by kernel_rfl) rfl ?_
  refine run_endops ?_
  refine run_seq rfl ?_
  refine run_region (todo := [0, 1, 2, 3]) rfl rfl ?_
  refine run_mv rfl ?_
  refine run_mv rfl ?_
  refine run_rd (v := .int .i64 (((e1 :: e2 :: l).length : Nat) : Int)) rfl (rd_len Tryd.underlying50) ?_
  refine run_rd (v := .bool true) rfl (rd_cmp rfl dl0) ?_
  refine run_endops ?_
  refine run_true rfl rfl ?_
  refine any_draw (n := 9) rfl rfl rfl (by kernel_rfl) ?_
  refine any_takeM (i := 0) rfl (by kernel_rfl) (by kernel_rfl) (by kernel_rfl) ?_
  refine any_takeM (i := 1) rfl (by kernel_rfl) (by kernel_rfl) (by kernel_rfl) ?_
  refine any_takeM (i := 2) rfl (by kernel_rfl) (by kernel_rfl) (by kernel_rfl) ?_
  refine any_takeM (i := 3) rfl (by kernel_rfl) (by kernel_rfl) (by kernel_rfl) ?_
  refine any_take (i := 6) (v := .pointer (some ⟨g1, 0, none⟩)) rfl (fun w => (rd_indexAddrA (m := 0) (o := 0) Tryd.underlying33 rfl (by decide) Tryd.sizeOf31 rfl) w (Sat.start w)) (by kernel_rfl) (by kernel_rfl) (by kernel_rfl) ?_
  refine any_one (i := 4) (by kernel_rfl) ?_
  refine ro_rd (v := .pointer (elemAddr A (0 * 6))) rfl (rd_elem (m := 0) (o := 0 * 6) (know_old hA) Tryd.underlying50 Tryd.sizeOf30 rfl (lt_of_item (rfl : (e1 :: e2 :: l)[0]? = some e1) rfl) (Nat.lt_of_lt_of_le (m := 0 * 6 + 6) (by omega) (row_lt (E := encE) (rfl : (e1 :: e2 :: l)[0]? = some e1))) rfl) ?_
  refine any_one (i := 5) (by kernel_rfl) ?_
  refine ro_rd (v := .agg e1.arr) rfl (rd_elemLoadA (u := e1.arr) (know_old hA) Tryd.isAgg30 Tryd.sizeOf30 rfl (row_all (E := encE) (rfl : (e1 :: e2 :: l)[0]? = some e1)) (row_lt (E := encE) (rfl : (e1 :: e2 :: l)[0]? = some e1))) ?_
  refine any_take (i := 7) (v := .pointer (some ⟨g1, 0, none⟩)) rfl (fun w => (rd_indexAddrA (m := 0) (o := 0) Tryd.underlying31 rfl (by decide) Tryd.sizeOf30 rfl) w (Sat.start w)) (by kernel_rfl) (by kernel_rfl) (by kernel_rfl) ?_
  refine any_one (i := 8) (by kernel_rfl) ?_
  refine ro_store (j := 1) (c' := #[.int .i64 e1.kind, .int .i64 e1.service, .int .i64 e1.group, .int .u64 e1.session, .int .u64 e1.number, .string e1.text, .int .i64 f.a1.kind, .int .i64 f.a1.service, .int .i64 f.a1.group, .int .u64 f.a1.session, .int .u64 f.a1.number, .string f.a1.text, .int .i64 f.b0.kind, .int .i64 f.b0.service, .int .i64 f.b0.group, .int .u64 f.b0.session, .int .u64 f.b0.number, .string f.b0.text, .int .i64 f.b1.kind, .int .i64 f.b1.service, .int .i64 f.b1.group, .int .u64 f.b1.session, .int .u64 f.b1.number, .string f.b1.text, .int .i64 f.c0.kind, .int .i64 f.c0.service, .int .i64 f.c0.group, .int .u64 f.c0.session, .int .u64 f.c0.number, .string f.c0.text, .int .i64 f.c1.kind, .int .i64 f.c1.service, .int .i64 f.c1.group, .int .u64 f.c1.session, .int .u64 f.c1.number, .string f.c1.text]) rfl Tryd.sizeOf30 rfl rfl rfl rfl (by kernel_rfl) rfl ?_
  refine any_end (by kernel_rfl) ?_
  refine run_endblock ?_
  refine run_region (todo := [0, 1, 2]) rfl rfl ?_
  refine run_mv rfl ?_
  refine run_rd (v := .int .i64 1) rfl (rd_add (r := 1) (by decide)) ?_
  refine run_mv rfl ?_
  refine run_endops ?_
  refine run_again ?_
  refine run_seq rfl ?_
  refine run_seq rfl ?_
  refine run_region (todo := [0, 1]) rfl rfl ?_
  refine run_mv rfl ?_
  refine run_rd (v := .bool true) rfl (rd_cmp rfl rfl) ?_
  refine run_endops ?_
  refine run_true rfl rfl ?_
  refine run_skip rfl ?_
  refine run_seq rfl ?_
  refine run_block rfl ?_
  refine run_seq rfl ?_
  refine run_region (todo := [0, 1, 2, 3, 4, 5]) rfl rfl ?_
  refine run_mv rfl ?_
  refine run_mv rfl ?_
  refine run_rd (v := .agg #[.int .i64 0, .int .i64 0, .int .i64 0, .int .u64 0, .int .u64 0, .string ⟨#[]⟩]) rfl ((fun w _ => by kernel_rfl)) ?_
  refine run_rd (v := .pointer (some ⟨g1, 0, none⟩)) rfl (rd_indexAddrA (m := 0) (o := 0) Tryd.underlying33 rfl (by decide) Tryd.sizeOf31 rfl) ?_
  refine run_rd (v := .pointer (some ⟨g1, 6, none⟩)) rfl (rd_indexAddrA (m := 1) (o := 6) Tryd.underlying31 rfl (by decide) Tryd.sizeOf30 rfl) ?_
  refine run_store (j := 1) (c' := #[.int .i64 e1.kind, .int .i64 e1.service, .int .i64 e1.group, .int .u64 e1.session, .int .u64 e1.number, .string e1.text, .int .i64 0, .int .i64 0, .int .i64 0, .int .u64 0, .int .u64 0, .string ⟨#[]⟩, .int .i64 f.b0.kind, .int .i64 f.b0.service, .int .i64 f.b0.group, .int .u64 f.b0.session, .int .u64 f.b0.number, .string f.b0.text, .int .i64 f.b1.kind, .int .i64 f.b1.service, .int .i64 f.b1.group, .int .u64 f.b1.session, .int .u64 f.b1.number, .string f.b1.text, .int .i64 f.c0.kind, .int .i64 f.c0.service, .int .i64 f.c0.group, .int .u64 f.c0.session, .int .u64 f.c0.number, .string f.c0.text, .int .i64 f.c1.kind, .int .i64 f.c1.service, .int .i64 f.c1.group, .int .u64 f.c1.session, .int .u64 f.c1.number, .string f.c1.text]) rfl Tryd.sizeOf30 rfl rfl rfl rfl (by kernel_rfl) rfl ?_
  refine run_endops ?_
  refine run_seq rfl ?_
  refine run_region (todo := [0, 1, 2, 3]) rfl rfl ?_
  refine run_mv rfl ?_
  refine run_mv rfl ?_
  refine run_rd (v := .int .i64 (((e1 :: e2 :: l).length : Nat) : Int)) rfl (rd_len Tryd.underlying50) ?_
  refine run_rd (v := .bool true) rfl (rd_cmp rfl dl1) ?_
  refine run_endops ?_
  refine run_true rfl rfl ?_
  refine any_draw (n := 9) rfl rfl rfl (by kernel_rfl) ?_
  refine any_takeM (i := 0) rfl (by kernel_rfl) (by kernel_rfl) (by kernel_rfl) ?_
  refine any_takeM (i := 1) rfl (by kernel_rfl) (by kernel_rfl) (by kernel_rfl) ?_
  refine any_takeM (i := 2) rfl (by kernel_rfl) (by kernel_rfl) (by kernel_rfl) ?_
  refine any_takeM (i := 3) rfl (by kernel_rfl) (by kernel_rfl) (by kernel_rfl) ?_
  refine any_take (i := 6) (v := .pointer (some ⟨g1, 0, none⟩)) rfl (fun w => (rd_indexAddrA (m := 0) (o := 0) Tryd.underlying33 rfl (by decide) Tryd.sizeOf31 rfl) w (Sat.start w)) (by kernel_rfl) (by kernel_rfl) (by kernel_rfl) ?_
  refine any_one (i := 4) (by kernel_rfl) ?_
  refine ro_rd (v := .pointer (elemAddr A (1 * 6))) rfl (rd_elem (m := 1) (o := 1 * 6) (know_old hA) Tryd.underlying50 Tryd.sizeOf30 rfl (lt_of_item (rfl : (e1 :: e2 :: l)[1]? = some e2) rfl) (Nat.lt_of_lt_of_le (m := 1 * 6 + 6) (by omega) (row_lt (E := encE) (rfl : (e1 :: e2 :: l)[1]? = some e2))) rfl) ?_
  refine any_one (i := 5) (by kernel_rfl) ?_
  refine ro_rd (v := .agg e2.arr) rfl (rd_elemLoadA (u := e2.arr) (know_old hA) Tryd.isAgg30 Tryd.sizeOf30 rfl (row_all (E := encE) (rfl : (e1 :: e2 :: l)[1]? = some e2)) (row_lt (E := encE) (rfl : (e1 :: e2 :: l)[1]? = some e2))) ?_
  refine any_take (i := 7) (v := .pointer (some ⟨g1, 6, none⟩)) rfl (fun w => (rd_indexAddrA (m := 1) (o := 6) Tryd.underlying31 rfl (by decide) Tryd.sizeOf30 rfl) w (Sat.start w)) (by kernel_rfl) (by kernel_rfl) (by kernel_rfl) ?_
  refine any_one (i := 8) (by kernel_rfl) ?_
  refine ro_store (j := 1) (c' := #[.int .i64 e1.kind, .int .i64 e1.service, .int .i64 e1.group, .int .u64 e1.session, .int .u64 e1.number, .string e1.text, .int .i64 e2.kind, .int .i64 e2.service, .int .i64 e2.group, .int .u64 e2.session, .int .u64 e2.number, .string e2.text, .int .i64 f.b0.kind, .int .i64 f.b0.service, .int .i64 f.b0.group, .int .u64 f.b0.session, .int .u64 f.b0.number, .string f.b0.text, .int .i64 f.b1.kind, .int .i64 f.b1.service, .int .i64 f.b1.group, .int .u64 f.b1.session, .int .u64 f.b1.number, .string f.b1.text, .int .i64 f.c0.kind, .int .i64 f.c0.service, .int .i64 f.c0.group, .int .u64 f.c0.session, .int .u64 f.c0.number, .string f.c0.text, .int .i64 f.c1.kind, .int .i64 f.c1.service, .int .i64 f.c1.group, .int .u64 f.c1.session, .int .u64 f.c1.number, .string f.c1.text]) rfl Tryd.sizeOf30 rfl rfl rfl rfl (by kernel_rfl) rfl ?_
  refine any_end (by kernel_rfl) ?_
  refine run_endblock ?_
  refine run_region (todo := [0, 1, 2]) rfl rfl ?_
  refine run_mv rfl ?_
  refine run_rd (v := .int .i64 2) rfl (rd_add (r := 2) (by decide)) ?_
  refine run_mv rfl ?_
  refine run_endops ?_
  refine run_again ?_
  refine run_seq rfl ?_
  refine run_seq rfl ?_
  refine run_region (todo := [0, 1]) rfl rfl ?_
  refine run_mv rfl ?_
  refine run_rd (v := .bool false) rfl (rd_cmp rfl rfl) ?_
  refine run_endops ?_
  refine run_false rfl rfl ?_
  refine run_exit rfl rfl ?_
  refine run_seq rfl ?_
  refine run_region (todo := [0, 1]) rfl rfl ?_
  refine run_rd (v := .agg #[.int .i64 e1.kind, .int .i64 e1.service, .int .i64 e1.group, .int .u64 e1.session, .int .u64 e1.number, .string e1.text, .int .i64 e2.kind, .int .i64 e2.service, .int .i64 e2.group, .int .u64 e2.session, .int .u64 e2.number, .string e2.text, .int .i64 f.b0.kind, .int .i64 f.b0.service, .int .i64 f.b0.group, .int .u64 f.b0.session, .int .u64 f.b0.number, .string f.b0.text, .int .i64 f.b1.kind, .int .i64 f.b1.service, .int .i64 f.b1.group, .int .u64 f.b1.session, .int .u64 f.b1.number, .string f.b1.text, .int .i64 f.c0.kind, .int .i64 f.c0.service, .int .i64 f.c0.group, .int .u64 f.c0.session, .int .u64 f.c0.number, .string f.c0.text, .int .i64 f.c1.kind, .int .i64 f.c1.service, .int .i64 f.c1.group, .int .u64 f.c1.session, .int .u64 f.c1.number, .string f.c1.text]) rfl (rd_loadW (j := 1) Tryd.isAgg33 Tryd.sizeOf33 rfl rfl) ?_
  refine run_storeW (j := 0) (c' := #[.int .i64 e1.kind, .int .i64 e1.service, .int .i64 e1.group, .int .u64 e1.session, .int .u64 e1.number, .string e1.text, .int .i64 e2.kind, .int .i64 e2.service, .int .i64 e2.group, .int .u64 e2.session, .int .u64 e2.number, .string e2.text, .int .i64 f.b0.kind, .int .i64 f.b0.service, .int .i64 f.b0.group, .int .u64 f.b0.session, .int .u64 f.b0.number, .string f.b0.text, .int .i64 f.b1.kind, .int .i64 f.b1.service, .int .i64 f.b1.group, .int .u64 f.b1.session, .int .u64 f.b1.number, .string f.b1.text, .int .i64 f.c0.kind, .int .i64 f.c0.service, .int .i64 f.c0.group, .int .u64 f.c0.session, .int .u64 f.c0.number, .string f.c0.text, .int .i64 f.c1.kind, .int .i64 f.c1.service, .int .i64 f.c1.group, .int .u64 f.c1.session, .int .u64 f.c1.number, .string f.c1.text]) rfl Tryd.sizeOf33 rfl rfl rfl rfl rfl rfl ?_
  refine run_endops ?_
  refine run_ret rfl (v := .agg #[.int .i64 e1.kind, .int .i64 e1.service, .int .i64 e1.group, .int .u64 e1.session, .int .u64 e1.number, .string e1.text, .int .i64 e2.kind, .int .i64 e2.service, .int .i64 e2.group, .int .u64 e2.session, .int .u64 e2.number, .string e2.text, .int .i64 f.b0.kind, .int .i64 f.b0.service, .int .i64 f.b0.group, .int .u64 f.b0.session, .int .u64 f.b0.number, .string f.b0.text, .int .i64 f.b1.kind, .int .i64 f.b1.service, .int .i64 f.b1.group, .int .u64 f.b1.session, .int .u64 f.b1.number, .string f.b1.text, .int .i64 f.c0.kind, .int .i64 f.c0.service, .int .i64 f.c0.group, .int .u64 f.c0.session, .int .u64 f.c0.number, .string f.c0.text, .int .i64 f.c1.kind, .int .i64 f.c1.service, .int .i64 f.c1.group, .int .u64 f.c1.session, .int .u64 f.c1.number, .string f.c1.text]) (res1 rfl ⟨_, rfl, rdv (rd_loadW (j := 0) Tryd.isAgg33 Tryd.sizeOf33 rfl rfl)⟩) ?_
  rfl

theorem rwith_1_0 (f : Fr) (A : Option Addr) (c : Nat) (w0 : World) (hA : Cells w0 A (encE.row ([] : List Ent))) : Fn Tryd.prog 18 #[f.val, .int .i64 1, .slice A (([] : List Ent).length) c] w0 (fun v _ => v = (f.with 1 ([] : List Ent)).val) := by
  have dl0 : decide ((0 : Int) < ((([] : List Ent).length : Nat) : Int)) = false := decide_eq_false (by simp)
  have dl1 : decide ((1 : Int) < ((([] : List Ent).length : Nat) : Int)) = false := decide_eq_false (by simp)
  refine fn_of_run Tryd.func18 rfl rfl ?_
  refine run_seq rfl ?_
  refine run_region (todo := [0, 1]) rfl rfl ?_
  refine run_box rfl (fun g1 => ?_)
  refine run_alloc rfl Tryd.zeroValue33 (fun g2 => ?_)
  refine run_endops ?_
  refine run_seq rfl ?_
  refine run_seq rfl ?_
  refine run_region (todo := [0, 1, 2, 3, 4, 5]) rfl rfl ?_
  refine run_mv rfl ?_
  refine run_rd (v := .bool false) rfl (rd_cmp rfl rfl) ?_
  refine run_mv rfl ?_
  refine run_mvG rfl ?_
  refine run_rdG (v := .bool false) rfl (rd_cmp rfl rfl) ?_
  refine run_pick (v := .bool false) rfl rfl ?_
  refine run_endops ?_
  refine run_false rfl rfl ?_
  refine run_skip rfl ?_
  refine run_seq rfl ?_
  refine run_seq rfl ?_
  refine run_region (todo := [0]) rfl rfl ?_
  refine run_mv rfl ?_
  refine run_endops ?_
  refine run_block rfl ?_
  refine run_loop rfl ?_
  refine run_again ?_
  refine run_seq rfl ?_
  refine run_seq rfl ?_
  refine run_region (todo := [0, 1]) rfl rfl ?_
  refine run_mv rfl ?_
  refine run_rd (v := .bool true) rfl (rd_cmp rfl rfl) ?_
  refine run_endops ?_
  refine run_true rfl rfl ?_
  refine run_skip rfl ?_
  refine run_seq rfl ?_
  refine run_block rfl ?_
  refine run_seq rfl ?_
  refine run_region (todo := [0, 1, 2, 3, 4, 5]) rfl rfl ?_
  refine run_mv rfl ?_
  refine run_mv rfl ?_
  refine run_rd (v := .agg #[.int .i64 0, .int .i64 0, .int .i64 0, .int .u64 0, .int .u64 0, .string ⟨#[]⟩]) rfl ((fun w _ => by kernel_rfl)) ?_
  refine run_rd (v := .pointer (some ⟨g1, 12, none⟩)) rfl (rd_indexAddrA (m := 1) (o := 12) Tryd.underlying33 rfl (by decide) Tryd.sizeOf31 rfl) ?_
  refine run_rd (v := .pointer (some ⟨g1, 12, none⟩)) rfl (rd_indexAddrA (m := 0) (o := 12) Tryd.underlying31 rfl (by decide) Tryd.sizeOf30 rfl) ?_
  refine run_store (j := 1) (c' := #[.int .i64 f.a0.kind, .int .i64 f.a0.service, .int .i64 f.a0.group, .int .u64 f.a0.session, .int .u64 f.a0.number, .string f.a0.text, .int .i64 f.a1.kind, .int .i64 f.a1.service, .int .i64 f.a1.group, .int .u64 f.a1.session, .int .u64 f.a1.number, .string f.a1.text, .int .i64 0, .int .i64 0, .int .i64 0, .int .u64 0, .int .u64 0, .string ⟨#[]⟩, .int .i64 f.b1.kind, .int .i64 f.b1.service, .int .i64 f.b1.group, .int .u64 f.b1.session, .int .u64 f.b1.number, .string f.b1.text, .int .i64 f.c0.kind, .int .i64 f.c0.service, .int .i64 f.c0.group, .int .u64 f.c0.session, .int .u64 f.c0.number, .string f.c0.text, .int .i64 f.c1.kind, .int .i64 f.c1.service, .int .i64 f.c1.group, .int .u64 f.c1.session, .int .u64 f.c1.number, .string f.c1.text]) rfl Tryd.sizeOf30 rfl rfl rfl rfl (by kernel_rfl) rfl ?_
  refine run_endops ?_
  refine run_seq rfl ?_
  refine run_region (todo := [0, 1, 2, 3]) rfl rfl ?_
  refine run_mv rfl ?_
  refine run_mv rfl ?_
  refine run_rd (v := .int .i64 ((([] : List Ent).length : Nat) : Int)) rfl (rd_len Tryd.underlying50) ?_
  refine run_rd (v := .bool false) rfl (rd_cmp rfl dl0) ?_
  refine run_endops ?_
  refine run_false rfl rfl ?_
  refine run_skip rfl ?_
  refine run_endblock ?_
  refine run_region (todo := [0, 1, 2]) rfl rfl ?_
  refine run_mv rfl ?_
  refine run_rd (v := .int .i64 1) rfl (rd_add (r := 1) (by decide)) ?_
  refine run_mv rfl ?_
  refine run_endops ?_
  refine run_again ?_
  refine run_seq rfl ?_
  refine run_seq rfl ?_
  refine run_region (todo := [0, 1]) rfl rfl ?_
  refine run_mv rfl ?_
  refine run_rd (v := .bool true) rfl (rd_cmp rfl rfl) ?_
  refine run_endops ?_
  refine run_true rfl rfl ?_
  refine run_skip rfl ?_
  refine run_seq rfl ?_
  refine run_block rfl ?_
  refine run_seq rfl ?_
  refine run_region (todo := [0, 1, 2, 3, 4, 5]) rfl rfl ?_
  refine run_mv rfl ?_
  refine run_mv rfl ?_
  refine run_rd (v := .agg #[.int .i64 0, .int .i64 0, .int .i64 0, .int .u64 0, .int .u64 0, .string ⟨#[]⟩]) rfl ((fun w _ => by kernel_rfl)) ?_
  refine run_rd (v := .pointer (some ⟨g1, 12, none⟩)) rfl (rd_indexAddrA (m := 1) (o := 12) Tryd.underlying33 rfl (by decide) Tryd.sizeOf31 rfl) ?_
  refine run_rd (v := .pointer (some ⟨g1, 18, none⟩)) rfl (rd_indexAddrA (m := 1) (o := 18) Tryd.underlying31 rfl (by decide) Tryd.sizeOf30 rfl) ?_
  refine run_store (j := 1) (c' := #[.int .i64 f.a0.kind, .int .i64 f.a0.service, .int .i64 f.a0.group, .int .u64 f.a0.session, .int .u64 f.a0.number, .string f.a0.text, .int .i64 f.a1.kind, .int .i64 f.a1.service, .int .i64 f.a1.group, .int .u64 f.a1.session, .int .u64 f.a1.number, .string f.a1.text, .int .i64 0, .int .i64 0, .int .i64 0, .int .u64 0, .int .u64 0, .string ⟨#[]⟩, .int .i64 0, .int .i64 0, .int .i64 0, .int .u64 0, .int .u64 0, .string ⟨#[]⟩, .int .i64 f.c0.kind, .int .i64 f.c0.service, .int .i64 f.c0.group, .int .u64 f.c0.session, .int .u64 f.c0.number, .string f.c0.text, .int .i64 f.c1.kind, .int .i64 f.c1.service, .int .i64 f.c1.group, .int .u64 f.c1.session, .int .u64 f.c1.number, .string f.c1.text]) rfl Tryd.sizeOf30 rfl rfl rfl rfl (by kernel_rfl) rfl ?_
  refine run_endops ?_
  refine run_seq rfl ?_
  refine run_region (todo := [0, 1, 2, 3]) rfl rfl ?_
  refine run_mv rfl ?_
  refine run_mv rfl ?_
  refine run_rd (v := .int .i64 ((([] : List Ent).length : Nat) : Int)) rfl (rd_len Tryd.underlying50) ?_
  refine run_rd (v := .bool false) rfl (rd_cmp rfl dl1) ?_
  refine run_endops ?_
  refine run_false rfl rfl ?_
  refine run_skip rfl ?_
  refine run_endblock ?_
  refine run_region (todo := [0, 1, 2]) rfl rfl ?_
  refine run_mv rfl ?_
  refine run_rd (v := .int .i64 2) rfl (rd_add (r := 2) (by decide)) ?_
  refine run_mv rfl ?_
  refine run_endops ?_
  refine run_again ?_
  refine run_seq rfl ?_
  refine run_seq rfl ?_
  refine run_region (todo := [0, 1]) rfl rfl ?_
  refine run_mv rfl ?_
  refine run_rd (v := .bool false) rfl (rd_cmp rfl rfl) ?_
  refine run_endops ?_
  refine run_false rfl rfl ?_
  refine run_exit rfl rfl ?_
  refine run_seq rfl ?_
  refine run_region (todo := [0, 1]) rfl rfl ?_
  refine run_rd (v := .agg #[.int .i64 f.a0.kind, .int .i64 f.a0.service, .int .i64 f.a0.group, .int .u64 f.a0.session, .int .u64 f.a0.number, .string f.a0.text, .int .i64 f.a1.kind, .int .i64 f.a1.service, .int .i64 f.a1.group, .int .u64 f.a1.session, .int .u64 f.a1.number, .string f.a1.text, .int .i64 0, .int .i64 0, .int .i64 0, .int .u64 0, .int .u64 0, .string ⟨#[]⟩, .int .i64 0, .int .i64 0, .int .i64 0, .int .u64 0, .int .u64 0, .string ⟨#[]⟩, .int .i64 f.c0.kind, .int .i64 f.c0.service, .int .i64 f.c0.group, .int .u64 f.c0.session, .int .u64 f.c0.number, .string f.c0.text, .int .i64 f.c1.kind, .int .i64 f.c1.service, .int .i64 f.c1.group, .int .u64 f.c1.session, .int .u64 f.c1.number, .string f.c1.text]) rfl (rd_loadW (j := 1) Tryd.isAgg33 Tryd.sizeOf33 rfl rfl) ?_
  refine run_storeW (j := 0) (c' := #[.int .i64 f.a0.kind, .int .i64 f.a0.service, .int .i64 f.a0.group, .int .u64 f.a0.session, .int .u64 f.a0.number, .string f.a0.text, .int .i64 f.a1.kind, .int .i64 f.a1.service, .int .i64 f.a1.group, .int .u64 f.a1.session, .int .u64 f.a1.number, .string f.a1.text, .int .i64 0, .int .i64 0, .int .i64 0, .int .u64 0, .int .u64 0, .string ⟨#[]⟩, .int .i64 0, .int .i64 0, .int .i64 0, .int .u64 0, .int .u64 0, .string ⟨#[]⟩, .int .i64 f.c0.kind, .int .i64 f.c0.service, .int .i64 f.c0.group, .int .u64 f.c0.session, .int .u64 f.c0.number, .string f.c0.text, .int .i64 f.c1.kind, .int .i64 f.c1.service, .int .i64 f.c1.group, .int .u64 f.c1.session, .int .u64 f.c1.number, .string f.c1.text]) rfl Tryd.sizeOf33 rfl rfl rfl rfl rfl rfl ?_
  refine run_endops ?_
  refine run_ret rfl (v := .agg #[.int .i64 f.a0.kind, .int .i64 f.a0.service, .int .i64 f.a0.group, .int .u64 f.a0.session, .int .u64 f.a0.number, .string f.a0.text, .int .i64 f.a1.kind, .int .i64 f.a1.service, .int .i64 f.a1.group, .int .u64 f.a1.session, .int .u64 f.a1.number, .string f.a1.text, .int .i64 0, .int .i64 0, .int .i64 0, .int .u64 0, .int .u64 0, .string ⟨#[]⟩, .int .i64 0, .int .i64 0, .int .i64 0, .int .u64 0, .int .u64 0, .string ⟨#[]⟩, .int .i64 f.c0.kind, .int .i64 f.c0.service, .int .i64 f.c0.group, .int .u64 f.c0.session, .int .u64 f.c0.number, .string f.c0.text, .int .i64 f.c1.kind, .int .i64 f.c1.service, .int .i64 f.c1.group, .int .u64 f.c1.session, .int .u64 f.c1.number, .string f.c1.text]) (res1 rfl ⟨_, rfl, rdv (rd_loadW (j := 0) Tryd.isAgg33 Tryd.sizeOf33 rfl rfl)⟩) ?_
  rfl

theorem rwith_1_1 (f : Fr) (e1 : Ent) (A : Option Addr) (c : Nat) (w0 : World) (hA : Cells w0 A (encE.row [e1])) : Fn Tryd.prog 18 #[f.val, .int .i64 1, .slice A ([e1].length) c] w0 (fun v _ => v = (f.with 1 [e1]).val) := by
  have dl0 : decide ((0 : Int) < (([e1].length : Nat) : Int)) = true := decide_eq_true (by simp)
  have dl1 : decide ((1 : Int) < (([e1].length : Nat) : Int)) = false := decide_eq_false (by simp)
  refine fn_of_run Tryd.func18 rfl rfl ?_
  refine run_seq rfl ?_
  refine run_region (todo := [0, 1]) rfl rfl ?_
  refine run_box rfl (fun g1 => ?_)
  refine run_alloc rfl Tryd.zeroValue33 (fun g2 => ?_)
  refine run_endops ?_
  refine run_seq rfl ?_
  refine run_seq rfl ?_
  refine run_region (todo := [0, 1, 2, 3, 4, 5]) rfl rfl ?_
  refine run_mv rfl ?_
  refine run_rd (v := .bool false) rfl (rd_cmp rfl rfl) ?_
  refine run_mv rfl ?_
  refine run_mvG rfl ?_
  refine run_rdG (v := .bool false) rfl (rd_cmp rfl rfl) ?_
  refine run_pick (v := .bool false) rfl rfl ?_
  refine run_endops ?_
  refine run_false rfl rfl ?_
  refine run_skip rfl ?_
  refine run_seq rfl ?_
  refine run_seq rfl ?_
  refine run_region (todo := [0]) rfl rfl ?_
  refine run_mv rfl ?_
  refine run_endops ?_
  refine run_block rfl ?_
  refine run_loop rfl ?_
  refine run_again ?_
  refine run_seq rfl ?_
  refine run_seq rfl ?_
  refine run_region (todo := [0, 1]) rfl rfl ?_
  refine run_mv rfl ?_
  refine run_rd (v := .bool true) rfl (rd_cmp rfl rfl) ?_
  refine run_endops ?_
  refine run_true rfl rfl ?_
  refine run_skip rfl ?_
  refine run_seq rfl ?_
  refine run_block rfl ?_
  refine run_seq rfl ?_
  refine run_region (todo := [0, 1, 2, 3, 4, 5]) rfl rfl ?_
  refine run_mv rfl ?_
  refine run_mv rfl ?_
  refine run_rd (v := .agg #[.int .i64 0, .int .i64 0, .int .i64 0, .int .u64 0, .int .u64 0, .string ⟨#[]⟩]) rfl ((fun w _ => by kernel_rfl)) ?_
  refine run_rd (v := .pointer (some ⟨g1, 12, none⟩)) rfl (rd_indexAddrA (m := 1) (o := 12) Tryd.underlying33 rfl (by decide) Tryd.sizeOf31 rfl) ?_
  refine run_rd (v := .pointer (some ⟨g1, 12, none⟩)) rfl (rd_indexAddrA (m := 0) (o := 12) Tryd.underlying31 rfl (by decide) Tryd.sizeOf30 rfl) ?_
  refine run_store (j := 1) (c' := #[.int .i64 f.a0.kind, .int .i64 f.a0.service, .int .i64 f.a0.group, .int .u64 f.a0.session, .int .u64 f.a0.number, .string f.a0.text, .int .i64 f.a1.kind, .int .i64 f.a1.service, .int .i64 f.a1.group, .int .u64 f.a1.session, .int .u64 f.a1.number, .string f.a1.text, .int .i64 0, .int .i64 0, .int .i64 0, .int .u64 0, .int .u64 0, .string ⟨#[]⟩, .int .i64 f.b1.kind, .int .i64 f.b1.service, .int .i64 f.b1.group, .int .u64 f.b1.session, .int .u64 f.b1.number, .string f.b1.text, .int .i64 f.c0.kind, .int .i64 f.c0.service, .int .i64 f.c0.group, .int .u64 f.c0.session, .int .u64 f.c0.number, .string f.c0.text, .int .i64 f.c1.kind, .int .i64 f.c1.service, .int .i64 f.c1.group, .int .u64 f.c1.session, .int .u64 f.c1.number, .string f.c1.text]) rfl Tryd.sizeOf30 rfl rfl rfl rfl (by kernel_rfl) rfl ?_
  refine run_endops ?_
  refine run_seq rfl ?_
  refine run_region (todo := [0, 1, 2, 3]) rfl rfl ?_
  refine run_mv rfl ?_
  refine run_mv rfl ?_
  refine run_rd (v := .int .i64 (([e1].length : Nat) : Int)) rfl (rd_len Tryd.underlying50) ?_
  refine run_rd (v := .bool true) rfl (rd_cmp rfl dl0) ?_
  refine run_endops ?_
  refine run_true rfl rfl ?_
  refine any_draw (n := 9) rfl rfl rfl (by kernel_rfl) ?_
  refine any_takeM (i := 0) rfl (by kernel_rfl) (by kernel_rfl) (by kernel_rfl) ?_
  refine any_takeM (i := 1) rfl (by kernel_rfl) (by kernel_rfl) (by kernel_rfl) ?_
  refine any_takeM (i := 2) rfl (by kernel_rfl) (by kernel_rfl) (by kernel_rfl) ?_
  refine any_takeM (i := 3) rfl (by kernel_rfl) (by kernel_rfl) (by kernel_rfl) ?_
  refine any_take (i := 6) (v := .pointer (some ⟨g1, 12, none⟩)) rfl (fun w => (rd_indexAddrA (m := 1) (o := 12) Tryd.underlying33 rfl (by decide) Tryd.sizeOf31 rfl) w (Sat.start w)) (by kernel_rfl) (by kernel_rfl) (by kernel_rfl) ?_
  refine any_one (i := 4) (by kernel_rfl) ?_
  refine ro_rd (v := .pointer (elemAddr A (0 * 6))) rfl (rd_elem (m := 0) (o := 0 * 6) (know_old hA) Tryd.underlying50 Tryd.sizeOf30 rfl (lt_of_item (rfl : [e1][0]? = some e1) rfl) (Nat.lt_of_lt_of_le (m := 0 * 6 + 6) (by omega) (row_lt (E := encE) (rfl : [e1][0]? = some e1))) rfl) ?_
  refine any_one (i := 5) (by kernel_rfl) ?_
  refine ro_rd (v := .agg e1.arr) rfl (rd_elemLoadA (u := e1.arr) (know_old hA) Tryd.isAgg30 Tryd.sizeOf30 rfl (row_all (E := encE) (rfl : [e1][0]? = some e1)) (row_lt (E := encE) (rfl : [e1][0]? = some e1))) ?_
  refine any_take (i := 7) (v := .pointer (some ⟨g1, 12, none⟩)) rfl (fun w => (rd_indexAddrA (m := 0) (o := 12) Tryd.underlying31 rfl (by decide) Tryd.sizeOf30 rfl) w (Sat.start w)) (by kernel_rfl) (by kernel_rfl) (by kernel_rfl) ?_
  refine any_one (i := 8) (by kernel_rfl) ?_
  refine ro_store (j := 1) (c' := #[.int .i64 f.a0.kind, .int .i64 f.a0.service, .int .i64 f.a0.group, .int .u64 f.a0.session, .int .u64 f.a0.number, .string f.a0.text, .int .i64 f.a1.kind, .int .i64 f.a1.service, .int .i64 f.a1.group, .int .u64 f.a1.session, .int .u64 f.a1.number, .string f.a1.text, .int .i64 e1.kind, .int .i64 e1.service, .int .i64 e1.group, .int .u64 e1.session, .int .u64 e1.number, .string e1.text, .int .i64 f.b1.kind, .int .i64 f.b1.service, .int .i64 f.b1.group, .int .u64 f.b1.session, .int .u64 f.b1.number, .string f.b1.text, .int .i64 f.c0.kind, .int .i64 f.c0.service, .int .i64 f.c0.group, .int .u64 f.c0.session, .int .u64 f.c0.number, .string f.c0.text, .int .i64 f.c1.kind, .int .i64 f.c1.service, .int .i64 f.c1.group, .int .u64 f.c1.session, .int .u64 f.c1.number, .string f.c1.text]) rfl Tryd.sizeOf30 rfl rfl rfl rfl (by kernel_rfl) rfl ?_
  refine any_end (by kernel_rfl) ?_
  refine run_endblock ?_
  refine run_region (todo := [0, 1, 2]) rfl rfl ?_
  refine run_mv rfl ?_
  refine run_rd (v := .int .i64 1) rfl (rd_add (r := 1) (by decide)) ?_
  refine run_mv rfl ?_
  refine run_endops ?_
  refine run_again ?_
  refine run_seq rfl ?_
  refine run_seq rfl ?_
  refine run_region (todo := [0, 1]) rfl rfl ?_
  refine run_mv rfl ?_
  refine run_rd (v := .bool true) rfl (rd_cmp rfl rfl) ?_
  refine run_endops ?_
  refine run_true rfl rfl ?_
  refine run_skip rfl ?_
  refine run_seq rfl ?_
  refine run_block rfl ?_
  refine run_seq rfl ?_
  refine run_region (todo := [0, 1, 2, 3, 4, 5]) rfl rfl ?_
  refine run_mv rfl ?_
  refine run_mv rfl ?_
  refine run_rd (v := .agg #[.int .i64 0, .int .i64 0, .int .i64 0, .int .u64 0, .int .u64 0, .string ⟨#[]⟩]) rfl ((fun w _ => by kernel_rfl)) ?_
  refine run_rd (v := .pointer (some ⟨g1, 12, none⟩)) rfl (rd_indexAddrA (m := 1) (o := 12) Tryd.underlying33 rfl (by decide) Tryd.sizeOf31 rfl) ?_
  refine run_rd (v := .pointer (some ⟨g1, 18, none⟩)) rfl (rd_indexAddrA (m := 1) (o := 18) Tryd.underlying31 rfl (by decide) Tryd.sizeOf30 rfl) ?_
  refine run_store (j := 1) (c' := #[.int .i64 f.a0.kind, .int .i64 f.a0.service, .int .i64 f.a0.group, .int .u64 f.a0.session, .int .u64 f.a0.number, .string f.a0.text, .int .i64 f.a1.kind, .int .i64 f.a1.service, .int .i64 f.a1.group, .int .u64 f.a1.session, .int .u64 f.a1.number, .string f.a1.text, .int .i64 e1.kind, .int .i64 e1.service, .int .i64 e1.group, .int .u64 e1.session, .int .u64 e1.number, .string e1.text, .int .i64 0, .int .i64 0, .int .i64 0, .int .u64 0, .int .u64 0, .string ⟨#[]⟩, .int .i64 f.c0.kind, .int .i64 f.c0.service, .int .i64 f.c0.group, .int .u64 f.c0.session, .int .u64 f.c0.number, .string f.c0.text, .int .i64 f.c1.kind, .int .i64 f.c1.service, .int .i64 f.c1.group, .int .u64 f.c1.session, .int .u64 f.c1.number, .string f.c1.text]) rfl Tryd.sizeOf30 rfl rfl rfl rfl (by kernel_rfl) rfl ?_
  refine run_endops ?_
  refine run_seq rfl ?_
  refine run_region (todo := [0, 1, 2, 3]) rfl rfl ?_
  refine run_mv rfl ?_
  refine run_mv rfl ?_
  refine run_rd (v := .int .i64 (([e1].length : Nat) : Int)) rfl (rd_len Tryd.underlying50) ?_
  refine run_rd (v := .bool false) rfl (rd_cmp rfl dl1) ?_
  refine run_endops ?_
  refine run_false rfl rfl ?_
  refine run_skip rfl ?_
  refine run_endblock ?_
  refine run_region (todo := [0, 1, 2]) rfl rfl ?_
  refine run_mv rfl ?_
  refine run_rd (v := .int .i64 2) rfl (rd_add (r := 2) (by decide)) ?_
  refine run_mv rfl ?_
  refine run_endops ?_
  refine run_again ?_
  refine run_seq rfl ?_
  refine run_seq rfl ?_
  refine run_region (todo := [0, 1]) rfl rfl ?_
  refine run_mv rfl ?_
  refine run_rd (v := .bool false) rfl (rd_cmp rfl rfl) ?_
  refine run_endops ?_
  refine run_false rfl rfl ?_
  refine run_exit rfl rfl ?_
  refine run_seq rfl ?_
  refine run_region (todo := [0, 1]) rfl rfl ?_
  refine run_rd (v := .agg #[.int .i64 f.a0.kind, .int .i64 f.a0.service, .int .i64 f.a0.group, .int .u64 f.a0.session, .int .u64 f.a0.number, .string f.a0.text, .int .i64 f.a1.kind, .int .i64 f.a1.service, .int .i64 f.a1.group, .int .u64 f.a1.session, .int .u64 f.a1.number, .string f.a1.text, .int .i64 e1.kind, .int .i64 e1.service, .int .i64 e1.group, .int .u64 e1.session, .int .u64 e1.number, .string e1.text, .int .i64 0, .int .i64 0, .int .i64 0, .int .u64 0, .int .u64 0, .string ⟨#[]⟩, .int .i64 f.c0.kind, .int .i64 f.c0.service, .int .i64 f.c0.group, .int .u64 f.c0.session, .int .u64 f.c0.number, .string f.c0.text, .int .i64 f.c1.kind, .int .i64 f.c1.service, .int .i64 f.c1.group, .int .u64 f.c1.session, .int .u64 f.c1.number, .string f.c1.text]) rfl (rd_loadW (j := 1) Tryd.isAgg33 Tryd.sizeOf33 rfl rfl) ?_
  refine run_storeW (j := 0) (c' := #[.int .i64 f.a0.kind, .int .i64 f.a0.service, .int .i64 f.a0.group, .int .u64 f.a0.session, .int .u64 f.a0.number, .string f.a0.text, .int .i64 f.a1.kind, .int .i64 f.a1.service, .int .i64 f.a1.group, .int .u64 f.a1.session, .int .u64 f.a1.number, .string f.a1.text, .int .i64 e1.kind, .int .i64 e1.service, .int .i64 e1.group, .int .u64 e1.session, .int .u64 e1.number, .string e1.text, .int .i64 0, .int .i64 0, .int .i64 0, .int .u64 0, .int .u64 0, .string ⟨#[]⟩, .int .i64 f.c0.kind, .int .i64 f.c0.service, .int .i64 f.c0.group, .int .u64 f.c0.session, .int .u64 f.c0.number, .string f.c0.text, .int .i64 f.c1.kind, .int .i64 f.c1.service, .int .i64 f.c1.group, .int .u64 f.c1.session, .int .u64 f.c1.number, .string f.c1.text]) rfl Tryd.sizeOf33 rfl rfl rfl rfl rfl rfl ?_
  refine run_endops ?_
  refine run_ret rfl (v := .agg #[.int .i64 f.a0.kind, .int .i64 f.a0.service, .int .i64 f.a0.group, .int .u64 f.a0.session, .int .u64 f.a0.number, .string f.a0.text, .int .i64 f.a1.kind, .int .i64 f.a1.service, .int .i64 f.a1.group, .int .u64 f.a1.session, .int .u64 f.a1.number, .string f.a1.text, .int .i64 e1.kind, .int .i64 e1.service, .int .i64 e1.group, .int .u64 e1.session, .int .u64 e1.number, .string e1.text, .int .i64 0, .int .i64 0, .int .i64 0, .int .u64 0, .int .u64 0, .string ⟨#[]⟩, .int .i64 f.c0.kind, .int .i64 f.c0.service, .int .i64 f.c0.group, .int .u64 f.c0.session, .int .u64 f.c0.number, .string f.c0.text, .int .i64 f.c1.kind, .int .i64 f.c1.service, .int .i64 f.c1.group, .int .u64 f.c1.session, .int .u64 f.c1.number, .string f.c1.text]) (res1 rfl ⟨_, rfl, rdv (rd_loadW (j := 0) Tryd.isAgg33 Tryd.sizeOf33 rfl rfl)⟩) ?_
  rfl

theorem rwith_1_2 (f : Fr) (e1 e2 : Ent) (l : List Ent) (A : Option Addr) (c : Nat) (w0 : World) (hA : Cells w0 A (encE.row (e1 :: e2 :: l))) : Fn Tryd.prog 18 #[f.val, .int .i64 1, .slice A ((e1 :: e2 :: l).length) c] w0 (fun v _ => v = (f.with 1 (e1 :: e2 :: l)).val) := by
  have dl0 : decide ((0 : Int) < (((e1 :: e2 :: l).length : Nat) : Int)) = true := decide_eq_true (by simp; omega)
  have dl1 : decide ((1 : Int) < (((e1 :: e2 :: l).length : Nat) : Int)) = true := decide_eq_true (by simp; omega)
  refine fn_of_run Tryd.func18 rfl rfl ?_
  refine run_seq rfl ?_
  refine run_region (todo := [0, 1]) rfl rfl ?_
  refine run_box rfl (fun g1 => ?_)
  refine run_alloc rfl Tryd.zeroValue33 (fun g2 => ?_)
  refine run_endops ?_
  refine run_seq rfl ?_
  refine run_seq rfl ?_
  refine run_region (todo := [0, 1, 2, 3, 4, 5]) rfl rfl ?_
  refine run_mv rfl ?_
  refine run_rd (v := .bool false) rfl (rd_cmp rfl rfl) ?_
  refine run_mv rfl ?_
  refine run_mvG rfl ?_
  refine run_rdG (v := .bool false) rfl (rd_cmp rfl rfl) ?_
  refine run_pick (v := .bool false) rfl rfl ?_
  refine run_endops ?_
  refine run_false rfl rfl ?_
  refine run_skip rfl ?_
  refine run_seq rfl ?_
  refine run_seq rfl ?_
  refine run_region (todo := [0]) rfl rfl ?_
  refine run_mv rfl ?_
  refine run_endops ?_
  refine run_block rfl ?_
  refine run_loop rfl ?_
  refine run_again ?_
  refine run_seq rfl ?_
  refine run_seq rfl ?_
  refine run_region (todo := [0, 1]) rfl rfl ?_
  refine run_mv rfl ?_
  refine run_rd (v := .bool true) rfl (rd_cmp rfl rfl) ?_
  refine run_endops ?_
  refine run_true rfl rfl ?_
  refine run_skip rfl ?_
  refine run_seq rfl ?_
  refine run_block rfl ?_
  refine run_seq rfl ?_
  refine run_region (todo := [0, 1, 2, 3, 4, 5]) rfl rfl ?_
  refine run_mv rfl ?_
  refine run_mv rfl ?_
  refine run_rd (v := .agg #[.int .i64 0, .int .i64 0, .int .i64 0, .int .u64 0, .int .u64 0, .string ⟨#[]⟩]) rfl ((fun w _ => by kernel_rfl)) ?_
  refine run_rd (v := .pointer (some ⟨g1, 12, none⟩)) rfl (rd_indexAddrA (m := 1) (o := 12) Tryd.underlying33 rfl (by decide) Tryd.sizeOf31 rfl) ?_
  refine run_rd (v := .pointer (some ⟨g1, 12, none⟩)) rfl (rd_indexAddrA (m := 0) (o := 12) Tryd.underlying31 rfl (by decide) Tryd.sizeOf30 rfl) ?_
  refine run_store (j := 1) (c' := #[.int .i64 f.a0.kind, .int .i64 f.a0.service, .int .i64 f.a0.group, .int .u64 f.a0.session, .int .u64 f.a0.number, .string f.a0.text, .int .i64 f.a1.kind, .int .i64 f.a1.service, .int .i64 f.a1.group, .int .u64 f.a1.session, .int .u64 f.a1.number, .string f.a1.text, .int .i64 0, .int .i64 0, .int .i64 0, .int .u64 0, .int .u64 0, .string ⟨#[]⟩, .int .i64 f.b1.kind, .int .i64 f.b1.service, .int .i64 f.b1.group, .int .u64 f.b1.session, .int .u64 f.b1.number, .string f.b1.text, .int .i64 f.c0.kind, .int .i64 f.c0.service, .int .i64 f.c0.group, .int .u64 f.c0.session, .int .u64 f.c0.number, .string f.c0.text, .int .i64 f.c1.kind, .int .i64 f.c1.service, .int .i64 f.c1.group, .int .u64 f.c1.session, .int .u64 f.c1.number, .string f.c1.text]) rfl Tryd.sizeOf30 rfl rfl rfl rfl (by kernel_rfl) rfl ?_
  refine run_endops ?_
  refine run_seq rfl ?_
  refine run_region (todo := [0, 1, 2, 3]) rfl rfl ?_
  refine run_mv rfl ?_
  refine run_mv rfl ?_
  refine run_rd (v := .int .i64 (((e1 :: e2 :: l).length : Nat) : Int)) rfl (rd_len Tryd.underlying50) ?_
  refine run_rd (v := .bool true) rfl (rd_cmp rfl dl0) ?_
  refine run_endops ?_
  refine run_true rfl rfl ?_
  refine any_draw (n := 9) rfl rfl rfl (by kernel_rfl) ?_
  refine any_takeM (i := 0) rfl (by kernel_rfl) (by kernel_rfl) (by kernel_rfl) ?_
  refine any_takeM (i := 1) rfl (by kernel_rfl) (by kernel_rfl) (by kernel_rfl) ?_
  refine any_takeM (i := 2) rfl (by kernel_rfl) (by kernel_rfl) (by kernel_rfl) ?_
  refine any_takeM (i := 3) rfl (by kernel_rfl) (by kernel_rfl) (by kernel_rfl) ?_
  refine any_take (i := 6) (v := .pointer (some ⟨g1, 12, none⟩)) rfl (fun w => (rd_indexAddrA (m := 1) (o := 12) Tryd.underlying33 rfl (by decide) Tryd.sizeOf31 rfl) w (Sat.start w)) (by kernel_rfl) (by kernel_rfl) (by kernel_rfl) ?_
  refine any_one (i := 4) (by kernel_rfl) ?_
  refine ro_rd (v := .pointer (elemAddr A (0 * 6))) rfl (rd_elem (m := 0) (o := 0 * 6) (know_old hA) Tryd.underlying50 Tryd.sizeOf30 rfl (lt_of_item (rfl : (e1 :: e2 :: l)[0]? = some e1) rfl) (Nat.lt_of_lt_of_le (m := 0 * 6 + 6) (by omega) (row_lt (E := encE) (rfl : (e1 :: e2 :: l)[0]? = some e1))) rfl) ?_
  refine any_one (i := 5) (by kernel_rfl) ?_
  refine ro_rd (v := .agg e1.arr) rfl (rd_elemLoadA (u := e1.arr) (know_old hA) Tryd.isAgg30 Tryd.sizeOf30 rfl (row_all (E := encE) (rfl : (e1 :: e2 :: l)[0]? = some e1)) (row_lt (E := encE) (rfl : (e1 :: e2 :: l)[0]? = some e1))) ?_
  refine any_take (i := 7) (v := .pointer (some ⟨g1, 12, none⟩)) rfl (fun w => (rd_indexAddrA (m := 0) (o := 12) Tryd.underlying31 rfl (by decide) Tryd.sizeOf30 rfl) w (Sat.start w)) (by kernel_rfl) (by kernel_rfl) (by kernel_rfl) ?_
  refine any_one (i := 8) (by kernel_rfl) ?_
  refine ro_store (j := 1) (c' := #[.int .i64 f.a0.kind, .int .i64 f.a0.service, .int .i64 f.a0.group, .int .u64 f.a0.session, .int .u64 f.a0.number, .string f.a0.text, .int .i64 f.a1.kind, .int .i64 f.a1.service, .int .i64 f.a1.group, .int .u64 f.a1.session, .int .u64 f.a1.number, .string f.a1.text, .int .i64 e1.kind, .int .i64 e1.service, .int .i64 e1.group, .int .u64 e1.session, .int .u64 e1.number, .string e1.text, .int .i64 f.b1.kind, .int .i64 f.b1.service, .int .i64 f.b1.group, .int .u64 f.b1.session, .int .u64 f.b1.number, .string f.b1.text, .int .i64 f.c0.kind, .int .i64 f.c0.service, .int .i64 f.c0.group, .int .u64 f.c0.session, .int .u64 f.c0.number, .string f.c0.text, .int .i64 f.c1.kind, .int .i64 f.c1.service, .int .i64 f.c1.group, .int .u64 f.c1.session, .int .u64 f.c1.number, .string f.c1.text]) rfl Tryd.sizeOf30 rfl rfl rfl rfl (by kernel_rfl) rfl ?_
  refine any_end (by kernel_rfl) ?_
  refine run_endblock ?_
  refine run_region (todo := [0, 1, 2]) rfl rfl ?_
  refine run_mv rfl ?_
  refine run_rd (v := .int .i64 1) rfl (rd_add (r := 1) (by decide)) ?_
  refine run_mv rfl ?_
  refine run_endops ?_
  refine run_again ?_
  refine run_seq rfl ?_
  refine run_seq rfl ?_
  refine run_region (todo := [0, 1]) rfl rfl ?_
  refine run_mv rfl ?_
  refine run_rd (v := .bool true) rfl (rd_cmp rfl rfl) ?_
  refine run_endops ?_
  refine run_true rfl rfl ?_
  refine run_skip rfl ?_
  refine run_seq rfl ?_
  refine run_block rfl ?_
  refine run_seq rfl ?_
  refine run_region (todo := [0, 1, 2, 3, 4, 5]) rfl rfl ?_
  refine run_mv rfl ?_
  refine run_mv rfl ?_
  refine run_rd (v := .agg #[.int .i64 0, .int .i64 0, .int .i64 0, .int .u64 0, .int .u64 0, .string ⟨#[]⟩]) rfl ((fun w _ => by kernel_rfl)) ?_
  refine run_rd (v := .pointer (some ⟨g1, 12, none⟩)) rfl (rd_indexAddrA (m := 1) (o := 12) Tryd.underlying33 rfl (by decide) Tryd.sizeOf31 rfl) ?_
  refine run_rd (v := .pointer (some ⟨g1, 18, none⟩)) rfl (rd_indexAddrA (m := 1) (o := 18) Tryd.underlying31 rfl (by decide) Tryd.sizeOf30 rfl) ?_
  refine run_store (j := 1) (c' := #[.int .i64 f.a0.kind, .int .i64 f.a0.service, .int .i64 f.a0.group, .int .u64 f.a0.session, .int .u64 f.a0.number, .string f.a0.text, .int .i64 f.a1.kind, .int .i64 f.a1.service, .int .i64 f.a1.group, .int .u64 f.a1.session, .int .u64 f.a1.number, .string f.a1.text, .int .i64 e1.kind, .int .i64 e1.service, .int .i64 e1.group, .int .u64 e1.session, .int .u64 e1.number, .string e1.text, .int .i64 0, .int .i64 0, .int .i64 0, .int .u64 0, .int .u64 0, .string ⟨#[]⟩, .int .i64 f.c0.kind, .int .i64 f.c0.service, .int .i64 f.c0.group, .int .u64 f.c0.session, .int .u64 f.c0.number, .string f.c0.text, .int .i64 f.c1.kind, .int .i64 f.c1.service, .int .i64 f.c1.group, .int .u64 f.c1.session, .int .u64 f.c1.number, .string f.c1.text]) rfl Tryd.sizeOf30 rfl rfl rfl rfl (by kernel_rfl) rfl ?_
  refine run_endops ?_
  refine run_seq rfl ?_
  refine run_region (todo := [0, 1, 2, 3]) rfl rfl ?_
  refine run_mv rfl ?_
  refine run_mv rfl ?_
  refine run_rd (v := .int .i64 (((e1 :: e2 :: l).length : Nat) : Int)) rfl (rd_len Tryd.underlying50) ?_
  refine run_rd (v := .bool true) rfl (rd_cmp rfl dl1) ?_
  refine run_endops ?_
  refine run_true rfl rfl ?_
  refine any_draw (n := 9) rfl rfl rfl (by kernel_rfl) ?_
  refine any_takeM (i := 0) rfl (by kernel_rfl) (by kernel_rfl) (by kernel_rfl) ?_
  refine any_takeM (i := 1) rfl (by kernel_rfl) (by kernel_rfl) (by kernel_rfl) ?_
  refine any_takeM (i := 2) rfl (by kernel_rfl) (by kernel_rfl) (by kernel_rfl) ?_
  refine any_takeM (i := 3) rfl (by kernel_rfl) (by kernel_rfl) (by kernel_rfl) ?_
  refine any_take (i := 6) (v := .pointer (some ⟨g1, 12, none⟩)) rfl (fun w => (rd_indexAddrA (m := 1) (o := 12) Tryd.underlying33 rfl (by decide) Tryd.sizeOf31 rfl) w (Sat.start w)) (by kernel_rfl) (by kernel_rfl) (by kernel_rfl) ?_
  refine any_one (i := 4) (by kernel_rfl) ?_
  refine ro_rd (v := .pointer (elemAddr A (1 * 6))) rfl (rd_elem (m := 1) (o := 1 * 6) (know_old hA) Tryd.underlying50 Tryd.sizeOf30 rfl (lt_of_item (rfl : (e1 :: e2 :: l)[1]? = some e2) rfl) (Nat.lt_of_lt_of_le (m := 1 * 6 + 6) (by omega) (row_lt (E := encE) (rfl : (e1 :: e2 :: l)[1]? = some e2))) rfl) ?_
  refine any_one (i := 5) (by kernel_rfl) ?_
  refine ro_rd (v := .agg e2.arr) rfl (rd_elemLoadA (u := e2.arr) (know_old hA) Tryd.isAgg30 Tryd.sizeOf30 rfl (row_all (E := encE) (rfl : (e1 :: e2 :: l)[1]? = some e2)) (row_lt (E := encE) (rfl : (e1 :: e2 :: l)[1]? = some e2))) ?_
  refine any_take (i := 7) (v := .pointer (some ⟨g1, 18, none⟩)) rfl (fun w => (rd_indexAddrA (m := 1) (o := 18) Tryd.underlying31 rfl (by decide) Tryd.sizeOf30 rfl) w (Sat.start w)) (by kernel_rfl) (by kernel_rfl) (by kernel_rfl) ?_
  refine any_one (i := 8) (by kernel_rfl) ?_
  refine ro_store (j := 1) (c' := #[.int .i64 f.a0.kind, .int .i64 f.a0.service, .int .i64 f.a0.group, .int .u64 f.a0.session, .int .u64 f.a0.number, .string f.a0.text, .int .i64 f.a1.kind, .int .i64 f.a1.service, .int .i64 f.a1.group, .int .u64 f.a1.session, .int .u64 f.a1.number, .string f.a1.text, .int .i64 e1.kind, .int .i64 e1.service, .int .i64 e1.group, .int .u64 e1.session, .int .u64 e1.number, .string e1.text, .int .i64 e2.kind, .int .i64 e2.service, .int .i64 e2.group, .int .u64 e2.session, .int .u64 e2.number, .string e2.text, .int .i64 f.c0.kind, .int .i64 f.c0.service, .int .i64 f.c0.group, .int .u64 f.c0.session, .int .u64 f.c0.number, .string f.c0.text, .int .i64 f.c1.kind, .int .i64 f.c1.service, .int .i64 f.c1.group, .int .u64 f.c1.session, .int .u64 f.c1.number, .string f.c1.text]) rfl Tryd.sizeOf30 rfl rfl rfl rfl (by kernel_rfl) rfl ?_
  refine any_end (by kernel_rfl) ?_
  refine run_endblock ?_
  refine run_region (todo := [0, 1, 2]) rfl rfl ?_
  refine run_mv rfl ?_
  refine run_rd (v := .int .i64 2) rfl (rd_add (r := 2) (by decide)) ?_
  refine run_mv rfl ?_
  refine run_endops ?_
  refine run_again ?_
  refine run_seq rfl ?_
  refine run_seq rfl ?_
  refine run_region (todo := [0, 1]) rfl rfl ?_
  refine run_mv rfl ?_
  refine run_rd (v := .bool false) rfl (rd_cmp rfl rfl) ?_
  refine run_endops ?_
  refine run_false rfl rfl ?_
  refine run_exit rfl rfl ?_
  refine run_seq rfl ?_
  refine run_region (todo := [0, 1]) rfl rfl ?_
  refine run_rd (v := .agg #[.int .i64 f.a0.kind, .int .i64 f.a0.service, .int .i64 f.a0.group, .int .u64 f.a0.session, .int .u64 f.a0.number, .string f.a0.text, .int .i64 f.a1.kind, .int .i64 f.a1.service, .int .i64 f.a1.group, .int .u64 f.a1.session, .int .u64 f.a1.number, .string f.a1.text, .int .i64 e1.kind, .int .i64 e1.service, .int .i64 e1.group, .int .u64 e1.session, .int .u64 e1.number, .string e1.text, .int .i64 e2.kind, .int .i64 e2.service, .int .i64 e2.group, .int .u64 e2.session, .int .u64 e2.number, .string e2.text, .int .i64 f.c0.kind, .int .i64 f.c0.service, .int .i64 f.c0.group, .int .u64 f.c0.session, .int .u64 f.c0.number, .string f.c0.text, .int .i64 f.c1.kind, .int .i64 f.c1.service, .int .i64 f.c1.group, .int .u64 f.c1.session, .int .u64 f.c1.number, .string f.c1.text]) rfl (rd_loadW (j := 1) Tryd.isAgg33 Tryd.sizeOf33 rfl rfl) ?_
  refine run_storeW (j := 0) (c' := #[.int .i64 f.a0.kind, .int .i64 f.a0.service, .int .i64 f.a0.group, .int .u64 f.a0.session, .int .u64 f.a0.number, .string f.a0.text, .int .i64 f.a1.kind, .int .i64 f.a1.service, .int .i64 f.a1.group, .int .u64 f.a1.session, .int .u64 f.a1.number, .string f.a1.text, .int .i64 e1.kind, .int .i64 e1.service, .int .i64 e1.group, .int .u64 e1.session, .int .u64 e1.number, .string e1.text, .int .i64 e2.kind, .int .i64 e2.service, .int .i64 e2.group, .int .u64 e2.session, .int .u64 e2.number, .string e2.text, .int .i64 f.c0.kind, .int .i64 f.c0.service, .int .i64 f.c0.group, .int .u64 f.c0.session, .int .u64 f.c0.number, .string f.c0.text, .int .i64 f.c1.kind, .int .i64 f.c1.service, .int .i64 f.c1.group, .int .u64 f.c1.session, .int .u64 f.c1.number, .string f.c1.text]) rfl Tryd.sizeOf33 rfl rfl rfl rfl rfl rfl ?_
  refine run_endops ?_
  refine run_ret rfl (v := .agg #[.int .i64 f.a0.kind, .int .i64 f.a0.service, .int .i64 f.a0.group, .int .u64 f.a0.session, .int .u64 f.a0.number, .string f.a0.text, .int .i64 f.a1.kind, .int .i64 f.a1.service, .int .i64 f.a1.group, .int .u64 f.a1.session, .int .u64 f.a1.number, .string f.a1.text, .int .i64 e1.kind, .int .i64 e1.service, .int .i64 e1.group, .int .u64 e1.session, .int .u64 e1.number, .string e1.text, .int .i64 e2.kind, .int .i64 e2.service, .int .i64 e2.group, .int .u64 e2.session, .int .u64 e2.number, .string e2.text, .int .i64 f.c0.kind, .int .i64 f.c0.service, .int .i64 f.c0.group, .int .u64 f.c0.session, .int .u64 f.c0.number, .string f.c0.text, .int .i64 f.c1.kind, .int .i64 f.c1.service, .int .i64 f.c1.group, .int .u64 f.c1.session, .int .u64 f.c1.number, .string f.c1.text]) (res1 rfl ⟨_, rfl, rdv (rd_loadW (j := 0) Tryd.isAgg33 Tryd.sizeOf33 rfl rfl)⟩) ?_
  rfl

theorem rwith_2_0 (f : Fr) (A : Option Addr) (c : Nat) (w0 : World) (hA : Cells w0 A (encE.row ([] : List Ent))) : Fn Tryd.prog 18 #[f.val, .int .i64 2, .slice A (([] : List Ent).length) c] w0 (fun v _ => v = (f.with 2 ([] : List Ent)).val) := by
  have dl0 : decide ((0 : Int) < ((([] : List Ent).length : Nat) : Int)) = false := decide_eq_false (by simp)
  have dl1 : decide ((1 : Int) < ((([] : List Ent).length : Nat) : Int)) = false := decide_eq_false (by simp)
  refine fn_of_run Tryd.func18 rfl rfl ?_
  refine run_seq rfl ?_
  refine run_region (todo := [0, 1]) rfl rfl ?_
  refine run_box rfl (fun g1 => ?_)
  refine run_alloc rfl Tryd.zeroValue33 (fun g2 => ?_)
  refine run_endops ?_
  refine run_seq rfl ?_
  refine run_seq rfl ?_
  refine run_region (todo := [0, 1, 2, 3, 4, 5]) rfl rfl ?_
  refine run_mv rfl ?_
  refine run_rd (v := .bool false) rfl (rd_cmp rfl rfl) ?_
  refine run_mv rfl ?_
  refine run_mvG rfl ?_
  refine run_rdG (v := .bool false) rfl (rd_cmp rfl rfl) ?_
  refine run_pick (v := .bool false) rfl rfl ?_
  refine run_endops ?_
  refine run_false rfl rfl ?_
  refine run_skip rfl ?_
  refine run_seq rfl ?_
  refine run_seq rfl ?_
  refine run_region (todo := [0]) rfl rfl ?_
  refine run_mv rfl ?_
  refine run_endops ?_
  refine run_block rfl ?_
  refine run_loop rfl ?_
  refine run_again ?_
  refine run_seq rfl ?_
  refine run_seq rfl ?_
  refine run_region (todo := [0, 1]) rfl rfl ?_
  refine run_mv rfl ?_
  refine run_rd (v := .bool true) rfl (rd_cmp rfl rfl) ?_
  refine run_endops ?_
  refine run_true rfl rfl ?_
  refine run_skip rfl ?_
  refine run_seq rfl ?_
  refine run_block rfl ?_
  refine run_seq rfl ?_
  refine run_region (todo := [0, 1, 2, 3, 4, 5]) rfl rfl ?_
  refine run_mv rfl ?_
  refine run_mv rfl ?_
  refine run_rd (v := .agg #[.int .i64 0, .int .i64 0, .int .i64 0, .int .u64 0, .int .u64 0, .string ⟨#[]⟩]) rfl ((fun w _ => by kernel_rfl)) ?_
  refine run_rd (v := .pointer (some ⟨g1, 24, none⟩)) rfl (rd_indexAddrA (m := 2) (o := 24) Tryd.underlying33 rfl (by decide) Tryd.sizeOf31 rfl) ?_
  refine run_rd (v := .pointer (some ⟨g1, 24, none⟩)) rfl (rd_indexAddrA (m := 0) (o := 24) Tryd.underlying31 rfl (by decide) Tryd.sizeOf30 rfl) ?_
  refine run_store (j := 1) (c' := #[.int .i64 f.a0.kind, .int .i64 f.a0.service, .int .i64 f.a0.group, .int .u64 f.a0.session, .int .u64 f.a0.number, .string f.a0.text, .int .i64 f.a1.kind, .int .i64 f.a1.service, .int .i64 f.a1.group, .int .u64 f.a1.session, .int .u64 f.a1.number, .string f.a1.text, .int .i64 f.b0.kind, .int .i64 f.b0.service, .int .i64 f.b0.group, .int .u64 f.b0.session, .int .u64 f.b0.number, .string f.b0.text, .int .i64 f.b1.kind, .int .i64 f.b1.service, .int .i64 f.b1.group, .int .u64 f.b1.session, .int .u64 f.b1.number, .string f.b1.text, .int .i64 0, .int .i64 0, .int .i64 0, .int .u64 0, .int .u64 0, .string ⟨#[]⟩, .int .i64 f.c1.kind, .int .i64 f.c1.service, .int .i64 f.c1.group, .int .u64 f.c1.session, .int .u64 f.c1.number, .string f.c1.text]) rfl Tryd.sizeOf30 rfl rfl rfl rfl (by kernel_rfl) rfl ?_
  refine run_endops ?_
  refine run_seq rfl ?_
  refine run_region (todo := [0, 1, 2, 3]) rfl rfl ?_
  refine run_mv rfl ?_
  refine run_mv rfl ?_
  refine run_rd (v := .int .i64 ((([] : List Ent).length : Nat) : Int)) rfl (rd_len Tryd.underlying50) ?_
  refine run_rd (v := .bool false) rfl (rd_cmp rfl dl0) ?_
  refine run_endops ?_
  refine run_false rfl rfl ?_
  refine run_skip rfl ?_
  refine run_endblock ?_
  refine run_region (todo := [0, 1, 2]) rfl rfl ?_
  refine run_mv rfl ?_
  refine run_rd (v := .int .i64 1) rfl (rd_add (r := 1) (by decide)) ?_
  refine run_mv rfl ?_
  refine run_endops ?_
  refine run_again ?_
  refine run_seq rfl ?_
  refine run_seq rfl ?_
  refine run_region (todo := [0, 1]) rfl rfl ?_
  refine run_mv rfl ?_
  refine run_rd (v := .bool true) rfl (rd_cmp rfl rfl) ?_
  refine run_endops ?_
  refine run_true rfl rfl ?_
  refine run_skip rfl ?_
  refine run_seq rfl ?_
  refine run_block rfl ?_
  refine run_seq rfl ?_
  refine run_region (todo := [0, 1, 2, 3, 4, 5]) rfl rfl ?_
  refine run_mv rfl ?_
  refine run_mv rfl ?_
  refine run_rd (v := .agg #[.int .i64 0, .int .i64 0, .int .i64 0, .int .u64 0, .int .u64 0, .string ⟨#[]⟩]) rfl ((fun w _ => by kernel_rfl)) ?_
  refine run_rd (v := .pointer (some ⟨g1, 24, none⟩)) rfl (rd_indexAddrA (m := 2) (o := 24) Tryd.underlying33 rfl (by decide) Tryd.sizeOf31 rfl) ?_
  refine run_rd (v := .pointer (some ⟨g1, 30, none⟩)) rfl (rd_indexAddrA (m := 1) (o := 30) Tryd.underlying31 rfl (by decide) Tryd.sizeOf30 rfl) ?_
  refine run_store (j := 1) (c' := #[.int .i64 f.a0.kind, .int .i64 f.a0.service, .int .i64 f.a0.group, .int .u64 f.a0.session, .int .u64 f.a0.number, .string f.a0.text, .int .i64 f.a1.kind, .int .i64 f.a1.service, .int .i64 f.a1.group, .int .u64 f.a1.session, .int .u64 f.a1.number, .string f.a1.text, .int .i64 f.b0.kind, .int .i64 f.b0.service, .int .i64 f.b0.group, .int .u64 f.b0.session, .int .u64 f.b0.number, .string f.b0.text, .int .i64 f.b1.kind, .int .i64 f.b1.service, .int .i64 f.b1.group, .int .u64 f.b1.session, .int .u64 f.b1.number, .string f.b1.text, .int .i64 0, .int .i64 0, .int .i64 0, .int .u64 0, .int .u64 0, .string ⟨#[]⟩, .int .i64 0, .int .i64 0, .int .i64 0, .int .u64 0, .int .u64 0, .string ⟨#[]⟩]) rfl Tryd.sizeOf30 rfl rfl rfl rfl (by kernel_rfl) rfl ?_
  refine run_endops ?_
  refine run_seq rfl ?_
  refine run_region (todo := [0, 1, 2, 3]) rfl rfl ?_
  refine run_mv rfl ?_
  refine run_mv rfl ?_
  refine run_rd (v := .int .i64 ((([] : List Ent).length : Nat) : Int)) rfl (rd_len Tryd.underlying50) ?_
  refine run_rd (v := .bool false) rfl (rd_cmp rfl dl1) ?_
  refine run_endops ?_
  refine run_false rfl rfl ?_
  refine run_skip rfl ?_
  refine run_endblock ?_
  refine run_region (todo := [0, 1, 2]) rfl rfl ?_
  refine run_mv rfl ?_
  refine run_rd (v := .int .i64 2) rfl (rd_add (r := 2) (by decide)) ?_
  refine run_mv rfl ?_
  refine run_endops ?_
  refine run_again ?_
  refine run_seq rfl ?_
  refine run_seq rfl ?_
  refine run_region (todo := [0, 1]) rfl rfl ?_
  refine run_mv rfl ?_
  refine run_rd (v := .bool false) rfl (rd_cmp rfl rfl) ?_
  refine run_endops ?_
  refine run_false rfl rfl ?_
  refine run_exit rfl rfl ?_
  refine run_seq rfl ?_
  refine run_region (todo := [0, 1]) rfl rfl ?_
  refine run_rd (v := .agg #[.int .i64 f.a0.kind, .int .i64 f.a0.service, .int .i64 f.a0.group, .int .u64 f.a0.session, .int .u64 f.a0.number, .string f.a0.text, .int .i64 f.a1.kind, .int .i64 f.a1.service, .int .i64 f.a1.group, .int .u64 f.a1.session, .int .u64 f.a1.number, .string f.a1.text, .int .i64 f.b0.kind, .int .i64 f.b0.service, .int .i64 f.b0.group, .int .u64 f.b0.session, .int .u64 f.b0.number, .string f.b0.text, .int .i64 f.b1.kind, .int .i64 f.b1.service, .int .i64 f.b1.group, .int .u64 f.b1.session, .int .u64 f.b1.number, .string f.b1.text, .int .i64 0, .int .i64 0, .int .i64 0, .int .u64 0, .int .u64 0, .string ⟨#[]⟩, .int .i64 0, .int .i64 0, .int .i64 0, .int .u64 0, .int .u64 0, .string ⟨#[]⟩]) rfl (rd_loadW (j := 1) Tryd.isAgg33 Tryd.sizeOf33 rfl rfl) ?_
  refine run_storeW (j := 0) (c' := #[.int .i64 f.a0.kind, .int .i64 f.a0.service, .int .i64 f.a0.group, .int .u64 f.a0.session, .int .u64 f.a0.number, .string f.a0.text, .int .i64 f.a1.kind, .int .i64 f.a1.service, .int .i64 f.a1.group, .int .u64 f.a1.session, .int .u64 f.a1.number, .string f.a1.text, .int .i64 f.b0.kind, .int .i64 f.b0.service, .int .i64 f.b0.group, .int .u64 f.b0.session, .int .u64 f.b0.number, .string f.b0.text, .int .i64 f.b1.kind, .int .i64 f.b1.service, .int .i64 f.b1.group, .int .u64 f.b1.session, .int .u64 f.b1.number, .string f.b1.text, .int .i64 0, .int .i64 0, .int .i64 0, .int .u64 0, .int .u64 0, .string ⟨#[]⟩, .int .i64 0, .int .i64 0, .int .i64 0, .int .u64 0, .int .u64 0, .string ⟨#[]⟩]) rfl Tryd.sizeOf33 rfl rfl rfl rfl rfl rfl ?_
  refine run_endops ?_
  refine run_ret rfl (v := .agg #[.int .i64 f.a0.kind, .int .i64 f.a0.service, .int .i64 f.a0.group, .int .u64 f.a0.session, .int .u64 f.a0.number, .string f.a0.text, .int .i64 f.a1.kind, .int .i64 f.a1.service, .int .i64 f.a1.group, .int .u64 f.a1.session, .int .u64 f.a1.number, .string f.a1.text, .int .i64 f.b0.kind, .int .i64 f.b0.service, .int .i64 f.b0.group, .int .u64 f.b0.session, .int .u64 f.b0.number, .string f.b0.text, .int .i64 f.b1.kind, .int .i64 f.b1.service, .int .i64 f.b1.group, .int .u64 f.b1.session, .int .u64 f.b1.number, .string f.b1.text, .int .i64 0, .int .i64 0, .int .i64 0, .int .u64 0, .int .u64 0, .string ⟨#[]⟩, .int .i64 0, .int .i64 0, .int .i64 0, .int .u64 0, .int .u64 0, .string ⟨#[]⟩]) (res1 rfl ⟨_, rfl, rdv (rd_loadW (j := 0) Tryd.isAgg33 Tryd.sizeOf33 rfl rfl)⟩) ?_
  rfl

theorem rwith_2_1 (f : Fr) (e1 : Ent) (A : Option Addr) (c : Nat) (w0 : World) (hA : Cells w0 A (encE.row [e1])) : Fn Tryd.prog 18 #[f.val, .int .i64 2, .slice A ([e1].length) c] w0 (fun v _ => v = (f.with 2 [e1]).val) := by
  have dl0 : decide ((0 : Int) < (([e1].length : Nat) : Int)) = true := decide_eq_true (by simp)
  have dl1 : decide ((1 : Int) < (([e1].length : Nat) : Int)) = false := decide_eq_false (by simp)
  refine fn_of_run Tryd.func18 rfl rfl ?_
  refine run_seq rfl ?_
  refine run_region (todo := [0, 1]) rfl rfl ?_
  refine run_box rfl (fun g1 => ?_)
  refine run_alloc rfl Tryd.zeroValue33 (fun g2 => ?_)
  refine run_endops ?_
  refine run_seq rfl ?_
  refine run_seq rfl ?_
  refine run_region (todo := [0, 1, 2, 3, 4, 5]) rfl rfl ?_
  refine run_mv rfl ?_
  refine run_rd (v := .bool false) rfl (rd_cmp rfl rfl) ?_
  refine run_mv rfl ?_
  refine run_mvG rfl ?_
  refine run_rdG (v := .bool false) rfl (rd_cmp rfl rfl) ?_
  refine run_pick (v := .bool false) rfl rfl ?_
  refine run_endops ?_
  refine run_false rfl rfl ?_
  refine run_skip rfl ?_
  refine run_seq rfl ?_
  refine run_seq rfl ?_
  refine run_region (todo := [0]) rfl rfl ?_
  refine run_mv rfl ?_
  refine run_endops ?_
  refine run_block rfl ?_
  refine run_loop rfl ?_
  refine run_again ?_
  refine run_seq rfl ?_
  refine run_seq rfl ?_
  refine run_region (todo := [0, 1]) rfl rfl ?_
  refine run_mv rfl ?_
  refine run_rd (v := .bool true) rfl (rd_cmp rfl rfl) ?_
  refine run_endops ?_
  refine run_true rfl rfl ?_
  refine run_skip rfl ?_
  refine run_seq rfl ?_
  refine run_block rfl ?_
  refine run_seq rfl ?_
  refine run_region (todo := [0, 1, 2, 3, 4, 5]) rfl rfl ?_
  refine run_mv rfl ?_
  refine run_mv rfl ?_
  refine run_rd (v := .agg #[.int .i64 0, .int .i64 0, .int .i64 0, .int .u64 0, .int .u64 0, .string ⟨#[]⟩]) rfl ((fun w _ => by kernel_rfl)) ?_
  refine run_rd (v := .pointer (some ⟨g1, 24, none⟩)) rfl (rd_indexAddrA (m := 2) (o := 24) Tryd.underlying33 rfl (by decide) Tryd.sizeOf31 rfl) ?_
  refine run_rd (v := .pointer (some ⟨g1, 24, none⟩)) rfl (rd_indexAddrA (m := 0) (o := 24) Tryd.underlying31 rfl (by decide) Tryd.sizeOf30 rfl) ?_
  refine run_store (j := 1) (c' := #[.int .i64 f.a0.kind, .int .i64 f.a0.service, .int .i64 f.a0.group, .int .u64 f.a0.session, .int .u64 f.a0.number, .string f.a0.text, .int .i64 f.a1.kind, .int .i64 f.a1.service, .int .i64 f.a1.group, .int .u64 f.a1.session, .int .u64 f.a1.number, .string f.a1.text, .int .i64 f.b0.kind, .int .i64 f.b0.service, .int .i64 f.b0.group, .int .u64 f.b0.session, .int .u64 f.b0.number, .string f.b0.text, .int .i64 f.b1.kind, .int .i64 f.b1.service, .int .i64 f.b1.group, .int .u64 f.b1.session, .int .u64 f.b1.number, .string f.b1.text, .int .i64 0, .int .i64 0, .int .i64 0, .int .u64 0, .int .u64 0, .string ⟨#[]⟩, .int .i64 f.c1.kind, .int .i64 f.c1.service, .int .i64 f.c1.group, .int .u64 f.c1.session, .int .u64 f.c1.number, .string f.c1.text]) rfl Tryd.sizeOf30 rfl rfl rfl rfl (by kernel_rfl) rfl ?_
  refine run_endops ?_
  refine run_seq rfl ?_
  refine run_region (todo := [0, 1, 2, 3]) rfl rfl ?_
  refine run_mv rfl ?_
  refine run_mv rfl ?_
  refine run_rd (v := .int .i64 (([e1].length : Nat) : Int)) rfl (rd_len Tryd.underlying50) ?_
  refine run_rd (v := .bool true) rfl (rd_cmp rfl dl0) ?_
  refine run_endops ?_
  refine run_true rfl rfl ?_
  refine any_draw (n := 9) rfl rfl rfl (by kernel_rfl) ?_
  refine any_takeM (i := 0) rfl (by kernel_rfl) (by kernel_rfl) (by kernel_rfl) ?_
  refine any_takeM (i := 1) rfl (by kernel_rfl) (by kernel_rfl) (by kernel_rfl) ?_
  refine any_takeM (i := 2) rfl (by kernel_rfl) (by kernel_rfl) (by kernel_rfl) ?_
  refine any_takeM (i := 3) rfl (by kernel_rfl) (by kernel_rfl) (by kernel_rfl) ?_
  refine any_take (i := 6) (v := .pointer (some ⟨g1, 24, none⟩)) rfl (fun w => (rd_indexAddrA (m := 2) (o := 24) Tryd.underlying33 rfl (by decide) Tryd.sizeOf31 rfl) w (Sat.start w)) (by kernel_rfl) (by kernel_rfl) (by kernel_rfl) ?_
  refine any_one (i := 4) (by kernel_rfl) ?_
  refine ro_rd (v := .pointer (elemAddr A (0 * 6))) rfl (rd_elem (m := 0) (o := 0 * 6) (know_old hA) Tryd.underlying50 Tryd.sizeOf30 rfl (lt_of_item (rfl : [e1][0]? = some e1) rfl) (Nat.lt_of_lt_of_le (m := 0 * 6 + 6) (by omega) (row_lt (E := encE) (rfl : [e1][0]? = some e1))) rfl) ?_
  refine any_one (i := 5) (by kernel_rfl) ?_
  refine ro_rd (v := .agg e1.arr) rfl (rd_elemLoadA (u := e1.arr) (know_old hA) Tryd.isAgg30 Tryd.sizeOf30 rfl (row_all (E := encE) (rfl : [e1][0]? = some e1)) (row_lt (E := encE) (rfl : [e1][0]? = some e1))) ?_
  refine any_take (i := 7) (v := .pointer (some ⟨g1, 24, none⟩)) rfl (fun w => (rd_indexAddrA (m := 0) (o := 24) Tryd.underlying31 rfl (by decide) Tryd.sizeOf30 rfl) w (Sat.start w)) (by kernel_rfl) (by kernel_rfl) (by kernel_rfl) ?_
  refine any_one (i := 8) (by kernel_rfl) ?_
  refine ro_store (j := 1) (c' := #[.int .i64 f.a0.kind, .int .i64 f.a0.service, .int .i64 f.a0.group, .int .u64 f.a0.session, .int .u64 f.a0.number, .string f.a0.text, .int .i64 f.a1.kind, .int .i64 f.a1.service, .int .i64 f.a1.group, .int .u64 f.a1.session, .int .u64 f.a1.number, .string f.a1.text, .int .i64 f.b0.kind, .int .i64 f.b0.service, .int .i64 f.b0.group, .int .u64 f.b0.session, .int .u64 f.b0.number, .string f.b0.text, .int .i64 f.b1.kind, .int .i64 f.b1.service, .int .i64 f.b1.group, .int .u64 f.b1.session, .int .u64 f.b1.number, .string f.b1.text, .int .i64 e1.kind, .int .i64 e1.service, .int .i64 e1.group, .int .u64 e1.session, .int .u64 e1.number, .string e1.text, .int .i64 f.c1.kind, .int .i64 f.c1.service, .int .i64 f.c1.group, .int .u64 f.c1.session, .int .u64 f.c1.number, .string f.c1.text]) rfl Tryd.sizeOf30 rfl rfl rfl rfl (by kernel_rfl) rfl ?_
  refine any_end (by kernel_rfl) ?_
  refine run_endblock ?_
  refine run_region (todo := [0, 1, 2]) rfl rfl ?_
  refine run_mv rfl ?_
  refine run_rd (v := .int .i64 1) rfl (rd_add (r := 1) (by decide)) ?_
  refine run_mv rfl ?_
  refine run_endops ?_
  refine run_again ?_
  refine run_seq rfl ?_
  refine run_seq rfl ?_
  refine run_region (todo := [0, 1]) rfl rfl ?_
  refine run_mv rfl ?_
  refine run_rd (v := .bool true) rfl (rd_cmp rfl rfl) ?_
  refine run_endops ?_
  refine run_true rfl rfl ?_
  refine run_skip rfl ?_
  refine run_seq rfl ?_
  refine run_block rfl ?_
  refine run_seq rfl ?_
  refine run_region (todo := [0, 1, 2, 3, 4, 5]) rfl rfl ?_
  refine run_mv rfl ?_
  refine run_mv rfl ?_
  refine run_rd (v := .agg #[.int .i64 0, .int .i64 0, .int .i64 0, .int .u64 0, .int .u64 0, .string ⟨#[]⟩]) rfl ((fun w _ => by kernel_rfl)) ?_
  refine run_rd (v := .pointer (some ⟨g1, 24, none⟩)) rfl (rd_indexAddrA (m := 2) (o := 24) Tryd.underlying33 rfl (by decide) Tryd.sizeOf31 rfl) ?_
  refine run_rd (v := .pointer (some ⟨g1, 30, none⟩)) rfl (rd_indexAddrA (m := 1) (o := 30) Tryd.underlying31 rfl (by decide) Tryd.sizeOf30 rfl) ?_
  refine run_store (j := 1) (c' := #[.int .i64 f.a0.kind, .int .i64 f.a0.service, .int .i64 f.a0.group, .int .u64 f.a0.session, .int .u64 f.a0.number, .string f.a0.text, .int .i64 f.a1.kind, .int .i64 f.a1.service, .int .i64 f.a1.group, .int .u64 f.a1.session, .int .u64 f.a1.number, .string f.a1.text, .int .i64 f.b0.kind, .int .i64 f.b0.service, .int .i64 f.b0.group, .int .u64 f.b0.session, .int .u64 f.b0.number, .string f.b0.text, .int .i64 f.b1.kind, .int .i64 f.b1.service, .int .i64 f.b1.group, .int .u64 f.b1.session, .int .u64 f.b1.number, .string f.b1.text, .int .i64 e1.kind, .int .i64 e1.service, .int .i64 e1.group, .int .u64 e1.session, .int .u64 e1.number, .string e1.text, .int .i64 0, .int .i64 0, .int .i64 0, .int .u64 0, .int .u64 0, .string ⟨#[]⟩]) rfl Tryd.sizeOf30 rfl rfl rfl rfl (by kernel_rfl) rfl ?_
  refine run_endops ?_
  refine run_seq rfl ?_
  refine run_region (todo := [0, 1, 2, 3]) rfl rfl ?_
  refine run_mv rfl ?_
  refine run_mv rfl ?_
  refine run_rd (v := .int .i64 (([e1].length : Nat) : Int)) rfl (rd_len Tryd.underlying50) ?_
  refine run_rd (v := .bool false) rfl (rd_cmp rfl dl1) ?_
  refine run_endops ?_
  refine run_false rfl rfl ?_
  refine run_skip rfl ?_
  refine run_endblock ?_
  refine run_region (todo := [0, 1, 2]) rfl rfl ?_
  refine run_mv rfl ?_
  refine run_rd (v := .int .i64 2) rfl (rd_add (r := 2) (by decide)) ?_
  refine run_mv rfl ?_
  refine run_endops ?_
  refine run_again ?_
  refine run_seq rfl ?_
  refine run_seq rfl ?_
  refine run_region (todo := [0, 1]) rfl rfl ?_
  refine run_mv rfl ?_
  refine run_rd (v := .bool false) rfl (rd_cmp rfl rfl) ?_
  refine run_endops ?_
  refine run_false rfl rfl ?_
  refine run_exit rfl rfl ?_
  refine run_seq rfl ?_
  refine run_region (todo := [0, 1]) rfl rfl ?_
  refine run_rd (v := .agg #[.int .i64 f.a0.kind, .int .i64 f.a0.service, .int .i64 f.a0.group, .int .u64 f.a0.session, .int .u64 f.a0.number, .string f.a0.text, .int .i64 f.a1.kind, .int .i64 f.a1.service, .int .i64 f.a1.group, .int .u64 f.a1.session, .int .u64 f.a1.number, .string f.a1.text, .int .i64 f.b0.kind, .int .i64 f.b0.service, .int .i64 f.b0.group, .int .u64 f.b0.session, .int .u64 f.b0.number, .string f.b0.text, .int .i64 f.b1.kind, .int .i64 f.b1.service, .int .i64 f.b1.group, .int .u64 f.b1.session, .int .u64 f.b1.number, .string f.b1.text, .int .i64 e1.kind, .int .i64 e1.service, .int .i64 e1.group, .int .u64 e1.session, .int .u64 e1.number, .string e1.text, .int .i64 0, .int .i64 0, .int .i64 0, .int .u64 0, .int .u64 0, .string ⟨#[]⟩]) rfl (rd_loadW (j := 1) Tryd.isAgg33 Tryd.sizeOf33 rfl rfl) ?_
  refine run_storeW (j := 0) (c' := #[.int .i64 f.a0.kind, .int .i64 f.a0.service, .int .i64 f.a0.group, .int .u64 f.a0.session, .int .u64 f.a0.number, .string f.a0.text, .int .i64 f.a1.kind, .int .i64 f.a1.service, .int .i64 f.a1.group, .int .u64 f.a1.session, .int .u64 f.a1.number, .string f.a1.text, .int .i64 f.b0.kind, .int .i64 f.b0.service, .int .i64 f.b0.group, .int .u64 f.b0.session, .int .u64 f.b0.number, .string f.b0.text, .int .i64 f.b1.kind, .int .i64 f.b1.service, .int .i64 f.b1.group, .int .u64 f.b1.session, .int .u64 f.b1.number, .string f.b1.text, .int .i64 e1.kind, .int .i64 e1.service, .int .i64 e1.group, .int .u64 e1.session, .int .u64 e1.number, .string e1.text, .int .i64 0, .int .i64 0, .int .i64 0, .int .u64 0, .int .u64 0, .string ⟨#[]⟩]) rfl Tryd.sizeOf33 rfl rfl rfl rfl rfl rfl ?_
  refine run_endops ?_
  refine run_ret rfl (v := .agg #[.int .i64 f.a0.kind, .int .i64 f.a0.service, .int .i64 f.a0.group, .int .u64 f.a0.session, .int .u64 f.a0.number, .string f.a0.text, .int .i64 f.a1.kind, .int .i64 f.a1.service, .int .i64 f.a1.group, .int .u64 f.a1.session, .int .u64 f.a1.number, .string f.a1.text, .int .i64 f.b0.kind, .int .i64 f.b0.service, .int .i64 f.b0.group, .int .u64 f.b0.session, .int .u64 f.b0.number, .string f.b0.text, .int .i64 f.b1.kind, .int .i64 f.b1.service, .int .i64 f.b1.group, .int .u64 f.b1.session, .int .u64 f.b1.number, .string f.b1.text, .int .i64 e1.kind, .int .i64 e1.service, .int .i64 e1.group, .int .u64 e1.session, .int .u64 e1.number, .string e1.text, .int .i64 0, .int .i64 0, .int .i64 0, .int .u64 0, .int .u64 0, .string ⟨#[]⟩]) (res1 rfl ⟨_, rfl, rdv (rd_loadW (j := 0) Tryd.isAgg33 Tryd.sizeOf33 rfl rfl)⟩) ?_
  rfl

theorem rwith_2_2 (f : Fr) (e1 e2 : Ent) (l : List Ent) (A : Option Addr) (c : Nat) (w0 : World) (hA : Cells w0 A (encE.row (e1 :: e2 :: l))) : Fn Tryd.prog 18 #[f.val, .int .i64 2, .slice A ((e1 :: e2 :: l).length) c] w0 (fun v _ => v = (f.with 2 (e1 :: e2 :: l)).val) := by
  have dl0 : decide ((0 : Int) < (((e1 :: e2 :: l).length : Nat) : Int)) = true := decide_eq_true (by simp; omega)
  have dl1 : decide ((1 : Int) < (((e1 :: e2 :: l).length : Nat) : Int)) = true := decide_eq_true (by simp; omega)
  refine fn_of_run Tryd.func18 rfl rfl ?_
  refine run_seq rfl ?_
  refine run_region (todo := [0, 1]) rfl rfl ?_
  refine run_box rfl (fun g1 => ?_)
  refine run_alloc rfl Tryd.zeroValue33 (fun g2 => ?_)
  refine run_endops ?_
  refine run_seq rfl ?_
  refine run_seq rfl ?_
  refine run_region (todo := [0, 1, 2, 3, 4, 5]) rfl rfl ?_
  refine run_mv rfl ?_
  refine run_rd (v := .bool false) rfl (rd_cmp rfl rfl) ?_
  refine run_mv rfl ?_
  refine run_mvG rfl ?_
  refine run_rdG (v := .bool false) rfl (rd_cmp rfl rfl) ?_
  refine run_pick (v := .bool false) rfl rfl ?_
  refine run_endops ?_
  refine run_false rfl rfl ?_
  refine run_skip rfl ?_
  refine run_seq rfl ?_
  refine run_seq rfl ?_
  refine run_region (todo := [0]) rfl rfl ?_
  refine run_mv rfl ?_
  refine run_endops ?_
  refine run_block rfl ?_
  refine run_loop rfl ?_
  refine run_again ?_
  refine run_seq rfl ?_
  refine run_seq rfl ?_
  refine run_region (todo := [0, 1]) rfl rfl ?_
  refine run_mv rfl ?_
  refine run_rd (v := .bool true) rfl (rd_cmp rfl rfl) ?_
  refine run_endops ?_
  refine run_true rfl rfl ?_
  refine run_skip rfl ?_
  refine run_seq rfl ?_
  refine run_block rfl ?_
  refine run_seq rfl ?_
  refine run_region (todo := [0, 1, 2, 3, 4, 5]) rfl rfl ?_
  refine run_mv rfl ?_
  refine run_mv rfl ?_
  refine run_rd (v := .agg #[.int .i64 0, .int .i64 0, .int .i64 0, .int .u64 0, .int .u64 0, .string ⟨#[]⟩]) rfl ((fun w _ => by kernel_rfl)) ?_
  refine run_rd (v := .pointer (some ⟨g1, 24, none⟩)) rfl (rd_indexAddrA (m := 2) (o := 24) Tryd.underlying33 rfl (by decide) Tryd.sizeOf31 rfl) ?_
  refine run_rd (v := .pointer (some ⟨g1, 24, none⟩)) rfl (rd_indexAddrA (m := 0) (o := 24) Tryd.underlying31 rfl (by decide) Tryd.sizeOf30 rfl) ?_
  refine run_store (j := 1) (c' := #[.int .i64 f.a0.kind, .int .i64 f.a0.service, .int .i64 f.a0.group, .int .u64 f.a0.session, .int .u64 f.a0.number, .string f.a0.text, .int .i64 f.a1.kind, .int .i64 f.a1.service, .int .i64 f.a1.group, .int .u64 f.a1.session, .int .u64 f.a1.number, .string f.a1.text, .int .i64 f.b0.kind, .int .i64 f.b0.service, .int .i64 f.b0.group, .int .u64 f.b0.session, .int .u64 f.b0.number, .string f.b0.text, .int .i64 f.b1.kind, .int .i64 f.b1.service, .int .i64 f.b1.group, .int .u64 f.b1.session, .int .u64 f.b1.number, .string f.b1.text, .int .i64 0, .int .i64 0, .int .i64 0, .int .u64 0, .int .u64 0, .string ⟨#[]⟩, .int .i64 f.c1.kind, .int .i64 f.c1.service, .int .i64 f.c1.group, .int .u64 f.c1.session, .int .u64 f.c1.number, .string f.c1.text]) rfl Tryd.sizeOf30 rfl rfl rfl rfl (by kernel_rfl) rfl ?_
  refine run_endops ?_
  refine run_seq rfl ?_
  refine run_region (todo := [0, 1, 2, 3]) rfl rfl ?_
  refine run_mv rfl ?_
  refine run_mv rfl ?_
  refine run_rd (v := .int .i64 (((e1 :: e2 :: l).length : Nat) : Int)) rfl (rd_len Tryd.underlying50) ?_
  refine run_rd (v := .bool true) rfl (rd_cmp rfl dl0) ?_
  refine run_endops ?_
  refine run_true rfl rfl ?_
  refine any_draw (n := 9) rfl rfl rfl (by kernel_rfl) ?_
  refine any_takeM (i := 0) rfl (by kernel_rfl) (by kernel_rfl) (by kernel_rfl) ?_
  refine any_takeM (i := 1) rfl (by kernel_rfl) (by kernel_rfl) (by kernel_rfl) ?_
  refine any_takeM (i := 2) rfl (by kernel_rfl) (by kernel_rfl) (by kernel_rfl) ?_
  refine any_takeM (i := 3) rfl (by kernel_rfl) (by kernel_rfl) (by kernel_rfl) ?_
  refine any_take (i := 6) (v := .pointer (some ⟨g1, 24, none⟩)) rfl (fun w => (rd_indexAddrA (m := 2) (o := 24) Tryd.underlying33 rfl (by decide) Tryd.sizeOf31 rfl) w (Sat.start w)) (by kernel_rfl) (by kernel_rfl) (by kernel_rfl) ?_
  refine any_one (i := 4) (by kernel_rfl) ?_
  refine ro_rd (v := .pointer (elemAddr A (0 * 6))) rfl (rd_elem (m := 0) (o := 0 * 6) (know_old hA) Tryd.underlying50 Tryd.sizeOf30 rfl (lt_of_item (rfl : (e1 :: e2 :: l)[0]? = some e1) rfl) (Nat.lt_of_lt_of_le (m := 0 * 6 + 6) (by omega) (row_lt (E := encE) (rfl : (e1 :: e2 :: l)[0]? = some e1))) rfl) ?_
  refine any_one (i := 5) (by kernel_rfl) ?_
  refine ro_rd (v := .agg e1.arr) rfl (rd_elemLoadA (u := e1.arr) (know_old hA) Tryd.isAgg30 Tryd.sizeOf30 rfl (row_all (E := encE) (rfl : (e1 :: e2 :: l)[0]? = some e1)) (row_lt (E := encE) (rfl : (e1 :: e2 :: l)[0]? = some e1))) ?_
  refine any_take (i := 7) (v := .pointer (some ⟨g1, 24, none⟩)) rfl (fun w => (rd_indexAddrA (m := 0) (o := 24) Tryd.underlying31 rfl (by decide) Tryd.sizeOf30 rfl) w (Sat.start w)) (by kernel_rfl) (by kernel_rfl) (by kernel_rfl) ?_
  refine any_one (i := 8) (by kernel_rfl) ?_
  refine ro_store (j := 1) (c' := #[.int .i64 f.a0.kind, .int .i64 f.a0.service, .int .i64 f.a0.group, .int .u64 f.a0.session, .int .u64 f.a0.number, .string f.a0.text, .int .i64 f.a1.kind, .int .i64 f.a1.service, .int .i64 f.a1.group, .int .u64 f.a1.session, .int .u64 f.a1.number, .string f.a1.text, .int .i64 f.b0.kind, .int .i64 f.b0.service, .int .i64 f.b0.group, .int .u64 f.b0.session, .int .u64 f.b0.number, .string f.b0.text, .int .i64 f.b1.kind, .int .i64 f.b1.service, .int .i64 f.b1.group, .int .u64 f.b1.session, .int .u64 f.b1.number, .string f.b1.text, .int .i64 e1.kind, .int .i64 e1.service, .int .i64 e1.group, .int .u64 e1.session, .int .u64 e1.number, .string e1.text, .int .i64 f.c1.kind, .int .i64 f.c1.service, .int .i64 f.c1.group, .int .u64 f.c1.session, .int .u64 f.c1.number, .string f.c1.text]) rfl Tryd.sizeOf30 rfl rfl rfl rfl (by kernel_rfl) rfl ?_
  refine any_end (by kernel_rfl) ?_
  refine run_endblock ?_
  refine run_region (todo := [0, 1, 2]) rfl rfl ?_
  refine run_mv rfl ?_
  refine run_rd (v := .int .i64 1) rfl (rd_add (r := 1) (by decide)) ?_
  refine run_mv rfl ?_
  refine run_endops ?_
  refine run_again ?_
  refine run_seq rfl ?_
  refine run_seq rfl ?_
  refine run_region (todo := [0, 1]) rfl rfl ?_
  refine run_mv rfl ?_
  refine run_rd (v := .bool true) rfl (rd_cmp rfl rfl) ?_
  refine run_endops ?_
  refine run_true rfl rfl ?_
  refine run_skip rfl ?_
  refine run_seq rfl ?_
  refine run_block rfl ?_
  refine run_seq rfl ?_
  refine run_region (todo := [0, 1, 2, 3, 4, 5]) rfl rfl ?_
  refine run_mv rfl ?_
  refine run_mv rfl ?_
  refine run_rd (v := .agg #[.int .i64 0, .int .i64 0, .int .i64 0, .int .u64 0, .int .u64 0, .string ⟨#[]⟩]) rfl ((fun w _ => by kernel_rfl)) ?_
  refine run_rd (v := .pointer (some ⟨g1, 24, none⟩)) rfl (rd_indexAddrA (m := 2) (o := 24) Tryd.underlying33 rfl (by decide) Tryd.sizeOf31 rfl) ?_
  refine run_rd (v := .pointer (some ⟨g1, 30, none⟩)) rfl (rd_indexAddrA (m := 1) (o := 30) Tryd.underlying31 rfl (by decide) Tryd.sizeOf30 rfl) ?_
  refine run_store (j := 1) (c' := #[.int .i64 f.a0.kind, .int .i64 f.a0.service, .int .i64 f.a0.group, .int .u64 f.a0.session, .int .u64 f.a0.number, .string f.a0.text, .int .i64 f.a1.kind, .int .i64 f.a1.service, .int .i64 f.a1.group, .int .u64 f.a1.session, .int .u64 f.a1.number, .string f.a1.text, .int .i64 f.b0.kind, .int .i64 f.b0.service, .int .i64 f.b0.group, .int .u64 f.b0.session, .int .u64 f.b0.number, .string f.b0.text, .int .i64 f.b1.kind, .int .i64 f.b1.service, .int .i64 f.b1.group, .int .u64 f.b1.session, .int .u64 f.b1.number, .string f.b1.text, .int .i64 e1.kind, .int .i64 e1.service, .int .i64 e1.group, .int .u64 e1.session, .int .u64 e1.number, .string e1.text, .int .i64 0, .int .i64 0, .int .i64 0, .int .u64 0, .int .u64 0, .string ⟨#[]⟩]) rfl Tryd.sizeOf30 rfl rfl rfl rfl (by kernel_rfl) rfl ?_
  refine run_endops ?_
  refine run_seq rfl ?_
  refine run_region (todo := [0, 1, 2, 3]) rfl rfl ?_
  refine run_mv rfl ?_
  refine run_mv rfl ?_
  refine run_rd (v := .int .i64 (((e1 :: e2 :: l).length : Nat) : Int)) rfl (rd_len Tryd.underlying50) ?_
  refine run_rd (v := .bool true) rfl (rd_cmp rfl dl1) ?_
  refine run_endops ?_
  refine run_true rfl rfl ?_
  refine any_draw (n := 9) rfl rfl rfl (by kernel_rfl) ?_
  refine any_takeM (i := 0) rfl (by kernel_rfl) (by kernel_rfl) (by kernel_rfl) ?_
  refine any_takeM (i := 1) rfl (by kernel_rfl) (by kernel_rfl) (by kernel_rfl) ?_
  refine any_takeM (i := 2) rfl (by kernel_rfl) (by kernel_rfl) (by kernel_rfl) ?_
  refine any_takeM (i := 3) rfl (by kernel_rfl) (by kernel_rfl) (by kernel_rfl) ?_
  refine any_take (i := 6) (v := .pointer (some ⟨g1, 24, none⟩)) rfl (fun w => (rd_indexAddrA (m := 2) (o := 24) Tryd.underlying33 rfl (by decide) Tryd.sizeOf31 rfl) w (Sat.start w)) (by kernel_rfl) (by kernel_rfl) (by kernel_rfl) ?_
  refine any_one (i := 4) (by kernel_rfl) ?_
  refine ro_rd (v := .pointer (elemAddr A (1 * 6))) rfl (rd_elem (m := 1) (o := 1 * 6) (know_old hA) Tryd.underlying50 Tryd.sizeOf30 rfl (lt_of_item (rfl : (e1 :: e2 :: l)[1]? = some e2) rfl) (Nat.lt_of_lt_of_le (m := 1 * 6 + 6) (by omega) (row_lt (E := encE) (rfl : (e1 :: e2 :: l)[1]? = some e2))) rfl) ?_
  refine any_one (i := 5) (by kernel_rfl) ?_
  refine ro_rd (v := .agg e2.arr) rfl (rd_elemLoadA (u := e2.arr) (know_old hA) Tryd.isAgg30 Tryd.sizeOf30 rfl (row_all (E := encE) (rfl : (e1 :: e2 :: l)[1]? = some e2)) (row_lt (E := encE) (rfl : (e1 :: e2 :: l)[1]? = some e2))) ?_
  refine any_take (i := 7) (v := .pointer (some ⟨g1, 30, none⟩)) rfl (fun w => (rd_indexAddrA (m := 1) (o := 30) Tryd.underlying31 rfl (by decide) Tryd.sizeOf30 rfl) w (Sat.start w)) (by kernel_rfl) (by kernel_rfl) (by kernel_rfl) ?_
  refine any_one (i := 8) (by kernel_rfl) ?_
  refine ro_store (j := 1) (c' := #[.int .i64 f.a0.kind, .int .i64 f.a0.service, .int .i64 f.a0.group, .int .u64 f.a0.session, .int .u64 f.a0.number, .string f.a0.text, .int .i64 f.a1.kind, .int .i64 f.a1.service, .int .i64 f.a1.group, .int .u64 f.a1.session, .int .u64 f.a1.number, .string f.a1.text, .int .i64 f.b0.kind, .int .i64 f.b0.service, .int .i64 f.b0.group, .int .u64 f.b0.session, .int .u64 f.b0.number, .string f.b0.text, .int .i64 f.b1.kind, .int .i64 f.b1.service, .int .i64 f.b1.group, .int .u64 f.b1.session, .int .u64 f.b1.number, .string f.b1.text, .int .i64 e1.kind, .int .i64 e1.service, .int .i64 e1.group, .int .u64 e1.session, .int .u64 e1.number, .string e1.text, .int .i64 e2.kind, .int .i64 e2.service, .int .i64 e2.group, .int .u64 e2.session, .int .u64 e2.number, .string e2.text]) rfl Tryd.sizeOf30 rfl rfl rfl rfl (by kernel_rfl) rfl ?_
  refine any_end (by kernel_rfl) ?_
  refine run_endblock ?_
  refine run_region (todo := [0, 1, 2]) rfl rfl ?_
  refine run_mv rfl ?_
  refine run_rd (v := .int .i64 2) rfl (rd_add (r := 2) (by decide)) ?_
  refine run_mv rfl ?_
  refine run_endops ?_
  refine run_again ?_
  refine run_seq rfl ?_
  refine run_seq rfl ?_
  refine run_region (todo := [0, 1]) rfl rfl ?_
  refine run_mv rfl ?_
  refine run_rd (v := .bool false) rfl (rd_cmp rfl rfl) ?_
  refine run_endops ?_
  refine run_false rfl rfl ?_
  refine run_exit rfl rfl ?_
  refine run_seq rfl ?_
  refine run_region (todo := [0, 1]) rfl rfl ?_
  refine run_rd (v := .agg #[.int .i64 f.a0.kind, .int .i64 f.a0.service, .int .i64 f.a0.group, .int .u64 f.a0.session, .int .u64 f.a0.number, .string f.a0.text, .int .i64 f.a1.kind, .int .i64 f.a1.service, .int .i64 f.a1.group, .int .u64 f.a1.session, .int .u64 f.a1.number, .string f.a1.text, .int .i64 f.b0.kind, .int .i64 f.b0.service, .int .i64 f.b0.group, .int .u64 f.b0.session, .int .u64 f.b0.number, .string f.b0.text, .int .i64 f.b1.kind, .int .i64 f.b1.service, .int .i64 f.b1.group, .int .u64 f.b1.session, .int .u64 f.b1.number, .string f.b1.text, .int .i64 e1.kind, .int .i64 e1.service, .int .i64 e1.group, .int .u64 e1.session, .int .u64 e1.number, .string e1.text, .int .i64 e2.kind, .int .i64 e2.service, .int .i64 e2.group, .int .u64 e2.session, .int .u64 e2.number, .string e2.text]) rfl (rd_loadW (j := 1) Tryd.isAgg33 Tryd.sizeOf33 rfl rfl) ?_
  refine run_storeW (j := 0) (c' := #[.int .i64 f.a0.kind, .int .i64 f.a0.service, .int .i64 f.a0.group, .int .u64 f.a0.session, .int .u64 f.a0.number, .string f.a0.text, .int .i64 f.a1.kind, .int .i64 f.a1.service, .int .i64 f.a1.group, .int .u64 f.a1.session, .int .u64 f.a1.number, .string f.a1.text, .int .i64 f.b0.kind, .int .i64 f.b0.service, .int .i64 f.b0.group, .int .u64 f.b0.session, .int .u64 f.b0.number, .string f.b0.text, .int .i64 f.b1.kind, .int .i64 f.b1.service, .int .i64 f.b1.group, .int .u64 f.b1.session, .int .u64 f.b1.number, .string f.b1.text, .int .i64 e1.kind, .int .i64 e1.service, .int .i64 e1.group, .int .u64 e1.session, .int .u64 e1.number, .string e1.text, .int .i64 e2.kind, .int .i64 e2.service, .int .i64 e2.group, .int .u64 e2.session, .int .u64 e2.number, .string e2.text]) rfl Tryd.sizeOf33 rfl rfl rfl rfl rfl rfl ?_
  refine run_endops ?_
  refine run_ret rfl (v := .agg #[.int .i64 f.a0.kind, .int .i64 f.a0.service, .int .i64 f.a0.group, .int .u64 f.a0.session, .int .u64 f.a0.number, .string f.a0.text, .int .i64 f.a1.kind, .int .i64 f.a1.service, .int .i64 f.a1.group, .int .u64 f.a1.session, .int .u64 f.a1.number, .string f.a1.text, .int .i64 f.b0.kind, .int .i64 f.b0.service, .int .i64 f.b0.group, .int .u64 f.b0.session, .int .u64 f.b0.number, .string f.b0.text, .int .i64 f.b1.kind, .int .i64 f.b1.service, .int .i64 f.b1.group, .int .u64 f.b1.session, .int .u64 f.b1.number, .string f.b1.text, .int .i64 e1.kind, .int .i64 e1.service, .int .i64 e1.group, .int .u64 e1.session, .int .u64 e1.number, .string e1.text, .int .i64 e2.kind, .int .i64 e2.service, .int .i64 e2.group, .int .u64 e2.session, .int .u64 e2.number, .string e2.text]) (res1 rfl ⟨_, rfl, rdv (rd_loadW (j := 0) Tryd.isAgg33 Tryd.sizeOf33 rfl rfl)⟩) ?_
  rfl

theorem rwith_neg (f : Fr) (t : Int) (ht : t < 0) (l : List Ent) (A : Option Addr) (c : Nat) (w0 : World) : Fn Tryd.prog 18 #[f.val, .int .i64 t, .slice A l.length c] w0 (fun v _ => v = (f.with t l).val) := by
  have hout : t < 0 ∨ 3 ≤ t := by omega
  have d0 : decide (t < 0) = true := decide_eq_true ht
  refine fn_of_run Tryd.func18 rfl rfl ?_
  refine run_seq rfl ?_
  refine run_region (todo := [0, 1]) rfl rfl ?_
  refine run_box rfl (fun g1 => ?_)
  refine run_alloc rfl Tryd.zeroValue33 (fun g2 => ?_)
  refine run_endops ?_
  refine run_seq rfl ?_
  refine run_seq rfl ?_
  refine run_region (todo := [0, 1, 2, 3, 4, 5]) rfl rfl ?_
  refine run_mv rfl ?_
  refine run_rd (v := .bool true) rfl (rd_cmp rfl d0) ?_
  refine run_mv rfl ?_
  refine run_skipped rfl ?_
  refine run_skipped rfl ?_
  refine run_pick (v := .bool true) rfl rfl ?_
  refine run_endops ?_
  refine run_true rfl rfl ?_
  refine run_seq rfl ?_
  refine run_region (todo := [0, 1]) rfl rfl ?_
  refine run_rd (v := .agg f.arr) rfl (rd_loadW (j := 1) Tryd.isAgg33 Tryd.sizeOf33 rfl rfl) ?_
  refine run_storeW (j := 0) (c' := f.arr) rfl Tryd.sizeOf33 rfl rfl rfl rfl rfl rfl ?_
  refine run_endops ?_
  refine run_ret rfl (v := .agg f.arr) (res1 rfl ⟨_, rfl, rdv (rd_loadW (j := 0) Tryd.isAgg33 Tryd.sizeOf33 rfl rfl)⟩) ?_
  have e : f.with t l = f := by unfold Fr.with; rw [if_neg (by omega), if_neg (by omega), if_neg (by omega)]
  rw [e]
  rfl

theorem rwith_big (f : Fr) (t : Int) (ht : 3 ≤ t) (l : List Ent) (A : Option Addr) (c : Nat) (w0 : World) : Fn Tryd.prog 18 #[f.val, .int .i64 t, .slice A l.length c] w0 (fun v _ => v = (f.with t l).val) := by
  have hout : t < 0 ∨ 3 ≤ t := by omega
  have d0 : decide (t < 0) = false := decide_eq_false (by omega)
  have d1 : decide (t > 2) = true := decide_eq_true (by omega)
  refine fn_of_run Tryd.func18 rfl rfl ?_
  refine run_seq rfl ?_
  refine run_region (todo := [0, 1]) rfl rfl ?_
  refine run_box rfl (fun g1 => ?_)
  refine run_alloc rfl Tryd.zeroValue33 (fun g2 => ?_)
  refine run_endops ?_
  refine run_seq rfl ?_
  refine run_seq rfl ?_
  refine run_region (todo := [0, 1, 2, 3, 4, 5]) rfl rfl ?_
  refine run_mv rfl ?_
  refine run_rd (v := .bool false) rfl (rd_cmp rfl d0) ?_
  refine run_mv rfl ?_
  refine run_mvG rfl ?_
  refine run_rdG (v := .bool true) rfl (rd_cmp rfl d1) ?_
  refine run_pick (v := .bool true) rfl rfl ?_
  refine run_endops ?_
  refine run_true rfl rfl ?_
  refine run_seq rfl ?_
  refine run_region (todo := [0, 1]) rfl rfl ?_
  refine run_rd (v := .agg f.arr) rfl (rd_loadW (j := 1) Tryd.isAgg33 Tryd.sizeOf33 rfl rfl) ?_
  refine run_storeW (j := 0) (c' := f.arr) rfl Tryd.sizeOf33 rfl rfl rfl rfl rfl rfl ?_
  refine run_endops ?_
  refine run_ret rfl (v := .agg f.arr) (res1 rfl ⟨_, rfl, rdv (rd_loadW (j := 0) Tryd.isAgg33 Tryd.sizeOf33 rfl rfl)⟩) ?_
  have e : f.with t l = f := by unfold Fr.with; rw [if_neg (by omega), if_neg (by omega), if_neg (by omega)]
  rw [e]
  rfl

theorem rwith_any (f : Fr) (t : Int) (l : List Ent) (A : Option Addr) (c : Nat) (w0 : World) (hA : Cells w0 A (encE.row l)) : Fn Tryd.prog 18 #[f.val, .int .i64 t, .slice A l.length c] w0 (fun v _ => v = (f.with t l).val) := by
  rcases (show t = 0 ∨ t = 1 ∨ t = 2 ∨ t < 0 ∨ 3 ≤ t by omega) with rfl | rfl | rfl | h | h
  · match l, hA with
    | [], hA => exact rwith_0_0 f A c w0 hA
    | [e1], hA => exact rwith_0_1 f e1 A c w0 hA
    | e1 :: e2 :: l, hA => exact rwith_0_2 f e1 e2 l A c w0 hA
  · match l, hA with
    | [], hA => exact rwith_1_0 f A c w0 hA
    | [e1], hA => exact rwith_1_1 f e1 A c w0 hA
    | e1 :: e2 :: l, hA => exact rwith_1_2 f e1 e2 l A c w0 hA
  · match l, hA with
    | [], hA => exact rwith_2_0 f A c w0 hA
    | [e1], hA => exact rwith_2_1 f e1 A c w0 hA
    | e1 :: e2 :: l, hA => exact rwith_2_2 f e1 e2 l A c w0 hA
  · exact rwith_neg f t h l A c w0
  · exact rwith_big f t h l A c w0

end Go.Proofs.YthapghhmeicbnaaDoor
