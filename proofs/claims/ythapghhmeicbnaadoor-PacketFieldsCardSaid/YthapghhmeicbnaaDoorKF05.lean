/- Frames: the walks of layer 4. Printed by wip/k/genF.py. -/
import Derived.Test.YthapghhmeicbnaaDoorKE
set_option linter.unusedVariables false
set_option linter.unusedSimpArgs false
namespace Go.Proofs.YthapghhmeicbnaaDoor
open Go.RowKit

theorem pf_fcheck (f : Fr) (hf : f.Ok) : Pf Tryd.prog 28 #[f.val] (.int .i64 (okCode f.may)) := by
  refine pf_of_run Tryd.func28 rfl rfl (fun w0 => ?_)
  refine run_seq rfl ?_
  refine run_region (todo := [0, 1]) rfl rfl ?_
  refine run_box rfl (fun g1 => ?_)
  refine run_mv rfl ?_
  refine run_endops ?_
  refine run_seq rfl ?_
  refine run_seq rfl ?_
  refine run_region (todo := [0, 1]) rfl rfl ?_
  refine run_rd (v := .agg f.arr) rfl (rd_loadW (j := 0) Tryd.isAgg33 Tryd.sizeOf33 rfl rfl) ?_
  refine run_mv rfl ?_
  refine run_endops ?_
  refine run_block rfl ?_
  refine run_loop rfl ?_
  refine run_again ?_
  refine run_seq rfl ?_
  refine run_region (todo := [0]) rfl rfl ?_
  refine run_rd (v := .bool true) rfl (rd_cmp rfl rfl) ?_
  refine run_endops ?_
  refine run_seq rfl ?_
  refine run_true rfl rfl ?_
  refine run_skip rfl ?_
  refine run_seq rfl ?_
  refine run_block rfl ?_
  refine run_seq rfl ?_
  refine run_region (todo := [0, 1, 2]) rfl rfl ?_
  refine run_rd (v := .agg #[.int .i64 f.a0.kind, .int .i64 f.a0.service, .int .i64 f.a0.group, .int .u64 f.a0.session, .int .u64 f.a0.number, .string f.a0.text, .int .i64 f.a1.kind, .int .i64 f.a1.service, .int .i64 f.a1.group, .int .u64 f.a1.session, .int .u64 f.a1.number, .string f.a1.text]) rfl (rd_indexA (m := 0) (u := #[.int .i64 f.a0.kind, .int .i64 f.a0.service, .int .i64 f.a0.group, .int .u64 f.a0.session, .int .u64 f.a0.number, .string f.a0.text, .int .i64 f.a1.kind, .int .i64 f.a1.service, .int .i64 f.a1.group, .int .u64 f.a1.session, .int .u64 f.a1.number, .string f.a1.text]) Tryd.underlying33 rfl (by decide) Tryd.isAgg31 Tryd.sizeOf31 (by kernel_rfl)) ?_
  refine run_alloc rfl Tryd.zeroValue31 (fun g2 => ?_)
  refine run_storeW (j := 0) (c' := #[.int .i64 f.a0.kind, .int .i64 f.a0.service, .int .i64 f.a0.group, .int .u64 f.a0.session, .int .u64 f.a0.number, .string f.a0.text, .int .i64 f.a1.kind, .int .i64 f.a1.service, .int .i64 f.a1.group, .int .u64 f.a1.session, .int .u64 f.a1.number, .string f.a1.text]) rfl Tryd.sizeOf31 rfl rfl rfl rfl rfl rfl ?_
  refine run_endops ?_
  refine run_seq rfl ?_
  refine run_region (todo := [0, 1]) rfl rfl ?_
  refine run_rd (v := .agg #[.int .i64 f.a0.kind, .int .i64 f.a0.service, .int .i64 f.a0.group, .int .u64 f.a0.session, .int .u64 f.a0.number, .string f.a0.text, .int .i64 f.a1.kind, .int .i64 f.a1.service, .int .i64 f.a1.group, .int .u64 f.a1.session, .int .u64 f.a1.number, .string f.a1.text]) rfl (rd_loadW (j := 0) Tryd.isAgg31 Tryd.sizeOf31 rfl rfl) ?_
  refine run_mv rfl ?_
  refine run_endops ?_
  refine run_block rfl ?_
  refine run_loop rfl ?_
  refine run_again ?_
  refine run_seq rfl ?_
  refine run_region (todo := [0]) rfl rfl ?_
  refine run_rd (v := .bool true) rfl (rd_cmp rfl rfl) ?_
  refine run_endops ?_
  refine run_seq rfl ?_
  refine run_true rfl rfl ?_
  refine run_skip rfl ?_
  refine run_seq rfl ?_
  refine run_block rfl ?_
  refine run_seq rfl ?_
  refine run_region (todo := [0, 1, 2]) rfl rfl ?_
  refine run_rd (v := .agg #[.int .i64 f.a0.kind, .int .i64 f.a0.service, .int .i64 f.a0.group, .int .u64 f.a0.session, .int .u64 f.a0.number, .string f.a0.text]) rfl (rd_indexA (m := 0) (u := #[.int .i64 f.a0.kind, .int .i64 f.a0.service, .int .i64 f.a0.group, .int .u64 f.a0.session, .int .u64 f.a0.number, .string f.a0.text]) Tryd.underlying31 rfl (by decide) Tryd.isAgg30 Tryd.sizeOf30 (by kernel_rfl)) ?_
  refine run_alloc rfl Tryd.zeroValue30 (fun g3 => ?_)
  refine run_storeW (j := 0) (c' := #[.int .i64 f.a0.kind, .int .i64 f.a0.service, .int .i64 f.a0.group, .int .u64 f.a0.session, .int .u64 f.a0.number, .string f.a0.text]) rfl Tryd.sizeOf30 rfl rfl rfl rfl rfl rfl ?_
  refine run_endops ?_
  refine run_seq rfl ?_
  refine run_region (todo := [0, 1, 2]) rfl rfl ?_
  refine run_rd (v := .agg #[.int .i64 f.a0.kind, .int .i64 f.a0.service, .int .i64 f.a0.group, .int .u64 f.a0.session, .int .u64 f.a0.number, .string f.a0.text]) rfl (rd_loadW (j := 0) Tryd.isAgg30 Tryd.sizeOf30 rfl rfl) ?_
  refine run_pf0 (v := .int .i64 (okCode f.a0.may)) rfl Tryd.call50 (pf_check f.a0 hf.a0) ?_
  refine run_mv rfl ?_
  refine run_endops ?_
  refine run_seq rfl ?_
  refine run_region (todo := [0, 1]) rfl rfl ?_
  refine run_mv rfl ?_
  refine run_rd (v := .bool ((okCode f.a0.may) != 0)) rfl (rd_cmp rfl rfl) ?_
  refine run_endops ?_
  refine run_if rfl rfl (fun hb1 => ?_) (fun hb1 => ?_)
  · have hb1p := code_bad hb1
    refine run_seq rfl ?_
    refine run_region (todo := [0, 1]) rfl rfl ?_
    refine run_mv rfl ?_
    refine run_mv rfl ?_
    refine run_endops ?_
    refine run_ret rfl (v := .int .i64 (okCode f.a0.may)) (res1 rfl rfl) ?_
    simp [Fr.may, Fr.list, okCode, hb1p]
  · have hb1p := code_good hb1
    refine run_skip rfl ?_
    refine run_endblock ?_
    refine run_region (todo := [0, 1]) rfl rfl ?_
    refine run_rd (v := .int .i64 1) rfl (rd_add (r := 1) (by decide)) ?_
    refine run_mv rfl ?_
    refine run_endops ?_
    refine run_again ?_
    refine run_seq rfl ?_
    refine run_region (todo := [0]) rfl rfl ?_
    refine run_rd (v := .bool true) rfl (rd_cmp rfl rfl) ?_
    refine run_endops ?_
    refine run_seq rfl ?_
    refine run_true rfl rfl ?_
    refine run_skip rfl ?_
    refine run_seq rfl ?_
    refine run_block rfl ?_
    refine run_seq rfl ?_
    refine run_region (todo := [0, 1, 2]) rfl rfl ?_
    refine run_rd (v := .agg #[.int .i64 f.a1.kind, .int .i64 f.a1.service, .int .i64 f.a1.group, .int .u64 f.a1.session, .int .u64 f.a1.number, .string f.a1.text]) rfl (rd_indexA (m := 1) (u := #[.int .i64 f.a1.kind, .int .i64 f.a1.service, .int .i64 f.a1.group, .int .u64 f.a1.session, .int .u64 f.a1.number, .string f.a1.text]) Tryd.underlying31 rfl (by decide) Tryd.isAgg30 Tryd.sizeOf30 (by kernel_rfl)) ?_
    refine run_alloc rfl Tryd.zeroValue30 (fun g4 => ?_)
    refine run_storeW (j := 0) (c' := #[.int .i64 f.a1.kind, .int .i64 f.a1.service, .int .i64 f.a1.group, .int .u64 f.a1.session, .int .u64 f.a1.number, .string f.a1.text]) rfl Tryd.sizeOf30 rfl rfl rfl rfl rfl rfl ?_
    refine run_endops ?_
    refine run_seq rfl ?_
    refine run_region (todo := [0, 1, 2]) rfl rfl ?_
    refine run_rd (v := .agg #[.int .i64 f.a1.kind, .int .i64 f.a1.service, .int .i64 f.a1.group, .int .u64 f.a1.session, .int .u64 f.a1.number, .string f.a1.text]) rfl (rd_loadW (j := 0) Tryd.isAgg30 Tryd.sizeOf30 rfl rfl) ?_
    refine run_pf0 (v := .int .i64 (okCode f.a1.may)) rfl Tryd.call50 (pf_check f.a1 hf.a1) ?_
    refine run_mv rfl ?_
    refine run_endops ?_
    refine run_seq rfl ?_
    refine run_region (todo := [0, 1]) rfl rfl ?_
    refine run_mv rfl ?_
    refine run_rd (v := .bool ((okCode f.a1.may) != 0)) rfl (rd_cmp rfl rfl) ?_
    refine run_endops ?_
    refine run_if rfl rfl (fun hb2 => ?_) (fun hb2 => ?_)
    · have hb2p := code_bad hb2
      refine run_seq rfl ?_
      refine run_region (todo := [0, 1]) rfl rfl ?_
      refine run_mv rfl ?_
      refine run_mv rfl ?_
      refine run_endops ?_
      refine run_ret rfl (v := .int .i64 (okCode f.a1.may)) (res1 rfl rfl) ?_
      simp [Fr.may, Fr.list, okCode, hb1p, hb2p]
    · have hb2p := code_good hb2
      refine run_skip rfl ?_
      refine run_endblock ?_
      refine run_region (todo := [0, 1]) rfl rfl ?_
      refine run_rd (v := .int .i64 2) rfl (rd_add (r := 2) (by decide)) ?_
      refine run_mv rfl ?_
      refine run_endops ?_
      refine run_again ?_
      refine run_seq rfl ?_
      refine run_region (todo := [0]) rfl rfl ?_
      refine run_rd (v := .bool false) rfl (rd_cmp rfl rfl) ?_
      refine run_endops ?_
      refine run_seq rfl ?_
      refine run_false rfl rfl ?_
      refine run_exit rfl rfl ?_
      refine run_endblock ?_
      refine run_region (todo := [0, 1]) rfl rfl ?_
      refine run_rd (v := .int .i64 1) rfl (rd_add (r := 1) (by decide)) ?_
      refine run_mv rfl ?_
      refine run_endops ?_
      refine run_again ?_
      refine run_seq rfl ?_
      refine run_region (todo := [0]) rfl rfl ?_
      refine run_rd (v := .bool true) rfl (rd_cmp rfl rfl) ?_
      refine run_endops ?_
      refine run_seq rfl ?_
      refine run_true rfl rfl ?_
      refine run_skip rfl ?_
      refine run_seq rfl ?_
      refine run_block rfl ?_
      refine run_seq rfl ?_
      refine run_region (todo := [0, 1, 2]) rfl rfl ?_
      refine run_rd (v := .agg #[.int .i64 f.b0.kind, .int .i64 f.b0.service, .int .i64 f.b0.group, .int .u64 f.b0.session, .int .u64 f.b0.number, .string f.b0.text, .int .i64 f.b1.kind, .int .i64 f.b1.service, .int .i64 f.b1.group, .int .u64 f.b1.session, .int .u64 f.b1.number, .string f.b1.text]) rfl (rd_indexA (m := 1) (u := #[.int .i64 f.b0.kind, .int .i64 f.b0.service, .int .i64 f.b0.group, .int .u64 f.b0.session, .int .u64 f.b0.number, .string f.b0.text, .int .i64 f.b1.kind, .int .i64 f.b1.service, .int .i64 f.b1.group, .int .u64 f.b1.session, .int .u64 f.b1.number, .string f.b1.text]) Tryd.underlying33 rfl (by decide) Tryd.isAgg31 Tryd.sizeOf31 (by kernel_rfl)) ?_
      refine run_alloc rfl Tryd.zeroValue31 (fun g5 => ?_)
      refine run_storeW (j := 0) (c' := #[.int .i64 f.b0.kind, .int .i64 f.b0.service, .int .i64 f.b0.group, .int .u64 f.b0.session, .int .u64 f.b0.number, .string f.b0.text, .int .i64 f.b1.kind, .int .i64 f.b1.service, .int .i64 f.b1.group, .int .u64 f.b1.session, .int .u64 f.b1.number, .string f.b1.text]) rfl Tryd.sizeOf31 rfl rfl rfl rfl rfl rfl ?_
      refine run_endops ?_
      refine run_seq rfl ?_
      refine run_region (todo := [0, 1]) rfl rfl ?_
      refine run_rd (v := .agg #[.int .i64 f.b0.kind, .int .i64 f.b0.service, .int .i64 f.b0.group, .int .u64 f.b0.session, .int .u64 f.b0.number, .string f.b0.text, .int .i64 f.b1.kind, .int .i64 f.b1.service, .int .i64 f.b1.group, .int .u64 f.b1.session, .int .u64 f.b1.number, .string f.b1.text]) rfl (rd_loadW (j := 0) Tryd.isAgg31 Tryd.sizeOf31 rfl rfl) ?_
      refine run_mv rfl ?_
      refine run_endops ?_
      refine run_block rfl ?_
      refine run_loop rfl ?_
      refine run_again ?_
      refine run_seq rfl ?_
      refine run_region (todo := [0]) rfl rfl ?_
      refine run_rd (v := .bool true) rfl (rd_cmp rfl rfl) ?_
      refine run_endops ?_
      refine run_seq rfl ?_
      refine run_true rfl rfl ?_
      refine run_skip rfl ?_
      refine run_seq rfl ?_
      refine run_block rfl ?_
      refine run_seq rfl ?_
      refine run_region (todo := [0, 1, 2]) rfl rfl ?_
      refine run_rd (v := .agg #[.int .i64 f.b0.kind, .int .i64 f.b0.service, .int .i64 f.b0.group, .int .u64 f.b0.session, .int .u64 f.b0.number, .string f.b0.text]) rfl (rd_indexA (m := 0) (u := #[.int .i64 f.b0.kind, .int .i64 f.b0.service, .int .i64 f.b0.group, .int .u64 f.b0.session, .int .u64 f.b0.number, .string f.b0.text]) Tryd.underlying31 rfl (by decide) Tryd.isAgg30 Tryd.sizeOf30 (by kernel_rfl)) ?_
      refine run_alloc rfl Tryd.zeroValue30 (fun g6 => ?_)
      refine run_storeW (j := 0) (c' := #[.int .i64 f.b0.kind, .int .i64 f.b0.service, .int .i64 f.b0.group, .int .u64 f.b0.session, .int .u64 f.b0.number, .string f.b0.text]) rfl Tryd.sizeOf30 rfl rfl rfl rfl rfl rfl ?_
      refine run_endops ?_
      refine run_seq rfl ?_
      refine run_region (todo := [0, 1, 2]) rfl rfl ?_
      refine run_rd (v := .agg #[.int .i64 f.b0.kind, .int .i64 f.b0.service, .int .i64 f.b0.group, .int .u64 f.b0.session, .int .u64 f.b0.number, .string f.b0.text]) rfl (rd_loadW (j := 0) Tryd.isAgg30 Tryd.sizeOf30 rfl rfl) ?_
      refine run_pf0 (v := .int .i64 (okCode f.b0.may)) rfl Tryd.call50 (pf_check f.b0 hf.b0) ?_
      refine run_mv rfl ?_
      refine run_endops ?_
      refine run_seq rfl ?_
      refine run_region (todo := [0, 1]) rfl rfl ?_
      refine run_mv rfl ?_
      refine run_rd (v := .bool ((okCode f.b0.may) != 0)) rfl (rd_cmp rfl rfl) ?_
      refine run_endops ?_
      refine run_if rfl rfl (fun hb3 => ?_) (fun hb3 => ?_)
      · have hb3p := code_bad hb3
        refine run_seq rfl ?_
        refine run_region (todo := [0, 1]) rfl rfl ?_
        refine run_mv rfl ?_
        refine run_mv rfl ?_
        refine run_endops ?_
        refine run_ret rfl (v := .int .i64 (okCode f.b0.may)) (res1 rfl rfl) ?_
        simp [Fr.may, Fr.list, okCode, hb1p, hb2p, hb3p]
      · have hb3p := code_good hb3
        refine run_skip rfl ?_
        refine run_endblock ?_
        refine run_region (todo := [0, 1]) rfl rfl ?_
        refine run_rd (v := .int .i64 1) rfl (rd_add (r := 1) (by decide)) ?_
        refine run_mv rfl ?_
        refine run_endops ?_
        refine run_again ?_
        refine run_seq rfl ?_
        refine run_region (todo := [0]) rfl rfl ?_
        refine run_rd (v := .bool true) rfl (rd_cmp rfl rfl) ?_
        refine run_endops ?_
        refine run_seq rfl ?_
        refine run_true rfl rfl ?_
        refine run_skip rfl ?_
        refine run_seq rfl ?_
        refine run_block rfl ?_
        refine run_seq rfl ?_
        refine run_region (todo := [0, 1, 2]) rfl rfl ?_
        refine run_rd (v := .agg #[.int .i64 f.b1.kind, .int .i64 f.b1.service, .int .i64 f.b1.group, .int .u64 f.b1.session, .int .u64 f.b1.number, .string f.b1.text]) rfl (rd_indexA (m := 1) (u := #[.int .i64 f.b1.kind, .int .i64 f.b1.service, .int .i64 f.b1.group, .int .u64 f.b1.session, .int .u64 f.b1.number, .string f.b1.text]) Tryd.underlying31 rfl (by decide) Tryd.isAgg30 Tryd.sizeOf30 (by kernel_rfl)) ?_
        refine run_alloc rfl Tryd.zeroValue30 (fun g7 => ?_)
        refine run_storeW (j := 0) (c' := #[.int .i64 f.b1.kind, .int .i64 f.b1.service, .int .i64 f.b1.group, .int .u64 f.b1.session, .int .u64 f.b1.number, .string f.b1.text]) rfl Tryd.sizeOf30 rfl rfl rfl rfl rfl rfl ?_
        refine run_endops ?_
        refine run_seq rfl ?_
        refine run_region (todo := [0, 1, 2]) rfl rfl ?_
        refine run_rd (v := .agg #[.int .i64 f.b1.kind, .int .i64 f.b1.service, .int .i64 f.b1.group, .int .u64 f.b1.session, .int .u64 f.b1.number, .string f.b1.text]) rfl (rd_loadW (j := 0) Tryd.isAgg30 Tryd.sizeOf30 rfl rfl) ?_
        refine run_pf0 (v := .int .i64 (okCode f.b1.may)) rfl Tryd.call50 (pf_check f.b1 hf.b1) ?_
        refine run_mv rfl ?_
        refine run_endops ?_
        refine run_seq rfl ?_
        refine run_region (todo := [0, 1]) rfl rfl ?_
        refine run_mv rfl ?_
        refine run_rd (v := .bool ((okCode f.b1.may) != 0)) rfl (rd_cmp rfl rfl) ?_
        refine run_endops ?_
        refine run_if rfl rfl (fun hb4 => ?_) (fun hb4 => ?_)
        · have hb4p := code_bad hb4
          refine run_seq rfl ?_
          refine run_region (todo := [0, 1]) rfl rfl ?_
          refine run_mv rfl ?_
          refine run_mv rfl ?_
          refine run_endops ?_
          refine run_ret rfl (v := .int .i64 (okCode f.b1.may)) (res1 rfl rfl) ?_
          simp [Fr.may, Fr.list, okCode, hb1p, hb2p, hb3p, hb4p]
        · have hb4p := code_good hb4
          refine run_skip rfl ?_
          refine run_endblock ?_
          refine run_region (todo := [0, 1]) rfl rfl ?_
          refine run_rd (v := .int .i64 2) rfl (rd_add (r := 2) (by decide)) ?_
          refine run_mv rfl ?_
          refine run_endops ?_
          refine run_again ?_
          refine run_seq rfl ?_
          refine run_region (todo := [0]) rfl rfl ?_
          refine run_rd (v := .bool false) rfl (rd_cmp rfl rfl) ?_
          refine run_endops ?_
          refine run_seq rfl ?_
          refine run_false rfl rfl ?_
          refine run_exit rfl rfl ?_
          refine run_endblock ?_
          refine run_region (todo := [0, 1]) rfl rfl ?_
          refine run_rd (v := .int .i64 2) rfl (rd_add (r := 2) (by decide)) ?_
          refine run_mv rfl ?_
          refine run_endops ?_
          refine run_again ?_
          refine run_seq rfl ?_
          refine run_region (todo := [0]) rfl rfl ?_
          refine run_rd (v := .bool true) rfl (rd_cmp rfl rfl) ?_
          refine run_endops ?_
          refine run_seq rfl ?_
          refine run_true rfl rfl ?_
          refine run_skip rfl ?_
          refine run_seq rfl ?_
          refine run_block rfl ?_
          refine run_seq rfl ?_
          refine run_region (todo := [0, 1, 2]) rfl rfl ?_
          refine run_rd (v := .agg #[.int .i64 f.c0.kind, .int .i64 f.c0.service, .int .i64 f.c0.group, .int .u64 f.c0.session, .int .u64 f.c0.number, .string f.c0.text, .int .i64 f.c1.kind, .int .i64 f.c1.service, .int .i64 f.c1.group, .int .u64 f.c1.session, .int .u64 f.c1.number, .string f.c1.text]) rfl (rd_indexA (m := 2) (u := #[.int .i64 f.c0.kind, .int .i64 f.c0.service, .int .i64 f.c0.group, .int .u64 f.c0.session, .int .u64 f.c0.number, .string f.c0.text, .int .i64 f.c1.kind, .int .i64 f.c1.service, .int .i64 f.c1.group, .int .u64 f.c1.session, .int .u64 f.c1.number, .string f.c1.text]) Tryd.underlying33 rfl (by decide) Tryd.isAgg31 Tryd.sizeOf31 (by kernel_rfl)) ?_
          refine run_alloc rfl Tryd.zeroValue31 (fun g8 => ?_)
          refine run_storeW (j := 0) (c' := #[.int .i64 f.c0.kind, .int .i64 f.c0.service, .int .i64 f.c0.group, .int .u64 f.c0.session, .int .u64 f.c0.number, .string f.c0.text, .int .i64 f.c1.kind, .int .i64 f.c1.service, .int .i64 f.c1.group, .int .u64 f.c1.session, .int .u64 f.c1.number, .string f.c1.text]) rfl Tryd.sizeOf31 rfl rfl rfl rfl rfl rfl ?_
          refine run_endops ?_
          refine run_seq rfl ?_
          refine run_region (todo := [0, 1]) rfl rfl ?_
          refine run_rd (v := .agg #[.int .i64 f.c0.kind, .int .i64 f.c0.service, .int .i64 f.c0.group, .int .u64 f.c0.session, .int .u64 f.c0.number, .string f.c0.text, .int .i64 f.c1.kind, .int .i64 f.c1.service, .int .i64 f.c1.group, .int .u64 f.c1.session, .int .u64 f.c1.number, .string f.c1.text]) rfl (rd_loadW (j := 0) Tryd.isAgg31 Tryd.sizeOf31 rfl rfl) ?_
          refine run_mv rfl ?_
          refine run_endops ?_
          refine run_block rfl ?_
          refine run_loop rfl ?_
          refine run_again ?_
          refine run_seq rfl ?_
          refine run_region (todo := [0]) rfl rfl ?_
          refine run_rd (v := .bool true) rfl (rd_cmp rfl rfl) ?_
          refine run_endops ?_
          refine run_seq rfl ?_
          refine run_true rfl rfl ?_
          refine run_skip rfl ?_
          refine run_seq rfl ?_
          refine run_block rfl ?_
          refine run_seq rfl ?_
          refine run_region (todo := [0, 1, 2]) rfl rfl ?_
          refine run_rd (v := .agg #[.int .i64 f.c0.kind, .int .i64 f.c0.service, .int .i64 f.c0.group, .int .u64 f.c0.session, .int .u64 f.c0.number, .string f.c0.text]) rfl (rd_indexA (m := 0) (u := #[.int .i64 f.c0.kind, .int .i64 f.c0.service, .int .i64 f.c0.group, .int .u64 f.c0.session, .int .u64 f.c0.number, .string f.c0.text]) Tryd.underlying31 rfl (by decide) Tryd.isAgg30 Tryd.sizeOf30 (by kernel_rfl)) ?_
          refine run_alloc rfl Tryd.zeroValue30 (fun g9 => ?_)
          refine run_storeW (j := 0) (c' := #[.int .i64 f.c0.kind, .int .i64 f.c0.service, .int .i64 f.c0.group, .int .u64 f.c0.session, .int .u64 f.c0.number, .string f.c0.text]) rfl Tryd.sizeOf30 rfl rfl rfl rfl rfl rfl ?_
          refine run_endops ?_
          refine run_seq rfl ?_
          refine run_region (todo := [0, 1, 2]) rfl rfl ?_
          refine run_rd (v := .agg #[.int .i64 f.c0.kind, .int .i64 f.c0.service, .int .i64 f.c0.group, .int .u64 f.c0.session, .int .u64 f.c0.number, .string f.c0.text]) rfl (rd_loadW (j := 0) Tryd.isAgg30 Tryd.sizeOf30 rfl rfl) ?_
          refine run_pf0 (v := .int .i64 (okCode f.c0.may)) rfl Tryd.call50 (pf_check f.c0 hf.c0) ?_
          refine run_mv rfl ?_
          refine run_endops ?_
          refine run_seq rfl ?_
          refine run_region (todo := [0, 1]) rfl rfl ?_
          refine run_mv rfl ?_
          refine run_rd (v := .bool ((okCode f.c0.may) != 0)) rfl (rd_cmp rfl rfl) ?_
          refine run_endops ?_
          refine run_if rfl rfl (fun hb5 => ?_) (fun hb5 => ?_)
          · have hb5p := code_bad hb5
            refine run_seq rfl ?_
            refine run_region (todo := [0, 1]) rfl rfl ?_
            refine run_mv rfl ?_
            refine run_mv rfl ?_
            refine run_endops ?_
            refine run_ret rfl (v := .int .i64 (okCode f.c0.may)) (res1 rfl rfl) ?_
            simp [Fr.may, Fr.list, okCode, hb1p, hb2p, hb3p, hb4p, hb5p]
          · have hb5p := code_good hb5
            refine run_skip rfl ?_
            refine run_endblock ?_
            refine run_region (todo := [0, 1]) rfl rfl ?_
            refine run_rd (v := .int .i64 1) rfl (rd_add (r := 1) (by decide)) ?_
            refine run_mv rfl ?_
            refine run_endops ?_
            refine run_again ?_
            refine run_seq rfl ?_
            refine run_region (todo := [0]) rfl rfl ?_
            refine run_rd (v := .bool true) rfl (rd_cmp rfl rfl) ?_
            refine run_endops ?_
            refine run_seq rfl ?_
            refine run_true rfl rfl ?_
            refine run_skip rfl ?_
            refine run_seq rfl ?_
            refine run_block rfl ?_
            refine run_seq rfl ?_
            refine run_region (todo := [0, 1, 2]) rfl rfl ?_
            refine run_rd (v := .agg #[.int .i64 f.c1.kind, .int .i64 f.c1.service, .int .i64 f.c1.group, .int .u64 f.c1.session, .int .u64 f.c1.number, .string f.c1.text]) rfl (rd_indexA (m := 1) (u := #[.int .i64 f.c1.kind, .int .i64 f.c1.service, .int .i64 f.c1.group, .int .u64 f.c1.session, .int .u64 f.c1.number, .string f.c1.text]) Tryd.underlying31 rfl (by decide) Tryd.isAgg30 Tryd.sizeOf30 (by kernel_rfl)) ?_
            refine run_alloc rfl Tryd.zeroValue30 (fun g10 => ?_)
            refine run_storeW (j := 0) (c' := #[.int .i64 f.c1.kind, .int .i64 f.c1.service, .int .i64 f.c1.group, .int .u64 f.c1.session, .int .u64 f.c1.number, .string f.c1.text]) rfl Tryd.sizeOf30 rfl rfl rfl rfl rfl rfl ?_
            refine run_endops ?_
            refine run_seq rfl ?_
            refine run_region (todo := [0, 1, 2]) rfl rfl ?_
            refine run_rd (v := .agg #[.int .i64 f.c1.kind, .int .i64 f.c1.service, .int .i64 f.c1.group, .int .u64 f.c1.session, .int .u64 f.c1.number, .string f.c1.text]) rfl (rd_loadW (j := 0) Tryd.isAgg30 Tryd.sizeOf30 rfl rfl) ?_
            refine run_pf0 (v := .int .i64 (okCode f.c1.may)) rfl Tryd.call50 (pf_check f.c1 hf.c1) ?_
            refine run_mv rfl ?_
            refine run_endops ?_
            refine run_seq rfl ?_
            refine run_region (todo := [0, 1]) rfl rfl ?_
            refine run_mv rfl ?_
            refine run_rd (v := .bool ((okCode f.c1.may) != 0)) rfl (rd_cmp rfl rfl) ?_
            refine run_endops ?_
            refine run_if rfl rfl (fun hb6 => ?_) (fun hb6 => ?_)
            · have hb6p := code_bad hb6
              refine run_seq rfl ?_
              refine run_region (todo := [0, 1]) rfl rfl ?_
              refine run_mv rfl ?_
              refine run_mv rfl ?_
              refine run_endops ?_
              refine run_ret rfl (v := .int .i64 (okCode f.c1.may)) (res1 rfl rfl) ?_
              simp [Fr.may, Fr.list, okCode, hb1p, hb2p, hb3p, hb4p, hb5p, hb6p]
            · have hb6p := code_good hb6
              refine run_skip rfl ?_
              refine run_endblock ?_
              refine run_region (todo := [0, 1]) rfl rfl ?_
              refine run_rd (v := .int .i64 2) rfl (rd_add (r := 2) (by decide)) ?_
              refine run_mv rfl ?_
              refine run_endops ?_
              refine run_again ?_
              refine run_seq rfl ?_
              refine run_region (todo := [0]) rfl rfl ?_
              refine run_rd (v := .bool false) rfl (rd_cmp rfl rfl) ?_
              refine run_endops ?_
              refine run_seq rfl ?_
              refine run_false rfl rfl ?_
              refine run_exit rfl rfl ?_
              refine run_endblock ?_
              refine run_region (todo := [0, 1]) rfl rfl ?_
              refine run_rd (v := .int .i64 3) rfl (rd_add (r := 3) (by decide)) ?_
              refine run_mv rfl ?_
              refine run_endops ?_
              refine run_again ?_
              refine run_seq rfl ?_
              refine run_region (todo := [0]) rfl rfl ?_
              refine run_rd (v := .bool false) rfl (rd_cmp rfl rfl) ?_
              refine run_endops ?_
              refine run_seq rfl ?_
              refine run_false rfl rfl ?_
              refine run_exit rfl rfl ?_
              refine run_seq rfl ?_
              refine run_region (todo := [0]) rfl rfl ?_
              refine run_mv rfl ?_
              refine run_endops ?_
              refine run_ret rfl (v := .int .i64 0) (res1 rfl rfl) ?_
              simp [Fr.may, Fr.list, okCode, hb1p, hb2p, hb3p, hb4p, hb5p, hb6p]

theorem pf_rfcheck (f : Fr) (hf : f.Ok) : Pf Tryd.prog 29 #[f.val] (.int .i64 (okCode f.may)) := by
  refine pf_of_run Tryd.func29 rfl rfl (fun w0 => ?_)
  refine run_seq rfl ?_
  refine run_region (todo := [0, 1]) rfl rfl ?_
  refine run_box rfl (fun g1 => ?_)
  refine run_mv rfl ?_
  refine run_endops ?_
  refine run_seq rfl ?_
  refine run_seq rfl ?_
  refine run_region (todo := [0]) rfl rfl ?_
  refine run_mv rfl ?_
  refine run_endops ?_
  refine run_block rfl ?_
  refine run_loop rfl ?_
  refine run_again ?_
  refine run_seq rfl ?_
  refine run_seq rfl ?_
  refine run_region (todo := [0, 1]) rfl rfl ?_
  refine run_mv rfl ?_
  refine run_rd (v := .bool true) rfl (rd_cmp rfl rfl) ?_
  refine run_endops ?_
  refine run_true rfl rfl ?_
  refine run_skip rfl ?_
  refine run_seq rfl ?_
  refine run_block rfl ?_
  refine run_seq rfl ?_
  refine run_region (todo := [0]) rfl rfl ?_
  refine run_mv rfl ?_
  refine run_endops ?_
  refine run_block rfl ?_
  refine run_loop rfl ?_
  refine run_again ?_
  refine run_seq rfl ?_
  refine run_seq rfl ?_
  refine run_region (todo := [0, 1]) rfl rfl ?_
  refine run_mv rfl ?_
  refine run_rd (v := .bool true) rfl (rd_cmp rfl rfl) ?_
  refine run_endops ?_
  refine run_true rfl rfl ?_
  refine run_skip rfl ?_
  refine run_seq rfl ?_
  refine run_block rfl ?_
  refine run_seq rfl ?_
  refine run_region (todo := [0, 1, 2, 3, 4, 5, 6]) rfl rfl ?_
  refine run_mv rfl ?_
  refine run_mv rfl ?_
  refine run_rd (v := .pointer (some ⟨g1, 0, none⟩)) rfl (rd_indexAddrA (m := 0) (o := 0) Tryd.underlying33 rfl (by decide) Tryd.sizeOf31 rfl) ?_
  refine run_rd (v := .pointer (some ⟨g1, 0, none⟩)) rfl (rd_indexAddrA (m := 0) (o := 0) Tryd.underlying31 rfl (by decide) Tryd.sizeOf30 rfl) ?_
  refine run_rd (v := .agg #[.int .i64 f.a0.kind, .int .i64 f.a0.service, .int .i64 f.a0.group, .int .u64 f.a0.session, .int .u64 f.a0.number, .string f.a0.text]) rfl (rd_loadA (j := 0) (u := #[.int .i64 f.a0.kind, .int .i64 f.a0.service, .int .i64 f.a0.group, .int .u64 f.a0.session, .int .u64 f.a0.number, .string f.a0.text]) Tryd.isAgg30 Tryd.sizeOf30 rfl rfl (by kernel_rfl)) ?_
  refine run_pf0 (v := .bool f.a0.may) rfl Tryd.call51 (pf_rmay f.a0 hf.a0) ?_
  refine run_rd (v := .bool (!f.a0.may)) rfl (rd_not) ?_
  refine run_endops ?_
  refine run_if rfl rfl (fun hb1 => ?_) (fun hb1 => ?_)
  · have hb1p := (Bool.not_eq_true' _).mp hb1
    refine run_seq rfl ?_
    refine run_region (todo := [0]) rfl rfl ?_
    refine run_mv rfl ?_
    refine run_endops ?_
    refine run_ret rfl (v := .int .i64 30) (res1 rfl rfl) ?_
    simp [Fr.may, Fr.list, okCode, hb1p]
  · have hb1p := (Bool.not_eq_false' _).mp hb1
    refine run_skip rfl ?_
    refine run_endblock ?_
    refine run_region (todo := [0, 1, 2]) rfl rfl ?_
    refine run_mv rfl ?_
    refine run_rd (v := .int .i64 1) rfl (rd_add (r := 1) (by decide)) ?_
    refine run_mv rfl ?_
    refine run_endops ?_
    refine run_again ?_
    refine run_seq rfl ?_
    refine run_seq rfl ?_
    refine run_region (todo := [0, 1]) rfl rfl ?_
    refine run_mv rfl ?_
    refine run_rd (v := .bool true) rfl (rd_cmp rfl rfl) ?_
    refine run_endops ?_
    refine run_true rfl rfl ?_
    refine run_skip rfl ?_
    refine run_seq rfl ?_
    refine run_block rfl ?_
    refine run_seq rfl ?_
    refine run_region (todo := [0, 1, 2, 3, 4, 5, 6]) rfl rfl ?_
    refine run_mv rfl ?_
    refine run_mv rfl ?_
    refine run_rd (v := .pointer (some ⟨g1, 0, none⟩)) rfl (rd_indexAddrA (m := 0) (o := 0) Tryd.underlying33 rfl (by decide) Tryd.sizeOf31 rfl) ?_
    refine run_rd (v := .pointer (some ⟨g1, 6, none⟩)) rfl (rd_indexAddrA (m := 1) (o := 6) Tryd.underlying31 rfl (by decide) Tryd.sizeOf30 rfl) ?_
    refine run_rd (v := .agg #[.int .i64 f.a1.kind, .int .i64 f.a1.service, .int .i64 f.a1.group, .int .u64 f.a1.session, .int .u64 f.a1.number, .string f.a1.text]) rfl (rd_loadA (j := 0) (u := #[.int .i64 f.a1.kind, .int .i64 f.a1.service, .int .i64 f.a1.group, .int .u64 f.a1.session, .int .u64 f.a1.number, .string f.a1.text]) Tryd.isAgg30 Tryd.sizeOf30 rfl rfl (by kernel_rfl)) ?_
    refine run_pf0 (v := .bool f.a1.may) rfl Tryd.call51 (pf_rmay f.a1 hf.a1) ?_
    refine run_rd (v := .bool (!f.a1.may)) rfl (rd_not) ?_
    refine run_endops ?_
    refine run_if rfl rfl (fun hb2 => ?_) (fun hb2 => ?_)
    · have hb2p := (Bool.not_eq_true' _).mp hb2
      refine run_seq rfl ?_
      refine run_region (todo := [0]) rfl rfl ?_
      refine run_mv rfl ?_
      refine run_endops ?_
      refine run_ret rfl (v := .int .i64 30) (res1 rfl rfl) ?_
      simp [Fr.may, Fr.list, okCode, hb1p, hb2p]
    · have hb2p := (Bool.not_eq_false' _).mp hb2
      refine run_skip rfl ?_
      refine run_endblock ?_
      refine run_region (todo := [0, 1, 2]) rfl rfl ?_
      refine run_mv rfl ?_
      refine run_rd (v := .int .i64 2) rfl (rd_add (r := 2) (by decide)) ?_
      refine run_mv rfl ?_
      refine run_endops ?_
      refine run_again ?_
      refine run_seq rfl ?_
      refine run_seq rfl ?_
      refine run_region (todo := [0, 1]) rfl rfl ?_
      refine run_mv rfl ?_
      refine run_rd (v := .bool false) rfl (rd_cmp rfl rfl) ?_
      refine run_endops ?_
      refine run_false rfl rfl ?_
      refine run_exit rfl rfl ?_
      refine run_endblock ?_
      refine run_region (todo := [0, 1, 2]) rfl rfl ?_
      refine run_mv rfl ?_
      refine run_rd (v := .int .i64 1) rfl (rd_add (r := 1) (by decide)) ?_
      refine run_mv rfl ?_
      refine run_endops ?_
      refine run_again ?_
      refine run_seq rfl ?_
      refine run_seq rfl ?_
      refine run_region (todo := [0, 1]) rfl rfl ?_
      refine run_mv rfl ?_
      refine run_rd (v := .bool true) rfl (rd_cmp rfl rfl) ?_
      refine run_endops ?_
      refine run_true rfl rfl ?_
      refine run_skip rfl ?_
      refine run_seq rfl ?_
      refine run_block rfl ?_
      refine run_seq rfl ?_
      refine run_region (todo := [0]) rfl rfl ?_
      refine run_mv rfl ?_
      refine run_endops ?_
      refine run_block rfl ?_
      refine run_loop rfl ?_
      refine run_again ?_
      refine run_seq rfl ?_
      refine run_seq rfl ?_
      refine run_region (todo := [0, 1]) rfl rfl ?_
      refine run_mv rfl ?_
      refine run_rd (v := .bool true) rfl (rd_cmp rfl rfl) ?_
      refine run_endops ?_
      refine run_true rfl rfl ?_
      refine run_skip rfl ?_
      refine run_seq rfl ?_
      refine run_block rfl ?_
      refine run_seq rfl ?_
      refine run_region (todo := [0, 1, 2, 3, 4, 5, 6]) rfl rfl ?_
      refine run_mv rfl ?_
      refine run_mv rfl ?_
      refine run_rd (v := .pointer (some ⟨g1, 12, none⟩)) rfl (rd_indexAddrA (m := 1) (o := 12) Tryd.underlying33 rfl (by decide) Tryd.sizeOf31 rfl) ?_
      refine run_rd (v := .pointer (some ⟨g1, 12, none⟩)) rfl (rd_indexAddrA (m := 0) (o := 12) Tryd.underlying31 rfl (by decide) Tryd.sizeOf30 rfl) ?_
      refine run_rd (v := .agg #[.int .i64 f.b0.kind, .int .i64 f.b0.service, .int .i64 f.b0.group, .int .u64 f.b0.session, .int .u64 f.b0.number, .string f.b0.text]) rfl (rd_loadA (j := 0) (u := #[.int .i64 f.b0.kind, .int .i64 f.b0.service, .int .i64 f.b0.group, .int .u64 f.b0.session, .int .u64 f.b0.number, .string f.b0.text]) Tryd.isAgg30 Tryd.sizeOf30 rfl rfl (by kernel_rfl)) ?_
      refine run_pf0 (v := .bool f.b0.may) rfl Tryd.call51 (pf_rmay f.b0 hf.b0) ?_
      refine run_rd (v := .bool (!f.b0.may)) rfl (rd_not) ?_
      refine run_endops ?_
      refine run_if rfl rfl (fun hb3 => ?_) (fun hb3 => ?_)
      · have hb3p := (Bool.not_eq_true' _).mp hb3
        refine run_seq rfl ?_
        refine run_region (todo := [0]) rfl rfl ?_
        refine run_mv rfl ?_
        refine run_endops ?_
        refine run_ret rfl (v := .int .i64 30) (res1 rfl rfl) ?_
        simp [Fr.may, Fr.list, okCode, hb1p, hb2p, hb3p]
      · have hb3p := (Bool.not_eq_false' _).mp hb3
        refine run_skip rfl ?_
        refine run_endblock ?_
        refine run_region (todo := [0, 1, 2]) rfl rfl ?_
        refine run_mv rfl ?_
        refine run_rd (v := .int .i64 1) rfl (rd_add (r := 1) (by decide)) ?_
        refine run_mv rfl ?_
        refine run_endops ?_
        refine run_again ?_
        refine run_seq rfl ?_
        refine run_seq rfl ?_
        refine run_region (todo := [0, 1]) rfl rfl ?_
        refine run_mv rfl ?_
        refine run_rd (v := .bool true) rfl (rd_cmp rfl rfl) ?_
        refine run_endops ?_
        refine run_true rfl rfl ?_
        refine run_skip rfl ?_
        refine run_seq rfl ?_
        refine run_block rfl ?_
        refine run_seq rfl ?_
        refine run_region (todo := [0, 1, 2, 3, 4, 5, 6]) rfl rfl ?_
        refine run_mv rfl ?_
        refine run_mv rfl ?_
        refine run_rd (v := .pointer (some ⟨g1, 12, none⟩)) rfl (rd_indexAddrA (m := 1) (o := 12) Tryd.underlying33 rfl (by decide) Tryd.sizeOf31 rfl) ?_
        refine run_rd (v := .pointer (some ⟨g1, 18, none⟩)) rfl (rd_indexAddrA (m := 1) (o := 18) Tryd.underlying31 rfl (by decide) Tryd.sizeOf30 rfl) ?_
        refine run_rd (v := .agg #[.int .i64 f.b1.kind, .int .i64 f.b1.service, .int .i64 f.b1.group, .int .u64 f.b1.session, .int .u64 f.b1.number, .string f.b1.text]) rfl (rd_loadA (j := 0) (u := #[.int .i64 f.b1.kind, .int .i64 f.b1.service, .int .i64 f.b1.group, .int .u64 f.b1.session, .int .u64 f.b1.number, .string f.b1.text]) Tryd.isAgg30 Tryd.sizeOf30 rfl rfl (by kernel_rfl)) ?_
        refine run_pf0 (v := .bool f.b1.may) rfl Tryd.call51 (pf_rmay f.b1 hf.b1) ?_
        refine run_rd (v := .bool (!f.b1.may)) rfl (rd_not) ?_
        refine run_endops ?_
        refine run_if rfl rfl (fun hb4 => ?_) (fun hb4 => ?_)
        · have hb4p := (Bool.not_eq_true' _).mp hb4
          refine run_seq rfl ?_
          refine run_region (todo := [0]) rfl rfl ?_
          refine run_mv rfl ?_
          refine run_endops ?_
          refine run_ret rfl (v := .int .i64 30) (res1 rfl rfl) ?_
          simp [Fr.may, Fr.list, okCode, hb1p, hb2p, hb3p, hb4p]
        · have hb4p := (Bool.not_eq_false' _).mp hb4
          refine run_skip rfl ?_
          refine run_endblock ?_
          refine run_region (todo := [0, 1, 2]) rfl rfl ?_
          refine run_mv rfl ?_
          refine run_rd (v := .int .i64 2) rfl (rd_add (r := 2) (by decide)) ?_
          refine run_mv rfl ?_
          refine run_endops ?_
          refine run_again ?_
          refine run_seq rfl ?_
          refine run_seq rfl ?_
          refine run_region (todo := [0, 1]) rfl rfl ?_
          refine run_mv rfl ?_
          refine run_rd (v := .bool false) rfl (rd_cmp rfl rfl) ?_
          refine run_endops ?_
          refine run_false rfl rfl ?_
          refine run_exit rfl rfl ?_
          refine run_endblock ?_
          refine run_region (todo := [0, 1, 2]) rfl rfl ?_
          refine run_mv rfl ?_
          refine run_rd (v := .int .i64 2) rfl (rd_add (r := 2) (by decide)) ?_
          refine run_mv rfl ?_
          refine run_endops ?_
          refine run_again ?_
          refine run_seq rfl ?_
          refine run_seq rfl ?_
          refine run_region (todo := [0, 1]) rfl rfl ?_
          refine run_mv rfl ?_
          refine run_rd (v := .bool true) rfl (rd_cmp rfl rfl) ?_
          refine run_endops ?_
          refine run_true rfl rfl ?_
          refine run_skip rfl ?_
          refine run_seq rfl ?_
          refine run_block rfl ?_
          refine run_seq rfl ?_
          refine run_region (todo := [0]) rfl rfl ?_
          refine run_mv rfl ?_
          refine run_endops ?_
          refine run_block rfl ?_
          refine run_loop rfl ?_
          refine run_again ?_
          refine run_seq rfl ?_
          refine run_seq rfl ?_
          refine run_region (todo := [0, 1]) rfl rfl ?_
          refine run_mv rfl ?_
          refine run_rd (v := .bool true) rfl (rd_cmp rfl rfl) ?_
          refine run_endops ?_
          refine run_true rfl rfl ?_
          refine run_skip rfl ?_
          refine run_seq rfl ?_
          refine run_block rfl ?_
          refine run_seq rfl ?_
          refine run_region (todo := [0, 1, 2, 3, 4, 5, 6]) rfl rfl ?_
          refine run_mv rfl ?_
          refine run_mv rfl ?_
          refine run_rd (v := .pointer (some ⟨g1, 24, none⟩)) rfl (rd_indexAddrA (m := 2) (o := 24) Tryd.underlying33 rfl (by decide) Tryd.sizeOf31 rfl) ?_
          refine run_rd (v := .pointer (some ⟨g1, 24, none⟩)) rfl (rd_indexAddrA (m := 0) (o := 24) Tryd.underlying31 rfl (by decide) Tryd.sizeOf30 rfl) ?_
          refine run_rd (v := .agg #[.int .i64 f.c0.kind, .int .i64 f.c0.service, .int .i64 f.c0.group, .int .u64 f.c0.session, .int .u64 f.c0.number, .string f.c0.text]) rfl (rd_loadA (j := 0) (u := #[.int .i64 f.c0.kind, .int .i64 f.c0.service, .int .i64 f.c0.group, .int .u64 f.c0.session, .int .u64 f.c0.number, .string f.c0.text]) Tryd.isAgg30 Tryd.sizeOf30 rfl rfl (by kernel_rfl)) ?_
          refine run_pf0 (v := .bool f.c0.may) rfl Tryd.call51 (pf_rmay f.c0 hf.c0) ?_
          refine run_rd (v := .bool (!f.c0.may)) rfl (rd_not) ?_
          refine run_endops ?_
          refine run_if rfl rfl (fun hb5 => ?_) (fun hb5 => ?_)
          · have hb5p := (Bool.not_eq_true' _).mp hb5
            refine run_seq rfl ?_
            refine run_region (todo := [0]) rfl rfl ?_
            refine run_mv rfl ?_
            refine run_endops ?_
            refine run_ret rfl (v := .int .i64 30) (res1 rfl rfl) ?_
            simp [Fr.may, Fr.list, okCode, hb1p, hb2p, hb3p, hb4p, hb5p]
          · have hb5p := (Bool.not_eq_false' _).mp hb5
            refine run_skip rfl ?_
            refine run_endblock ?_
            refine run_region (todo := [0, 1, 2]) rfl rfl ?_
            refine run_mv rfl ?_
            refine run_rd (v := .int .i64 1) rfl (rd_add (r := 1) (by decide)) ?_
            refine run_mv rfl ?_
            refine run_endops ?_
            refine run_again ?_
            refine run_seq rfl ?_
            refine run_seq rfl ?_
            refine run_region (todo := [0, 1]) rfl rfl ?_
            refine run_mv rfl ?_
            refine run_rd (v := .bool true) rfl (rd_cmp rfl rfl) ?_
            refine run_endops ?_
            refine run_true rfl rfl ?_
            refine run_skip rfl ?_
            refine run_seq rfl ?_
            refine run_block rfl ?_
            refine run_seq rfl ?_
            refine run_region (todo := [0, 1, 2, 3, 4, 5, 6]) rfl rfl ?_
            refine run_mv rfl ?_
            refine run_mv rfl ?_
            refine run_rd (v := .pointer (some ⟨g1, 24, none⟩)) rfl (rd_indexAddrA (m := 2) (o := 24) Tryd.underlying33 rfl (by decide) Tryd.sizeOf31 rfl) ?_
            refine run_rd (v := .pointer (some ⟨g1, 30, none⟩)) rfl (rd_indexAddrA (m := 1) (o := 30) Tryd.underlying31 rfl (by decide) Tryd.sizeOf30 rfl) ?_
            refine run_rd (v := .agg #[.int .i64 f.c1.kind, .int .i64 f.c1.service, .int .i64 f.c1.group, .int .u64 f.c1.session, .int .u64 f.c1.number, .string f.c1.text]) rfl (rd_loadA (j := 0) (u := #[.int .i64 f.c1.kind, .int .i64 f.c1.service, .int .i64 f.c1.group, .int .u64 f.c1.session, .int .u64 f.c1.number, .string f.c1.text]) Tryd.isAgg30 Tryd.sizeOf30 rfl rfl (by kernel_rfl)) ?_
            refine run_pf0 (v := .bool f.c1.may) rfl Tryd.call51 (pf_rmay f.c1 hf.c1) ?_
            refine run_rd (v := .bool (!f.c1.may)) rfl (rd_not) ?_
            refine run_endops ?_
            refine run_if rfl rfl (fun hb6 => ?_) (fun hb6 => ?_)
            · have hb6p := (Bool.not_eq_true' _).mp hb6
              refine run_seq rfl ?_
              refine run_region (todo := [0]) rfl rfl ?_
              refine run_mv rfl ?_
              refine run_endops ?_
              refine run_ret rfl (v := .int .i64 30) (res1 rfl rfl) ?_
              simp [Fr.may, Fr.list, okCode, hb1p, hb2p, hb3p, hb4p, hb5p, hb6p]
            · have hb6p := (Bool.not_eq_false' _).mp hb6
              refine run_skip rfl ?_
              refine run_endblock ?_
              refine run_region (todo := [0, 1, 2]) rfl rfl ?_
              refine run_mv rfl ?_
              refine run_rd (v := .int .i64 2) rfl (rd_add (r := 2) (by decide)) ?_
              refine run_mv rfl ?_
              refine run_endops ?_
              refine run_again ?_
              refine run_seq rfl ?_
              refine run_seq rfl ?_
              refine run_region (todo := [0, 1]) rfl rfl ?_
              refine run_mv rfl ?_
              refine run_rd (v := .bool false) rfl (rd_cmp rfl rfl) ?_
              refine run_endops ?_
              refine run_false rfl rfl ?_
              refine run_exit rfl rfl ?_
              refine run_endblock ?_
              refine run_region (todo := [0, 1, 2]) rfl rfl ?_
              refine run_mv rfl ?_
              refine run_rd (v := .int .i64 3) rfl (rd_add (r := 3) (by decide)) ?_
              refine run_mv rfl ?_
              refine run_endops ?_
              refine run_again ?_
              refine run_seq rfl ?_
              refine run_seq rfl ?_
              refine run_region (todo := [0, 1]) rfl rfl ?_
              refine run_mv rfl ?_
              refine run_rd (v := .bool false) rfl (rd_cmp rfl rfl) ?_
              refine run_endops ?_
              refine run_false rfl rfl ?_
              refine run_exit rfl rfl ?_
              refine run_seq rfl ?_
              refine run_region (todo := [0]) rfl rfl ?_
              refine run_mv rfl ?_
              refine run_endops ?_
              refine run_ret rfl (v := .int .i64 0) (res1 rfl rfl) ?_
              simp [Fr.may, Fr.list, okCode, hb1p, hb2p, hb3p, hb4p, hb5p, hb6p]

theorem rlane_0 (f : Fr) (hf : f.Ok) (w0 : World) : Fn Tryd.prog 19 #[f.val, .int .i64 0] w0 (fun v h => ∃ A c, v = .slice A (f.lane 0).length c ∧ h = [.row A c 30 6 (f.lane 0).length (encE.row (f.lane 0))]) := by
  refine fn_of_run Tryd.func19 rfl rfl ?_
  refine run_seq rfl ?_
  refine run_region (todo := [0, 1]) rfl rfl ?_
  refine run_box rfl (fun g1 => ?_)
  refine run_mv rfl ?_
  refine run_endops ?_
  refine run_seq rfl ?_
  refine run_region (todo := [0, 1]) rfl rfl ?_
  refine run_lit0 rfl Tryd.underlying50 Tryd.sizeOf30 (fun g2 => ?_)
  refine run_mv rfl ?_
  refine run_endops ?_
  refine run_seq rfl ?_
  refine run_seq rfl ?_
  refine run_region (todo := [0, 1, 2, 3, 4, 5]) rfl rfl ?_
  refine run_mv rfl ?_
  refine run_rd (v := .bool false) rfl (rd_cmp rfl rfl) ?_
  refine run_mv rfl ?_
  refine run_mvG rfl ?_
  refine run_rdG (v := .bool false) rfl (rd_cmp rfl rfl) ?_
  refine run_pick (v := .bool false) rfl rfl ?_
  refine run_endops ?_
  refine run_false rfl rfl ?_
  refine run_skip rfl ?_
  refine run_seq rfl ?_
  refine run_seq rfl ?_
  refine run_region (todo := [0]) rfl rfl ?_
  refine run_mv rfl ?_
  refine run_endops ?_
  refine run_block rfl ?_
  refine run_loop rfl ?_
  refine run_again ?_
  refine run_seq rfl ?_
  refine run_seq rfl ?_
  refine run_region (todo := [0, 1]) rfl rfl ?_
  refine run_mv rfl ?_
  refine run_rd (v := .bool true) rfl (rd_cmp rfl rfl) ?_
  refine run_endops ?_
  refine run_true rfl rfl ?_
  refine run_skip rfl ?_
  refine run_seq rfl ?_
  refine run_block rfl ?_
  refine run_seq rfl ?_
  refine run_region (todo := [0, 1, 2, 3, 4, 5, 6]) rfl rfl ?_
  refine run_mv rfl ?_
  refine run_mv rfl ?_
  refine run_rd (v := .pointer (some ⟨g1, 0, none⟩)) rfl (rd_indexAddrA (m := 0) (o := 0) Tryd.underlying33 rfl (by decide) Tryd.sizeOf31 rfl) ?_
  refine run_rd (v := .pointer (some ⟨g1, 0, none⟩)) rfl (rd_indexAddrA (m := 0) (o := 0) Tryd.underlying31 rfl (by decide) Tryd.sizeOf30 rfl) ?_
  refine run_rd (v := .agg #[.int .i64 f.a0.kind, .int .i64 f.a0.service, .int .i64 f.a0.group, .int .u64 f.a0.session, .int .u64 f.a0.number, .string f.a0.text]) rfl (rd_loadA (j := 1) (u := #[.int .i64 f.a0.kind, .int .i64 f.a0.service, .int .i64 f.a0.group, .int .u64 f.a0.session, .int .u64 f.a0.number, .string f.a0.text]) Tryd.isAgg30 Tryd.sizeOf30 rfl rfl (by kernel_rfl)) ?_
  refine run_rd (v := .agg #[.int .i64 0, .int .i64 0, .int .i64 0, .int .u64 0, .int .u64 0, .string ⟨#[]⟩]) rfl ((fun w _ => by kernel_rfl)) ?_
  refine run_rd (v := .bool (decide (f.a0 ≠ Ent.zero))) rfl (rd_ent_nz hf.a0) ?_
  refine run_endops ?_
  refine run_if rfl rfl (fun hb1 => ?_) (fun hb1 => ?_)
  · have hb1p := of_decide_eq_true hb1
    refine run_region (todo := [0, 1, 2, 3, 4, 5, 6, 7, 8]) rfl rfl ?_
    refine run_mv rfl ?_
    refine run_mv rfl ?_
    refine run_mv rfl ?_
    refine run_rd (v := .pointer (some ⟨g1, 0, none⟩)) rfl (rd_indexAddrA (m := 0) (o := 0) Tryd.underlying33 rfl (by decide) Tryd.sizeOf31 rfl) ?_
    refine run_rd (v := .pointer (some ⟨g1, 0, none⟩)) rfl (rd_indexAddrA (m := 0) (o := 0) Tryd.underlying31 rfl (by decide) Tryd.sizeOf30 rfl) ?_
    refine run_rd (v := .agg #[.int .i64 f.a0.kind, .int .i64 f.a0.service, .int .i64 f.a0.group, .int .u64 f.a0.session, .int .u64 f.a0.number, .string f.a0.text]) rfl (rd_loadA (j := 1) (u := #[.int .i64 f.a0.kind, .int .i64 f.a0.service, .int .i64 f.a0.group, .int .u64 f.a0.session, .int .u64 f.a0.number, .string f.a0.text]) Tryd.isAgg30 Tryd.sizeOf30 rfl rfl (by kernel_rfl)) ?_
    refine run_lit (c := #[.int .i64 f.a0.kind, .int .i64 f.a0.service, .int .i64 f.a0.group, .int .u64 f.a0.session, .int .u64 f.a0.number, .string f.a0.text]) rfl Tryd.underlying50 Tryd.sizeOf30 Tryd.zeroValue30 rfl rfl (by kernel_rfl) (fun g3 => ?_)
    refine run_append (j := 1) (ti := Tryd.t30) (z := Ent.zero.val) (size := 6) (bytes := 56) (news := [.int .i64 f.a0.kind, .int .i64 f.a0.service, .int .i64 f.a0.group, .int .u64 f.a0.session, .int .u64 f.a0.number, .string f.a0.text]) rfl Tryd.underlying50 (by kernel_rfl) rfl rfl rfl rfl rfl rfl rfl (know_blk (j := 0) rfl (fun q hq => by rw [Nat.zero_add, List.getElem?_toArray])) rfl rfl (by omega) (by unfold maxLen; omega) (fun Ag4 cg4 hg4 => ?_)
    refine run_mv rfl ?_
    refine run_endops ?_
    refine run_endblock ?_
    refine run_region (todo := [0, 1, 2]) rfl rfl ?_
    refine run_mv rfl ?_
    refine run_rd (v := .int .i64 1) rfl (rd_add (r := 1) (by decide)) ?_
    refine run_mv rfl ?_
    refine run_endops ?_
    refine run_again ?_
    refine run_seq rfl ?_
    refine run_seq rfl ?_
    refine run_region (todo := [0, 1]) rfl rfl ?_
    refine run_mv rfl ?_
    refine run_rd (v := .bool true) rfl (rd_cmp rfl rfl) ?_
    refine run_endops ?_
    refine run_true rfl rfl ?_
    refine run_skip rfl ?_
    refine run_seq rfl ?_
    refine run_block rfl ?_
    refine run_seq rfl ?_
    refine run_region (todo := [0, 1, 2, 3, 4, 5, 6]) rfl rfl ?_
    refine run_mv rfl ?_
    refine run_mv rfl ?_
    refine run_rd (v := .pointer (some ⟨g1, 0, none⟩)) rfl (rd_indexAddrA (m := 0) (o := 0) Tryd.underlying33 rfl (by decide) Tryd.sizeOf31 rfl) ?_
    refine run_rd (v := .pointer (some ⟨g1, 6, none⟩)) rfl (rd_indexAddrA (m := 1) (o := 6) Tryd.underlying31 rfl (by decide) Tryd.sizeOf30 rfl) ?_
    refine run_rd (v := .agg #[.int .i64 f.a1.kind, .int .i64 f.a1.service, .int .i64 f.a1.group, .int .u64 f.a1.session, .int .u64 f.a1.number, .string f.a1.text]) rfl (rd_loadA (j := 2) (u := #[.int .i64 f.a1.kind, .int .i64 f.a1.service, .int .i64 f.a1.group, .int .u64 f.a1.session, .int .u64 f.a1.number, .string f.a1.text]) Tryd.isAgg30 Tryd.sizeOf30 rfl rfl (by kernel_rfl)) ?_
    refine run_rd (v := .agg #[.int .i64 0, .int .i64 0, .int .i64 0, .int .u64 0, .int .u64 0, .string ⟨#[]⟩]) rfl ((fun w _ => by kernel_rfl)) ?_
    refine run_rd (v := .bool (decide (f.a1 ≠ Ent.zero))) rfl (rd_ent_nz hf.a1) ?_
    refine run_endops ?_
    refine run_if rfl rfl (fun hb2 => ?_) (fun hb2 => ?_)
    · have hb2p := of_decide_eq_true hb2
      refine run_region (todo := [0, 1, 2, 3, 4, 5, 6, 7, 8]) rfl rfl ?_
      refine run_mv rfl ?_
      refine run_mv rfl ?_
      refine run_mv rfl ?_
      refine run_rd (v := .pointer (some ⟨g1, 0, none⟩)) rfl (rd_indexAddrA (m := 0) (o := 0) Tryd.underlying33 rfl (by decide) Tryd.sizeOf31 rfl) ?_
      refine run_rd (v := .pointer (some ⟨g1, 6, none⟩)) rfl (rd_indexAddrA (m := 1) (o := 6) Tryd.underlying31 rfl (by decide) Tryd.sizeOf30 rfl) ?_
      refine run_rd (v := .agg #[.int .i64 f.a1.kind, .int .i64 f.a1.service, .int .i64 f.a1.group, .int .u64 f.a1.session, .int .u64 f.a1.number, .string f.a1.text]) rfl (rd_loadA (j := 2) (u := #[.int .i64 f.a1.kind, .int .i64 f.a1.service, .int .i64 f.a1.group, .int .u64 f.a1.session, .int .u64 f.a1.number, .string f.a1.text]) Tryd.isAgg30 Tryd.sizeOf30 rfl rfl (by kernel_rfl)) ?_
      refine run_lit (c := #[.int .i64 f.a1.kind, .int .i64 f.a1.service, .int .i64 f.a1.group, .int .u64 f.a1.session, .int .u64 f.a1.number, .string f.a1.text]) rfl Tryd.underlying50 Tryd.sizeOf30 Tryd.zeroValue30 rfl rfl (by kernel_rfl) (fun g5 => ?_)
      refine run_append (j := 2) (ti := Tryd.t30) (z := Ent.zero.val) (size := 6) (bytes := 56) (news := [.int .i64 f.a1.kind, .int .i64 f.a1.service, .int .i64 f.a1.group, .int .u64 f.a1.session, .int .u64 f.a1.number, .string f.a1.text]) rfl Tryd.underlying50 (by kernel_rfl) rfl rfl rfl rfl rfl rfl rfl (know_blk (j := 0) rfl (fun q hq => by rw [Nat.zero_add, List.getElem?_toArray])) rfl rfl (by omega) (by unfold maxLen; omega) (fun Ag6 cg6 hg6 => ?_)
      refine run_mv rfl ?_
      refine run_endops ?_
      refine run_endblock ?_
      refine run_region (todo := [0, 1, 2]) rfl rfl ?_
      refine run_mv rfl ?_
      refine run_rd (v := .int .i64 2) rfl (rd_add (r := 2) (by decide)) ?_
      refine run_mv rfl ?_
      refine run_endops ?_
      refine run_again ?_
      refine run_seq rfl ?_
      refine run_seq rfl ?_
      refine run_region (todo := [0, 1]) rfl rfl ?_
      refine run_mv rfl ?_
      refine run_rd (v := .bool false) rfl (rd_cmp rfl rfl) ?_
      refine run_endops ?_
      refine run_false rfl rfl ?_
      refine run_exit rfl rfl ?_
      refine run_seq rfl ?_
      refine run_region (todo := [0, 1]) rfl rfl ?_
      refine run_mv rfl ?_
      refine run_mv rfl ?_
      refine run_endops ?_
      refine run_retS (v := .slice Ag6 2 cg6) (H' := [.row Ag6 cg6 30 6 2 ([] ++ [.int .i64 f.a0.kind, .int .i64 f.a0.service, .int .i64 f.a0.group, .int .u64 f.a0.session, .int .u64 f.a0.number, .string f.a0.text] ++ [.int .i64 f.a1.kind, .int .i64 f.a1.service, .int .i64 f.a1.group, .int .u64 f.a1.session, .int .u64 f.a1.number, .string f.a1.text])]) [2] rfl (res1 rfl rfl) ⟨rfl, trivial⟩ (by decide) ?_
      have e : f.lane 0 = [f.a0, f.a1] := by simp [Fr.lane, Fr.two, hb1p, hb2p]
      rw [e]
      exact ⟨_, _, rfl, rfl⟩
    · have hb2p := of_decide_eq_false hb2
      refine run_skip rfl ?_
      refine run_endblock ?_
      refine run_region (todo := [0, 1, 2]) rfl rfl ?_
      refine run_mv rfl ?_
      refine run_rd (v := .int .i64 2) rfl (rd_add (r := 2) (by decide)) ?_
      refine run_mv rfl ?_
      refine run_endops ?_
      refine run_again ?_
      refine run_seq rfl ?_
      refine run_seq rfl ?_
      refine run_region (todo := [0, 1]) rfl rfl ?_
      refine run_mv rfl ?_
      refine run_rd (v := .bool false) rfl (rd_cmp rfl rfl) ?_
      refine run_endops ?_
      refine run_false rfl rfl ?_
      refine run_exit rfl rfl ?_
      refine run_seq rfl ?_
      refine run_region (todo := [0, 1]) rfl rfl ?_
      refine run_mv rfl ?_
      refine run_mv rfl ?_
      refine run_endops ?_
      refine run_retS (v := .slice Ag4 1 cg4) (H' := [.row Ag4 cg4 30 6 1 ([] ++ [.int .i64 f.a0.kind, .int .i64 f.a0.service, .int .i64 f.a0.group, .int .u64 f.a0.session, .int .u64 f.a0.number, .string f.a0.text])]) [1] rfl (res1 rfl rfl) ⟨rfl, trivial⟩ (by decide) ?_
      have e : f.lane 0 = [f.a0] := by simp [Fr.lane, Fr.two, hb1p, hb2p]
      rw [e]
      exact ⟨_, _, rfl, rfl⟩
  · have hb1p := of_decide_eq_false hb1
    refine run_skip rfl ?_
    refine run_endblock ?_
    refine run_region (todo := [0, 1, 2]) rfl rfl ?_
    refine run_mv rfl ?_
    refine run_rd (v := .int .i64 1) rfl (rd_add (r := 1) (by decide)) ?_
    refine run_mv rfl ?_
    refine run_endops ?_
    refine run_again ?_
    refine run_seq rfl ?_
    refine run_seq rfl ?_
    refine run_region (todo := [0, 1]) rfl rfl ?_
    refine run_mv rfl ?_
    refine run_rd (v := .bool true) rfl (rd_cmp rfl rfl) ?_
    refine run_endops ?_
    refine run_true rfl rfl ?_
    refine run_skip rfl ?_
    refine run_seq rfl ?_
    refine run_block rfl ?_
    refine run_seq rfl ?_
    refine run_region (todo := [0, 1, 2, 3, 4, 5, 6]) rfl rfl ?_
    refine run_mv rfl ?_
    refine run_mv rfl ?_
    refine run_rd (v := .pointer (some ⟨g1, 0, none⟩)) rfl (rd_indexAddrA (m := 0) (o := 0) Tryd.underlying33 rfl (by decide) Tryd.sizeOf31 rfl) ?_
    refine run_rd (v := .pointer (some ⟨g1, 6, none⟩)) rfl (rd_indexAddrA (m := 1) (o := 6) Tryd.underlying31 rfl (by decide) Tryd.sizeOf30 rfl) ?_
    refine run_rd (v := .agg #[.int .i64 f.a1.kind, .int .i64 f.a1.service, .int .i64 f.a1.group, .int .u64 f.a1.session, .int .u64 f.a1.number, .string f.a1.text]) rfl (rd_loadA (j := 1) (u := #[.int .i64 f.a1.kind, .int .i64 f.a1.service, .int .i64 f.a1.group, .int .u64 f.a1.session, .int .u64 f.a1.number, .string f.a1.text]) Tryd.isAgg30 Tryd.sizeOf30 rfl rfl (by kernel_rfl)) ?_
    refine run_rd (v := .agg #[.int .i64 0, .int .i64 0, .int .i64 0, .int .u64 0, .int .u64 0, .string ⟨#[]⟩]) rfl ((fun w _ => by kernel_rfl)) ?_
    refine run_rd (v := .bool (decide (f.a1 ≠ Ent.zero))) rfl (rd_ent_nz hf.a1) ?_
    refine run_endops ?_
    refine run_if rfl rfl (fun hb3 => ?_) (fun hb3 => ?_)
    · have hb3p := of_decide_eq_true hb3
      refine run_region (todo := [0, 1, 2, 3, 4, 5, 6, 7, 8]) rfl rfl ?_
      refine run_mv rfl ?_
      refine run_mv rfl ?_
      refine run_mv rfl ?_
      refine run_rd (v := .pointer (some ⟨g1, 0, none⟩)) rfl (rd_indexAddrA (m := 0) (o := 0) Tryd.underlying33 rfl (by decide) Tryd.sizeOf31 rfl) ?_
      refine run_rd (v := .pointer (some ⟨g1, 6, none⟩)) rfl (rd_indexAddrA (m := 1) (o := 6) Tryd.underlying31 rfl (by decide) Tryd.sizeOf30 rfl) ?_
      refine run_rd (v := .agg #[.int .i64 f.a1.kind, .int .i64 f.a1.service, .int .i64 f.a1.group, .int .u64 f.a1.session, .int .u64 f.a1.number, .string f.a1.text]) rfl (rd_loadA (j := 1) (u := #[.int .i64 f.a1.kind, .int .i64 f.a1.service, .int .i64 f.a1.group, .int .u64 f.a1.session, .int .u64 f.a1.number, .string f.a1.text]) Tryd.isAgg30 Tryd.sizeOf30 rfl rfl (by kernel_rfl)) ?_
      refine run_lit (c := #[.int .i64 f.a1.kind, .int .i64 f.a1.service, .int .i64 f.a1.group, .int .u64 f.a1.session, .int .u64 f.a1.number, .string f.a1.text]) rfl Tryd.underlying50 Tryd.sizeOf30 Tryd.zeroValue30 rfl rfl (by kernel_rfl) (fun g7 => ?_)
      refine run_append (j := 1) (ti := Tryd.t30) (z := Ent.zero.val) (size := 6) (bytes := 56) (news := [.int .i64 f.a1.kind, .int .i64 f.a1.service, .int .i64 f.a1.group, .int .u64 f.a1.session, .int .u64 f.a1.number, .string f.a1.text]) rfl Tryd.underlying50 (by kernel_rfl) rfl rfl rfl rfl rfl rfl rfl (know_blk (j := 0) rfl (fun q hq => by rw [Nat.zero_add, List.getElem?_toArray])) rfl rfl (by omega) (by unfold maxLen; omega) (fun Ag8 cg8 hg8 => ?_)
      refine run_mv rfl ?_
      refine run_endops ?_
      refine run_endblock ?_
      refine run_region (todo := [0, 1, 2]) rfl rfl ?_
      refine run_mv rfl ?_
      refine run_rd (v := .int .i64 2) rfl (rd_add (r := 2) (by decide)) ?_
      refine run_mv rfl ?_
      refine run_endops ?_
      refine run_again ?_
      refine run_seq rfl ?_
      refine run_seq rfl ?_
      refine run_region (todo := [0, 1]) rfl rfl ?_
      refine run_mv rfl ?_
      refine run_rd (v := .bool false) rfl (rd_cmp rfl rfl) ?_
      refine run_endops ?_
      refine run_false rfl rfl ?_
      refine run_exit rfl rfl ?_
      refine run_seq rfl ?_
      refine run_region (todo := [0, 1]) rfl rfl ?_
      refine run_mv rfl ?_
      refine run_mv rfl ?_
      refine run_endops ?_
      refine run_retS (v := .slice Ag8 1 cg8) (H' := [.row Ag8 cg8 30 6 1 ([] ++ [.int .i64 f.a1.kind, .int .i64 f.a1.service, .int .i64 f.a1.group, .int .u64 f.a1.session, .int .u64 f.a1.number, .string f.a1.text])]) [1] rfl (res1 rfl rfl) ⟨rfl, trivial⟩ (by decide) ?_
      have e : f.lane 0 = [f.a1] := by simp [Fr.lane, Fr.two, hb1p, hb3p]
      rw [e]
      exact ⟨_, _, rfl, rfl⟩
    · have hb3p := of_decide_eq_false hb3
      refine run_skip rfl ?_
      refine run_endblock ?_
      refine run_region (todo := [0, 1, 2]) rfl rfl ?_
      refine run_mv rfl ?_
      refine run_rd (v := .int .i64 2) rfl (rd_add (r := 2) (by decide)) ?_
      refine run_mv rfl ?_
      refine run_endops ?_
      refine run_again ?_
      refine run_seq rfl ?_
      refine run_seq rfl ?_
      refine run_region (todo := [0, 1]) rfl rfl ?_
      refine run_mv rfl ?_
      refine run_rd (v := .bool false) rfl (rd_cmp rfl rfl) ?_
      refine run_endops ?_
      refine run_false rfl rfl ?_
      refine run_exit rfl rfl ?_
      refine run_seq rfl ?_
      refine run_region (todo := [0, 1]) rfl rfl ?_
      refine run_mv rfl ?_
      refine run_mv rfl ?_
      refine run_endops ?_
      refine run_retS (v := .slice (some ⟨g2, 0, none⟩) 0 0) (H' := [.row (some ⟨g2, 0, none⟩) 0 30 6 0 []]) [0] rfl (res1 rfl rfl) ⟨rfl, trivial⟩ (by decide) ?_
      have e : f.lane 0 = [] := by simp [Fr.lane, Fr.two, hb1p, hb3p]
      rw [e]
      exact ⟨_, _, rfl, rfl⟩

theorem rlane_1 (f : Fr) (hf : f.Ok) (w0 : World) : Fn Tryd.prog 19 #[f.val, .int .i64 1] w0 (fun v h => ∃ A c, v = .slice A (f.lane 1).length c ∧ h = [.row A c 30 6 (f.lane 1).length (encE.row (f.lane 1))]) := by
  refine fn_of_run Tryd.func19 rfl rfl ?_
  refine run_seq rfl ?_
  refine run_region (todo := [0, 1]) rfl rfl ?_
  refine run_box rfl (fun g1 => ?_)
  refine run_mv rfl ?_
  refine run_endops ?_
  refine run_seq rfl ?_
  refine run_region (todo := [0, 1]) rfl rfl ?_
  refine run_lit0 rfl Tryd.underlying50 Tryd.sizeOf30 (fun g2 => ?_)
  refine run_mv rfl ?_
  refine run_endops ?_
  refine run_seq rfl ?_
  refine run_seq rfl ?_
  refine run_region (todo := [0, 1, 2, 3, 4, 5]) rfl rfl ?_
  refine run_mv rfl ?_
  refine run_rd (v := .bool false) rfl (rd_cmp rfl rfl) ?_
  refine run_mv rfl ?_
  refine run_mvG rfl ?_
  refine run_rdG (v := .bool false) rfl (rd_cmp rfl rfl) ?_
  refine run_pick (v := .bool false) rfl rfl ?_
  refine run_endops ?_
  refine run_false rfl rfl ?_
  refine run_skip rfl ?_
  refine run_seq rfl ?_
  refine run_seq rfl ?_
  refine run_region (todo := [0]) rfl rfl ?_
  refine run_mv rfl ?_
  refine run_endops ?_
  refine run_block rfl ?_
  refine run_loop rfl ?_
  refine run_again ?_
  refine run_seq rfl ?_
  refine run_seq rfl ?_
  refine run_region (todo := [0, 1]) rfl rfl ?_
  refine run_mv rfl ?_
  refine run_rd (v := .bool true) rfl (rd_cmp rfl rfl) ?_
  refine run_endops ?_
  refine run_true rfl rfl ?_
  refine run_skip rfl ?_
  refine run_seq rfl ?_
  refine run_block rfl ?_
  refine run_seq rfl ?_
  refine run_region (todo := [0, 1, 2, 3, 4, 5, 6]) rfl rfl ?_
  refine run_mv rfl ?_
  refine run_mv rfl ?_
  refine run_rd (v := .pointer (some ⟨g1, 12, none⟩)) rfl (rd_indexAddrA (m := 1) (o := 12) Tryd.underlying33 rfl (by decide) Tryd.sizeOf31 rfl) ?_
  refine run_rd (v := .pointer (some ⟨g1, 12, none⟩)) rfl (rd_indexAddrA (m := 0) (o := 12) Tryd.underlying31 rfl (by decide) Tryd.sizeOf30 rfl) ?_
  refine run_rd (v := .agg #[.int .i64 f.b0.kind, .int .i64 f.b0.service, .int .i64 f.b0.group, .int .u64 f.b0.session, .int .u64 f.b0.number, .string f.b0.text]) rfl (rd_loadA (j := 1) (u := #[.int .i64 f.b0.kind, .int .i64 f.b0.service, .int .i64 f.b0.group, .int .u64 f.b0.session, .int .u64 f.b0.number, .string f.b0.text]) Tryd.isAgg30 Tryd.sizeOf30 rfl rfl (by kernel_rfl)) ?_
  refine run_rd (v := .agg #[.int .i64 0, .int .i64 0, .int .i64 0, .int .u64 0, .int .u64 0, .string ⟨#[]⟩]) rfl ((fun w _ => by kernel_rfl)) ?_
  refine run_rd (v := .bool (decide (f.b0 ≠ Ent.zero))) rfl (rd_ent_nz hf.b0) ?_
  refine run_endops ?_
  refine run_if rfl rfl (fun hb1 => ?_) (fun hb1 => ?_)
  · have hb1p := of_decide_eq_true hb1
    refine run_region (todo := [0, 1, 2, 3, 4, 5, 6, 7, 8]) rfl rfl ?_
    refine run_mv rfl ?_
    refine run_mv rfl ?_
    refine run_mv rfl ?_
    refine run_rd (v := .pointer (some ⟨g1, 12, none⟩)) rfl (rd_indexAddrA (m := 1) (o := 12) Tryd.underlying33 rfl (by decide) Tryd.sizeOf31 rfl) ?_
    refine run_rd (v := .pointer (some ⟨g1, 12, none⟩)) rfl (rd_indexAddrA (m := 0) (o := 12) Tryd.underlying31 rfl (by decide) Tryd.sizeOf30 rfl) ?_
    refine run_rd (v := .agg #[.int .i64 f.b0.kind, .int .i64 f.b0.service, .int .i64 f.b0.group, .int .u64 f.b0.session, .int .u64 f.b0.number, .string f.b0.text]) rfl (rd_loadA (j := 1) (u := #[.int .i64 f.b0.kind, .int .i64 f.b0.service, .int .i64 f.b0.group, .int .u64 f.b0.session, .int .u64 f.b0.number, .string f.b0.text]) Tryd.isAgg30 Tryd.sizeOf30 rfl rfl (by kernel_rfl)) ?_
    refine run_lit (c := #[.int .i64 f.b0.kind, .int .i64 f.b0.service, .int .i64 f.b0.group, .int .u64 f.b0.session, .int .u64 f.b0.number, .string f.b0.text]) rfl Tryd.underlying50 Tryd.sizeOf30 Tryd.zeroValue30 rfl rfl (by kernel_rfl) (fun g3 => ?_)
    refine run_append (j := 1) (ti := Tryd.t30) (z := Ent.zero.val) (size := 6) (bytes := 56) (news := [.int .i64 f.b0.kind, .int .i64 f.b0.service, .int .i64 f.b0.group, .int .u64 f.b0.session, .int .u64 f.b0.number, .string f.b0.text]) rfl Tryd.underlying50 (by kernel_rfl) rfl rfl rfl rfl rfl rfl rfl (know_blk (j := 0) rfl (fun q hq => by rw [Nat.zero_add, List.getElem?_toArray])) rfl rfl (by omega) (by unfold maxLen; omega) (fun Ag4 cg4 hg4 => ?_)
    refine run_mv rfl ?_
    refine run_endops ?_
    refine run_endblock ?_
    refine run_region (todo := [0, 1, 2]) rfl rfl ?_
    refine run_mv rfl ?_
    refine run_rd (v := .int .i64 1) rfl (rd_add (r := 1) (by decide)) ?_
    refine run_mv rfl ?_
    refine run_endops ?_
    refine run_again ?_
    refine run_seq rfl ?_
    refine run_seq rfl ?_
    refine run_region (todo := [0, 1]) rfl rfl ?_
    refine run_mv rfl ?_
    refine run_rd (v := .bool true) rfl (rd_cmp rfl rfl) ?_
    refine run_endops ?_
    refine run_true rfl rfl ?_
    refine run_skip rfl ?_
    refine run_seq rfl ?_
    refine run_block rfl ?_
    refine run_seq rfl ?_
    refine run_region (todo := [0, 1, 2, 3, 4, 5, 6]) rfl rfl ?_
    refine run_mv rfl ?_
    refine run_mv rfl ?_
    refine run_rd (v := .pointer (some ⟨g1, 12, none⟩)) rfl (rd_indexAddrA (m := 1) (o := 12) Tryd.underlying33 rfl (by decide) Tryd.sizeOf31 rfl) ?_
    refine run_rd (v := .pointer (some ⟨g1, 18, none⟩)) rfl (rd_indexAddrA (m := 1) (o := 18) Tryd.underlying31 rfl (by decide) Tryd.sizeOf30 rfl) ?_
    refine run_rd (v := .agg #[.int .i64 f.b1.kind, .int .i64 f.b1.service, .int .i64 f.b1.group, .int .u64 f.b1.session, .int .u64 f.b1.number, .string f.b1.text]) rfl (rd_loadA (j := 2) (u := #[.int .i64 f.b1.kind, .int .i64 f.b1.service, .int .i64 f.b1.group, .int .u64 f.b1.session, .int .u64 f.b1.number, .string f.b1.text]) Tryd.isAgg30 Tryd.sizeOf30 rfl rfl (by kernel_rfl)) ?_
    refine run_rd (v := .agg #[.int .i64 0, .int .i64 0, .int .i64 0, .int .u64 0, .int .u64 0, .string ⟨#[]⟩]) rfl ((fun w _ => by kernel_rfl)) ?_
    refine run_rd (v := .bool (decide (f.b1 ≠ Ent.zero))) rfl (rd_ent_nz hf.b1) ?_
    refine run_endops ?_
    refine run_if rfl rfl (fun hb2 => ?_) (fun hb2 => ?_)
    · have hb2p := of_decide_eq_true hb2
      refine run_region (todo := [0, 1, 2, 3, 4, 5, 6, 7, 8]) rfl rfl ?_
      refine run_mv rfl ?_
      refine run_mv rfl ?_
      refine run_mv rfl ?_
      refine run_rd (v := .pointer (some ⟨g1, 12, none⟩)) rfl (rd_indexAddrA (m := 1) (o := 12) Tryd.underlying33 rfl (by decide) Tryd.sizeOf31 rfl) ?_
      refine run_rd (v := .pointer (some ⟨g1, 18, none⟩)) rfl (rd_indexAddrA (m := 1) (o := 18) Tryd.underlying31 rfl (by decide) Tryd.sizeOf30 rfl) ?_
      refine run_rd (v := .agg #[.int .i64 f.b1.kind, .int .i64 f.b1.service, .int .i64 f.b1.group, .int .u64 f.b1.session, .int .u64 f.b1.number, .string f.b1.text]) rfl (rd_loadA (j := 2) (u := #[.int .i64 f.b1.kind, .int .i64 f.b1.service, .int .i64 f.b1.group, .int .u64 f.b1.session, .int .u64 f.b1.number, .string f.b1.text]) Tryd.isAgg30 Tryd.sizeOf30 rfl rfl (by kernel_rfl)) ?_
      refine run_lit (c := #[.int .i64 f.b1.kind, .int .i64 f.b1.service, .int .i64 f.b1.group, .int .u64 f.b1.session, .int .u64 f.b1.number, .string f.b1.text]) rfl Tryd.underlying50 Tryd.sizeOf30 Tryd.zeroValue30 rfl rfl (by kernel_rfl) (fun g5 => ?_)
      refine run_append (j := 2) (ti := Tryd.t30) (z := Ent.zero.val) (size := 6) (bytes := 56) (news := [.int .i64 f.b1.kind, .int .i64 f.b1.service, .int .i64 f.b1.group, .int .u64 f.b1.session, .int .u64 f.b1.number, .string f.b1.text]) rfl Tryd.underlying50 (by kernel_rfl) rfl rfl rfl rfl rfl rfl rfl (know_blk (j := 0) rfl (fun q hq => by rw [Nat.zero_add, List.getElem?_toArray])) rfl rfl (by omega) (by unfold maxLen; omega) (fun Ag6 cg6 hg6 => ?_)
      refine run_mv rfl ?_
      refine run_endops ?_
      refine run_endblock ?_
      refine run_region (todo := [0, 1, 2]) rfl rfl ?_
      refine run_mv rfl ?_
      refine run_rd (v := .int .i64 2) rfl (rd_add (r := 2) (by decide)) ?_
      refine run_mv rfl ?_
      refine run_endops ?_
      refine run_again ?_
      refine run_seq rfl ?_
      refine run_seq rfl ?_
      refine run_region (todo := [0, 1]) rfl rfl ?_
      refine run_mv rfl ?_
      refine run_rd (v := .bool false) rfl (rd_cmp rfl rfl) ?_
      refine run_endops ?_
      refine run_false rfl rfl ?_
      refine run_exit rfl rfl ?_
      refine run_seq rfl ?_
      refine run_region (todo := [0, 1]) rfl rfl ?_
      refine run_mv rfl ?_
      refine run_mv rfl ?_
      refine run_endops ?_
      refine run_retS (v := .slice Ag6 2 cg6) (H' := [.row Ag6 cg6 30 6 2 ([] ++ [.int .i64 f.b0.kind, .int .i64 f.b0.service, .int .i64 f.b0.group, .int .u64 f.b0.session, .int .u64 f.b0.number, .string f.b0.text] ++ [.int .i64 f.b1.kind, .int .i64 f.b1.service, .int .i64 f.b1.group, .int .u64 f.b1.session, .int .u64 f.b1.number, .string f.b1.text])]) [2] rfl (res1 rfl rfl) ⟨rfl, trivial⟩ (by decide) ?_
      have e : f.lane 1 = [f.b0, f.b1] := by simp [Fr.lane, Fr.two, hb1p, hb2p]
      rw [e]
      exact ⟨_, _, rfl, rfl⟩
    · have hb2p := of_decide_eq_false hb2
      refine run_skip rfl ?_
      refine run_endblock ?_
      refine run_region (todo := [0, 1, 2]) rfl rfl ?_
      refine run_mv rfl ?_
      refine run_rd (v := .int .i64 2) rfl (rd_add (r := 2) (by decide)) ?_
      refine run_mv rfl ?_
      refine run_endops ?_
      refine run_again ?_
      refine run_seq rfl ?_
      refine run_seq rfl ?_
      refine run_region (todo := [0, 1]) rfl rfl ?_
      refine run_mv rfl ?_
      refine run_rd (v := .bool false) rfl (rd_cmp rfl rfl) ?_
      refine run_endops ?_
      refine run_false rfl rfl ?_
      refine run_exit rfl rfl ?_
      refine run_seq rfl ?_
      refine run_region (todo := [0, 1]) rfl rfl ?_
      refine run_mv rfl ?_
      refine run_mv rfl ?_
      refine run_endops ?_
      refine run_retS (v := .slice Ag4 1 cg4) (H' := [.row Ag4 cg4 30 6 1 ([] ++ [.int .i64 f.b0.kind, .int .i64 f.b0.service, .int .i64 f.b0.group, .int .u64 f.b0.session, .int .u64 f.b0.number, .string f.b0.text])]) [1] rfl (res1 rfl rfl) ⟨rfl, trivial⟩ (by decide) ?_
      have e : f.lane 1 = [f.b0] := by simp [Fr.lane, Fr.two, hb1p, hb2p]
      rw [e]
      exact ⟨_, _, rfl, rfl⟩
  · have hb1p := of_decide_eq_false hb1
    refine run_skip rfl ?_
    refine run_endblock ?_
    refine run_region (todo := [0, 1, 2]) rfl rfl ?_
    refine run_mv rfl ?_
    refine run_rd (v := .int .i64 1) rfl (rd_add (r := 1) (by decide)) ?_
    refine run_mv rfl ?_
    refine run_endops ?_
    refine run_again ?_
    refine run_seq rfl ?_
    refine run_seq rfl ?_
    refine run_region (todo := [0, 1]) rfl rfl ?_
    refine run_mv rfl ?_
    refine run_rd (v := .bool true) rfl (rd_cmp rfl rfl) ?_
    refine run_endops ?_
    refine run_true rfl rfl ?_
    refine run_skip rfl ?_
    refine run_seq rfl ?_
    refine run_block rfl ?_
    refine run_seq rfl ?_
    refine run_region (todo := [0, 1, 2, 3, 4, 5, 6]) rfl rfl ?_
    refine run_mv rfl ?_
    refine run_mv rfl ?_
    refine run_rd (v := .pointer (some ⟨g1, 12, none⟩)) rfl (rd_indexAddrA (m := 1) (o := 12) Tryd.underlying33 rfl (by decide) Tryd.sizeOf31 rfl) ?_
    refine run_rd (v := .pointer (some ⟨g1, 18, none⟩)) rfl (rd_indexAddrA (m := 1) (o := 18) Tryd.underlying31 rfl (by decide) Tryd.sizeOf30 rfl) ?_
    refine run_rd (v := .agg #[.int .i64 f.b1.kind, .int .i64 f.b1.service, .int .i64 f.b1.group, .int .u64 f.b1.session, .int .u64 f.b1.number, .string f.b1.text]) rfl (rd_loadA (j := 1) (u := #[.int .i64 f.b1.kind, .int .i64 f.b1.service, .int .i64 f.b1.group, .int .u64 f.b1.session, .int .u64 f.b1.number, .string f.b1.text]) Tryd.isAgg30 Tryd.sizeOf30 rfl rfl (by kernel_rfl)) ?_
    refine run_rd (v := .agg #[.int .i64 0, .int .i64 0, .int .i64 0, .int .u64 0, .int .u64 0, .string ⟨#[]⟩]) rfl ((fun w _ => by kernel_rfl)) ?_
    refine run_rd (v := .bool (decide (f.b1 ≠ Ent.zero))) rfl (rd_ent_nz hf.b1) ?_
    refine run_endops ?_
    refine run_if rfl rfl (fun hb3 => ?_) (fun hb3 => ?_)
    · have hb3p := of_decide_eq_true hb3
      refine run_region (todo := [0, 1, 2, 3, 4, 5, 6, 7, 8]) rfl rfl ?_
      refine run_mv rfl ?_
      refine run_mv rfl ?_
      refine run_mv rfl ?_
      refine run_rd (v := .pointer (some ⟨g1, 12, none⟩)) rfl (rd_indexAddrA (m := 1) (o := 12) Tryd.underlying33 rfl (by decide) Tryd.sizeOf31 rfl) ?_
      refine run_rd (v := .pointer (some ⟨g1, 18, none⟩)) rfl (rd_indexAddrA (m := 1) (o := 18) Tryd.underlying31 rfl (by decide) Tryd.sizeOf30 rfl) ?_
      refine run_rd (v := .agg #[.int .i64 f.b1.kind, .int .i64 f.b1.service, .int .i64 f.b1.group, .int .u64 f.b1.session, .int .u64 f.b1.number, .string f.b1.text]) rfl (rd_loadA (j := 1) (u := #[.int .i64 f.b1.kind, .int .i64 f.b1.service, .int .i64 f.b1.group, .int .u64 f.b1.session, .int .u64 f.b1.number, .string f.b1.text]) Tryd.isAgg30 Tryd.sizeOf30 rfl rfl (by kernel_rfl)) ?_
      refine run_lit (c := #[.int .i64 f.b1.kind, .int .i64 f.b1.service, .int .i64 f.b1.group, .int .u64 f.b1.session, .int .u64 f.b1.number, .string f.b1.text]) rfl Tryd.underlying50 Tryd.sizeOf30 Tryd.zeroValue30 rfl rfl (by kernel_rfl) (fun g7 => ?_)
      refine run_append (j := 1) (ti := Tryd.t30) (z := Ent.zero.val) (size := 6) (bytes := 56) (news := [.int .i64 f.b1.kind, .int .i64 f.b1.service, .int .i64 f.b1.group, .int .u64 f.b1.session, .int .u64 f.b1.number, .string f.b1.text]) rfl Tryd.underlying50 (by kernel_rfl) rfl rfl rfl rfl rfl rfl rfl (know_blk (j := 0) rfl (fun q hq => by rw [Nat.zero_add, List.getElem?_toArray])) rfl rfl (by omega) (by unfold maxLen; omega) (fun Ag8 cg8 hg8 => ?_)
      refine run_mv rfl ?_
      refine run_endops ?_
      refine run_endblock ?_
      refine run_region (todo := [0, 1, 2]) rfl rfl ?_
      refine run_mv rfl ?_
      refine run_rd (v := .int .i64 2) rfl (rd_add (r := 2) (by decide)) ?_
      refine run_mv rfl ?_
      refine run_endops ?_
      refine run_again ?_
      refine run_seq rfl ?_
      refine run_seq rfl ?_
      refine run_region (todo := [0, 1]) rfl rfl ?_
      refine run_mv rfl ?_
      refine run_rd (v := .bool false) rfl (rd_cmp rfl rfl) ?_
      refine run_endops ?_
      refine run_false rfl rfl ?_
      refine run_exit rfl rfl ?_
      refine run_seq rfl ?_
      refine run_region (todo := [0, 1]) rfl rfl ?_
      refine run_mv rfl ?_
      refine run_mv rfl ?_
      refine run_endops ?_
      refine run_retS (v := .slice Ag8 1 cg8) (H' := [.row Ag8 cg8 30 6 1 ([] ++ [.int .i64 f.b1.kind, .int .i64 f.b1.service, .int .i64 f.b1.group, .int .u64 f.b1.session, .int .u64 f.b1.number, .string f.b1.text])]) [1] rfl (res1 rfl rfl) ⟨rfl, trivial⟩ (by decide) ?_
      have e : f.lane 1 = [f.b1] := by simp [Fr.lane, Fr.two, hb1p, hb3p]
      rw [e]
      exact ⟨_, _, rfl, rfl⟩
    · have hb3p := of_decide_eq_false hb3
      refine run_skip rfl ?_
      refine run_endblock ?_
      refine run_region (todo := [0, 1, 2]) rfl rfl ?_
      refine run_mv rfl ?_
      refine run_rd (v := .int .i64 2) rfl (rd_add (r := 2) (by decide)) ?_
      refine run_mv rfl ?_
      refine run_endops ?_
      refine run_again ?_
      refine run_seq rfl ?_
      refine run_seq rfl ?_
      refine run_region (todo := [0, 1]) rfl rfl ?_
      refine run_mv rfl ?_
      refine run_rd (v := .bool false) rfl (rd_cmp rfl rfl) ?_
      refine run_endops ?_
      refine run_false rfl rfl ?_
      refine run_exit rfl rfl ?_
      refine run_seq rfl ?_
      refine run_region (todo := [0, 1]) rfl rfl ?_
      refine run_mv rfl ?_
      refine run_mv rfl ?_
      refine run_endops ?_
      refine run_retS (v := .slice (some ⟨g2, 0, none⟩) 0 0) (H' := [.row (some ⟨g2, 0, none⟩) 0 30 6 0 []]) [0] rfl (res1 rfl rfl) ⟨rfl, trivial⟩ (by decide) ?_
      have e : f.lane 1 = [] := by simp [Fr.lane, Fr.two, hb1p, hb3p]
      rw [e]
      exact ⟨_, _, rfl, rfl⟩

theorem rlane_2 (f : Fr) (hf : f.Ok) (w0 : World) : Fn Tryd.prog 19 #[f.val, .int .i64 2] w0 (fun v h => ∃ A c, v = .slice A (f.lane 2).length c ∧ h = [.row A c 30 6 (f.lane 2).length (encE.row (f.lane 2))]) := by
  refine fn_of_run Tryd.func19 rfl rfl ?_
  refine run_seq rfl ?_
  refine run_region (todo := [0, 1]) rfl rfl ?_
  refine run_box rfl (fun g1 => ?_)
  refine run_mv rfl ?_
  refine run_endops ?_
  refine run_seq rfl ?_
  refine run_region (todo := [0, 1]) rfl rfl ?_
  refine run_lit0 rfl Tryd.underlying50 Tryd.sizeOf30 (fun g2 => ?_)
  refine run_mv rfl ?_
  refine run_endops ?_
  refine run_seq rfl ?_
  refine run_seq rfl ?_
  refine run_region (todo := [0, 1, 2, 3, 4, 5]) rfl rfl ?_
  refine run_mv rfl ?_
  refine run_rd (v := .bool false) rfl (rd_cmp rfl rfl) ?_
  refine run_mv rfl ?_
  refine run_mvG rfl ?_
  refine run_rdG (v := .bool false) rfl (rd_cmp rfl rfl) ?_
  refine run_pick (v := .bool false) rfl rfl ?_
  refine run_endops ?_
  refine run_false rfl rfl ?_
  refine run_skip rfl ?_
  refine run_seq rfl ?_
  refine run_seq rfl ?_
  refine run_region (todo := [0]) rfl rfl ?_
  refine run_mv rfl ?_
  refine run_endops ?_
  refine run_block rfl ?_
  refine run_loop rfl ?_
  refine run_again ?_
  refine run_seq rfl ?_
  refine run_seq rfl ?_
  refine run_region (todo := [0, 1]) rfl rfl ?_
  refine run_mv rfl ?_
  refine run_rd (v := .bool true) rfl (rd_cmp rfl rfl) ?_
  refine run_endops ?_
  refine run_true rfl rfl ?_
  refine run_skip rfl ?_
  refine run_seq rfl ?_
  refine run_block rfl ?_
  refine run_seq rfl ?_
  refine run_region (todo := [0, 1, 2, 3, 4, 5, 6]) rfl rfl ?_
  refine run_mv rfl ?_
  refine run_mv rfl ?_
  refine run_rd (v := .pointer (some ⟨g1, 24, none⟩)) rfl (rd_indexAddrA (m := 2) (o := 24) Tryd.underlying33 rfl (by decide) Tryd.sizeOf31 rfl) ?_
  refine run_rd (v := .pointer (some ⟨g1, 24, none⟩)) rfl (rd_indexAddrA (m := 0) (o := 24) Tryd.underlying31 rfl (by decide) Tryd.sizeOf30 rfl) ?_
  refine run_rd (v := .agg #[.int .i64 f.c0.kind, .int .i64 f.c0.service, .int .i64 f.c0.group, .int .u64 f.c0.session, .int .u64 f.c0.number, .string f.c0.text]) rfl (rd_loadA (j := 1) (u := #[.int .i64 f.c0.kind, .int .i64 f.c0.service, .int .i64 f.c0.group, .int .u64 f.c0.session, .int .u64 f.c0.number, .string f.c0.text]) Tryd.isAgg30 Tryd.sizeOf30 rfl rfl (by kernel_rfl)) ?_
  refine run_rd (v := .agg #[.int .i64 0, .int .i64 0, .int .i64 0, .int .u64 0, .int .u64 0, .string ⟨#[]⟩]) rfl ((fun w _ => by kernel_rfl)) ?_
  refine run_rd (v := .bool (decide (f.c0 ≠ Ent.zero))) rfl (rd_ent_nz hf.c0) ?_
  refine run_endops ?_
  refine run_if rfl rfl (fun hb1 => ?_) (fun hb1 => ?_)
  · have hb1p := of_decide_eq_true hb1
    refine run_region (todo := [0, 1, 2, 3, 4, 5, 6, 7, 8]) rfl rfl ?_
    refine run_mv rfl ?_
    refine run_mv rfl ?_
    refine run_mv rfl ?_
    refine run_rd (v := .pointer (some ⟨g1, 24, none⟩)) rfl (rd_indexAddrA (m := 2) (o := 24) Tryd.underlying33 rfl (by decide) Tryd.sizeOf31 rfl) ?_
    refine run_rd (v := .pointer (some ⟨g1, 24, none⟩)) rfl (rd_indexAddrA (m := 0) (o := 24) Tryd.underlying31 rfl (by decide) Tryd.sizeOf30 rfl) ?_
    refine run_rd (v := .agg #[.int .i64 f.c0.kind, .int .i64 f.c0.service, .int .i64 f.c0.group, .int .u64 f.c0.session, .int .u64 f.c0.number, .string f.c0.text]) rfl (rd_loadA (j := 1) (u := #[.int .i64 f.c0.kind, .int .i64 f.c0.service, .int .i64 f.c0.group, .int .u64 f.c0.session, .int .u64 f.c0.number, .string f.c0.text]) Tryd.isAgg30 Tryd.sizeOf30 rfl rfl (by kernel_rfl)) ?_
    refine run_lit (c := #[.int .i64 f.c0.kind, .int .i64 f.c0.service, .int .i64 f.c0.group, .int .u64 f.c0.session, .int .u64 f.c0.number, .string f.c0.text]) rfl Tryd.underlying50 Tryd.sizeOf30 Tryd.zeroValue30 rfl rfl (by kernel_rfl) (fun g3 => ?_)
    refine run_append (j := 1) (ti := Tryd.t30) (z := Ent.zero.val) (size := 6) (bytes := 56) (news := [.int .i64 f.c0.kind, .int .i64 f.c0.service, .int .i64 f.c0.group, .int .u64 f.c0.session, .int .u64 f.c0.number, .string f.c0.text]) rfl Tryd.underlying50 (by kernel_rfl) rfl rfl rfl rfl rfl rfl rfl (know_blk (j := 0) rfl (fun q hq => by rw [Nat.zero_add, List.getElem?_toArray])) rfl rfl (by omega) (by unfold maxLen; omega) (fun Ag4 cg4 hg4 => ?_)
    refine run_mv rfl ?_
    refine run_endops ?_
    refine run_endblock ?_
    refine run_region (todo := [0, 1, 2]) rfl rfl ?_
    refine run_mv rfl ?_
    refine run_rd (v := .int .i64 1) rfl (rd_add (r := 1) (by decide)) ?_
    refine run_mv rfl ?_
    refine run_endops ?_
    refine run_again ?_
    refine run_seq rfl ?_
    refine run_seq rfl ?_
    refine run_region (todo := [0, 1]) rfl rfl ?_
    refine run_mv rfl ?_
    refine run_rd (v := .bool true) rfl (rd_cmp rfl rfl) ?_
    refine run_endops ?_
    refine run_true rfl rfl ?_
    refine run_skip rfl ?_
    refine run_seq rfl ?_
    refine run_block rfl ?_
    refine run_seq rfl ?_
    refine run_region (todo := [0, 1, 2, 3, 4, 5, 6]) rfl rfl ?_
    refine run_mv rfl ?_
    refine run_mv rfl ?_
    refine run_rd (v := .pointer (some ⟨g1, 24, none⟩)) rfl (rd_indexAddrA (m := 2) (o := 24) Tryd.underlying33 rfl (by decide) Tryd.sizeOf31 rfl) ?_
    refine run_rd (v := .pointer (some ⟨g1, 30, none⟩)) rfl (rd_indexAddrA (m := 1) (o := 30) Tryd.underlying31 rfl (by decide) Tryd.sizeOf30 rfl) ?_
    refine run_rd (v := .agg #[.int .i64 f.c1.kind, .int .i64 f.c1.service, .int .i64 f.c1.group, .int .u64 f.c1.session, .int .u64 f.c1.number, .string f.c1.text]) rfl (rd_loadA (j := 2) (u := #[.int .i64 f.c1.kind, .int .i64 f.c1.service, .int .i64 f.c1.group, .int .u64 f.c1.session, .int .u64 f.c1.number, .string f.c1.text]) Tryd.isAgg30 Tryd.sizeOf30 rfl rfl (by kernel_rfl)) ?_
    refine run_rd (v := .agg #[.int .i64 0, .int .i64 0, .int .i64 0, .int .u64 0, .int .u64 0, .string ⟨#[]⟩]) rfl ((fun w _ => by kernel_rfl)) ?_
    refine run_rd (v := .bool (decide (f.c1 ≠ Ent.zero))) rfl (rd_ent_nz hf.c1) ?_
    refine run_endops ?_
    refine run_if rfl rfl (fun hb2 => ?_) (fun hb2 => ?_)
    · have hb2p := of_decide_eq_true hb2
      refine run_region (todo := [0, 1, 2, 3, 4, 5, 6, 7, 8]) rfl rfl ?_
      refine run_mv rfl ?_
      refine run_mv rfl ?_
      refine run_mv rfl ?_
      refine run_rd (v := .pointer (some ⟨g1, 24, none⟩)) rfl (rd_indexAddrA (m := 2) (o := 24) Tryd.underlying33 rfl (by decide) Tryd.sizeOf31 rfl) ?_
      refine run_rd (v := .pointer (some ⟨g1, 30, none⟩)) rfl (rd_indexAddrA (m := 1) (o := 30) Tryd.underlying31 rfl (by decide) Tryd.sizeOf30 rfl) ?_
      refine run_rd (v := .agg #[.int .i64 f.c1.kind, .int .i64 f.c1.service, .int .i64 f.c1.group, .int .u64 f.c1.session, .int .u64 f.c1.number, .string f.c1.text]) rfl (rd_loadA (j := 2) (u := #[.int .i64 f.c1.kind, .int .i64 f.c1.service, .int .i64 f.c1.group, .int .u64 f.c1.session, .int .u64 f.c1.number, .string f.c1.text]) Tryd.isAgg30 Tryd.sizeOf30 rfl rfl (by kernel_rfl)) ?_
      refine run_lit (c := #[.int .i64 f.c1.kind, .int .i64 f.c1.service, .int .i64 f.c1.group, .int .u64 f.c1.session, .int .u64 f.c1.number, .string f.c1.text]) rfl Tryd.underlying50 Tryd.sizeOf30 Tryd.zeroValue30 rfl rfl (by kernel_rfl) (fun g5 => ?_)
      refine run_append (j := 2) (ti := Tryd.t30) (z := Ent.zero.val) (size := 6) (bytes := 56) (news := [.int .i64 f.c1.kind, .int .i64 f.c1.service, .int .i64 f.c1.group, .int .u64 f.c1.session, .int .u64 f.c1.number, .string f.c1.text]) rfl Tryd.underlying50 (by kernel_rfl) rfl rfl rfl rfl rfl rfl rfl (know_blk (j := 0) rfl (fun q hq => by rw [Nat.zero_add, List.getElem?_toArray])) rfl rfl (by omega) (by unfold maxLen; omega) (fun Ag6 cg6 hg6 => ?_)
      refine run_mv rfl ?_
      refine run_endops ?_
      refine run_endblock ?_
      refine run_region (todo := [0, 1, 2]) rfl rfl ?_
      refine run_mv rfl ?_
      refine run_rd (v := .int .i64 2) rfl (rd_add (r := 2) (by decide)) ?_
      refine run_mv rfl ?_
      refine run_endops ?_
      refine run_again ?_
      refine run_seq rfl ?_
      refine run_seq rfl ?_
      refine run_region (todo := [0, 1]) rfl rfl ?_
      refine run_mv rfl ?_
      refine run_rd (v := .bool false) rfl (rd_cmp rfl rfl) ?_
      refine run_endops ?_
      refine run_false rfl rfl ?_
      refine run_exit rfl rfl ?_
      refine run_seq rfl ?_
      refine run_region (todo := [0, 1]) rfl rfl ?_
      refine run_mv rfl ?_
      refine run_mv rfl ?_
      refine run_endops ?_
      refine run_retS (v := .slice Ag6 2 cg6) (H' := [.row Ag6 cg6 30 6 2 ([] ++ [.int .i64 f.c0.kind, .int .i64 f.c0.service, .int .i64 f.c0.group, .int .u64 f.c0.session, .int .u64 f.c0.number, .string f.c0.text] ++ [.int .i64 f.c1.kind, .int .i64 f.c1.service, .int .i64 f.c1.group, .int .u64 f.c1.session, .int .u64 f.c1.number, .string f.c1.text])]) [2] rfl (res1 rfl rfl) ⟨rfl, trivial⟩ (by decide) ?_
      have e : f.lane 2 = [f.c0, f.c1] := by simp [Fr.lane, Fr.two, hb1p, hb2p]
      rw [e]
      exact ⟨_, _, rfl, rfl⟩
    · have hb2p := of_decide_eq_false hb2
      refine run_skip rfl ?_
      refine run_endblock ?_
      refine run_region (todo := [0, 1, 2]) rfl rfl ?_
      refine run_mv rfl ?_
      refine run_rd (v := .int .i64 2) rfl (rd_add (r := 2) (by decide)) ?_
      refine run_mv rfl ?_
      refine run_endops ?_
      refine run_again ?_
      refine run_seq rfl ?_
      refine run_seq rfl ?_
      refine run_region (todo := [0, 1]) rfl rfl ?_
      refine run_mv rfl ?_
      refine run_rd (v := .bool false) rfl (rd_cmp rfl rfl) ?_
      refine run_endops ?_
      refine run_false rfl rfl ?_
      refine run_exit rfl rfl ?_
      refine run_seq rfl ?_
      refine run_region (todo := [0, 1]) rfl rfl ?_
      refine run_mv rfl ?_
      refine run_mv rfl ?_
      refine run_endops ?_
      refine run_retS (v := .slice Ag4 1 cg4) (H' := [.row Ag4 cg4 30 6 1 ([] ++ [.int .i64 f.c0.kind, .int .i64 f.c0.service, .int .i64 f.c0.group, .int .u64 f.c0.session, .int .u64 f.c0.number, .string f.c0.text])]) [1] rfl (res1 rfl rfl) ⟨rfl, trivial⟩ (by decide) ?_
      have e : f.lane 2 = [f.c0] := by simp [Fr.lane, Fr.two, hb1p, hb2p]
      rw [e]
      exact ⟨_, _, rfl, rfl⟩
  · have hb1p := of_decide_eq_false hb1
    refine run_skip rfl ?_
    refine run_endblock ?_
    refine run_region (todo := [0, 1, 2]) rfl rfl ?_
    refine run_mv rfl ?_
    refine run_rd (v := .int .i64 1) rfl (rd_add (r := 1) (by decide)) ?_
    refine run_mv rfl ?_
    refine run_endops ?_
    refine run_again ?_
    refine run_seq rfl ?_
    refine run_seq rfl ?_
    refine run_region (todo := [0, 1]) rfl rfl ?_
    refine run_mv rfl ?_
    refine run_rd (v := .bool true) rfl (rd_cmp rfl rfl) ?_
    refine run_endops ?_
    refine run_true rfl rfl ?_
    refine run_skip rfl ?_
    refine run_seq rfl ?_
    refine run_block rfl ?_
    refine run_seq rfl ?_
    refine run_region (todo := [0, 1, 2, 3, 4, 5, 6]) rfl rfl ?_
    refine run_mv rfl ?_
    refine run_mv rfl ?_
    refine run_rd (v := .pointer (some ⟨g1, 24, none⟩)) rfl (rd_indexAddrA (m := 2) (o := 24) Tryd.underlying33 rfl (by decide) Tryd.sizeOf31 rfl) ?_
    refine run_rd (v := .pointer (some ⟨g1, 30, none⟩)) rfl (rd_indexAddrA (m := 1) (o := 30) Tryd.underlying31 rfl (by decide) Tryd.sizeOf30 rfl) ?_
    refine run_rd (v := .agg #[.int .i64 f.c1.kind, .int .i64 f.c1.service, .int .i64 f.c1.group, .int .u64 f.c1.session, .int .u64 f.c1.number, .string f.c1.text]) rfl (rd_loadA (j := 1) (u := #[.int .i64 f.c1.kind, .int .i64 f.c1.service, .int .i64 f.c1.group, .int .u64 f.c1.session, .int .u64 f.c1.number, .string f.c1.text]) Tryd.isAgg30 Tryd.sizeOf30 rfl rfl (by kernel_rfl)) ?_
    refine run_rd (v := .agg #[.int .i64 0, .int .i64 0, .int .i64 0, .int .u64 0, .int .u64 0, .string ⟨#[]⟩]) rfl ((fun w _ => by kernel_rfl)) ?_
    refine run_rd (v := .bool (decide (f.c1 ≠ Ent.zero))) rfl (rd_ent_nz hf.c1) ?_
    refine run_endops ?_
    refine run_if rfl rfl (fun hb3 => ?_) (fun hb3 => ?_)
    · have hb3p := of_decide_eq_true hb3
      refine run_region (todo := [0, 1, 2, 3, 4, 5, 6, 7, 8]) rfl rfl ?_
      refine run_mv rfl ?_
      refine run_mv rfl ?_
      refine run_mv rfl ?_
      refine run_rd (v := .pointer (some ⟨g1, 24, none⟩)) rfl (rd_indexAddrA (m := 2) (o := 24) Tryd.underlying33 rfl (by decide) Tryd.sizeOf31 rfl) ?_
      refine run_rd (v := .pointer (some ⟨g1, 30, none⟩)) rfl (rd_indexAddrA (m := 1) (o := 30) Tryd.underlying31 rfl (by decide) Tryd.sizeOf30 rfl) ?_
      refine run_rd (v := .agg #[.int .i64 f.c1.kind, .int .i64 f.c1.service, .int .i64 f.c1.group, .int .u64 f.c1.session, .int .u64 f.c1.number, .string f.c1.text]) rfl (rd_loadA (j := 1) (u := #[.int .i64 f.c1.kind, .int .i64 f.c1.service, .int .i64 f.c1.group, .int .u64 f.c1.session, .int .u64 f.c1.number, .string f.c1.text]) Tryd.isAgg30 Tryd.sizeOf30 rfl rfl (by kernel_rfl)) ?_
      refine run_lit (c := #[.int .i64 f.c1.kind, .int .i64 f.c1.service, .int .i64 f.c1.group, .int .u64 f.c1.session, .int .u64 f.c1.number, .string f.c1.text]) rfl Tryd.underlying50 Tryd.sizeOf30 Tryd.zeroValue30 rfl rfl (by kernel_rfl) (fun g7 => ?_)
      refine run_append (j := 1) (ti := Tryd.t30) (z := Ent.zero.val) (size := 6) (bytes := 56) (news := [.int .i64 f.c1.kind, .int .i64 f.c1.service, .int .i64 f.c1.group, .int .u64 f.c1.session, .int .u64 f.c1.number, .string f.c1.text]) rfl Tryd.underlying50 (by kernel_rfl) rfl rfl rfl rfl rfl rfl rfl (know_blk (j := 0) rfl (fun q hq => by rw [Nat.zero_add, List.getElem?_toArray])) rfl rfl (by omega) (by unfold maxLen; omega) (fun Ag8 cg8 hg8 => ?_)
      refine run_mv rfl ?_
      refine run_endops ?_
      refine run_endblock ?_
      refine run_region (todo := [0, 1, 2]) rfl rfl ?_
      refine run_mv rfl ?_
      refine run_rd (v := .int .i64 2) rfl (rd_add (r := 2) (by decide)) ?_
      refine run_mv rfl ?_
      refine run_endops ?_
      refine run_again ?_
      refine run_seq rfl ?_
      refine run_seq rfl ?_
      refine run_region (todo := [0, 1]) rfl rfl ?_
      refine run_mv rfl ?_
      refine run_rd (v := .bool false) rfl (rd_cmp rfl rfl) ?_
      refine run_endops ?_
      refine run_false rfl rfl ?_
      refine run_exit rfl rfl ?_
      refine run_seq rfl ?_
      refine run_region (todo := [0, 1]) rfl rfl ?_
      refine run_mv rfl ?_
      refine run_mv rfl ?_
      refine run_endops ?_
      refine run_retS (v := .slice Ag8 1 cg8) (H' := [.row Ag8 cg8 30 6 1 ([] ++ [.int .i64 f.c1.kind, .int .i64 f.c1.service, .int .i64 f.c1.group, .int .u64 f.c1.session, .int .u64 f.c1.number, .string f.c1.text])]) [1] rfl (res1 rfl rfl) ⟨rfl, trivial⟩ (by decide) ?_
      have e : f.lane 2 = [f.c1] := by simp [Fr.lane, Fr.two, hb1p, hb3p]
      rw [e]
      exact ⟨_, _, rfl, rfl⟩
    · have hb3p := of_decide_eq_false hb3
      refine run_skip rfl ?_
      refine run_endblock ?_
      refine run_region (todo := [0, 1, 2]) rfl rfl ?_
      refine run_mv rfl ?_
      refine run_rd (v := .int .i64 2) rfl (rd_add (r := 2) (by decide)) ?_
      refine run_mv rfl ?_
      refine run_endops ?_
      refine run_again ?_
      refine run_seq rfl ?_
      refine run_seq rfl ?_
      refine run_region (todo := [0, 1]) rfl rfl ?_
      refine run_mv rfl ?_
      refine run_rd (v := .bool false) rfl (rd_cmp rfl rfl) ?_
      refine run_endops ?_
      refine run_false rfl rfl ?_
      refine run_exit rfl rfl ?_
      refine run_seq rfl ?_
      refine run_region (todo := [0, 1]) rfl rfl ?_
      refine run_mv rfl ?_
      refine run_mv rfl ?_
      refine run_endops ?_
      refine run_retS (v := .slice (some ⟨g2, 0, none⟩) 0 0) (H' := [.row (some ⟨g2, 0, none⟩) 0 30 6 0 []]) [0] rfl (res1 rfl rfl) ⟨rfl, trivial⟩ (by decide) ?_
      have e : f.lane 2 = [] := by simp [Fr.lane, Fr.two, hb1p, hb3p]
      rw [e]
      exact ⟨_, _, rfl, rfl⟩

theorem rlane_neg (f : Fr) (t : Int) (ht : t < 0) (w0 : World) : Fn Tryd.prog 19 #[f.val, .int .i64 t] w0 (fun v h => ∃ A c, v = .slice A (f.lane t).length c ∧ h = [.row A c 30 6 (f.lane t).length (encE.row (f.lane t))]) := by
  have hout : t < 0 ∨ 3 ≤ t := by omega
  have d0 : decide (t < 0) = true := decide_eq_true ht
  refine fn_of_run Tryd.func19 rfl rfl ?_
  refine run_seq rfl ?_
  refine run_region (todo := [0, 1]) rfl rfl ?_
  refine run_box rfl (fun g1 => ?_)
  refine run_mv rfl ?_
  refine run_endops ?_
  refine run_seq rfl ?_
  refine run_region (todo := [0, 1]) rfl rfl ?_
  refine run_lit0 rfl Tryd.underlying50 Tryd.sizeOf30 (fun g2 => ?_)
  refine run_mv rfl ?_
  refine run_endops ?_
  refine run_seq rfl ?_
  refine run_seq rfl ?_
  refine run_region (todo := [0, 1, 2, 3, 4, 5]) rfl rfl ?_
  refine run_mv rfl ?_
  refine run_rd (v := .bool true) rfl (rd_cmp rfl d0) ?_
  refine run_mv rfl ?_
  refine run_skipped rfl ?_
  refine run_skipped rfl ?_
  refine run_pick (v := .bool true) rfl rfl ?_
  refine run_endops ?_
  refine run_true rfl rfl ?_
  refine run_seq rfl ?_
  refine run_region (todo := [0, 1]) rfl rfl ?_
  refine run_mv rfl ?_
  refine run_mv rfl ?_
  refine run_endops ?_
  refine run_retS (v := .slice (some ⟨g2, 0, none⟩) 0 0) (H' := [.row (some ⟨g2, 0, none⟩) 0 30 6 0 []]) [0] rfl (res1 rfl rfl) ⟨rfl, trivial⟩ (by decide) ?_
  have e : f.lane t = [] := by simp only [Fr.lane, Fr.two]; rw [if_neg (by omega), if_neg (by omega), if_neg (by omega)]; rfl
  rw [e]
  exact ⟨_, _, rfl, rfl⟩

theorem rlane_big (f : Fr) (t : Int) (ht : 3 ≤ t) (w0 : World) : Fn Tryd.prog 19 #[f.val, .int .i64 t] w0 (fun v h => ∃ A c, v = .slice A (f.lane t).length c ∧ h = [.row A c 30 6 (f.lane t).length (encE.row (f.lane t))]) := by
  have hout : t < 0 ∨ 3 ≤ t := by omega
  have d0 : decide (t < 0) = false := decide_eq_false (by omega)
  have d1 : decide (t > 2) = true := decide_eq_true (by omega)
  refine fn_of_run Tryd.func19 rfl rfl ?_
  refine run_seq rfl ?_
  refine run_region (todo := [0, 1]) rfl rfl ?_
  refine run_box rfl (fun g1 => ?_)
  refine run_mv rfl ?_
  refine run_endops ?_
  refine run_seq rfl ?_
  refine run_region (todo := [0, 1]) rfl rfl ?_
  refine run_lit0 rfl Tryd.underlying50 Tryd.sizeOf30 (fun g2 => ?_)
  refine run_mv rfl ?_
  refine run_endops ?_
  refine run_seq rfl ?_
  refine run_seq rfl ?_
  refine run_region (todo := [0, 1, 2, 3, 4, 5]) rfl rfl ?_
  refine run_mv rfl ?_
  refine run_rd (v := .bool false) rfl (rd_cmp rfl d0) ?_
  refine run_mv rfl ?_
  refine run_mvG rfl ?_
  refine run_rdG (v := .bool true) rfl (rd_cmp rfl d1) ?_
  refine run_pick (v := .bool true) rfl rfl ?_
  refine run_endops ?_
  refine run_true rfl rfl ?_
  refine run_seq rfl ?_
  refine run_region (todo := [0, 1]) rfl rfl ?_
  refine run_mv rfl ?_
  refine run_mv rfl ?_
  refine run_endops ?_
  refine run_retS (v := .slice (some ⟨g2, 0, none⟩) 0 0) (H' := [.row (some ⟨g2, 0, none⟩) 0 30 6 0 []]) [0] rfl (res1 rfl rfl) ⟨rfl, trivial⟩ (by decide) ?_
  have e : f.lane t = [] := by simp only [Fr.lane, Fr.two]; rw [if_neg (by omega), if_neg (by omega), if_neg (by omega)]; rfl
  rw [e]
  exact ⟨_, _, rfl, rfl⟩

theorem rlane_any (f : Fr) (hf : f.Ok) (t : Int) (w0 : World) : Fn Tryd.prog 19 #[f.val, .int .i64 t] w0 (fun v h => ∃ A c, v = .slice A (f.lane t).length c ∧ h = [.row A c 30 6 (f.lane t).length (encE.row (f.lane t))]) := by
  rcases (show t = 0 ∨ t = 1 ∨ t = 2 ∨ t < 0 ∨ 3 ≤ t by omega) with rfl | rfl | rfl | h | h
  · exact rlane_0 f hf w0
  · exact rlane_1 f hf w0
  · exact rlane_2 f hf w0
  · exact rlane_neg f t h w0
  · exact rlane_big f t h w0

end Go.Proofs.YthapghhmeicbnaaDoor
