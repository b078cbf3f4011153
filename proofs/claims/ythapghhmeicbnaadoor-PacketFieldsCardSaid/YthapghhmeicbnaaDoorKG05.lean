/- Frames: the coding walks of layer 4. Printed by wip/k/genF.py. -/
import Derived.Test.YthapghhmeicbnaaDoorKFw05
set_option linter.unusedVariables false
set_option linter.unusedSimpArgs false
namespace Go.Proofs.YthapghhmeicbnaaDoor
open Go.RowKit

set_option maxRecDepth 8000
theorem enc_tup {l m : List UInt8} {c d : Int} (h : l = m) (e : c = d) : Value.tuple #[.string (bs l), .int .i64 c] = .tuple #[.string (bs m), .int .i64 d] := by rw [h, e]
theorem dec_len {l : List UInt8} (hl : l.length ≠ 168) : Value.tuple #[Fr.zero.val, .int .i64 40] = .tuple #[(outF l).val, .int .i64 (outFC l)] := by
  have e1 : outF l = .zero := if_neg (fun h => hl h.1)
  have e2 : outFC l = 40 := if_neg hl
  rw [e1, e2]
theorem dec_bad {l : List UInt8} {c : Int} (hl : l.length = 168) (na : ¬ frAll l) (hc : c = 30) : Value.tuple #[Fr.zero.val, .int .i64 c] = .tuple #[(outF l).val, .int .i64 (outFC l)] := by
  have e1 : outF l = .zero := if_neg (fun h => na h.2)
  have e2 : outFC l = 30 := (if_pos hl).trans (if_neg na)
  rw [e1, e2, hc]
theorem dec_good {l : List UInt8} (hl : l.length = 168) (ya : frAll l) : Value.tuple #[(Fr.mk (sE l 0) (sE l 1) (sE l 2) (sE l 3) (sE l 4) (sE l 5)).val, .int .i64 0] = .tuple #[(outF l).val, .int .i64 (outFC l)] := by
  have e1 : outF l = ⟨sE l 0, sE l 1, sE l 2, sE l 3, sE l 4, sE l 5⟩ := if_pos ⟨hl, ya⟩
  have e2 : outFC l = 0 := (if_pos hl).trans (if_pos ya)
  rw [e1, e2]
structure Fr.May (f : Fr) : Prop where
  a0 : f.a0.may = true
  a1 : f.a1.may = true
  b0 : f.b0.may = true
  b1 : f.b1.may = true
  c0 : f.c0.may = true
  c1 : f.c1.may = true
theorem Fr.mayOf {f : Fr} (h : f.may = true) : f.May := by
  obtain ⟨h0, h1, h2, h3, h4, h5⟩ := Fr.may_iff.1 h
  exact ⟨h0, h1, h2, h3, h4, h5⟩

theorem rencode_yes (f : Fr) (hf : f.Ok) (hfm : f.may = true) : Pf Tryd.prog 46 #[f.val] (.tuple #[.string (bs f.bytes), .int .i64 0]) := by
  have hm := Fr.mayOf hfm
  have l0 := Ent.may_length hm.a0
  have l1 := Ent.may_length hm.a1
  have l2 := Ent.may_length hm.b0
  have l3 := Ent.may_length hm.b1
  have l4 := Ent.may_length hm.c0
  have l5 := Ent.may_length hm.c1
  refine pf_of_run Tryd.func46 rfl rfl (fun w0 => ?_)
  refine run_seq rfl ?_
  refine run_region (todo := [0, 1, 2]) rfl rfl ?_
  refine run_box rfl (fun g1 => ?_)
  refine run_mv rfl ?_
  refine run_mv rfl ?_
  refine run_endops ?_
  refine run_seq rfl ?_
  refine run_seq rfl ?_
  refine run_region (todo := [0, 1, 2]) rfl rfl ?_
  refine run_rd (v := .agg f.arr) rfl (rd_loadW (j := 0) Tryd.isAgg33 Tryd.sizeOf33 rfl rfl) ?_
  refine run_pf0 (v := .int .i64 0) rfl Tryd.call29 (by have h := pf_rfcheck f hf; rw [hfm] at h; exact h) ?_
  refine run_rd (v := .bool false) rfl (rd_cmp rfl rfl) ?_
  refine run_endops ?_
  refine run_false rfl rfl ?_
  refine run_skip rfl ?_
  refine run_seq rfl ?_
  refine run_region (todo := [0]) rfl rfl ?_
  refine run_mv rfl ?_
  refine run_endops ?_
  refine run_seq rfl ?_
  refine run_seq rfl ?_
  refine run_region (todo := [0]) rfl rfl ?_
  refine run_mv rfl ?_
  refine run_endops ?_
  refine run_block rfl ?_
  refine run_loop rfl ?_
  refine run_again ?_
  refine run_seq rfl ?_
  refine run_seq rfl ?_
  refine run_region (todo := [0, 1]) rfl rfl ?_
  refine run_mv rfl ?_
  refine run_rd (v := .bool true) rfl (rd_cmp rfl rfl) ?_
  refine run_endops ?_
  refine run_true rfl rfl ?_
  refine run_skip rfl ?_
  refine run_seq rfl ?_
  refine run_block rfl ?_
  refine run_seq rfl ?_
  refine run_region (todo := [0]) rfl rfl ?_
  refine run_mv rfl ?_
  refine run_endops ?_
  refine run_block rfl ?_
  refine run_loop rfl ?_
  refine run_again ?_
  refine run_seq rfl ?_
  refine run_seq rfl ?_
  refine run_region (todo := [0, 1]) rfl rfl ?_
  refine run_mv rfl ?_
  refine run_rd (v := .bool true) rfl (rd_cmp rfl rfl) ?_
  refine run_endops ?_
  refine run_true rfl rfl ?_
  refine run_skip rfl ?_
  refine run_seq rfl ?_
  refine run_block rfl ?_
  refine run_region (todo := [0, 1, 2, 3, 4, 5, 6, 7, 8]) rfl rfl ?_
  refine run_mv rfl ?_
  refine run_mv rfl ?_
  refine run_mv rfl ?_
  refine run_rd (v := .pointer (some ⟨g1, 0, none⟩)) rfl (rd_indexAddrA (m := 0) (o := 0) Tryd.underlying33 rfl (by decide) Tryd.sizeOf31 rfl) ?_
  refine run_rd (v := .pointer (some ⟨g1, 0, none⟩)) rfl (rd_indexAddrA (m := 0) (o := 0) Tryd.underlying31 rfl (by decide) Tryd.sizeOf30 rfl) ?_
  refine run_rd (v := .agg #[.int .i64 f.a0.kind, .int .i64 f.a0.service, .int .i64 f.a0.group, .int .u64 f.a0.session, .int .u64 f.a0.number, .string f.a0.text]) rfl (rd_loadA (j := 0) (u := #[.int .i64 f.a0.kind, .int .i64 f.a0.service, .int .i64 f.a0.group, .int .u64 f.a0.session, .int .u64 f.a0.number, .string f.a0.text]) Tryd.isAgg30 Tryd.sizeOf30 rfl rfl (by kernel_rfl)) ?_
  refine run_pf0 (v := .string (bs f.a0.bytes)) rfl Tryd.call61 (pf_rbytes f.a0 hf.a0 hm.a0) ?_
  refine run_rd (v := .string (bs (([] : List UInt8) ++ f.a0.bytes))) rfl (rd_cat (l := ([] : List UInt8)) (m := f.a0.bytes) (by simp only [List.length_append, List.length_nil]; omega) rfl) ?_
  refine run_mv rfl ?_
  refine run_endops ?_
  refine run_endblock ?_
  refine run_region (todo := [0, 1, 2]) rfl rfl ?_
  refine run_mv rfl ?_
  refine run_rd (v := .int .i64 1) rfl (rd_add (r := 1) (by decide)) ?_
  refine run_mv rfl ?_
  refine run_endops ?_
  refine run_again ?_
  refine run_seq rfl ?_
  refine run_seq rfl ?_
  refine run_region (todo := [0, 1]) rfl rfl ?_
  refine run_mv rfl ?_
  refine run_rd (v := .bool true) rfl (rd_cmp rfl rfl) ?_
  refine run_endops ?_
  refine run_true rfl rfl ?_
  refine run_skip rfl ?_
  refine run_seq rfl ?_
  refine run_block rfl ?_
  refine run_region (todo := [0, 1, 2, 3, 4, 5, 6, 7, 8]) rfl rfl ?_
  refine run_mv rfl ?_
  refine run_mv rfl ?_
  refine run_mv rfl ?_
  refine run_rd (v := .pointer (some ⟨g1, 0, none⟩)) rfl (rd_indexAddrA (m := 0) (o := 0) Tryd.underlying33 rfl (by decide) Tryd.sizeOf31 rfl) ?_
  refine run_rd (v := .pointer (some ⟨g1, 6, none⟩)) rfl (rd_indexAddrA (m := 1) (o := 6) Tryd.underlying31 rfl (by decide) Tryd.sizeOf30 rfl) ?_
  refine run_rd (v := .agg #[.int .i64 f.a1.kind, .int .i64 f.a1.service, .int .i64 f.a1.group, .int .u64 f.a1.session, .int .u64 f.a1.number, .string f.a1.text]) rfl (rd_loadA (j := 0) (u := #[.int .i64 f.a1.kind, .int .i64 f.a1.service, .int .i64 f.a1.group, .int .u64 f.a1.session, .int .u64 f.a1.number, .string f.a1.text]) Tryd.isAgg30 Tryd.sizeOf30 rfl rfl (by kernel_rfl)) ?_
  refine run_pf0 (v := .string (bs f.a1.bytes)) rfl Tryd.call61 (pf_rbytes f.a1 hf.a1 hm.a1) ?_
  refine run_rd (v := .string (bs ((([] : List UInt8) ++ f.a0.bytes) ++ f.a1.bytes))) rfl (rd_cat (l := (([] : List UInt8) ++ f.a0.bytes)) (m := f.a1.bytes) (by simp only [List.length_append, List.length_nil]; omega) rfl) ?_
  refine run_mv rfl ?_
  refine run_endops ?_
  refine run_endblock ?_
  refine run_region (todo := [0, 1, 2]) rfl rfl ?_
  refine run_mv rfl ?_
  refine run_rd (v := .int .i64 2) rfl (rd_add (r := 2) (by decide)) ?_
  refine run_mv rfl ?_
  refine run_endops ?_
  refine run_again ?_
  refine run_seq rfl ?_
  refine run_seq rfl ?_
  refine run_region (todo := [0, 1]) rfl rfl ?_
  refine run_mv rfl ?_
  refine run_rd (v := .bool false) rfl (rd_cmp rfl rfl) ?_
  refine run_endops ?_
  refine run_false rfl rfl ?_
  refine run_exit rfl rfl ?_
  refine run_endblock ?_
  refine run_region (todo := [0, 1, 2]) rfl rfl ?_
  refine run_mv rfl ?_
  refine run_rd (v := .int .i64 1) rfl (rd_add (r := 1) (by decide)) ?_
  refine run_mv rfl ?_
  refine run_endops ?_
  refine run_again ?_
  refine run_seq rfl ?_
  refine run_seq rfl ?_
  refine run_region (todo := [0, 1]) rfl rfl ?_
  refine run_mv rfl ?_
  refine run_rd (v := .bool true) rfl (rd_cmp rfl rfl) ?_
  refine run_endops ?_
  refine run_true rfl rfl ?_
  refine run_skip rfl ?_
  refine run_seq rfl ?_
  refine run_block rfl ?_
  refine run_seq rfl ?_
  refine run_region (todo := [0]) rfl rfl ?_
  refine run_mv rfl ?_
  refine run_endops ?_
  refine run_block rfl ?_
  refine run_loop rfl ?_
  refine run_again ?_
  refine run_seq rfl ?_
  refine run_seq rfl ?_
  refine run_region (todo := [0, 1]) rfl rfl ?_
  refine run_mv rfl ?_
  refine run_rd (v := .bool true) rfl (rd_cmp rfl rfl) ?_
  refine run_endops ?_
  refine run_true rfl rfl ?_
  refine run_skip rfl ?_
  refine run_seq rfl ?_
  refine run_block rfl ?_
  refine run_region (todo := [0, 1, 2, 3, 4, 5, 6, 7, 8]) rfl rfl ?_
  refine run_mv rfl ?_
  refine run_mv rfl ?_
  refine run_mv rfl ?_
  refine run_rd (v := .pointer (some ⟨g1, 12, none⟩)) rfl (rd_indexAddrA (m := 1) (o := 12) Tryd.underlying33 rfl (by decide) Tryd.sizeOf31 rfl) ?_
  refine run_rd (v := .pointer (some ⟨g1, 12, none⟩)) rfl (rd_indexAddrA (m := 0) (o := 12) Tryd.underlying31 rfl (by decide) Tryd.sizeOf30 rfl) ?_
  refine run_rd (v := .agg #[.int .i64 f.b0.kind, .int .i64 f.b0.service, .int .i64 f.b0.group, .int .u64 f.b0.session, .int .u64 f.b0.number, .string f.b0.text]) rfl (rd_loadA (j := 0) (u := #[.int .i64 f.b0.kind, .int .i64 f.b0.service, .int .i64 f.b0.group, .int .u64 f.b0.session, .int .u64 f.b0.number, .string f.b0.text]) Tryd.isAgg30 Tryd.sizeOf30 rfl rfl (by kernel_rfl)) ?_
  refine run_pf0 (v := .string (bs f.b0.bytes)) rfl Tryd.call61 (pf_rbytes f.b0 hf.b0 hm.b0) ?_
  refine run_rd (v := .string (bs (((([] : List UInt8) ++ f.a0.bytes) ++ f.a1.bytes) ++ f.b0.bytes))) rfl (rd_cat (l := ((([] : List UInt8) ++ f.a0.bytes) ++ f.a1.bytes)) (m := f.b0.bytes) (by simp only [List.length_append, List.length_nil]; omega) rfl) ?_
  refine run_mv rfl ?_
  refine run_endops ?_
  refine run_endblock ?_
  refine run_region (todo := [0, 1, 2]) rfl rfl ?_
  refine run_mv rfl ?_
  refine run_rd (v := .int .i64 1) rfl (rd_add (r := 1) (by decide)) ?_
  refine run_mv rfl ?_
  refine run_endops ?_
  refine run_again ?_
  refine run_seq rfl ?_
  refine run_seq rfl ?_
  refine run_region (todo := [0, 1]) rfl rfl ?_
  refine run_mv rfl ?_
  refine run_rd (v := .bool true) rfl (rd_cmp rfl rfl) ?_
  refine run_endops ?_
  refine run_true rfl rfl ?_
  refine run_skip rfl ?_
  refine run_seq rfl ?_
  refine run_block rfl ?_
  refine run_region (todo := [0, 1, 2, 3, 4, 5, 6, 7, 8]) rfl rfl ?_
  refine run_mv rfl ?_
  refine run_mv rfl ?_
  refine run_mv rfl ?_
  refine run_rd (v := .pointer (some ⟨g1, 12, none⟩)) rfl (rd_indexAddrA (m := 1) (o := 12) Tryd.underlying33 rfl (by decide) Tryd.sizeOf31 rfl) ?_
  refine run_rd (v := .pointer (some ⟨g1, 18, none⟩)) rfl (rd_indexAddrA (m := 1) (o := 18) Tryd.underlying31 rfl (by decide) Tryd.sizeOf30 rfl) ?_
  refine run_rd (v := .agg #[.int .i64 f.b1.kind, .int .i64 f.b1.service, .int .i64 f.b1.group, .int .u64 f.b1.session, .int .u64 f.b1.number, .string f.b1.text]) rfl (rd_loadA (j := 0) (u := #[.int .i64 f.b1.kind, .int .i64 f.b1.service, .int .i64 f.b1.group, .int .u64 f.b1.session, .int .u64 f.b1.number, .string f.b1.text]) Tryd.isAgg30 Tryd.sizeOf30 rfl rfl (by kernel_rfl)) ?_
  refine run_pf0 (v := .string (bs f.b1.bytes)) rfl Tryd.call61 (pf_rbytes f.b1 hf.b1 hm.b1) ?_
  refine run_rd (v := .string (bs ((((([] : List UInt8) ++ f.a0.bytes) ++ f.a1.bytes) ++ f.b0.bytes) ++ f.b1.bytes))) rfl (rd_cat (l := (((([] : List UInt8) ++ f.a0.bytes) ++ f.a1.bytes) ++ f.b0.bytes)) (m := f.b1.bytes) (by simp only [List.length_append, List.length_nil]; omega) rfl) ?_
  refine run_mv rfl ?_
  refine run_endops ?_
  refine run_endblock ?_
  refine run_region (todo := [0, 1, 2]) rfl rfl ?_
  refine run_mv rfl ?_
  refine run_rd (v := .int .i64 2) rfl (rd_add (r := 2) (by decide)) ?_
  refine run_mv rfl ?_
  refine run_endops ?_
  refine run_again ?_
  refine run_seq rfl ?_
  refine run_seq rfl ?_
  refine run_region (todo := [0, 1]) rfl rfl ?_
  refine run_mv rfl ?_
  refine run_rd (v := .bool false) rfl (rd_cmp rfl rfl) ?_
  refine run_endops ?_
  refine run_false rfl rfl ?_
  refine run_exit rfl rfl ?_
  refine run_endblock ?_
  refine run_region (todo := [0, 1, 2]) rfl rfl ?_
  refine run_mv rfl ?_
  refine run_rd (v := .int .i64 2) rfl (rd_add (r := 2) (by decide)) ?_
  refine run_mv rfl ?_
  refine run_endops ?_
  refine run_again ?_
  refine run_seq rfl ?_
  refine run_seq rfl ?_
  refine run_region (todo := [0, 1]) rfl rfl ?_
  refine run_mv rfl ?_
  refine run_rd (v := .bool true) rfl (rd_cmp rfl rfl) ?_
  refine run_endops ?_
  refine run_true rfl rfl ?_
  refine run_skip rfl ?_
  refine run_seq rfl ?_
  refine run_block rfl ?_
  refine run_seq rfl ?_
  refine run_region (todo := [0]) rfl rfl ?_
  refine run_mv rfl ?_
  refine run_endops ?_
  refine run_block rfl ?_
  refine run_loop rfl ?_
  refine run_again ?_
  refine run_seq rfl ?_
  refine run_seq rfl ?_
  refine run_region (todo := [0, 1]) rfl rfl ?_
  refine run_mv rfl ?_
  refine run_rd (v := .bool true) rfl (rd_cmp rfl rfl) ?_
  refine run_endops ?_
  refine run_true rfl rfl ?_
  refine run_skip rfl ?_
  refine run_seq rfl ?_
  refine run_block rfl ?_
  refine run_region (todo := [0, 1, 2, 3, 4, 5, 6, 7, 8]) rfl rfl ?_
  refine run_mv rfl ?_
  refine run_mv rfl ?_
  refine run_mv rfl ?_
  refine run_rd (v := .pointer (some ⟨g1, 24, none⟩)) rfl (rd_indexAddrA (m := 2) (o := 24) Tryd.underlying33 rfl (by decide) Tryd.sizeOf31 rfl) ?_
  refine run_rd (v := .pointer (some ⟨g1, 24, none⟩)) rfl (rd_indexAddrA (m := 0) (o := 24) Tryd.underlying31 rfl (by decide) Tryd.sizeOf30 rfl) ?_
  refine run_rd (v := .agg #[.int .i64 f.c0.kind, .int .i64 f.c0.service, .int .i64 f.c0.group, .int .u64 f.c0.session, .int .u64 f.c0.number, .string f.c0.text]) rfl (rd_loadA (j := 0) (u := #[.int .i64 f.c0.kind, .int .i64 f.c0.service, .int .i64 f.c0.group, .int .u64 f.c0.session, .int .u64 f.c0.number, .string f.c0.text]) Tryd.isAgg30 Tryd.sizeOf30 rfl rfl (by kernel_rfl)) ?_
  refine run_pf0 (v := .string (bs f.c0.bytes)) rfl Tryd.call61 (pf_rbytes f.c0 hf.c0 hm.c0) ?_
  refine run_rd (v := .string (bs (((((([] : List UInt8) ++ f.a0.bytes) ++ f.a1.bytes) ++ f.b0.bytes) ++ f.b1.bytes) ++ f.c0.bytes))) rfl (rd_cat (l := ((((([] : List UInt8) ++ f.a0.bytes) ++ f.a1.bytes) ++ f.b0.bytes) ++ f.b1.bytes)) (m := f.c0.bytes) (by simp only [List.length_append, List.length_nil]; omega) rfl) ?_
  refine run_mv rfl ?_
  refine run_endops ?_
  refine run_endblock ?_
  refine run_region (todo := [0, 1, 2]) rfl rfl ?_
  refine run_mv rfl ?_
  refine run_rd (v := .int .i64 1) rfl (rd_add (r := 1) (by decide)) ?_
  refine run_mv rfl ?_
  refine run_endops ?_
  refine run_again ?_
  refine run_seq rfl ?_
  refine run_seq rfl ?_
  refine run_region (todo := [0, 1]) rfl rfl ?_
  refine run_mv rfl ?_
  refine run_rd (v := .bool true) rfl (rd_cmp rfl rfl) ?_
  refine run_endops ?_
  refine run_true rfl rfl ?_
  refine run_skip rfl ?_
  refine run_seq rfl ?_
  refine run_block rfl ?_
  refine run_region (todo := [0, 1, 2, 3, 4, 5, 6, 7, 8]) rfl rfl ?_
  refine run_mv rfl ?_
  refine run_mv rfl ?_
  refine run_mv rfl ?_
  refine run_rd (v := .pointer (some ⟨g1, 24, none⟩)) rfl (rd_indexAddrA (m := 2) (o := 24) Tryd.underlying33 rfl (by decide) Tryd.sizeOf31 rfl) ?_
  refine run_rd (v := .pointer (some ⟨g1, 30, none⟩)) rfl (rd_indexAddrA (m := 1) (o := 30) Tryd.underlying31 rfl (by decide) Tryd.sizeOf30 rfl) ?_
  refine run_rd (v := .agg #[.int .i64 f.c1.kind, .int .i64 f.c1.service, .int .i64 f.c1.group, .int .u64 f.c1.session, .int .u64 f.c1.number, .string f.c1.text]) rfl (rd_loadA (j := 0) (u := #[.int .i64 f.c1.kind, .int .i64 f.c1.service, .int .i64 f.c1.group, .int .u64 f.c1.session, .int .u64 f.c1.number, .string f.c1.text]) Tryd.isAgg30 Tryd.sizeOf30 rfl rfl (by kernel_rfl)) ?_
  refine run_pf0 (v := .string (bs f.c1.bytes)) rfl Tryd.call61 (pf_rbytes f.c1 hf.c1 hm.c1) ?_
  refine run_rd (v := .string (bs ((((((([] : List UInt8) ++ f.a0.bytes) ++ f.a1.bytes) ++ f.b0.bytes) ++ f.b1.bytes) ++ f.c0.bytes) ++ f.c1.bytes))) rfl (rd_cat (l := (((((([] : List UInt8) ++ f.a0.bytes) ++ f.a1.bytes) ++ f.b0.bytes) ++ f.b1.bytes) ++ f.c0.bytes)) (m := f.c1.bytes) (by simp only [List.length_append, List.length_nil]; omega) rfl) ?_
  refine run_mv rfl ?_
  refine run_endops ?_
  refine run_endblock ?_
  refine run_region (todo := [0, 1, 2]) rfl rfl ?_
  refine run_mv rfl ?_
  refine run_rd (v := .int .i64 2) rfl (rd_add (r := 2) (by decide)) ?_
  refine run_mv rfl ?_
  refine run_endops ?_
  refine run_again ?_
  refine run_seq rfl ?_
  refine run_seq rfl ?_
  refine run_region (todo := [0, 1]) rfl rfl ?_
  refine run_mv rfl ?_
  refine run_rd (v := .bool false) rfl (rd_cmp rfl rfl) ?_
  refine run_endops ?_
  refine run_false rfl rfl ?_
  refine run_exit rfl rfl ?_
  refine run_endblock ?_
  refine run_region (todo := [0, 1, 2]) rfl rfl ?_
  refine run_mv rfl ?_
  refine run_rd (v := .int .i64 3) rfl (rd_add (r := 3) (by decide)) ?_
  refine run_mv rfl ?_
  refine run_endops ?_
  refine run_again ?_
  refine run_seq rfl ?_
  refine run_seq rfl ?_
  refine run_region (todo := [0, 1]) rfl rfl ?_
  refine run_mv rfl ?_
  refine run_rd (v := .bool false) rfl (rd_cmp rfl rfl) ?_
  refine run_endops ?_
  refine run_false rfl rfl ?_
  refine run_exit rfl rfl ?_
  refine run_seq rfl ?_
  refine run_region (todo := [0, 1, 2]) rfl rfl ?_
  refine run_mv rfl ?_
  refine run_mv rfl ?_
  refine run_mv rfl ?_
  refine run_endops ?_
  refine run_ret rfl (v := .tuple #[.string (bs ((((((([] : List UInt8) ++ f.a0.bytes) ++ f.a1.bytes) ++ f.b0.bytes) ++ f.b1.bytes) ++ f.c0.bytes) ++ f.c1.bytes)), .int .i64 0]) (res2 rfl rfl rfl) ?_
  exact congrArg (fun z => Value.tuple #[.string (bs z), .int .i64 0]) (by simp [Fr.bytes, List.append_assoc])

theorem rencode_no (f : Fr) (hf : f.Ok) (hfm : f.may = false) : Pf Tryd.prog 46 #[f.val] (.tuple #[.string ⟨#[]⟩, .int .i64 30]) := by
  refine pf_of_run Tryd.func46 rfl rfl (fun w0 => ?_)
  refine run_seq rfl ?_
  refine run_region (todo := [0, 1, 2]) rfl rfl ?_
  refine run_box rfl (fun g1 => ?_)
  refine run_mv rfl ?_
  refine run_mv rfl ?_
  refine run_endops ?_
  refine run_seq rfl ?_
  refine run_seq rfl ?_
  refine run_region (todo := [0, 1, 2]) rfl rfl ?_
  refine run_rd (v := .agg f.arr) rfl (rd_loadW (j := 0) Tryd.isAgg33 Tryd.sizeOf33 rfl rfl) ?_
  refine run_pf0 (v := .int .i64 30) rfl Tryd.call29 (by have h := pf_rfcheck f hf; rw [hfm] at h; exact h) ?_
  refine run_rd (v := .bool true) rfl (rd_cmp rfl rfl) ?_
  refine run_endops ?_
  refine run_true rfl rfl ?_
  refine run_seq rfl ?_
  refine run_region (todo := [0, 1]) rfl rfl ?_
  refine run_mv rfl ?_
  refine run_mv rfl ?_
  refine run_endops ?_
  refine run_ret rfl (v := .tuple #[.string ⟨#[]⟩, .int .i64 30]) (res2 rfl rfl rfl) ?_
  rfl

theorem pf_rfencode (f : Fr) (hf : f.Ok) : Pf Tryd.prog 46 #[f.val] (.tuple #[.string (bs f.enc), .int .i64 (okCode f.may)]) := by
  cases h : f.may with
  | true => unfold Fr.enc; rw [if_pos h]; exact rencode_yes f hf h
  | false => unfold Fr.enc; rw [if_neg (by rw [h]; decide)]; exact rencode_no f hf h

theorem pf_fencode (f : Fr) (hf : f.Ok) : Pf Tryd.prog 44 #[f.val] (.tuple #[.string (bs f.enc), .int .i64 (okCode f.may)]) := by
  have l0 := enc_le f.a0
  have l1 := enc_le f.a1
  have l2 := enc_le f.b0
  have l3 := enc_le f.b1
  have l4 := enc_le f.c0
  have l5 := enc_le f.c1
  refine pf_of_run Tryd.func44 rfl rfl (fun w0 => ?_)
  refine run_seq rfl ?_
  refine run_region (todo := [0, 1, 2]) rfl rfl ?_
  refine run_box rfl (fun g1 => ?_)
  refine run_mv rfl ?_
  refine run_mv rfl ?_
  refine run_endops ?_
  refine run_seq rfl ?_
  refine run_region (todo := [0]) rfl rfl ?_
  refine run_alloc rfl Tryd.zeroValue59 (fun g2 => ?_)
  refine run_endops ?_
  refine run_seq rfl ?_
  refine run_seq rfl ?_
  refine run_region (todo := [0, 1]) rfl rfl ?_
  refine run_rd (v := .agg f.arr) rfl (rd_loadW (j := 1) Tryd.isAgg33 Tryd.sizeOf33 rfl rfl) ?_
  refine run_mv rfl ?_
  refine run_endops ?_
  refine run_block rfl ?_
  refine run_loop rfl ?_
  refine run_again ?_
  refine run_seq rfl ?_
  refine run_region (todo := [0]) rfl rfl ?_
  refine run_rd (v := .bool true) rfl (rd_cmp rfl rfl) ?_
  refine run_endops ?_
  refine run_seq rfl ?_
  refine run_true rfl rfl ?_
  refine run_skip rfl ?_
  refine run_seq rfl ?_
  refine run_block rfl ?_
  refine run_seq rfl ?_
  refine run_region (todo := [0, 1, 2]) rfl rfl ?_
  refine run_rd (v := .agg #[.int .i64 f.a0.kind, .int .i64 f.a0.service, .int .i64 f.a0.group, .int .u64 f.a0.session, .int .u64 f.a0.number, .string f.a0.text, .int .i64 f.a1.kind, .int .i64 f.a1.service, .int .i64 f.a1.group, .int .u64 f.a1.session, .int .u64 f.a1.number, .string f.a1.text]) rfl (rd_indexA (m := 0) (u := #[.int .i64 f.a0.kind, .int .i64 f.a0.service, .int .i64 f.a0.group, .int .u64 f.a0.session, .int .u64 f.a0.number, .string f.a0.text, .int .i64 f.a1.kind, .int .i64 f.a1.service, .int .i64 f.a1.group, .int .u64 f.a1.session, .int .u64 f.a1.number, .string f.a1.text]) Tryd.underlying33 rfl (by decide) Tryd.isAgg31 Tryd.sizeOf31 (by kernel_rfl)) ?_
  refine run_alloc rfl Tryd.zeroValue31 (fun g3 => ?_)
  refine run_storeW (j := 0) (c' := #[.int .i64 f.a0.kind, .int .i64 f.a0.service, .int .i64 f.a0.group, .int .u64 f.a0.session, .int .u64 f.a0.number, .string f.a0.text, .int .i64 f.a1.kind, .int .i64 f.a1.service, .int .i64 f.a1.group, .int .u64 f.a1.session, .int .u64 f.a1.number, .string f.a1.text]) rfl Tryd.sizeOf31 rfl rfl rfl rfl rfl rfl ?_
  refine run_endops ?_
  refine run_seq rfl ?_
  refine run_region (todo := [0, 1]) rfl rfl ?_
  refine run_rd (v := .agg #[.int .i64 f.a0.kind, .int .i64 f.a0.service, .int .i64 f.a0.group, .int .u64 f.a0.session, .int .u64 f.a0.number, .string f.a0.text, .int .i64 f.a1.kind, .int .i64 f.a1.service, .int .i64 f.a1.group, .int .u64 f.a1.session, .int .u64 f.a1.number, .string f.a1.text]) rfl (rd_loadW (j := 0) Tryd.isAgg31 Tryd.sizeOf31 rfl rfl) ?_
  refine run_mv rfl ?_
  refine run_endops ?_
  refine run_block rfl ?_
  refine run_loop rfl ?_
  refine run_again ?_
  refine run_seq rfl ?_
  refine run_region (todo := [0]) rfl rfl ?_
  refine run_rd (v := .bool true) rfl (rd_cmp rfl rfl) ?_
  refine run_endops ?_
  refine run_seq rfl ?_
  refine run_true rfl rfl ?_
  refine run_skip rfl ?_
  refine run_seq rfl ?_
  refine run_block rfl ?_
  refine run_seq rfl ?_
  refine run_region (todo := [0, 1, 2]) rfl rfl ?_
  refine run_rd (v := .agg #[.int .i64 f.a0.kind, .int .i64 f.a0.service, .int .i64 f.a0.group, .int .u64 f.a0.session, .int .u64 f.a0.number, .string f.a0.text]) rfl (rd_indexA (m := 0) (u := #[.int .i64 f.a0.kind, .int .i64 f.a0.service, .int .i64 f.a0.group, .int .u64 f.a0.session, .int .u64 f.a0.number, .string f.a0.text]) Tryd.underlying31 rfl (by decide) Tryd.isAgg30 Tryd.sizeOf30 (by kernel_rfl)) ?_
  refine run_alloc rfl Tryd.zeroValue30 (fun g4 => ?_)
  refine run_storeW (j := 0) (c' := #[.int .i64 f.a0.kind, .int .i64 f.a0.service, .int .i64 f.a0.group, .int .u64 f.a0.session, .int .u64 f.a0.number, .string f.a0.text]) rfl Tryd.sizeOf30 rfl rfl rfl rfl rfl rfl ?_
  refine run_endops ?_
  refine run_seq rfl ?_
  refine run_region (todo := [0, 1, 2, 3, 4, 5, 6]) rfl rfl ?_
  refine run_rd (v := .agg #[.int .i64 f.a0.kind, .int .i64 f.a0.service, .int .i64 f.a0.group, .int .u64 f.a0.session, .int .u64 f.a0.number, .string f.a0.text]) rfl (rd_loadW (j := 0) Tryd.isAgg30 Tryd.sizeOf30 rfl rfl) ?_
  refine run_pf0 (v := .tuple #[.string (bs f.a0.enc), .int .i64 (okCode f.a0.may)]) rfl Tryd.call59 (pf_encode f.a0 hf.a0) ?_
  refine run_mv rfl ?_
  refine run_rd (v := .string (bs f.a0.enc)) rfl (rd_extract rfl) ?_
  refine run_rd (v := .int .i64 (okCode f.a0.may)) rfl (rd_extract rfl) ?_
  refine run_mv rfl ?_
  refine run_mv rfl ?_
  refine run_endops ?_
  refine run_seq rfl ?_
  refine run_seq rfl ?_
  refine run_region (todo := [0, 1]) rfl rfl ?_
  refine run_mv rfl ?_
  refine run_rd (v := .bool ((okCode f.a0.may) != 0)) rfl (rd_cmp rfl rfl) ?_
  refine run_endops ?_
  refine run_if rfl rfl (fun hb1 => ?_) (fun hb1 => ?_)
  · have hb1p := code_bad hb1
    refine run_seq rfl ?_
    refine run_region (todo := [0, 1, 2]) rfl rfl ?_
    refine run_mv rfl ?_
    refine run_mv rfl ?_
    refine run_mv rfl ?_
    refine run_endops ?_
    refine run_ret rfl (v := .tuple #[.string ⟨#[]⟩, .int .i64 (okCode f.a0.may)]) (res2 rfl rfl rfl) ?_
    simp [Fr.enc, Fr.may, Fr.list, okCode, bs, hb1p]
  · have hb1p := code_good hb1
    have ka0 : f.a0.enc.length = 28 := by rw [Ent.enc, if_pos hb1p]; exact Ent.may_length hb1p
    refine run_skip rfl ?_
    refine run_region (todo := [0, 1]) rfl rfl ?_
    refine run_mv rfl ?_
    refine run_nilrow (e := 5) (size := 1) ?_
    refine run_less (ρ' := [(0, .agg f.arr), (1, .pointer (some ⟨g1, 0, none⟩)), (2, .string ⟨#[]⟩), (3, .int .i64 0), (4, .pointer (some ⟨g2, 0, none⟩)), (6, .pointer (some ⟨g3, 0, none⟩)), (8, .pointer (some ⟨g4, 0, none⟩)), (9, .string (bs f.a0.enc)), (10, .int .i64 (okCode f.a0.may)), (11, .agg f.arr), (12, .int .i64 0), (13, .bool true), (14, .agg #[.int .i64 f.a0.kind, .int .i64 f.a0.service, .int .i64 f.a0.group, .int .u64 f.a0.session, .int .u64 f.a0.number, .string f.a0.text, .int .i64 f.a1.kind, .int .i64 f.a1.service, .int .i64 f.a1.group, .int .u64 f.a1.session, .int .u64 f.a1.number, .string f.a1.text]), (15, .agg #[.int .i64 f.a0.kind, .int .i64 f.a0.service, .int .i64 f.a0.group, .int .u64 f.a0.session, .int .u64 f.a0.number, .string f.a0.text, .int .i64 f.a1.kind, .int .i64 f.a1.service, .int .i64 f.a1.group, .int .u64 f.a1.session, .int .u64 f.a1.number, .string f.a1.text]), (16, .int .i64 0), (17, .bool true), (18, .agg #[.int .i64 f.a0.kind, .int .i64 f.a0.service, .int .i64 f.a0.group, .int .u64 f.a0.session, .int .u64 f.a0.number, .string f.a0.text]), (19, .tuple #[.string (bs f.a0.enc), .int .i64 (okCode f.a0.may)]), (20, .agg #[.int .i64 f.a0.kind, .int .i64 f.a0.service, .int .i64 f.a0.group, .int .u64 f.a0.session, .int .u64 f.a0.number, .string f.a0.text]), (21, .tuple #[.string (bs f.a0.enc), .int .i64 (okCode f.a0.may)]), (22, .string (bs f.a0.enc)), (23, .int .i64 (okCode f.a0.may)), (24, .int .i64 (okCode f.a0.may)), (25, .bool ((okCode f.a0.may) != 0)), (27, .string (bs f.a0.enc))]) (H' := [.blk g2 (.cells #[.pointer none, .slice none 0 0] 59), .row none 0 5 1 0 (Lib.strCells (bs [])), .blk g4 (.cells #[.int .i64 f.a0.kind, .int .i64 f.a0.service, .int .i64 f.a0.group, .int .u64 f.a0.session, .int .u64 f.a0.number, .string f.a0.text] 30), .blk g3 (.cells #[.int .i64 f.a0.kind, .int .i64 f.a0.service, .int .i64 f.a0.group, .int .u64 f.a0.session, .int .u64 f.a0.number, .string f.a0.text, .int .i64 f.a1.kind, .int .i64 f.a1.service, .int .i64 f.a1.group, .int .u64 f.a1.session, .int .u64 f.a1.number, .string f.a1.text] 31), .blk g1 (.cells f.arr 33)]) [3, 0, 1, 2, 4] ?_ ⟨rfl, rfl, rfl, rfl, rfl, rfl, rfl, rfl, rfl, rfl, rfl, rfl, rfl, rfl, rfl, rfl, rfl, rfl, rfl, rfl, rfl, rfl, rfl, rfl, rfl, trivial⟩ ⟨rfl, rfl, rfl, rfl, rfl, trivial⟩ (by decide)
    refine run_callH rfl Tryd.call42 (writeL (F := [.blk g4 (.cells #[.int .i64 f.a0.kind, .int .i64 f.a0.service, .int .i64 f.a0.group, .int .u64 f.a0.session, .int .u64 f.a0.number, .string f.a0.text] 30), .blk g3 (.cells #[.int .i64 f.a0.kind, .int .i64 f.a0.service, .int .i64 f.a0.group, .int .u64 f.a0.session, .int .u64 f.a0.number, .string f.a0.text, .int .i64 f.a1.kind, .int .i64 f.a1.service, .int .i64 f.a1.group, .int .u64 f.a1.session, .int .u64 f.a1.number, .string f.a1.text] 31), .blk g1 (.cells f.arr 33)]) (g := g2) (cap := 0) (A := none) none (.inl rfl) ([] : List UInt8) f.a0.enc (by simp only [List.length_append, List.length_nil]; omega)) (fun v H' hq => ?_)
    obtain ⟨rfl, Ag5, cg5, rfl⟩ := hq
    refine run_endops ?_
    refine run_endblock ?_
    refine run_region (todo := [0, 1]) rfl rfl ?_
    refine run_rd (v := .int .i64 1) rfl (rd_add (r := 1) (by decide)) ?_
    refine run_mv rfl ?_
    refine run_endops ?_
    refine run_again ?_
    refine run_seq rfl ?_
    refine run_region (todo := [0]) rfl rfl ?_
    refine run_rd (v := .bool true) rfl (rd_cmp rfl rfl) ?_
    refine run_endops ?_
    refine run_seq rfl ?_
    refine run_true rfl rfl ?_
    refine run_skip rfl ?_
    refine run_seq rfl ?_
    refine run_block rfl ?_
    refine run_seq rfl ?_
    refine run_region (todo := [0, 1, 2]) rfl rfl ?_
    refine run_rd (v := .agg #[.int .i64 f.a1.kind, .int .i64 f.a1.service, .int .i64 f.a1.group, .int .u64 f.a1.session, .int .u64 f.a1.number, .string f.a1.text]) rfl (rd_indexA (m := 1) (u := #[.int .i64 f.a1.kind, .int .i64 f.a1.service, .int .i64 f.a1.group, .int .u64 f.a1.session, .int .u64 f.a1.number, .string f.a1.text]) Tryd.underlying31 rfl (by decide) Tryd.isAgg30 Tryd.sizeOf30 (by kernel_rfl)) ?_
    refine run_alloc rfl Tryd.zeroValue30 (fun g6 => ?_)
    refine run_storeW (j := 0) (c' := #[.int .i64 f.a1.kind, .int .i64 f.a1.service, .int .i64 f.a1.group, .int .u64 f.a1.session, .int .u64 f.a1.number, .string f.a1.text]) rfl Tryd.sizeOf30 rfl rfl rfl rfl rfl rfl ?_
    refine run_endops ?_
    refine run_seq rfl ?_
    refine run_region (todo := [0, 1, 2, 3, 4, 5, 6]) rfl rfl ?_
    refine run_rd (v := .agg #[.int .i64 f.a1.kind, .int .i64 f.a1.service, .int .i64 f.a1.group, .int .u64 f.a1.session, .int .u64 f.a1.number, .string f.a1.text]) rfl (rd_loadW (j := 0) Tryd.isAgg30 Tryd.sizeOf30 rfl rfl) ?_
    refine run_pf0 (v := .tuple #[.string (bs f.a1.enc), .int .i64 (okCode f.a1.may)]) rfl Tryd.call59 (pf_encode f.a1 hf.a1) ?_
    refine run_mv rfl ?_
    refine run_rd (v := .string (bs f.a1.enc)) rfl (rd_extract rfl) ?_
    refine run_rd (v := .int .i64 (okCode f.a1.may)) rfl (rd_extract rfl) ?_
    refine run_mv rfl ?_
    refine run_mv rfl ?_
    refine run_endops ?_
    refine run_seq rfl ?_
    refine run_seq rfl ?_
    refine run_region (todo := [0, 1]) rfl rfl ?_
    refine run_mv rfl ?_
    refine run_rd (v := .bool ((okCode f.a1.may) != 0)) rfl (rd_cmp rfl rfl) ?_
    refine run_endops ?_
    refine run_if rfl rfl (fun hb2 => ?_) (fun hb2 => ?_)
    · have hb2p := code_bad hb2
      refine run_seq rfl ?_
      refine run_region (todo := [0, 1, 2]) rfl rfl ?_
      refine run_mv rfl ?_
      refine run_mv rfl ?_
      refine run_mv rfl ?_
      refine run_endops ?_
      refine run_ret rfl (v := .tuple #[.string ⟨#[]⟩, .int .i64 (okCode f.a1.may)]) (res2 rfl rfl rfl) ?_
      simp [Fr.enc, Fr.may, Fr.list, okCode, bs, hb1p, hb2p]
    · have hb2p := code_good hb2
      have ka1 : f.a1.enc.length = 28 := by rw [Ent.enc, if_pos hb2p]; exact Ent.may_length hb2p
      refine run_skip rfl ?_
      refine run_region (todo := [0, 1]) rfl rfl ?_
      refine run_mv rfl ?_
      refine run_less (ρ' := [(0, .agg f.arr), (1, .pointer (some ⟨g1, 0, none⟩)), (2, .string ⟨#[]⟩), (3, .int .i64 0), (4, .pointer (some ⟨g2, 0, none⟩)), (6, .pointer (some ⟨g3, 0, none⟩)), (8, .pointer (some ⟨g6, 0, none⟩)), (9, .string (bs f.a1.enc)), (10, .int .i64 (okCode f.a1.may)), (11, .agg f.arr), (12, .int .i64 0), (13, .bool true), (14, .agg #[.int .i64 f.a0.kind, .int .i64 f.a0.service, .int .i64 f.a0.group, .int .u64 f.a0.session, .int .u64 f.a0.number, .string f.a0.text, .int .i64 f.a1.kind, .int .i64 f.a1.service, .int .i64 f.a1.group, .int .u64 f.a1.session, .int .u64 f.a1.number, .string f.a1.text]), (15, .agg #[.int .i64 f.a0.kind, .int .i64 f.a0.service, .int .i64 f.a0.group, .int .u64 f.a0.session, .int .u64 f.a0.number, .string f.a0.text, .int .i64 f.a1.kind, .int .i64 f.a1.service, .int .i64 f.a1.group, .int .u64 f.a1.session, .int .u64 f.a1.number, .string f.a1.text]), (16, .int .i64 1), (17, .bool true), (18, .agg #[.int .i64 f.a1.kind, .int .i64 f.a1.service, .int .i64 f.a1.group, .int .u64 f.a1.session, .int .u64 f.a1.number, .string f.a1.text]), (19, .tuple #[.string (bs f.a1.enc), .int .i64 (okCode f.a1.may)]), (20, .agg #[.int .i64 f.a1.kind, .int .i64 f.a1.service, .int .i64 f.a1.group, .int .u64 f.a1.session, .int .u64 f.a1.number, .string f.a1.text]), (21, .tuple #[.string (bs f.a1.enc), .int .i64 (okCode f.a1.may)]), (22, .string (bs f.a1.enc)), (23, .int .i64 (okCode f.a1.may)), (24, .int .i64 (okCode f.a1.may)), (25, .bool ((okCode f.a1.may) != 0)), (27, .string (bs f.a1.enc)), (29, .int .i64 1)]) (H' := [.blk g2 (.cells #[.pointer (some ⟨g2, 0, none⟩), .slice Ag5 ((([] : List UInt8) ++ f.a0.enc).length) cg5] 59), .row Ag5 cg5 5 1 ((([] : List UInt8) ++ f.a0.enc).length) (Lib.strCells (bs (([] : List UInt8) ++ f.a0.enc))), .blk g6 (.cells #[.int .i64 f.a1.kind, .int .i64 f.a1.service, .int .i64 f.a1.group, .int .u64 f.a1.session, .int .u64 f.a1.number, .string f.a1.text] 30), .blk g4 (.cells #[.int .i64 f.a0.kind, .int .i64 f.a0.service, .int .i64 f.a0.group, .int .u64 f.a0.session, .int .u64 f.a0.number, .string f.a0.text] 30), .blk g3 (.cells #[.int .i64 f.a0.kind, .int .i64 f.a0.service, .int .i64 f.a0.group, .int .u64 f.a0.session, .int .u64 f.a0.number, .string f.a0.text, .int .i64 f.a1.kind, .int .i64 f.a1.service, .int .i64 f.a1.group, .int .u64 f.a1.session, .int .u64 f.a1.number, .string f.a1.text] 31), .blk g1 (.cells f.arr 33)]) [1, 2, 0, 3, 4, 5] ?_ ⟨rfl, rfl, rfl, rfl, rfl, rfl, rfl, rfl, rfl, rfl, rfl, rfl, rfl, rfl, rfl, rfl, rfl, rfl, rfl, rfl, rfl, rfl, rfl, rfl, rfl, rfl, trivial⟩ ⟨rfl, rfl, rfl, rfl, rfl, rfl, trivial⟩ (by decide)
      refine run_callH rfl Tryd.call42 (writeL (F := [.blk g6 (.cells #[.int .i64 f.a1.kind, .int .i64 f.a1.service, .int .i64 f.a1.group, .int .u64 f.a1.session, .int .u64 f.a1.number, .string f.a1.text] 30), .blk g4 (.cells #[.int .i64 f.a0.kind, .int .i64 f.a0.service, .int .i64 f.a0.group, .int .u64 f.a0.session, .int .u64 f.a0.number, .string f.a0.text] 30), .blk g3 (.cells #[.int .i64 f.a0.kind, .int .i64 f.a0.service, .int .i64 f.a0.group, .int .u64 f.a0.session, .int .u64 f.a0.number, .string f.a0.text, .int .i64 f.a1.kind, .int .i64 f.a1.service, .int .i64 f.a1.group, .int .u64 f.a1.session, .int .u64 f.a1.number, .string f.a1.text] 31), .blk g1 (.cells f.arr 33)]) (g := g2) (cap := cg5) (A := Ag5) (some ⟨g2, 0, none⟩) (.inr rfl) (([] : List UInt8) ++ f.a0.enc) f.a1.enc (by simp only [List.length_append, List.length_nil]; omega)) (fun v H' hq => ?_)
      obtain ⟨rfl, Ag7, cg7, rfl⟩ := hq
      refine run_endops ?_
      refine run_endblock ?_
      refine run_region (todo := [0, 1]) rfl rfl ?_
      refine run_rd (v := .int .i64 2) rfl (rd_add (r := 2) (by decide)) ?_
      refine run_mv rfl ?_
      refine run_endops ?_
      refine run_again ?_
      refine run_seq rfl ?_
      refine run_region (todo := [0]) rfl rfl ?_
      refine run_rd (v := .bool false) rfl (rd_cmp rfl rfl) ?_
      refine run_endops ?_
      refine run_seq rfl ?_
      refine run_false rfl rfl ?_
      refine run_exit rfl rfl ?_
      refine run_endblock ?_
      refine run_region (todo := [0, 1]) rfl rfl ?_
      refine run_rd (v := .int .i64 1) rfl (rd_add (r := 1) (by decide)) ?_
      refine run_mv rfl ?_
      refine run_endops ?_
      refine run_again ?_
      refine run_seq rfl ?_
      refine run_region (todo := [0]) rfl rfl ?_
      refine run_rd (v := .bool true) rfl (rd_cmp rfl rfl) ?_
      refine run_endops ?_
      refine run_seq rfl ?_
      refine run_true rfl rfl ?_
      refine run_skip rfl ?_
      refine run_seq rfl ?_
      refine run_block rfl ?_
      refine run_seq rfl ?_
      refine run_region (todo := [0, 1, 2]) rfl rfl ?_
      refine run_rd (v := .agg #[.int .i64 f.b0.kind, .int .i64 f.b0.service, .int .i64 f.b0.group, .int .u64 f.b0.session, .int .u64 f.b0.number, .string f.b0.text, .int .i64 f.b1.kind, .int .i64 f.b1.service, .int .i64 f.b1.group, .int .u64 f.b1.session, .int .u64 f.b1.number, .string f.b1.text]) rfl (rd_indexA (m := 1) (u := #[.int .i64 f.b0.kind, .int .i64 f.b0.service, .int .i64 f.b0.group, .int .u64 f.b0.session, .int .u64 f.b0.number, .string f.b0.text, .int .i64 f.b1.kind, .int .i64 f.b1.service, .int .i64 f.b1.group, .int .u64 f.b1.session, .int .u64 f.b1.number, .string f.b1.text]) Tryd.underlying33 rfl (by decide) Tryd.isAgg31 Tryd.sizeOf31 (by kernel_rfl)) ?_
      refine run_alloc rfl Tryd.zeroValue31 (fun g8 => ?_)
      refine run_storeW (j := 0) (c' := #[.int .i64 f.b0.kind, .int .i64 f.b0.service, .int .i64 f.b0.group, .int .u64 f.b0.session, .int .u64 f.b0.number, .string f.b0.text, .int .i64 f.b1.kind, .int .i64 f.b1.service, .int .i64 f.b1.group, .int .u64 f.b1.session, .int .u64 f.b1.number, .string f.b1.text]) rfl Tryd.sizeOf31 rfl rfl rfl rfl rfl rfl ?_
      refine run_endops ?_
      refine run_seq rfl ?_
      refine run_region (todo := [0, 1]) rfl rfl ?_
      refine run_rd (v := .agg #[.int .i64 f.b0.kind, .int .i64 f.b0.service, .int .i64 f.b0.group, .int .u64 f.b0.session, .int .u64 f.b0.number, .string f.b0.text, .int .i64 f.b1.kind, .int .i64 f.b1.service, .int .i64 f.b1.group, .int .u64 f.b1.session, .int .u64 f.b1.number, .string f.b1.text]) rfl (rd_loadW (j := 0) Tryd.isAgg31 Tryd.sizeOf31 rfl rfl) ?_
      refine run_mv rfl ?_
      refine run_endops ?_
      refine run_block rfl ?_
      refine run_loop rfl ?_
      refine run_again ?_
      refine run_seq rfl ?_
      refine run_region (todo := [0]) rfl rfl ?_
      refine run_rd (v := .bool true) rfl (rd_cmp rfl rfl) ?_
      refine run_endops ?_
      refine run_seq rfl ?_
      refine run_true rfl rfl ?_
      refine run_skip rfl ?_
      refine run_seq rfl ?_
      refine run_block rfl ?_
      refine run_seq rfl ?_
      refine run_region (todo := [0, 1, 2]) rfl rfl ?_
      refine run_rd (v := .agg #[.int .i64 f.b0.kind, .int .i64 f.b0.service, .int .i64 f.b0.group, .int .u64 f.b0.session, .int .u64 f.b0.number, .string f.b0.text]) rfl (rd_indexA (m := 0) (u := #[.int .i64 f.b0.kind, .int .i64 f.b0.service, .int .i64 f.b0.group, .int .u64 f.b0.session, .int .u64 f.b0.number, .string f.b0.text]) Tryd.underlying31 rfl (by decide) Tryd.isAgg30 Tryd.sizeOf30 (by kernel_rfl)) ?_
      refine run_alloc rfl Tryd.zeroValue30 (fun g9 => ?_)
      refine run_storeW (j := 0) (c' := #[.int .i64 f.b0.kind, .int .i64 f.b0.service, .int .i64 f.b0.group, .int .u64 f.b0.session, .int .u64 f.b0.number, .string f.b0.text]) rfl Tryd.sizeOf30 rfl rfl rfl rfl rfl rfl ?_
      refine run_endops ?_
      refine run_seq rfl ?_
      refine run_region (todo := [0, 1, 2, 3, 4, 5, 6]) rfl rfl ?_
      refine run_rd (v := .agg #[.int .i64 f.b0.kind, .int .i64 f.b0.service, .int .i64 f.b0.group, .int .u64 f.b0.session, .int .u64 f.b0.number, .string f.b0.text]) rfl (rd_loadW (j := 0) Tryd.isAgg30 Tryd.sizeOf30 rfl rfl) ?_
      refine run_pf0 (v := .tuple #[.string (bs f.b0.enc), .int .i64 (okCode f.b0.may)]) rfl Tryd.call59 (pf_encode f.b0 hf.b0) ?_
      refine run_mv rfl ?_
      refine run_rd (v := .string (bs f.b0.enc)) rfl (rd_extract rfl) ?_
      refine run_rd (v := .int .i64 (okCode f.b0.may)) rfl (rd_extract rfl) ?_
      refine run_mv rfl ?_
      refine run_mv rfl ?_
      refine run_endops ?_
      refine run_seq rfl ?_
      refine run_seq rfl ?_
      refine run_region (todo := [0, 1]) rfl rfl ?_
      refine run_mv rfl ?_
      refine run_rd (v := .bool ((okCode f.b0.may) != 0)) rfl (rd_cmp rfl rfl) ?_
      refine run_endops ?_
      refine run_if rfl rfl (fun hb3 => ?_) (fun hb3 => ?_)
      · have hb3p := code_bad hb3
        refine run_seq rfl ?_
        refine run_region (todo := [0, 1, 2]) rfl rfl ?_
        refine run_mv rfl ?_
        refine run_mv rfl ?_
        refine run_mv rfl ?_
        refine run_endops ?_
        refine run_ret rfl (v := .tuple #[.string ⟨#[]⟩, .int .i64 (okCode f.b0.may)]) (res2 rfl rfl rfl) ?_
        simp [Fr.enc, Fr.may, Fr.list, okCode, bs, hb1p, hb2p, hb3p]
      · have hb3p := code_good hb3
        have kb0 : f.b0.enc.length = 28 := by rw [Ent.enc, if_pos hb3p]; exact Ent.may_length hb3p
        refine run_skip rfl ?_
        refine run_region (todo := [0, 1]) rfl rfl ?_
        refine run_mv rfl ?_
        refine run_less (ρ' := [(0, .agg f.arr), (1, .pointer (some ⟨g1, 0, none⟩)), (2, .string ⟨#[]⟩), (3, .int .i64 0), (4, .pointer (some ⟨g2, 0, none⟩)), (6, .pointer (some ⟨g8, 0, none⟩)), (8, .pointer (some ⟨g9, 0, none⟩)), (9, .string (bs f.b0.enc)), (10, .int .i64 (okCode f.b0.may)), (11, .agg f.arr), (12, .int .i64 1), (13, .bool true), (14, .agg #[.int .i64 f.b0.kind, .int .i64 f.b0.service, .int .i64 f.b0.group, .int .u64 f.b0.session, .int .u64 f.b0.number, .string f.b0.text, .int .i64 f.b1.kind, .int .i64 f.b1.service, .int .i64 f.b1.group, .int .u64 f.b1.session, .int .u64 f.b1.number, .string f.b1.text]), (15, .agg #[.int .i64 f.b0.kind, .int .i64 f.b0.service, .int .i64 f.b0.group, .int .u64 f.b0.session, .int .u64 f.b0.number, .string f.b0.text, .int .i64 f.b1.kind, .int .i64 f.b1.service, .int .i64 f.b1.group, .int .u64 f.b1.session, .int .u64 f.b1.number, .string f.b1.text]), (16, .int .i64 0), (17, .bool true), (18, .agg #[.int .i64 f.b0.kind, .int .i64 f.b0.service, .int .i64 f.b0.group, .int .u64 f.b0.session, .int .u64 f.b0.number, .string f.b0.text]), (19, .tuple #[.string (bs f.b0.enc), .int .i64 (okCode f.b0.may)]), (20, .agg #[.int .i64 f.b0.kind, .int .i64 f.b0.service, .int .i64 f.b0.group, .int .u64 f.b0.session, .int .u64 f.b0.number, .string f.b0.text]), (21, .tuple #[.string (bs f.b0.enc), .int .i64 (okCode f.b0.may)]), (22, .string (bs f.b0.enc)), (23, .int .i64 (okCode f.b0.may)), (24, .int .i64 (okCode f.b0.may)), (25, .bool ((okCode f.b0.may) != 0)), (27, .string (bs f.b0.enc)), (29, .int .i64 2), (30, .int .i64 1)]) (H' := [.blk g2 (.cells #[.pointer (some ⟨g2, 0, none⟩), .slice Ag7 (((([] : List UInt8) ++ f.a0.enc) ++ f.a1.enc).length) cg7] 59), .row Ag7 cg7 5 1 (((([] : List UInt8) ++ f.a0.enc) ++ f.a1.enc).length) (Lib.strCells (bs ((([] : List UInt8) ++ f.a0.enc) ++ f.a1.enc))), .blk g9 (.cells #[.int .i64 f.b0.kind, .int .i64 f.b0.service, .int .i64 f.b0.group, .int .u64 f.b0.session, .int .u64 f.b0.number, .string f.b0.text] 30), .blk g8 (.cells #[.int .i64 f.b0.kind, .int .i64 f.b0.service, .int .i64 f.b0.group, .int .u64 f.b0.session, .int .u64 f.b0.number, .string f.b0.text, .int .i64 f.b1.kind, .int .i64 f.b1.service, .int .i64 f.b1.group, .int .u64 f.b1.session, .int .u64 f.b1.number, .string f.b1.text] 31), .blk g6 (.cells #[.int .i64 f.a1.kind, .int .i64 f.a1.service, .int .i64 f.a1.group, .int .u64 f.a1.session, .int .u64 f.a1.number, .string f.a1.text] 30), .blk g4 (.cells #[.int .i64 f.a0.kind, .int .i64 f.a0.service, .int .i64 f.a0.group, .int .u64 f.a0.session, .int .u64 f.a0.number, .string f.a0.text] 30), .blk g3 (.cells #[.int .i64 f.a0.kind, .int .i64 f.a0.service, .int .i64 f.a0.group, .int .u64 f.a0.session, .int .u64 f.a0.number, .string f.a0.text, .int .i64 f.a1.kind, .int .i64 f.a1.service, .int .i64 f.a1.group, .int .u64 f.a1.session, .int .u64 f.a1.number, .string f.a1.text] 31), .blk g1 (.cells f.arr 33)]) [2, 3, 0, 1, 4, 5, 6, 7] ?_ ⟨rfl, rfl, rfl, rfl, rfl, rfl, rfl, rfl, rfl, rfl, rfl, rfl, rfl, rfl, rfl, rfl, rfl, rfl, rfl, rfl, rfl, rfl, rfl, rfl, rfl, rfl, rfl, trivial⟩ ⟨rfl, rfl, rfl, rfl, rfl, rfl, rfl, rfl, trivial⟩ (by decide)
        refine run_callH rfl Tryd.call42 (writeL (F := [.blk g9 (.cells #[.int .i64 f.b0.kind, .int .i64 f.b0.service, .int .i64 f.b0.group, .int .u64 f.b0.session, .int .u64 f.b0.number, .string f.b0.text] 30), .blk g8 (.cells #[.int .i64 f.b0.kind, .int .i64 f.b0.service, .int .i64 f.b0.group, .int .u64 f.b0.session, .int .u64 f.b0.number, .string f.b0.text, .int .i64 f.b1.kind, .int .i64 f.b1.service, .int .i64 f.b1.group, .int .u64 f.b1.session, .int .u64 f.b1.number, .string f.b1.text] 31), .blk g6 (.cells #[.int .i64 f.a1.kind, .int .i64 f.a1.service, .int .i64 f.a1.group, .int .u64 f.a1.session, .int .u64 f.a1.number, .string f.a1.text] 30), .blk g4 (.cells #[.int .i64 f.a0.kind, .int .i64 f.a0.service, .int .i64 f.a0.group, .int .u64 f.a0.session, .int .u64 f.a0.number, .string f.a0.text] 30), .blk g3 (.cells #[.int .i64 f.a0.kind, .int .i64 f.a0.service, .int .i64 f.a0.group, .int .u64 f.a0.session, .int .u64 f.a0.number, .string f.a0.text, .int .i64 f.a1.kind, .int .i64 f.a1.service, .int .i64 f.a1.group, .int .u64 f.a1.session, .int .u64 f.a1.number, .string f.a1.text] 31), .blk g1 (.cells f.arr 33)]) (g := g2) (cap := cg7) (A := Ag7) (some ⟨g2, 0, none⟩) (.inr rfl) ((([] : List UInt8) ++ f.a0.enc) ++ f.a1.enc) f.b0.enc (by simp only [List.length_append, List.length_nil]; omega)) (fun v H' hq => ?_)
        obtain ⟨rfl, Ag10, cg10, rfl⟩ := hq
        refine run_endops ?_
        refine run_endblock ?_
        refine run_region (todo := [0, 1]) rfl rfl ?_
        refine run_rd (v := .int .i64 1) rfl (rd_add (r := 1) (by decide)) ?_
        refine run_mv rfl ?_
        refine run_endops ?_
        refine run_again ?_
        refine run_seq rfl ?_
        refine run_region (todo := [0]) rfl rfl ?_
        refine run_rd (v := .bool true) rfl (rd_cmp rfl rfl) ?_
        refine run_endops ?_
        refine run_seq rfl ?_
        refine run_true rfl rfl ?_
        refine run_skip rfl ?_
        refine run_seq rfl ?_
        refine run_block rfl ?_
        refine run_seq rfl ?_
        refine run_region (todo := [0, 1, 2]) rfl rfl ?_
        refine run_rd (v := .agg #[.int .i64 f.b1.kind, .int .i64 f.b1.service, .int .i64 f.b1.group, .int .u64 f.b1.session, .int .u64 f.b1.number, .string f.b1.text]) rfl (rd_indexA (m := 1) (u := #[.int .i64 f.b1.kind, .int .i64 f.b1.service, .int .i64 f.b1.group, .int .u64 f.b1.session, .int .u64 f.b1.number, .string f.b1.text]) Tryd.underlying31 rfl (by decide) Tryd.isAgg30 Tryd.sizeOf30 (by kernel_rfl)) ?_
        refine run_alloc rfl Tryd.zeroValue30 (fun g11 => ?_)
        refine run_storeW (j := 0) (c' := #[.int .i64 f.b1.kind, .int .i64 f.b1.service, .int .i64 f.b1.group, .int .u64 f.b1.session, .int .u64 f.b1.number, .string f.b1.text]) rfl Tryd.sizeOf30 rfl rfl rfl rfl rfl rfl ?_
        refine run_endops ?_
        refine run_seq rfl ?_
        refine run_region (todo := [0, 1, 2, 3, 4, 5, 6]) rfl rfl ?_
        refine run_rd (v := .agg #[.int .i64 f.b1.kind, .int .i64 f.b1.service, .int .i64 f.b1.group, .int .u64 f.b1.session, .int .u64 f.b1.number, .string f.b1.text]) rfl (rd_loadW (j := 0) Tryd.isAgg30 Tryd.sizeOf30 rfl rfl) ?_
        refine run_pf0 (v := .tuple #[.string (bs f.b1.enc), .int .i64 (okCode f.b1.may)]) rfl Tryd.call59 (pf_encode f.b1 hf.b1) ?_
        refine run_mv rfl ?_
        refine run_rd (v := .string (bs f.b1.enc)) rfl (rd_extract rfl) ?_
        refine run_rd (v := .int .i64 (okCode f.b1.may)) rfl (rd_extract rfl) ?_
        refine run_mv rfl ?_
        refine run_mv rfl ?_
        refine run_endops ?_
        refine run_seq rfl ?_
        refine run_seq rfl ?_
        refine run_region (todo := [0, 1]) rfl rfl ?_
        refine run_mv rfl ?_
        refine run_rd (v := .bool ((okCode f.b1.may) != 0)) rfl (rd_cmp rfl rfl) ?_
        refine run_endops ?_
        refine run_if rfl rfl (fun hb4 => ?_) (fun hb4 => ?_)
        · have hb4p := code_bad hb4
          refine run_seq rfl ?_
          refine run_region (todo := [0, 1, 2]) rfl rfl ?_
          refine run_mv rfl ?_
          refine run_mv rfl ?_
          refine run_mv rfl ?_
          refine run_endops ?_
          refine run_ret rfl (v := .tuple #[.string ⟨#[]⟩, .int .i64 (okCode f.b1.may)]) (res2 rfl rfl rfl) ?_
          simp [Fr.enc, Fr.may, Fr.list, okCode, bs, hb1p, hb2p, hb3p, hb4p]
        · have hb4p := code_good hb4
          have kb1 : f.b1.enc.length = 28 := by rw [Ent.enc, if_pos hb4p]; exact Ent.may_length hb4p
          refine run_skip rfl ?_
          refine run_region (todo := [0, 1]) rfl rfl ?_
          refine run_mv rfl ?_
          refine run_less (ρ' := [(0, .agg f.arr), (1, .pointer (some ⟨g1, 0, none⟩)), (2, .string ⟨#[]⟩), (3, .int .i64 0), (4, .pointer (some ⟨g2, 0, none⟩)), (6, .pointer (some ⟨g8, 0, none⟩)), (8, .pointer (some ⟨g11, 0, none⟩)), (9, .string (bs f.b1.enc)), (10, .int .i64 (okCode f.b1.may)), (11, .agg f.arr), (12, .int .i64 1), (13, .bool true), (14, .agg #[.int .i64 f.b0.kind, .int .i64 f.b0.service, .int .i64 f.b0.group, .int .u64 f.b0.session, .int .u64 f.b0.number, .string f.b0.text, .int .i64 f.b1.kind, .int .i64 f.b1.service, .int .i64 f.b1.group, .int .u64 f.b1.session, .int .u64 f.b1.number, .string f.b1.text]), (15, .agg #[.int .i64 f.b0.kind, .int .i64 f.b0.service, .int .i64 f.b0.group, .int .u64 f.b0.session, .int .u64 f.b0.number, .string f.b0.text, .int .i64 f.b1.kind, .int .i64 f.b1.service, .int .i64 f.b1.group, .int .u64 f.b1.session, .int .u64 f.b1.number, .string f.b1.text]), (16, .int .i64 1), (17, .bool true), (18, .agg #[.int .i64 f.b1.kind, .int .i64 f.b1.service, .int .i64 f.b1.group, .int .u64 f.b1.session, .int .u64 f.b1.number, .string f.b1.text]), (19, .tuple #[.string (bs f.b1.enc), .int .i64 (okCode f.b1.may)]), (20, .agg #[.int .i64 f.b1.kind, .int .i64 f.b1.service, .int .i64 f.b1.group, .int .u64 f.b1.session, .int .u64 f.b1.number, .string f.b1.text]), (21, .tuple #[.string (bs f.b1.enc), .int .i64 (okCode f.b1.may)]), (22, .string (bs f.b1.enc)), (23, .int .i64 (okCode f.b1.may)), (24, .int .i64 (okCode f.b1.may)), (25, .bool ((okCode f.b1.may) != 0)), (27, .string (bs f.b1.enc)), (29, .int .i64 1), (30, .int .i64 1)]) (H' := [.blk g2 (.cells #[.pointer (some ⟨g2, 0, none⟩), .slice Ag10 ((((([] : List UInt8) ++ f.a0.enc) ++ f.a1.enc) ++ f.b0.enc).length) cg10] 59), .row Ag10 cg10 5 1 ((((([] : List UInt8) ++ f.a0.enc) ++ f.a1.enc) ++ f.b0.enc).length) (Lib.strCells (bs (((([] : List UInt8) ++ f.a0.enc) ++ f.a1.enc) ++ f.b0.enc))), .blk g11 (.cells #[.int .i64 f.b1.kind, .int .i64 f.b1.service, .int .i64 f.b1.group, .int .u64 f.b1.session, .int .u64 f.b1.number, .string f.b1.text] 30), .blk g9 (.cells #[.int .i64 f.b0.kind, .int .i64 f.b0.service, .int .i64 f.b0.group, .int .u64 f.b0.session, .int .u64 f.b0.number, .string f.b0.text] 30), .blk g8 (.cells #[.int .i64 f.b0.kind, .int .i64 f.b0.service, .int .i64 f.b0.group, .int .u64 f.b0.session, .int .u64 f.b0.number, .string f.b0.text, .int .i64 f.b1.kind, .int .i64 f.b1.service, .int .i64 f.b1.group, .int .u64 f.b1.session, .int .u64 f.b1.number, .string f.b1.text] 31), .blk g6 (.cells #[.int .i64 f.a1.kind, .int .i64 f.a1.service, .int .i64 f.a1.group, .int .u64 f.a1.session, .int .u64 f.a1.number, .string f.a1.text] 30), .blk g4 (.cells #[.int .i64 f.a0.kind, .int .i64 f.a0.service, .int .i64 f.a0.group, .int .u64 f.a0.session, .int .u64 f.a0.number, .string f.a0.text] 30), .blk g3 (.cells #[.int .i64 f.a0.kind, .int .i64 f.a0.service, .int .i64 f.a0.group, .int .u64 f.a0.session, .int .u64 f.a0.number, .string f.a0.text, .int .i64 f.a1.kind, .int .i64 f.a1.service, .int .i64 f.a1.group, .int .u64 f.a1.session, .int .u64 f.a1.number, .string f.a1.text] 31), .blk g1 (.cells f.arr 33)]) [1, 2, 0, 3, 4, 5, 6, 7, 8] ?_ ⟨rfl, rfl, rfl, rfl, rfl, rfl, rfl, rfl, rfl, rfl, rfl, rfl, rfl, rfl, rfl, rfl, rfl, rfl, rfl, rfl, rfl, rfl, rfl, rfl, rfl, rfl, rfl, trivial⟩ ⟨rfl, rfl, rfl, rfl, rfl, rfl, rfl, rfl, rfl, trivial⟩ (by decide)
          refine run_callH rfl Tryd.call42 (writeL (F := [.blk g11 (.cells #[.int .i64 f.b1.kind, .int .i64 f.b1.service, .int .i64 f.b1.group, .int .u64 f.b1.session, .int .u64 f.b1.number, .string f.b1.text] 30), .blk g9 (.cells #[.int .i64 f.b0.kind, .int .i64 f.b0.service, .int .i64 f.b0.group, .int .u64 f.b0.session, .int .u64 f.b0.number, .string f.b0.text] 30), .blk g8 (.cells #[.int .i64 f.b0.kind, .int .i64 f.b0.service, .int .i64 f.b0.group, .int .u64 f.b0.session, .int .u64 f.b0.number, .string f.b0.text, .int .i64 f.b1.kind, .int .i64 f.b1.service, .int .i64 f.b1.group, .int .u64 f.b1.session, .int .u64 f.b1.number, .string f.b1.text] 31), .blk g6 (.cells #[.int .i64 f.a1.kind, .int .i64 f.a1.service, .int .i64 f.a1.group, .int .u64 f.a1.session, .int .u64 f.a1.number, .string f.a1.text] 30), .blk g4 (.cells #[.int .i64 f.a0.kind, .int .i64 f.a0.service, .int .i64 f.a0.group, .int .u64 f.a0.session, .int .u64 f.a0.number, .string f.a0.text] 30), .blk g3 (.cells #[.int .i64 f.a0.kind, .int .i64 f.a0.service, .int .i64 f.a0.group, .int .u64 f.a0.session, .int .u64 f.a0.number, .string f.a0.text, .int .i64 f.a1.kind, .int .i64 f.a1.service, .int .i64 f.a1.group, .int .u64 f.a1.session, .int .u64 f.a1.number, .string f.a1.text] 31), .blk g1 (.cells f.arr 33)]) (g := g2) (cap := cg10) (A := Ag10) (some ⟨g2, 0, none⟩) (.inr rfl) (((([] : List UInt8) ++ f.a0.enc) ++ f.a1.enc) ++ f.b0.enc) f.b1.enc (by simp only [List.length_append, List.length_nil]; omega)) (fun v H' hq => ?_)
          obtain ⟨rfl, Ag12, cg12, rfl⟩ := hq
          refine run_endops ?_
          refine run_endblock ?_
          refine run_region (todo := [0, 1]) rfl rfl ?_
          refine run_rd (v := .int .i64 2) rfl (rd_add (r := 2) (by decide)) ?_
          refine run_mv rfl ?_
          refine run_endops ?_
          refine run_again ?_
          refine run_seq rfl ?_
          refine run_region (todo := [0]) rfl rfl ?_
          refine run_rd (v := .bool false) rfl (rd_cmp rfl rfl) ?_
          refine run_endops ?_
          refine run_seq rfl ?_
          refine run_false rfl rfl ?_
          refine run_exit rfl rfl ?_
          refine run_endblock ?_
          refine run_region (todo := [0, 1]) rfl rfl ?_
          refine run_rd (v := .int .i64 2) rfl (rd_add (r := 2) (by decide)) ?_
          refine run_mv rfl ?_
          refine run_endops ?_
          refine run_again ?_
          refine run_seq rfl ?_
          refine run_region (todo := [0]) rfl rfl ?_
          refine run_rd (v := .bool true) rfl (rd_cmp rfl rfl) ?_
          refine run_endops ?_
          refine run_seq rfl ?_
          refine run_true rfl rfl ?_
          refine run_skip rfl ?_
          refine run_seq rfl ?_
          refine run_block rfl ?_
          refine run_seq rfl ?_
          refine run_region (todo := [0, 1, 2]) rfl rfl ?_
          refine run_rd (v := .agg #[.int .i64 f.c0.kind, .int .i64 f.c0.service, .int .i64 f.c0.group, .int .u64 f.c0.session, .int .u64 f.c0.number, .string f.c0.text, .int .i64 f.c1.kind, .int .i64 f.c1.service, .int .i64 f.c1.group, .int .u64 f.c1.session, .int .u64 f.c1.number, .string f.c1.text]) rfl (rd_indexA (m := 2) (u := #[.int .i64 f.c0.kind, .int .i64 f.c0.service, .int .i64 f.c0.group, .int .u64 f.c0.session, .int .u64 f.c0.number, .string f.c0.text, .int .i64 f.c1.kind, .int .i64 f.c1.service, .int .i64 f.c1.group, .int .u64 f.c1.session, .int .u64 f.c1.number, .string f.c1.text]) Tryd.underlying33 rfl (by decide) Tryd.isAgg31 Tryd.sizeOf31 (by kernel_rfl)) ?_
          refine run_alloc rfl Tryd.zeroValue31 (fun g13 => ?_)
          refine run_storeW (j := 0) (c' := #[.int .i64 f.c0.kind, .int .i64 f.c0.service, .int .i64 f.c0.group, .int .u64 f.c0.session, .int .u64 f.c0.number, .string f.c0.text, .int .i64 f.c1.kind, .int .i64 f.c1.service, .int .i64 f.c1.group, .int .u64 f.c1.session, .int .u64 f.c1.number, .string f.c1.text]) rfl Tryd.sizeOf31 rfl rfl rfl rfl rfl rfl ?_
          refine run_endops ?_
          refine run_seq rfl ?_
          refine run_region (todo := [0, 1]) rfl rfl ?_
          refine run_rd (v := .agg #[.int .i64 f.c0.kind, .int .i64 f.c0.service, .int .i64 f.c0.group, .int .u64 f.c0.session, .int .u64 f.c0.number, .string f.c0.text, .int .i64 f.c1.kind, .int .i64 f.c1.service, .int .i64 f.c1.group, .int .u64 f.c1.session, .int .u64 f.c1.number, .string f.c1.text]) rfl (rd_loadW (j := 0) Tryd.isAgg31 Tryd.sizeOf31 rfl rfl) ?_
          refine run_mv rfl ?_
          refine run_endops ?_
          refine run_block rfl ?_
          refine run_loop rfl ?_
          refine run_again ?_
          refine run_seq rfl ?_
          refine run_region (todo := [0]) rfl rfl ?_
          refine run_rd (v := .bool true) rfl (rd_cmp rfl rfl) ?_
          refine run_endops ?_
          refine run_seq rfl ?_
          refine run_true rfl rfl ?_
          refine run_skip rfl ?_
          refine run_seq rfl ?_
          refine run_block rfl ?_
          refine run_seq rfl ?_
          refine run_region (todo := [0, 1, 2]) rfl rfl ?_
          refine run_rd (v := .agg #[.int .i64 f.c0.kind, .int .i64 f.c0.service, .int .i64 f.c0.group, .int .u64 f.c0.session, .int .u64 f.c0.number, .string f.c0.text]) rfl (rd_indexA (m := 0) (u := #[.int .i64 f.c0.kind, .int .i64 f.c0.service, .int .i64 f.c0.group, .int .u64 f.c0.session, .int .u64 f.c0.number, .string f.c0.text]) Tryd.underlying31 rfl (by decide) Tryd.isAgg30 Tryd.sizeOf30 (by kernel_rfl)) ?_
          refine run_alloc rfl Tryd.zeroValue30 (fun g14 => ?_)
          refine run_storeW (j := 0) (c' := #[.int .i64 f.c0.kind, .int .i64 f.c0.service, .int .i64 f.c0.group, .int .u64 f.c0.session, .int .u64 f.c0.number, .string f.c0.text]) rfl Tryd.sizeOf30 rfl rfl rfl rfl rfl rfl ?_
          refine run_endops ?_
          refine run_seq rfl ?_
          refine run_region (todo := [0, 1, 2, 3, 4, 5, 6]) rfl rfl ?_
          refine run_rd (v := .agg #[.int .i64 f.c0.kind, .int .i64 f.c0.service, .int .i64 f.c0.group, .int .u64 f.c0.session, .int .u64 f.c0.number, .string f.c0.text]) rfl (rd_loadW (j := 0) Tryd.isAgg30 Tryd.sizeOf30 rfl rfl) ?_
          refine run_pf0 (v := .tuple #[.string (bs f.c0.enc), .int .i64 (okCode f.c0.may)]) rfl Tryd.call59 (pf_encode f.c0 hf.c0) ?_
          refine run_mv rfl ?_
          refine run_rd (v := .string (bs f.c0.enc)) rfl (rd_extract rfl) ?_
          refine run_rd (v := .int .i64 (okCode f.c0.may)) rfl (rd_extract rfl) ?_
          refine run_mv rfl ?_
          refine run_mv rfl ?_
          refine run_endops ?_
          refine run_seq rfl ?_
          refine run_seq rfl ?_
          refine run_region (todo := [0, 1]) rfl rfl ?_
          refine run_mv rfl ?_
          refine run_rd (v := .bool ((okCode f.c0.may) != 0)) rfl (rd_cmp rfl rfl) ?_
          refine run_endops ?_
          refine run_if rfl rfl (fun hb5 => ?_) (fun hb5 => ?_)
          · have hb5p := code_bad hb5
            refine run_seq rfl ?_
            refine run_region (todo := [0, 1, 2]) rfl rfl ?_
            refine run_mv rfl ?_
            refine run_mv rfl ?_
            refine run_mv rfl ?_
            refine run_endops ?_
            refine run_ret rfl (v := .tuple #[.string ⟨#[]⟩, .int .i64 (okCode f.c0.may)]) (res2 rfl rfl rfl) ?_
            simp [Fr.enc, Fr.may, Fr.list, okCode, bs, hb1p, hb2p, hb3p, hb4p, hb5p]
          · have hb5p := code_good hb5
            have kc0 : f.c0.enc.length = 28 := by rw [Ent.enc, if_pos hb5p]; exact Ent.may_length hb5p
            refine run_skip rfl ?_
            refine run_region (todo := [0, 1]) rfl rfl ?_
            refine run_mv rfl ?_
            refine run_less (ρ' := [(0, .agg f.arr), (1, .pointer (some ⟨g1, 0, none⟩)), (2, .string ⟨#[]⟩), (3, .int .i64 0), (4, .pointer (some ⟨g2, 0, none⟩)), (6, .pointer (some ⟨g13, 0, none⟩)), (8, .pointer (some ⟨g14, 0, none⟩)), (9, .string (bs f.c0.enc)), (10, .int .i64 (okCode f.c0.may)), (11, .agg f.arr), (12, .int .i64 2), (13, .bool true), (14, .agg #[.int .i64 f.c0.kind, .int .i64 f.c0.service, .int .i64 f.c0.group, .int .u64 f.c0.session, .int .u64 f.c0.number, .string f.c0.text, .int .i64 f.c1.kind, .int .i64 f.c1.service, .int .i64 f.c1.group, .int .u64 f.c1.session, .int .u64 f.c1.number, .string f.c1.text]), (15, .agg #[.int .i64 f.c0.kind, .int .i64 f.c0.service, .int .i64 f.c0.group, .int .u64 f.c0.session, .int .u64 f.c0.number, .string f.c0.text, .int .i64 f.c1.kind, .int .i64 f.c1.service, .int .i64 f.c1.group, .int .u64 f.c1.session, .int .u64 f.c1.number, .string f.c1.text]), (16, .int .i64 0), (17, .bool true), (18, .agg #[.int .i64 f.c0.kind, .int .i64 f.c0.service, .int .i64 f.c0.group, .int .u64 f.c0.session, .int .u64 f.c0.number, .string f.c0.text]), (19, .tuple #[.string (bs f.c0.enc), .int .i64 (okCode f.c0.may)]), (20, .agg #[.int .i64 f.c0.kind, .int .i64 f.c0.service, .int .i64 f.c0.group, .int .u64 f.c0.session, .int .u64 f.c0.number, .string f.c0.text]), (21, .tuple #[.string (bs f.c0.enc), .int .i64 (okCode f.c0.may)]), (22, .string (bs f.c0.enc)), (23, .int .i64 (okCode f.c0.may)), (24, .int .i64 (okCode f.c0.may)), (25, .bool ((okCode f.c0.may) != 0)), (27, .string (bs f.c0.enc)), (29, .int .i64 2), (30, .int .i64 2)]) (H' := [.blk g2 (.cells #[.pointer (some ⟨g2, 0, none⟩), .slice Ag12 (((((([] : List UInt8) ++ f.a0.enc) ++ f.a1.enc) ++ f.b0.enc) ++ f.b1.enc).length) cg12] 59), .row Ag12 cg12 5 1 (((((([] : List UInt8) ++ f.a0.enc) ++ f.a1.enc) ++ f.b0.enc) ++ f.b1.enc).length) (Lib.strCells (bs ((((([] : List UInt8) ++ f.a0.enc) ++ f.a1.enc) ++ f.b0.enc) ++ f.b1.enc))), .blk g14 (.cells #[.int .i64 f.c0.kind, .int .i64 f.c0.service, .int .i64 f.c0.group, .int .u64 f.c0.session, .int .u64 f.c0.number, .string f.c0.text] 30), .blk g13 (.cells #[.int .i64 f.c0.kind, .int .i64 f.c0.service, .int .i64 f.c0.group, .int .u64 f.c0.session, .int .u64 f.c0.number, .string f.c0.text, .int .i64 f.c1.kind, .int .i64 f.c1.service, .int .i64 f.c1.group, .int .u64 f.c1.session, .int .u64 f.c1.number, .string f.c1.text] 31), .blk g11 (.cells #[.int .i64 f.b1.kind, .int .i64 f.b1.service, .int .i64 f.b1.group, .int .u64 f.b1.session, .int .u64 f.b1.number, .string f.b1.text] 30), .blk g9 (.cells #[.int .i64 f.b0.kind, .int .i64 f.b0.service, .int .i64 f.b0.group, .int .u64 f.b0.session, .int .u64 f.b0.number, .string f.b0.text] 30), .blk g8 (.cells #[.int .i64 f.b0.kind, .int .i64 f.b0.service, .int .i64 f.b0.group, .int .u64 f.b0.session, .int .u64 f.b0.number, .string f.b0.text, .int .i64 f.b1.kind, .int .i64 f.b1.service, .int .i64 f.b1.group, .int .u64 f.b1.session, .int .u64 f.b1.number, .string f.b1.text] 31), .blk g6 (.cells #[.int .i64 f.a1.kind, .int .i64 f.a1.service, .int .i64 f.a1.group, .int .u64 f.a1.session, .int .u64 f.a1.number, .string f.a1.text] 30), .blk g4 (.cells #[.int .i64 f.a0.kind, .int .i64 f.a0.service, .int .i64 f.a0.group, .int .u64 f.a0.session, .int .u64 f.a0.number, .string f.a0.text] 30), .blk g3 (.cells #[.int .i64 f.a0.kind, .int .i64 f.a0.service, .int .i64 f.a0.group, .int .u64 f.a0.session, .int .u64 f.a0.number, .string f.a0.text, .int .i64 f.a1.kind, .int .i64 f.a1.service, .int .i64 f.a1.group, .int .u64 f.a1.session, .int .u64 f.a1.number, .string f.a1.text] 31), .blk g1 (.cells f.arr 33)]) [2, 3, 0, 1, 4, 5, 6, 7, 8, 9, 10] ?_ ⟨rfl, rfl, rfl, rfl, rfl, rfl, rfl, rfl, rfl, rfl, rfl, rfl, rfl, rfl, rfl, rfl, rfl, rfl, rfl, rfl, rfl, rfl, rfl, rfl, rfl, rfl, rfl, trivial⟩ ⟨rfl, rfl, rfl, rfl, rfl, rfl, rfl, rfl, rfl, rfl, rfl, trivial⟩ (by decide)
            refine run_callH rfl Tryd.call42 (writeL (F := [.blk g14 (.cells #[.int .i64 f.c0.kind, .int .i64 f.c0.service, .int .i64 f.c0.group, .int .u64 f.c0.session, .int .u64 f.c0.number, .string f.c0.text] 30), .blk g13 (.cells #[.int .i64 f.c0.kind, .int .i64 f.c0.service, .int .i64 f.c0.group, .int .u64 f.c0.session, .int .u64 f.c0.number, .string f.c0.text, .int .i64 f.c1.kind, .int .i64 f.c1.service, .int .i64 f.c1.group, .int .u64 f.c1.session, .int .u64 f.c1.number, .string f.c1.text] 31), .blk g11 (.cells #[.int .i64 f.b1.kind, .int .i64 f.b1.service, .int .i64 f.b1.group, .int .u64 f.b1.session, .int .u64 f.b1.number, .string f.b1.text] 30), .blk g9 (.cells #[.int .i64 f.b0.kind, .int .i64 f.b0.service, .int .i64 f.b0.group, .int .u64 f.b0.session, .int .u64 f.b0.number, .string f.b0.text] 30), .blk g8 (.cells #[.int .i64 f.b0.kind, .int .i64 f.b0.service, .int .i64 f.b0.group, .int .u64 f.b0.session, .int .u64 f.b0.number, .string f.b0.text, .int .i64 f.b1.kind, .int .i64 f.b1.service, .int .i64 f.b1.group, .int .u64 f.b1.session, .int .u64 f.b1.number, .string f.b1.text] 31), .blk g6 (.cells #[.int .i64 f.a1.kind, .int .i64 f.a1.service, .int .i64 f.a1.group, .int .u64 f.a1.session, .int .u64 f.a1.number, .string f.a1.text] 30), .blk g4 (.cells #[.int .i64 f.a0.kind, .int .i64 f.a0.service, .int .i64 f.a0.group, .int .u64 f.a0.session, .int .u64 f.a0.number, .string f.a0.text] 30), .blk g3 (.cells #[.int .i64 f.a0.kind, .int .i64 f.a0.service, .int .i64 f.a0.group, .int .u64 f.a0.session, .int .u64 f.a0.number, .string f.a0.text, .int .i64 f.a1.kind, .int .i64 f.a1.service, .int .i64 f.a1.group, .int .u64 f.a1.session, .int .u64 f.a1.number, .string f.a1.text] 31), .blk g1 (.cells f.arr 33)]) (g := g2) (cap := cg12) (A := Ag12) (some ⟨g2, 0, none⟩) (.inr rfl) ((((([] : List UInt8) ++ f.a0.enc) ++ f.a1.enc) ++ f.b0.enc) ++ f.b1.enc) f.c0.enc (by simp only [List.length_append, List.length_nil]; omega)) (fun v H' hq => ?_)
            obtain ⟨rfl, Ag15, cg15, rfl⟩ := hq
            refine run_endops ?_
            refine run_endblock ?_
            refine run_region (todo := [0, 1]) rfl rfl ?_
            refine run_rd (v := .int .i64 1) rfl (rd_add (r := 1) (by decide)) ?_
            refine run_mv rfl ?_
            refine run_endops ?_
            refine run_again ?_
            refine run_seq rfl ?_
            refine run_region (todo := [0]) rfl rfl ?_
            refine run_rd (v := .bool true) rfl (rd_cmp rfl rfl) ?_
            refine run_endops ?_
            refine run_seq rfl ?_
            refine run_true rfl rfl ?_
            refine run_skip rfl ?_
            refine run_seq rfl ?_
            refine run_block rfl ?_
            refine run_seq rfl ?_
            refine run_region (todo := [0, 1, 2]) rfl rfl ?_
            refine run_rd (v := .agg #[.int .i64 f.c1.kind, .int .i64 f.c1.service, .int .i64 f.c1.group, .int .u64 f.c1.session, .int .u64 f.c1.number, .string f.c1.text]) rfl (rd_indexA (m := 1) (u := #[.int .i64 f.c1.kind, .int .i64 f.c1.service, .int .i64 f.c1.group, .int .u64 f.c1.session, .int .u64 f.c1.number, .string f.c1.text]) Tryd.underlying31 rfl (by decide) Tryd.isAgg30 Tryd.sizeOf30 (by kernel_rfl)) ?_
            refine run_alloc rfl Tryd.zeroValue30 (fun g16 => ?_)
            refine run_storeW (j := 0) (c' := #[.int .i64 f.c1.kind, .int .i64 f.c1.service, .int .i64 f.c1.group, .int .u64 f.c1.session, .int .u64 f.c1.number, .string f.c1.text]) rfl Tryd.sizeOf30 rfl rfl rfl rfl rfl rfl ?_
            refine run_endops ?_
            refine run_seq rfl ?_
            refine run_region (todo := [0, 1, 2, 3, 4, 5, 6]) rfl rfl ?_
            refine run_rd (v := .agg #[.int .i64 f.c1.kind, .int .i64 f.c1.service, .int .i64 f.c1.group, .int .u64 f.c1.session, .int .u64 f.c1.number, .string f.c1.text]) rfl (rd_loadW (j := 0) Tryd.isAgg30 Tryd.sizeOf30 rfl rfl) ?_
            refine run_pf0 (v := .tuple #[.string (bs f.c1.enc), .int .i64 (okCode f.c1.may)]) rfl Tryd.call59 (pf_encode f.c1 hf.c1) ?_
            refine run_mv rfl ?_
            refine run_rd (v := .string (bs f.c1.enc)) rfl (rd_extract rfl) ?_
            refine run_rd (v := .int .i64 (okCode f.c1.may)) rfl (rd_extract rfl) ?_
            refine run_mv rfl ?_
            refine run_mv rfl ?_
            refine run_endops ?_
            refine run_seq rfl ?_
            refine run_seq rfl ?_
            refine run_region (todo := [0, 1]) rfl rfl ?_
            refine run_mv rfl ?_
            refine run_rd (v := .bool ((okCode f.c1.may) != 0)) rfl (rd_cmp rfl rfl) ?_
            refine run_endops ?_
            refine run_if rfl rfl (fun hb6 => ?_) (fun hb6 => ?_)
            · have hb6p := code_bad hb6
              refine run_seq rfl ?_
              refine run_region (todo := [0, 1, 2]) rfl rfl ?_
              refine run_mv rfl ?_
              refine run_mv rfl ?_
              refine run_mv rfl ?_
              refine run_endops ?_
              refine run_ret rfl (v := .tuple #[.string ⟨#[]⟩, .int .i64 (okCode f.c1.may)]) (res2 rfl rfl rfl) ?_
              simp [Fr.enc, Fr.may, Fr.list, okCode, bs, hb1p, hb2p, hb3p, hb4p, hb5p, hb6p]
            · have hb6p := code_good hb6
              have kc1 : f.c1.enc.length = 28 := by rw [Ent.enc, if_pos hb6p]; exact Ent.may_length hb6p
              refine run_skip rfl ?_
              refine run_region (todo := [0, 1]) rfl rfl ?_
              refine run_mv rfl ?_
              refine run_less (ρ' := [(0, .agg f.arr), (1, .pointer (some ⟨g1, 0, none⟩)), (2, .string ⟨#[]⟩), (3, .int .i64 0), (4, .pointer (some ⟨g2, 0, none⟩)), (6, .pointer (some ⟨g13, 0, none⟩)), (8, .pointer (some ⟨g16, 0, none⟩)), (9, .string (bs f.c1.enc)), (10, .int .i64 (okCode f.c1.may)), (11, .agg f.arr), (12, .int .i64 2), (13, .bool true), (14, .agg #[.int .i64 f.c0.kind, .int .i64 f.c0.service, .int .i64 f.c0.group, .int .u64 f.c0.session, .int .u64 f.c0.number, .string f.c0.text, .int .i64 f.c1.kind, .int .i64 f.c1.service, .int .i64 f.c1.group, .int .u64 f.c1.session, .int .u64 f.c1.number, .string f.c1.text]), (15, .agg #[.int .i64 f.c0.kind, .int .i64 f.c0.service, .int .i64 f.c0.group, .int .u64 f.c0.session, .int .u64 f.c0.number, .string f.c0.text, .int .i64 f.c1.kind, .int .i64 f.c1.service, .int .i64 f.c1.group, .int .u64 f.c1.session, .int .u64 f.c1.number, .string f.c1.text]), (16, .int .i64 1), (17, .bool true), (18, .agg #[.int .i64 f.c1.kind, .int .i64 f.c1.service, .int .i64 f.c1.group, .int .u64 f.c1.session, .int .u64 f.c1.number, .string f.c1.text]), (19, .tuple #[.string (bs f.c1.enc), .int .i64 (okCode f.c1.may)]), (20, .agg #[.int .i64 f.c1.kind, .int .i64 f.c1.service, .int .i64 f.c1.group, .int .u64 f.c1.session, .int .u64 f.c1.number, .string f.c1.text]), (21, .tuple #[.string (bs f.c1.enc), .int .i64 (okCode f.c1.may)]), (22, .string (bs f.c1.enc)), (23, .int .i64 (okCode f.c1.may)), (24, .int .i64 (okCode f.c1.may)), (25, .bool ((okCode f.c1.may) != 0)), (27, .string (bs f.c1.enc)), (29, .int .i64 1), (30, .int .i64 2)]) (H' := [.blk g2 (.cells #[.pointer (some ⟨g2, 0, none⟩), .slice Ag15 ((((((([] : List UInt8) ++ f.a0.enc) ++ f.a1.enc) ++ f.b0.enc) ++ f.b1.enc) ++ f.c0.enc).length) cg15] 59), .row Ag15 cg15 5 1 ((((((([] : List UInt8) ++ f.a0.enc) ++ f.a1.enc) ++ f.b0.enc) ++ f.b1.enc) ++ f.c0.enc).length) (Lib.strCells (bs (((((([] : List UInt8) ++ f.a0.enc) ++ f.a1.enc) ++ f.b0.enc) ++ f.b1.enc) ++ f.c0.enc))), .blk g16 (.cells #[.int .i64 f.c1.kind, .int .i64 f.c1.service, .int .i64 f.c1.group, .int .u64 f.c1.session, .int .u64 f.c1.number, .string f.c1.text] 30), .blk g14 (.cells #[.int .i64 f.c0.kind, .int .i64 f.c0.service, .int .i64 f.c0.group, .int .u64 f.c0.session, .int .u64 f.c0.number, .string f.c0.text] 30), .blk g13 (.cells #[.int .i64 f.c0.kind, .int .i64 f.c0.service, .int .i64 f.c0.group, .int .u64 f.c0.session, .int .u64 f.c0.number, .string f.c0.text, .int .i64 f.c1.kind, .int .i64 f.c1.service, .int .i64 f.c1.group, .int .u64 f.c1.session, .int .u64 f.c1.number, .string f.c1.text] 31), .blk g11 (.cells #[.int .i64 f.b1.kind, .int .i64 f.b1.service, .int .i64 f.b1.group, .int .u64 f.b1.session, .int .u64 f.b1.number, .string f.b1.text] 30), .blk g9 (.cells #[.int .i64 f.b0.kind, .int .i64 f.b0.service, .int .i64 f.b0.group, .int .u64 f.b0.session, .int .u64 f.b0.number, .string f.b0.text] 30), .blk g8 (.cells #[.int .i64 f.b0.kind, .int .i64 f.b0.service, .int .i64 f.b0.group, .int .u64 f.b0.session, .int .u64 f.b0.number, .string f.b0.text, .int .i64 f.b1.kind, .int .i64 f.b1.service, .int .i64 f.b1.group, .int .u64 f.b1.session, .int .u64 f.b1.number, .string f.b1.text] 31), .blk g6 (.cells #[.int .i64 f.a1.kind, .int .i64 f.a1.service, .int .i64 f.a1.group, .int .u64 f.a1.session, .int .u64 f.a1.number, .string f.a1.text] 30), .blk g4 (.cells #[.int .i64 f.a0.kind, .int .i64 f.a0.service, .int .i64 f.a0.group, .int .u64 f.a0.session, .int .u64 f.a0.number, .string f.a0.text] 30), .blk g3 (.cells #[.int .i64 f.a0.kind, .int .i64 f.a0.service, .int .i64 f.a0.group, .int .u64 f.a0.session, .int .u64 f.a0.number, .string f.a0.text, .int .i64 f.a1.kind, .int .i64 f.a1.service, .int .i64 f.a1.group, .int .u64 f.a1.session, .int .u64 f.a1.number, .string f.a1.text] 31), .blk g1 (.cells f.arr 33)]) [1, 2, 0, 3, 4, 5, 6, 7, 8, 9, 10, 11] ?_ ⟨rfl, rfl, rfl, rfl, rfl, rfl, rfl, rfl, rfl, rfl, rfl, rfl, rfl, rfl, rfl, rfl, rfl, rfl, rfl, rfl, rfl, rfl, rfl, rfl, rfl, rfl, rfl, trivial⟩ ⟨rfl, rfl, rfl, rfl, rfl, rfl, rfl, rfl, rfl, rfl, rfl, rfl, trivial⟩ (by decide)
              refine run_callH rfl Tryd.call42 (writeL (F := [.blk g16 (.cells #[.int .i64 f.c1.kind, .int .i64 f.c1.service, .int .i64 f.c1.group, .int .u64 f.c1.session, .int .u64 f.c1.number, .string f.c1.text] 30), .blk g14 (.cells #[.int .i64 f.c0.kind, .int .i64 f.c0.service, .int .i64 f.c0.group, .int .u64 f.c0.session, .int .u64 f.c0.number, .string f.c0.text] 30), .blk g13 (.cells #[.int .i64 f.c0.kind, .int .i64 f.c0.service, .int .i64 f.c0.group, .int .u64 f.c0.session, .int .u64 f.c0.number, .string f.c0.text, .int .i64 f.c1.kind, .int .i64 f.c1.service, .int .i64 f.c1.group, .int .u64 f.c1.session, .int .u64 f.c1.number, .string f.c1.text] 31), .blk g11 (.cells #[.int .i64 f.b1.kind, .int .i64 f.b1.service, .int .i64 f.b1.group, .int .u64 f.b1.session, .int .u64 f.b1.number, .string f.b1.text] 30), .blk g9 (.cells #[.int .i64 f.b0.kind, .int .i64 f.b0.service, .int .i64 f.b0.group, .int .u64 f.b0.session, .int .u64 f.b0.number, .string f.b0.text] 30), .blk g8 (.cells #[.int .i64 f.b0.kind, .int .i64 f.b0.service, .int .i64 f.b0.group, .int .u64 f.b0.session, .int .u64 f.b0.number, .string f.b0.text, .int .i64 f.b1.kind, .int .i64 f.b1.service, .int .i64 f.b1.group, .int .u64 f.b1.session, .int .u64 f.b1.number, .string f.b1.text] 31), .blk g6 (.cells #[.int .i64 f.a1.kind, .int .i64 f.a1.service, .int .i64 f.a1.group, .int .u64 f.a1.session, .int .u64 f.a1.number, .string f.a1.text] 30), .blk g4 (.cells #[.int .i64 f.a0.kind, .int .i64 f.a0.service, .int .i64 f.a0.group, .int .u64 f.a0.session, .int .u64 f.a0.number, .string f.a0.text] 30), .blk g3 (.cells #[.int .i64 f.a0.kind, .int .i64 f.a0.service, .int .i64 f.a0.group, .int .u64 f.a0.session, .int .u64 f.a0.number, .string f.a0.text, .int .i64 f.a1.kind, .int .i64 f.a1.service, .int .i64 f.a1.group, .int .u64 f.a1.session, .int .u64 f.a1.number, .string f.a1.text] 31), .blk g1 (.cells f.arr 33)]) (g := g2) (cap := cg15) (A := Ag15) (some ⟨g2, 0, none⟩) (.inr rfl) (((((([] : List UInt8) ++ f.a0.enc) ++ f.a1.enc) ++ f.b0.enc) ++ f.b1.enc) ++ f.c0.enc) f.c1.enc (by simp only [List.length_append, List.length_nil]; omega)) (fun v H' hq => ?_)
              obtain ⟨rfl, Ag17, cg17, rfl⟩ := hq
              refine run_endops ?_
              refine run_endblock ?_
              refine run_region (todo := [0, 1]) rfl rfl ?_
              refine run_rd (v := .int .i64 2) rfl (rd_add (r := 2) (by decide)) ?_
              refine run_mv rfl ?_
              refine run_endops ?_
              refine run_again ?_
              refine run_seq rfl ?_
              refine run_region (todo := [0]) rfl rfl ?_
              refine run_rd (v := .bool false) rfl (rd_cmp rfl rfl) ?_
              refine run_endops ?_
              refine run_seq rfl ?_
              refine run_false rfl rfl ?_
              refine run_exit rfl rfl ?_
              refine run_endblock ?_
              refine run_region (todo := [0, 1]) rfl rfl ?_
              refine run_rd (v := .int .i64 3) rfl (rd_add (r := 3) (by decide)) ?_
              refine run_mv rfl ?_
              refine run_endops ?_
              refine run_again ?_
              refine run_seq rfl ?_
              refine run_region (todo := [0]) rfl rfl ?_
              refine run_rd (v := .bool false) rfl (rd_cmp rfl rfl) ?_
              refine run_endops ?_
              refine run_seq rfl ?_
              refine run_false rfl rfl ?_
              refine run_exit rfl rfl ?_
              refine run_seq rfl ?_
              refine run_region (todo := [0, 1, 2]) rfl rfl ?_
              refine run_less (ρ' := [(0, .agg f.arr), (1, .pointer (some ⟨g1, 0, none⟩)), (2, .string ⟨#[]⟩), (3, .int .i64 0), (4, .pointer (some ⟨g2, 0, none⟩)), (6, .pointer (some ⟨g13, 0, none⟩)), (8, .pointer (some ⟨g16, 0, none⟩)), (9, .string (bs f.c1.enc)), (10, .int .i64 (okCode f.c1.may)), (11, .agg f.arr), (12, .int .i64 3), (13, .bool false), (14, .agg #[.int .i64 f.c0.kind, .int .i64 f.c0.service, .int .i64 f.c0.group, .int .u64 f.c0.session, .int .u64 f.c0.number, .string f.c0.text, .int .i64 f.c1.kind, .int .i64 f.c1.service, .int .i64 f.c1.group, .int .u64 f.c1.session, .int .u64 f.c1.number, .string f.c1.text]), (15, .agg #[.int .i64 f.c0.kind, .int .i64 f.c0.service, .int .i64 f.c0.group, .int .u64 f.c0.session, .int .u64 f.c0.number, .string f.c0.text, .int .i64 f.c1.kind, .int .i64 f.c1.service, .int .i64 f.c1.group, .int .u64 f.c1.session, .int .u64 f.c1.number, .string f.c1.text]), (16, .int .i64 2), (17, .bool false), (18, .agg #[.int .i64 f.c1.kind, .int .i64 f.c1.service, .int .i64 f.c1.group, .int .u64 f.c1.session, .int .u64 f.c1.number, .string f.c1.text]), (19, .tuple #[.string (bs f.c1.enc), .int .i64 (okCode f.c1.may)]), (20, .agg #[.int .i64 f.c1.kind, .int .i64 f.c1.service, .int .i64 f.c1.group, .int .u64 f.c1.session, .int .u64 f.c1.number, .string f.c1.text]), (21, .tuple #[.string (bs f.c1.enc), .int .i64 (okCode f.c1.may)]), (22, .string (bs f.c1.enc)), (23, .int .i64 (okCode f.c1.may)), (24, .int .i64 (okCode f.c1.may)), (25, .bool ((okCode f.c1.may) != 0)), (27, .string (bs f.c1.enc)), (29, .int .i64 2), (30, .int .i64 3)]) (H' := [.blk g2 (.cells #[.pointer (some ⟨g2, 0, none⟩), .slice Ag17 (((((((([] : List UInt8) ++ f.a0.enc) ++ f.a1.enc) ++ f.b0.enc) ++ f.b1.enc) ++ f.c0.enc) ++ f.c1.enc).length) cg17] 59), .row Ag17 cg17 5 1 (((((((([] : List UInt8) ++ f.a0.enc) ++ f.a1.enc) ++ f.b0.enc) ++ f.b1.enc) ++ f.c0.enc) ++ f.c1.enc).length) (Lib.strCells (bs ((((((([] : List UInt8) ++ f.a0.enc) ++ f.a1.enc) ++ f.b0.enc) ++ f.b1.enc) ++ f.c0.enc) ++ f.c1.enc))), .blk g16 (.cells #[.int .i64 f.c1.kind, .int .i64 f.c1.service, .int .i64 f.c1.group, .int .u64 f.c1.session, .int .u64 f.c1.number, .string f.c1.text] 30), .blk g14 (.cells #[.int .i64 f.c0.kind, .int .i64 f.c0.service, .int .i64 f.c0.group, .int .u64 f.c0.session, .int .u64 f.c0.number, .string f.c0.text] 30), .blk g13 (.cells #[.int .i64 f.c0.kind, .int .i64 f.c0.service, .int .i64 f.c0.group, .int .u64 f.c0.session, .int .u64 f.c0.number, .string f.c0.text, .int .i64 f.c1.kind, .int .i64 f.c1.service, .int .i64 f.c1.group, .int .u64 f.c1.session, .int .u64 f.c1.number, .string f.c1.text] 31), .blk g11 (.cells #[.int .i64 f.b1.kind, .int .i64 f.b1.service, .int .i64 f.b1.group, .int .u64 f.b1.session, .int .u64 f.b1.number, .string f.b1.text] 30), .blk g9 (.cells #[.int .i64 f.b0.kind, .int .i64 f.b0.service, .int .i64 f.b0.group, .int .u64 f.b0.session, .int .u64 f.b0.number, .string f.b0.text] 30), .blk g8 (.cells #[.int .i64 f.b0.kind, .int .i64 f.b0.service, .int .i64 f.b0.group, .int .u64 f.b0.session, .int .u64 f.b0.number, .string f.b0.text, .int .i64 f.b1.kind, .int .i64 f.b1.service, .int .i64 f.b1.group, .int .u64 f.b1.session, .int .u64 f.b1.number, .string f.b1.text] 31), .blk g6 (.cells #[.int .i64 f.a1.kind, .int .i64 f.a1.service, .int .i64 f.a1.group, .int .u64 f.a1.session, .int .u64 f.a1.number, .string f.a1.text] 30), .blk g4 (.cells #[.int .i64 f.a0.kind, .int .i64 f.a0.service, .int .i64 f.a0.group, .int .u64 f.a0.session, .int .u64 f.a0.number, .string f.a0.text] 30), .blk g3 (.cells #[.int .i64 f.a0.kind, .int .i64 f.a0.service, .int .i64 f.a0.group, .int .u64 f.a0.session, .int .u64 f.a0.number, .string f.a0.text, .int .i64 f.a1.kind, .int .i64 f.a1.service, .int .i64 f.a1.group, .int .u64 f.a1.session, .int .u64 f.a1.number, .string f.a1.text] 31), .blk g1 (.cells f.arr 33)]) [0, 1, 2, 3, 4, 5, 6, 7, 8, 9, 10, 11] ?_ ⟨rfl, rfl, rfl, rfl, rfl, rfl, rfl, rfl, rfl, rfl, rfl, rfl, rfl, rfl, rfl, rfl, rfl, rfl, rfl, rfl, rfl, rfl, rfl, rfl, rfl, rfl, rfl, trivial⟩ ⟨rfl, rfl, rfl, rfl, rfl, rfl, rfl, rfl, rfl, rfl, rfl, rfl, trivial⟩ (by decide)
              refine run_callH rfl Tryd.call26 (bldString (F := [.blk g16 (.cells #[.int .i64 f.c1.kind, .int .i64 f.c1.service, .int .i64 f.c1.group, .int .u64 f.c1.session, .int .u64 f.c1.number, .string f.c1.text] 30), .blk g14 (.cells #[.int .i64 f.c0.kind, .int .i64 f.c0.service, .int .i64 f.c0.group, .int .u64 f.c0.session, .int .u64 f.c0.number, .string f.c0.text] 30), .blk g13 (.cells #[.int .i64 f.c0.kind, .int .i64 f.c0.service, .int .i64 f.c0.group, .int .u64 f.c0.session, .int .u64 f.c0.number, .string f.c0.text, .int .i64 f.c1.kind, .int .i64 f.c1.service, .int .i64 f.c1.group, .int .u64 f.c1.session, .int .u64 f.c1.number, .string f.c1.text] 31), .blk g11 (.cells #[.int .i64 f.b1.kind, .int .i64 f.b1.service, .int .i64 f.b1.group, .int .u64 f.b1.session, .int .u64 f.b1.number, .string f.b1.text] 30), .blk g9 (.cells #[.int .i64 f.b0.kind, .int .i64 f.b0.service, .int .i64 f.b0.group, .int .u64 f.b0.session, .int .u64 f.b0.number, .string f.b0.text] 30), .blk g8 (.cells #[.int .i64 f.b0.kind, .int .i64 f.b0.service, .int .i64 f.b0.group, .int .u64 f.b0.session, .int .u64 f.b0.number, .string f.b0.text, .int .i64 f.b1.kind, .int .i64 f.b1.service, .int .i64 f.b1.group, .int .u64 f.b1.session, .int .u64 f.b1.number, .string f.b1.text] 31), .blk g6 (.cells #[.int .i64 f.a1.kind, .int .i64 f.a1.service, .int .i64 f.a1.group, .int .u64 f.a1.session, .int .u64 f.a1.number, .string f.a1.text] 30), .blk g4 (.cells #[.int .i64 f.a0.kind, .int .i64 f.a0.service, .int .i64 f.a0.group, .int .u64 f.a0.session, .int .u64 f.a0.number, .string f.a0.text] 30), .blk g3 (.cells #[.int .i64 f.a0.kind, .int .i64 f.a0.service, .int .i64 f.a0.group, .int .u64 f.a0.session, .int .u64 f.a0.number, .string f.a0.text, .int .i64 f.a1.kind, .int .i64 f.a1.service, .int .i64 f.a1.group, .int .u64 f.a1.session, .int .u64 f.a1.number, .string f.a1.text] 31), .blk g1 (.cells f.arr 33)]) (g := g2) (cap := cg17) (A := Ag17) _ ((((((([] : List UInt8) ++ f.a0.enc) ++ f.a1.enc) ++ f.b0.enc) ++ f.b1.enc) ++ f.c0.enc) ++ f.c1.enc) (by intro h; have := congrArg List.length h; simp only [List.length_append, List.length_nil] at this; omega)) (fun v H' hq => ?_)
              obtain ⟨rfl, rfl⟩ := hq
              refine run_mv rfl ?_
              refine run_mv rfl ?_
              refine run_endops ?_
              refine run_ret rfl (v := .tuple #[.string (bs ((((((([] : List UInt8) ++ f.a0.enc) ++ f.a1.enc) ++ f.b0.enc) ++ f.b1.enc) ++ f.c0.enc) ++ f.c1.enc)), .int .i64 0]) (res2 rfl rfl rfl) ?_
              exact enc_tup (by simp [Fr.enc, Ent.enc, Fr.may, Fr.list, Fr.bytes, List.append_assoc, hb1p, hb2p, hb3p, hb4p, hb5p, hb6p]) (by simp [okCode, Fr.may, Fr.list, hb1p, hb2p, hb3p, hb4p, hb5p, hb6p])

theorem pf_fdecode (l : List UInt8) (hmx : l.length ≤ 9223372036854775807) : Pf Tryd.prog 53 #[.string (bs l)] (.tuple #[(outF l).val, .int .i64 (outFC l)]) := by
  refine pf_of_run Tryd.func53 rfl rfl (fun w0 => ?_)
  refine run_seq rfl ?_
  refine run_region (todo := [0, 1]) rfl rfl ?_
  refine run_alloc rfl Tryd.zeroValue33 (fun g1 => ?_)
  refine run_mv rfl ?_
  refine run_endops ?_
  refine run_seq rfl ?_
  refine run_seq rfl ?_
  refine run_region (todo := [0, 1, 2]) rfl rfl ?_
  refine run_mv rfl ?_
  refine run_rd (v := .int .i64 ((l.length : Nat) : Int)) rfl (rd_lenStr Tryd.underlying9 rfl) ?_
  refine run_rd (v := .bool (((l.length : Nat) : Int) != 168)) rfl (rd_cmp rfl rfl) ?_
  refine run_endops ?_
  refine run_if rfl rfl (fun hb1 => ?_) (fun hb1 => ?_)
  · have hl : l.length ≠ 168 := fun e => ne_of_bne_t hb1 (by rw [e]; rfl)
    refine run_seq rfl ?_
    refine run_region (todo := [0, 1, 2]) rfl rfl ?_
    refine run_rd (v := .agg #[.int .i64 0, .int .i64 0, .int .i64 0, .int .u64 0, .int .u64 0, .string ⟨#[]⟩, .int .i64 0, .int .i64 0, .int .i64 0, .int .u64 0, .int .u64 0, .string ⟨#[]⟩, .int .i64 0, .int .i64 0, .int .i64 0, .int .u64 0, .int .u64 0, .string ⟨#[]⟩, .int .i64 0, .int .i64 0, .int .i64 0, .int .u64 0, .int .u64 0, .string ⟨#[]⟩, .int .i64 0, .int .i64 0, .int .i64 0, .int .u64 0, .int .u64 0, .string ⟨#[]⟩, .int .i64 0, .int .i64 0, .int .i64 0, .int .u64 0, .int .u64 0, .string ⟨#[]⟩]) rfl ((fun w _ => by kernel_rfl)) ?_
    refine run_storeW (j := 0) (c' := #[.int .i64 0, .int .i64 0, .int .i64 0, .int .u64 0, .int .u64 0, .string ⟨#[]⟩, .int .i64 0, .int .i64 0, .int .i64 0, .int .u64 0, .int .u64 0, .string ⟨#[]⟩, .int .i64 0, .int .i64 0, .int .i64 0, .int .u64 0, .int .u64 0, .string ⟨#[]⟩, .int .i64 0, .int .i64 0, .int .i64 0, .int .u64 0, .int .u64 0, .string ⟨#[]⟩, .int .i64 0, .int .i64 0, .int .i64 0, .int .u64 0, .int .u64 0, .string ⟨#[]⟩, .int .i64 0, .int .i64 0, .int .i64 0, .int .u64 0, .int .u64 0, .string ⟨#[]⟩]) rfl Tryd.sizeOf33 rfl rfl rfl rfl rfl rfl ?_
    refine run_mv rfl ?_
    refine run_endops ?_
    refine run_ret rfl (v := .tuple #[.agg #[.int .i64 0, .int .i64 0, .int .i64 0, .int .u64 0, .int .u64 0, .string ⟨#[]⟩, .int .i64 0, .int .i64 0, .int .i64 0, .int .u64 0, .int .u64 0, .string ⟨#[]⟩, .int .i64 0, .int .i64 0, .int .i64 0, .int .u64 0, .int .u64 0, .string ⟨#[]⟩, .int .i64 0, .int .i64 0, .int .i64 0, .int .u64 0, .int .u64 0, .string ⟨#[]⟩, .int .i64 0, .int .i64 0, .int .i64 0, .int .u64 0, .int .u64 0, .string ⟨#[]⟩, .int .i64 0, .int .i64 0, .int .i64 0, .int .u64 0, .int .u64 0, .string ⟨#[]⟩], .int .i64 40]) (res2 rfl ⟨_, rfl, rdv (rd_loadW (j := 0) Tryd.isAgg33 Tryd.sizeOf33 rfl rfl)⟩ rfl) ?_
    exact dec_len hl
  · have hl : l.length = 168 := by have := eq_of_bne_f hb1; omega
    refine run_skip rfl ?_
    refine run_seq rfl ?_
    refine run_region (todo := [0]) rfl rfl ?_
    refine run_alloc rfl Tryd.zeroValue33 (fun g2 => ?_)
    refine run_endops ?_
    refine run_seq rfl ?_
    refine run_seq rfl ?_
    refine run_region (todo := [0]) rfl rfl ?_
    refine run_mv rfl ?_
    refine run_endops ?_
    refine run_block rfl ?_
    refine run_loop rfl ?_
    refine run_again ?_
    refine run_seq rfl ?_
    refine run_region (todo := [0]) rfl rfl ?_
    refine run_rd (v := .bool true) rfl (rd_cmp rfl rfl) ?_
    refine run_endops ?_
    refine run_seq rfl ?_
    refine run_true rfl rfl ?_
    refine run_skip rfl ?_
    refine run_seq rfl ?_
    refine run_block rfl ?_
    refine run_seq rfl ?_
    refine run_region (todo := [0, 1]) rfl rfl ?_
    refine run_mv rfl ?_
    refine run_mv rfl ?_
    refine run_endops ?_
    refine run_seq rfl ?_
    refine run_region (todo := [0]) rfl rfl ?_
    refine run_mv rfl ?_
    refine run_endops ?_
    refine run_block rfl ?_
    refine run_loop rfl ?_
    refine run_again ?_
    refine run_seq rfl ?_
    refine run_region (todo := [0]) rfl rfl ?_
    refine run_rd (v := .bool true) rfl (rd_cmp rfl rfl) ?_
    refine run_endops ?_
    refine run_seq rfl ?_
    refine run_true rfl rfl ?_
    refine run_skip rfl ?_
    refine run_seq rfl ?_
    refine run_block rfl ?_
    refine run_seq rfl ?_
    refine run_region (todo := [0, 1]) rfl rfl ?_
    refine run_mv rfl ?_
    refine run_mv rfl ?_
    refine run_endops ?_
    refine run_seq rfl ?_
    refine run_region (todo := [0, 1, 2, 3, 4, 5, 6, 7, 8]) rfl rfl ?_
    refine run_mv rfl ?_
    refine run_rd (v := .string (bs ((l.drop 0).take 28))) rfl (rd_substr (l := 0) (h := 28) Tryd.underlying9 (.inr ⟨rfl, rfl⟩) (.inl rfl) (by omega) (by rw [bs_size]; omega) (by exact bs_mid)) ?_
    refine run_pf0 (v := .tuple #[.agg ((sE l 0).arr), .int .i64 (sC l 0)]) rfl Tryd.call64 (pf_decodeS l 0 _ rfl) ?_
    refine run_mv rfl ?_
    refine run_rd (v := .agg ((sE l 0).arr)) rfl (rd_extract rfl) ?_
    refine run_rd (v := .int .i64 (sC l 0)) rfl (rd_extract rfl) ?_
    refine run_alloc rfl Tryd.zeroValue30 (fun g3 => ?_)
    refine run_storeW (j := 0) (c' := (sE l 0).arr) rfl Tryd.sizeOf30 rfl rfl rfl rfl rfl rfl ?_
    refine run_mv rfl ?_
    refine run_endops ?_
    refine run_seq rfl ?_
    refine run_seq rfl ?_
    refine run_region (todo := [0, 1]) rfl rfl ?_
    refine run_mv rfl ?_
    refine run_rd (v := .bool ((sC l 0) != 0)) rfl (rd_cmp rfl rfl) ?_
    refine run_endops ?_
    refine run_if rfl rfl (fun hb2 => ?_) (fun hb2 => ?_)
    · have hb2p := sc_bad hb2
      refine run_seq rfl ?_
      refine run_region (todo := [0, 1, 2, 3]) rfl rfl ?_
      refine run_rd (v := .agg #[.int .i64 0, .int .i64 0, .int .i64 0, .int .u64 0, .int .u64 0, .string ⟨#[]⟩, .int .i64 0, .int .i64 0, .int .i64 0, .int .u64 0, .int .u64 0, .string ⟨#[]⟩, .int .i64 0, .int .i64 0, .int .i64 0, .int .u64 0, .int .u64 0, .string ⟨#[]⟩, .int .i64 0, .int .i64 0, .int .i64 0, .int .u64 0, .int .u64 0, .string ⟨#[]⟩, .int .i64 0, .int .i64 0, .int .i64 0, .int .u64 0, .int .u64 0, .string ⟨#[]⟩, .int .i64 0, .int .i64 0, .int .i64 0, .int .u64 0, .int .u64 0, .string ⟨#[]⟩]) rfl ((fun w _ => by kernel_rfl)) ?_
      refine run_mv rfl ?_
      refine run_storeW (j := 2) (c' := #[.int .i64 0, .int .i64 0, .int .i64 0, .int .u64 0, .int .u64 0, .string ⟨#[]⟩, .int .i64 0, .int .i64 0, .int .i64 0, .int .u64 0, .int .u64 0, .string ⟨#[]⟩, .int .i64 0, .int .i64 0, .int .i64 0, .int .u64 0, .int .u64 0, .string ⟨#[]⟩, .int .i64 0, .int .i64 0, .int .i64 0, .int .u64 0, .int .u64 0, .string ⟨#[]⟩, .int .i64 0, .int .i64 0, .int .i64 0, .int .u64 0, .int .u64 0, .string ⟨#[]⟩, .int .i64 0, .int .i64 0, .int .i64 0, .int .u64 0, .int .u64 0, .string ⟨#[]⟩]) rfl Tryd.sizeOf33 rfl rfl rfl rfl rfl rfl ?_
      refine run_mv rfl ?_
      refine run_endops ?_
      refine run_ret rfl (v := .tuple #[.agg #[.int .i64 0, .int .i64 0, .int .i64 0, .int .u64 0, .int .u64 0, .string ⟨#[]⟩, .int .i64 0, .int .i64 0, .int .i64 0, .int .u64 0, .int .u64 0, .string ⟨#[]⟩, .int .i64 0, .int .i64 0, .int .i64 0, .int .u64 0, .int .u64 0, .string ⟨#[]⟩, .int .i64 0, .int .i64 0, .int .i64 0, .int .u64 0, .int .u64 0, .string ⟨#[]⟩, .int .i64 0, .int .i64 0, .int .i64 0, .int .u64 0, .int .u64 0, .string ⟨#[]⟩, .int .i64 0, .int .i64 0, .int .i64 0, .int .u64 0, .int .u64 0, .string ⟨#[]⟩], .int .i64 (sC l 0)]) (res2 rfl ⟨_, rfl, rdv (rd_loadW (j := 2) Tryd.isAgg33 Tryd.sizeOf33 rfl rfl)⟩ rfl) ?_
      exact dec_bad hl (by rintro ⟨e0, e1, e2, e3, e4, e5⟩; omega) hb2p
    · have hb2p := sc_good hb2
      refine run_skip rfl ?_
      refine any_draw (n := 9) rfl rfl rfl (by kernel_rfl) ?_
      refine any_takeM (i := 0) rfl (by kernel_rfl) (by kernel_rfl) (by kernel_rfl) ?_
      refine any_takeM (i := 1) rfl (by kernel_rfl) (by kernel_rfl) (by kernel_rfl) ?_
      refine any_takeM (i := 3) rfl (by kernel_rfl) (by kernel_rfl) (by kernel_rfl) ?_
      refine any_take (i := 4) (v := .string (bs (l.drop 28))) rfl (fun w => (rd_substr (l := 28) (h := l.length) Tryd.underlying9 (.inl rfl) (.inr ⟨rfl, rfl⟩) (by omega) (by rw [bs_size]; exact Nat.le_refl _) (by have h := bs_suf (l := l) (a := 0) (b := 28) (n := l.length) (m := 28) (by omega) (by omega); rw [List.drop_zero] at h; exact h)) w (Sat.start w)) (by kernel_rfl) (by kernel_rfl) (by kernel_rfl) ?_
      refine any_take (i := 5) (v := .pointer (some ⟨g2, 0, none⟩)) rfl (fun w => (rd_indexAddrA (m := 0) (o := 0) Tryd.underlying33 rfl (by decide) Tryd.sizeOf31 rfl) w (Sat.start w)) (by kernel_rfl) (by kernel_rfl) (by kernel_rfl) ?_
      refine any_one (i := 2) (by kernel_rfl) ?_
      refine ro_rd (v := .agg ((sE l 0).arr)) rfl (rd_loadW (j := 0) Tryd.isAgg30 Tryd.sizeOf30 rfl rfl) ?_
      refine any_take (i := 6) (v := .pointer (some ⟨g2, 0, none⟩)) rfl (fun w => (rd_indexAddrA (m := 0) (o := 0) Tryd.underlying31 rfl (by decide) Tryd.sizeOf30 rfl) w (Sat.start w)) (by kernel_rfl) (by kernel_rfl) (by kernel_rfl) ?_
      refine any_one (i := 7) (by kernel_rfl) ?_
      refine ro_store (j := 1) (c' := #[.int .i64 ((sE l 0).kind), .int .i64 ((sE l 0).service), .int .i64 ((sE l 0).group), .int .u64 ((sE l 0).session), .int .u64 ((sE l 0).number), .string ((sE l 0).text), .int .i64 0, .int .i64 0, .int .i64 0, .int .u64 0, .int .u64 0, .string ⟨#[]⟩, .int .i64 0, .int .i64 0, .int .i64 0, .int .u64 0, .int .u64 0, .string ⟨#[]⟩, .int .i64 0, .int .i64 0, .int .i64 0, .int .u64 0, .int .u64 0, .string ⟨#[]⟩, .int .i64 0, .int .i64 0, .int .i64 0, .int .u64 0, .int .u64 0, .string ⟨#[]⟩, .int .i64 0, .int .i64 0, .int .i64 0, .int .u64 0, .int .u64 0, .string ⟨#[]⟩]) rfl Tryd.sizeOf30 rfl rfl rfl rfl (by kernel_rfl) rfl ?_
      refine any_takeM (i := 8) rfl (by kernel_rfl) (by kernel_rfl) (by kernel_rfl) ?_
      refine any_end (by kernel_rfl) ?_
      refine run_endblock ?_
      refine run_region (todo := [0, 1]) rfl rfl ?_
      refine run_rd (v := .int .i64 1) rfl (rd_add (r := 1) (by decide)) ?_
      refine run_mv rfl ?_
      refine run_endops ?_
      refine run_again ?_
      refine run_seq rfl ?_
      refine run_region (todo := [0]) rfl rfl ?_
      refine run_rd (v := .bool true) rfl (rd_cmp rfl rfl) ?_
      refine run_endops ?_
      refine run_seq rfl ?_
      refine run_true rfl rfl ?_
      refine run_skip rfl ?_
      refine run_seq rfl ?_
      refine run_block rfl ?_
      refine run_seq rfl ?_
      refine run_region (todo := [0, 1]) rfl rfl ?_
      refine run_mv rfl ?_
      refine run_mv rfl ?_
      refine run_endops ?_
      refine run_seq rfl ?_
      refine run_region (todo := [0, 1, 2, 3, 4, 5, 6, 7, 8]) rfl rfl ?_
      refine run_mv rfl ?_
      refine run_rd (v := .string (bs ((l.drop 28).take 28))) rfl (rd_substr (l := 0) (h := 28) Tryd.underlying9 (.inr ⟨rfl, rfl⟩) (.inl rfl) (by omega) (by simp only [bs_size, List.length_drop]; omega) bs_pre) ?_
      refine run_pf0 (v := .tuple #[.agg ((sE l 1).arr), .int .i64 (sC l 1)]) rfl Tryd.call64 (pf_decodeS l 1 _ rfl) ?_
      refine run_mv rfl ?_
      refine run_rd (v := .agg ((sE l 1).arr)) rfl (rd_extract rfl) ?_
      refine run_rd (v := .int .i64 (sC l 1)) rfl (rd_extract rfl) ?_
      refine run_alloc rfl Tryd.zeroValue30 (fun g4 => ?_)
      refine run_storeW (j := 0) (c' := (sE l 1).arr) rfl Tryd.sizeOf30 rfl rfl rfl rfl rfl rfl ?_
      refine run_mv rfl ?_
      refine run_endops ?_
      refine run_seq rfl ?_
      refine run_seq rfl ?_
      refine run_region (todo := [0, 1]) rfl rfl ?_
      refine run_mv rfl ?_
      refine run_rd (v := .bool ((sC l 1) != 0)) rfl (rd_cmp rfl rfl) ?_
      refine run_endops ?_
      refine run_if rfl rfl (fun hb3 => ?_) (fun hb3 => ?_)
      · have hb3p := sc_bad hb3
        refine run_seq rfl ?_
        refine run_region (todo := [0, 1, 2, 3]) rfl rfl ?_
        refine run_rd (v := .agg #[.int .i64 0, .int .i64 0, .int .i64 0, .int .u64 0, .int .u64 0, .string ⟨#[]⟩, .int .i64 0, .int .i64 0, .int .i64 0, .int .u64 0, .int .u64 0, .string ⟨#[]⟩, .int .i64 0, .int .i64 0, .int .i64 0, .int .u64 0, .int .u64 0, .string ⟨#[]⟩, .int .i64 0, .int .i64 0, .int .i64 0, .int .u64 0, .int .u64 0, .string ⟨#[]⟩, .int .i64 0, .int .i64 0, .int .i64 0, .int .u64 0, .int .u64 0, .string ⟨#[]⟩, .int .i64 0, .int .i64 0, .int .i64 0, .int .u64 0, .int .u64 0, .string ⟨#[]⟩]) rfl ((fun w _ => by kernel_rfl)) ?_
        refine run_mv rfl ?_
        refine run_storeW (j := 3) (c' := #[.int .i64 0, .int .i64 0, .int .i64 0, .int .u64 0, .int .u64 0, .string ⟨#[]⟩, .int .i64 0, .int .i64 0, .int .i64 0, .int .u64 0, .int .u64 0, .string ⟨#[]⟩, .int .i64 0, .int .i64 0, .int .i64 0, .int .u64 0, .int .u64 0, .string ⟨#[]⟩, .int .i64 0, .int .i64 0, .int .i64 0, .int .u64 0, .int .u64 0, .string ⟨#[]⟩, .int .i64 0, .int .i64 0, .int .i64 0, .int .u64 0, .int .u64 0, .string ⟨#[]⟩, .int .i64 0, .int .i64 0, .int .i64 0, .int .u64 0, .int .u64 0, .string ⟨#[]⟩]) rfl Tryd.sizeOf33 rfl rfl rfl rfl rfl rfl ?_
        refine run_mv rfl ?_
        refine run_endops ?_
        refine run_ret rfl (v := .tuple #[.agg #[.int .i64 0, .int .i64 0, .int .i64 0, .int .u64 0, .int .u64 0, .string ⟨#[]⟩, .int .i64 0, .int .i64 0, .int .i64 0, .int .u64 0, .int .u64 0, .string ⟨#[]⟩, .int .i64 0, .int .i64 0, .int .i64 0, .int .u64 0, .int .u64 0, .string ⟨#[]⟩, .int .i64 0, .int .i64 0, .int .i64 0, .int .u64 0, .int .u64 0, .string ⟨#[]⟩, .int .i64 0, .int .i64 0, .int .i64 0, .int .u64 0, .int .u64 0, .string ⟨#[]⟩, .int .i64 0, .int .i64 0, .int .i64 0, .int .u64 0, .int .u64 0, .string ⟨#[]⟩], .int .i64 (sC l 1)]) (res2 rfl ⟨_, rfl, rdv (rd_loadW (j := 3) Tryd.isAgg33 Tryd.sizeOf33 rfl rfl)⟩ rfl) ?_
        exact dec_bad hl (by rintro ⟨e0, e1, e2, e3, e4, e5⟩; omega) hb3p
      · have hb3p := sc_good hb3
        refine run_skip rfl ?_
        refine any_draw (n := 9) rfl rfl rfl (by kernel_rfl) ?_
        refine any_takeM (i := 0) rfl (by kernel_rfl) (by kernel_rfl) (by kernel_rfl) ?_
        refine any_takeM (i := 1) rfl (by kernel_rfl) (by kernel_rfl) (by kernel_rfl) ?_
        refine any_takeM (i := 3) rfl (by kernel_rfl) (by kernel_rfl) (by kernel_rfl) ?_
        refine any_take (i := 4) (v := .string (bs (l.drop 56))) rfl (fun w => (rd_substr (l := 28) (h := l.length - 28) Tryd.underlying9 (.inl rfl) (.inr ⟨rfl, by rw [bs_size, List.length_drop]⟩) (by omega) (by simp only [bs_size, List.length_drop]; omega) (bs_suf rfl rfl)) w (Sat.start w)) (by kernel_rfl) (by kernel_rfl) (by kernel_rfl) ?_
        refine any_take (i := 5) (v := .pointer (some ⟨g2, 0, none⟩)) rfl (fun w => (rd_indexAddrA (m := 0) (o := 0) Tryd.underlying33 rfl (by decide) Tryd.sizeOf31 rfl) w (Sat.start w)) (by kernel_rfl) (by kernel_rfl) (by kernel_rfl) ?_
        refine any_one (i := 2) (by kernel_rfl) ?_
        refine ro_rd (v := .agg ((sE l 1).arr)) rfl (rd_loadW (j := 0) Tryd.isAgg30 Tryd.sizeOf30 rfl rfl) ?_
        refine any_take (i := 6) (v := .pointer (some ⟨g2, 6, none⟩)) rfl (fun w => (rd_indexAddrA (m := 1) (o := 6) Tryd.underlying31 rfl (by decide) Tryd.sizeOf30 rfl) w (Sat.start w)) (by kernel_rfl) (by kernel_rfl) (by kernel_rfl) ?_
        refine any_one (i := 7) (by kernel_rfl) ?_
        refine ro_store (j := 2) (c' := #[.int .i64 ((sE l 0).kind), .int .i64 ((sE l 0).service), .int .i64 ((sE l 0).group), .int .u64 ((sE l 0).session), .int .u64 ((sE l 0).number), .string ((sE l 0).text), .int .i64 ((sE l 1).kind), .int .i64 ((sE l 1).service), .int .i64 ((sE l 1).group), .int .u64 ((sE l 1).session), .int .u64 ((sE l 1).number), .string ((sE l 1).text), .int .i64 0, .int .i64 0, .int .i64 0, .int .u64 0, .int .u64 0, .string ⟨#[]⟩, .int .i64 0, .int .i64 0, .int .i64 0, .int .u64 0, .int .u64 0, .string ⟨#[]⟩, .int .i64 0, .int .i64 0, .int .i64 0, .int .u64 0, .int .u64 0, .string ⟨#[]⟩, .int .i64 0, .int .i64 0, .int .i64 0, .int .u64 0, .int .u64 0, .string ⟨#[]⟩]) rfl Tryd.sizeOf30 rfl rfl rfl rfl (by kernel_rfl) rfl ?_
        refine any_takeM (i := 8) rfl (by kernel_rfl) (by kernel_rfl) (by kernel_rfl) ?_
        refine any_end (by kernel_rfl) ?_
        refine run_endblock ?_
        refine run_region (todo := [0, 1]) rfl rfl ?_
        refine run_rd (v := .int .i64 2) rfl (rd_add (r := 2) (by decide)) ?_
        refine run_mv rfl ?_
        refine run_endops ?_
        refine run_again ?_
        refine run_seq rfl ?_
        refine run_region (todo := [0]) rfl rfl ?_
        refine run_rd (v := .bool false) rfl (rd_cmp rfl rfl) ?_
        refine run_endops ?_
        refine run_seq rfl ?_
        refine run_false rfl rfl ?_
        refine run_exit rfl rfl ?_
        refine run_endblock ?_
        refine run_region (todo := [0, 1]) rfl rfl ?_
        refine run_rd (v := .int .i64 1) rfl (rd_add (r := 1) (by decide)) ?_
        refine run_mv rfl ?_
        refine run_endops ?_
        refine run_again ?_
        refine run_seq rfl ?_
        refine run_region (todo := [0]) rfl rfl ?_
        refine run_rd (v := .bool true) rfl (rd_cmp rfl rfl) ?_
        refine run_endops ?_
        refine run_seq rfl ?_
        refine run_true rfl rfl ?_
        refine run_skip rfl ?_
        refine run_seq rfl ?_
        refine run_block rfl ?_
        refine run_seq rfl ?_
        refine run_region (todo := [0, 1]) rfl rfl ?_
        refine run_mv rfl ?_
        refine run_mv rfl ?_
        refine run_endops ?_
        refine run_seq rfl ?_
        refine run_region (todo := [0]) rfl rfl ?_
        refine run_mv rfl ?_
        refine run_endops ?_
        refine run_block rfl ?_
        refine run_loop rfl ?_
        refine run_again ?_
        refine run_seq rfl ?_
        refine run_region (todo := [0]) rfl rfl ?_
        refine run_rd (v := .bool true) rfl (rd_cmp rfl rfl) ?_
        refine run_endops ?_
        refine run_seq rfl ?_
        refine run_true rfl rfl ?_
        refine run_skip rfl ?_
        refine run_seq rfl ?_
        refine run_block rfl ?_
        refine run_seq rfl ?_
        refine run_region (todo := [0, 1]) rfl rfl ?_
        refine run_mv rfl ?_
        refine run_mv rfl ?_
        refine run_endops ?_
        refine run_seq rfl ?_
        refine run_region (todo := [0, 1, 2, 3, 4, 5, 6, 7, 8]) rfl rfl ?_
        refine run_mv rfl ?_
        refine run_rd (v := .string (bs ((l.drop 56).take 28))) rfl (rd_substr (l := 0) (h := 28) Tryd.underlying9 (.inr ⟨rfl, rfl⟩) (.inl rfl) (by omega) (by simp only [bs_size, List.length_drop]; omega) bs_pre) ?_
        refine run_pf0 (v := .tuple #[.agg ((sE l 2).arr), .int .i64 (sC l 2)]) rfl Tryd.call64 (pf_decodeS l 2 _ rfl) ?_
        refine run_mv rfl ?_
        refine run_rd (v := .agg ((sE l 2).arr)) rfl (rd_extract rfl) ?_
        refine run_rd (v := .int .i64 (sC l 2)) rfl (rd_extract rfl) ?_
        refine run_alloc rfl Tryd.zeroValue30 (fun g5 => ?_)
        refine run_storeW (j := 0) (c' := (sE l 2).arr) rfl Tryd.sizeOf30 rfl rfl rfl rfl rfl rfl ?_
        refine run_mv rfl ?_
        refine run_endops ?_
        refine run_seq rfl ?_
        refine run_seq rfl ?_
        refine run_region (todo := [0, 1]) rfl rfl ?_
        refine run_mv rfl ?_
        refine run_rd (v := .bool ((sC l 2) != 0)) rfl (rd_cmp rfl rfl) ?_
        refine run_endops ?_
        refine run_if rfl rfl (fun hb4 => ?_) (fun hb4 => ?_)
        · have hb4p := sc_bad hb4
          refine run_seq rfl ?_
          refine run_region (todo := [0, 1, 2, 3]) rfl rfl ?_
          refine run_rd (v := .agg #[.int .i64 0, .int .i64 0, .int .i64 0, .int .u64 0, .int .u64 0, .string ⟨#[]⟩, .int .i64 0, .int .i64 0, .int .i64 0, .int .u64 0, .int .u64 0, .string ⟨#[]⟩, .int .i64 0, .int .i64 0, .int .i64 0, .int .u64 0, .int .u64 0, .string ⟨#[]⟩, .int .i64 0, .int .i64 0, .int .i64 0, .int .u64 0, .int .u64 0, .string ⟨#[]⟩, .int .i64 0, .int .i64 0, .int .i64 0, .int .u64 0, .int .u64 0, .string ⟨#[]⟩, .int .i64 0, .int .i64 0, .int .i64 0, .int .u64 0, .int .u64 0, .string ⟨#[]⟩]) rfl ((fun w _ => by kernel_rfl)) ?_
          refine run_mv rfl ?_
          refine run_storeW (j := 4) (c' := #[.int .i64 0, .int .i64 0, .int .i64 0, .int .u64 0, .int .u64 0, .string ⟨#[]⟩, .int .i64 0, .int .i64 0, .int .i64 0, .int .u64 0, .int .u64 0, .string ⟨#[]⟩, .int .i64 0, .int .i64 0, .int .i64 0, .int .u64 0, .int .u64 0, .string ⟨#[]⟩, .int .i64 0, .int .i64 0, .int .i64 0, .int .u64 0, .int .u64 0, .string ⟨#[]⟩, .int .i64 0, .int .i64 0, .int .i64 0, .int .u64 0, .int .u64 0, .string ⟨#[]⟩, .int .i64 0, .int .i64 0, .int .i64 0, .int .u64 0, .int .u64 0, .string ⟨#[]⟩]) rfl Tryd.sizeOf33 rfl rfl rfl rfl rfl rfl ?_
          refine run_mv rfl ?_
          refine run_endops ?_
          refine run_ret rfl (v := .tuple #[.agg #[.int .i64 0, .int .i64 0, .int .i64 0, .int .u64 0, .int .u64 0, .string ⟨#[]⟩, .int .i64 0, .int .i64 0, .int .i64 0, .int .u64 0, .int .u64 0, .string ⟨#[]⟩, .int .i64 0, .int .i64 0, .int .i64 0, .int .u64 0, .int .u64 0, .string ⟨#[]⟩, .int .i64 0, .int .i64 0, .int .i64 0, .int .u64 0, .int .u64 0, .string ⟨#[]⟩, .int .i64 0, .int .i64 0, .int .i64 0, .int .u64 0, .int .u64 0, .string ⟨#[]⟩, .int .i64 0, .int .i64 0, .int .i64 0, .int .u64 0, .int .u64 0, .string ⟨#[]⟩], .int .i64 (sC l 2)]) (res2 rfl ⟨_, rfl, rdv (rd_loadW (j := 4) Tryd.isAgg33 Tryd.sizeOf33 rfl rfl)⟩ rfl) ?_
          exact dec_bad hl (by rintro ⟨e0, e1, e2, e3, e4, e5⟩; omega) hb4p
        · have hb4p := sc_good hb4
          refine run_skip rfl ?_
          refine any_draw (n := 9) rfl rfl rfl (by kernel_rfl) ?_
          refine any_takeM (i := 0) rfl (by kernel_rfl) (by kernel_rfl) (by kernel_rfl) ?_
          refine any_takeM (i := 1) rfl (by kernel_rfl) (by kernel_rfl) (by kernel_rfl) ?_
          refine any_takeM (i := 3) rfl (by kernel_rfl) (by kernel_rfl) (by kernel_rfl) ?_
          refine any_take (i := 4) (v := .string (bs (l.drop 84))) rfl (fun w => (rd_substr (l := 28) (h := l.length - 56) Tryd.underlying9 (.inl rfl) (.inr ⟨rfl, by rw [bs_size, List.length_drop]⟩) (by omega) (by simp only [bs_size, List.length_drop]; omega) (bs_suf rfl rfl)) w (Sat.start w)) (by kernel_rfl) (by kernel_rfl) (by kernel_rfl) ?_
          refine any_take (i := 5) (v := .pointer (some ⟨g2, 12, none⟩)) rfl (fun w => (rd_indexAddrA (m := 1) (o := 12) Tryd.underlying33 rfl (by decide) Tryd.sizeOf31 rfl) w (Sat.start w)) (by kernel_rfl) (by kernel_rfl) (by kernel_rfl) ?_
          refine any_one (i := 2) (by kernel_rfl) ?_
          refine ro_rd (v := .agg ((sE l 2).arr)) rfl (rd_loadW (j := 0) Tryd.isAgg30 Tryd.sizeOf30 rfl rfl) ?_
          refine any_take (i := 6) (v := .pointer (some ⟨g2, 12, none⟩)) rfl (fun w => (rd_indexAddrA (m := 0) (o := 12) Tryd.underlying31 rfl (by decide) Tryd.sizeOf30 rfl) w (Sat.start w)) (by kernel_rfl) (by kernel_rfl) (by kernel_rfl) ?_
          refine any_one (i := 7) (by kernel_rfl) ?_
          refine ro_store (j := 3) (c' := #[.int .i64 ((sE l 0).kind), .int .i64 ((sE l 0).service), .int .i64 ((sE l 0).group), .int .u64 ((sE l 0).session), .int .u64 ((sE l 0).number), .string ((sE l 0).text), .int .i64 ((sE l 1).kind), .int .i64 ((sE l 1).service), .int .i64 ((sE l 1).group), .int .u64 ((sE l 1).session), .int .u64 ((sE l 1).number), .string ((sE l 1).text), .int .i64 ((sE l 2).kind), .int .i64 ((sE l 2).service), .int .i64 ((sE l 2).group), .int .u64 ((sE l 2).session), .int .u64 ((sE l 2).number), .string ((sE l 2).text), .int .i64 0, .int .i64 0, .int .i64 0, .int .u64 0, .int .u64 0, .string ⟨#[]⟩, .int .i64 0, .int .i64 0, .int .i64 0, .int .u64 0, .int .u64 0, .string ⟨#[]⟩, .int .i64 0, .int .i64 0, .int .i64 0, .int .u64 0, .int .u64 0, .string ⟨#[]⟩]) rfl Tryd.sizeOf30 rfl rfl rfl rfl (by kernel_rfl) rfl ?_
          refine any_takeM (i := 8) rfl (by kernel_rfl) (by kernel_rfl) (by kernel_rfl) ?_
          refine any_end (by kernel_rfl) ?_
          refine run_endblock ?_
          refine run_region (todo := [0, 1]) rfl rfl ?_
          refine run_rd (v := .int .i64 1) rfl (rd_add (r := 1) (by decide)) ?_
          refine run_mv rfl ?_
          refine run_endops ?_
          refine run_again ?_
          refine run_seq rfl ?_
          refine run_region (todo := [0]) rfl rfl ?_
          refine run_rd (v := .bool true) rfl (rd_cmp rfl rfl) ?_
          refine run_endops ?_
          refine run_seq rfl ?_
          refine run_true rfl rfl ?_
          refine run_skip rfl ?_
          refine run_seq rfl ?_
          refine run_block rfl ?_
          refine run_seq rfl ?_
          refine run_region (todo := [0, 1]) rfl rfl ?_
          refine run_mv rfl ?_
          refine run_mv rfl ?_
          refine run_endops ?_
          refine run_seq rfl ?_
          refine run_region (todo := [0, 1, 2, 3, 4, 5, 6, 7, 8]) rfl rfl ?_
          refine run_mv rfl ?_
          refine run_rd (v := .string (bs ((l.drop 84).take 28))) rfl (rd_substr (l := 0) (h := 28) Tryd.underlying9 (.inr ⟨rfl, rfl⟩) (.inl rfl) (by omega) (by simp only [bs_size, List.length_drop]; omega) bs_pre) ?_
          refine run_pf0 (v := .tuple #[.agg ((sE l 3).arr), .int .i64 (sC l 3)]) rfl Tryd.call64 (pf_decodeS l 3 _ rfl) ?_
          refine run_mv rfl ?_
          refine run_rd (v := .agg ((sE l 3).arr)) rfl (rd_extract rfl) ?_
          refine run_rd (v := .int .i64 (sC l 3)) rfl (rd_extract rfl) ?_
          refine run_alloc rfl Tryd.zeroValue30 (fun g6 => ?_)
          refine run_storeW (j := 0) (c' := (sE l 3).arr) rfl Tryd.sizeOf30 rfl rfl rfl rfl rfl rfl ?_
          refine run_mv rfl ?_
          refine run_endops ?_
          refine run_seq rfl ?_
          refine run_seq rfl ?_
          refine run_region (todo := [0, 1]) rfl rfl ?_
          refine run_mv rfl ?_
          refine run_rd (v := .bool ((sC l 3) != 0)) rfl (rd_cmp rfl rfl) ?_
          refine run_endops ?_
          refine run_if rfl rfl (fun hb5 => ?_) (fun hb5 => ?_)
          · have hb5p := sc_bad hb5
            refine run_seq rfl ?_
            refine run_region (todo := [0, 1, 2, 3]) rfl rfl ?_
            refine run_rd (v := .agg #[.int .i64 0, .int .i64 0, .int .i64 0, .int .u64 0, .int .u64 0, .string ⟨#[]⟩, .int .i64 0, .int .i64 0, .int .i64 0, .int .u64 0, .int .u64 0, .string ⟨#[]⟩, .int .i64 0, .int .i64 0, .int .i64 0, .int .u64 0, .int .u64 0, .string ⟨#[]⟩, .int .i64 0, .int .i64 0, .int .i64 0, .int .u64 0, .int .u64 0, .string ⟨#[]⟩, .int .i64 0, .int .i64 0, .int .i64 0, .int .u64 0, .int .u64 0, .string ⟨#[]⟩, .int .i64 0, .int .i64 0, .int .i64 0, .int .u64 0, .int .u64 0, .string ⟨#[]⟩]) rfl ((fun w _ => by kernel_rfl)) ?_
            refine run_mv rfl ?_
            refine run_storeW (j := 5) (c' := #[.int .i64 0, .int .i64 0, .int .i64 0, .int .u64 0, .int .u64 0, .string ⟨#[]⟩, .int .i64 0, .int .i64 0, .int .i64 0, .int .u64 0, .int .u64 0, .string ⟨#[]⟩, .int .i64 0, .int .i64 0, .int .i64 0, .int .u64 0, .int .u64 0, .string ⟨#[]⟩, .int .i64 0, .int .i64 0, .int .i64 0, .int .u64 0, .int .u64 0, .string ⟨#[]⟩, .int .i64 0, .int .i64 0, .int .i64 0, .int .u64 0, .int .u64 0, .string ⟨#[]⟩, .int .i64 0, .int .i64 0, .int .i64 0, .int .u64 0, .int .u64 0, .string ⟨#[]⟩]) rfl Tryd.sizeOf33 rfl rfl rfl rfl rfl rfl ?_
            refine run_mv rfl ?_
            refine run_endops ?_
            refine run_ret rfl (v := .tuple #[.agg #[.int .i64 0, .int .i64 0, .int .i64 0, .int .u64 0, .int .u64 0, .string ⟨#[]⟩, .int .i64 0, .int .i64 0, .int .i64 0, .int .u64 0, .int .u64 0, .string ⟨#[]⟩, .int .i64 0, .int .i64 0, .int .i64 0, .int .u64 0, .int .u64 0, .string ⟨#[]⟩, .int .i64 0, .int .i64 0, .int .i64 0, .int .u64 0, .int .u64 0, .string ⟨#[]⟩, .int .i64 0, .int .i64 0, .int .i64 0, .int .u64 0, .int .u64 0, .string ⟨#[]⟩, .int .i64 0, .int .i64 0, .int .i64 0, .int .u64 0, .int .u64 0, .string ⟨#[]⟩], .int .i64 (sC l 3)]) (res2 rfl ⟨_, rfl, rdv (rd_loadW (j := 5) Tryd.isAgg33 Tryd.sizeOf33 rfl rfl)⟩ rfl) ?_
            exact dec_bad hl (by rintro ⟨e0, e1, e2, e3, e4, e5⟩; omega) hb5p
          · have hb5p := sc_good hb5
            refine run_skip rfl ?_
            refine any_draw (n := 9) rfl rfl rfl (by kernel_rfl) ?_
            refine any_takeM (i := 0) rfl (by kernel_rfl) (by kernel_rfl) (by kernel_rfl) ?_
            refine any_takeM (i := 1) rfl (by kernel_rfl) (by kernel_rfl) (by kernel_rfl) ?_
            refine any_takeM (i := 3) rfl (by kernel_rfl) (by kernel_rfl) (by kernel_rfl) ?_
            refine any_take (i := 4) (v := .string (bs (l.drop 112))) rfl (fun w => (rd_substr (l := 28) (h := l.length - 84) Tryd.underlying9 (.inl rfl) (.inr ⟨rfl, by rw [bs_size, List.length_drop]⟩) (by omega) (by simp only [bs_size, List.length_drop]; omega) (bs_suf rfl rfl)) w (Sat.start w)) (by kernel_rfl) (by kernel_rfl) (by kernel_rfl) ?_
            refine any_take (i := 5) (v := .pointer (some ⟨g2, 12, none⟩)) rfl (fun w => (rd_indexAddrA (m := 1) (o := 12) Tryd.underlying33 rfl (by decide) Tryd.sizeOf31 rfl) w (Sat.start w)) (by kernel_rfl) (by kernel_rfl) (by kernel_rfl) ?_
            refine any_one (i := 2) (by kernel_rfl) ?_
            refine ro_rd (v := .agg ((sE l 3).arr)) rfl (rd_loadW (j := 0) Tryd.isAgg30 Tryd.sizeOf30 rfl rfl) ?_
            refine any_take (i := 6) (v := .pointer (some ⟨g2, 18, none⟩)) rfl (fun w => (rd_indexAddrA (m := 1) (o := 18) Tryd.underlying31 rfl (by decide) Tryd.sizeOf30 rfl) w (Sat.start w)) (by kernel_rfl) (by kernel_rfl) (by kernel_rfl) ?_
            refine any_one (i := 7) (by kernel_rfl) ?_
            refine ro_store (j := 4) (c' := #[.int .i64 ((sE l 0).kind), .int .i64 ((sE l 0).service), .int .i64 ((sE l 0).group), .int .u64 ((sE l 0).session), .int .u64 ((sE l 0).number), .string ((sE l 0).text), .int .i64 ((sE l 1).kind), .int .i64 ((sE l 1).service), .int .i64 ((sE l 1).group), .int .u64 ((sE l 1).session), .int .u64 ((sE l 1).number), .string ((sE l 1).text), .int .i64 ((sE l 2).kind), .int .i64 ((sE l 2).service), .int .i64 ((sE l 2).group), .int .u64 ((sE l 2).session), .int .u64 ((sE l 2).number), .string ((sE l 2).text), .int .i64 ((sE l 3).kind), .int .i64 ((sE l 3).service), .int .i64 ((sE l 3).group), .int .u64 ((sE l 3).session), .int .u64 ((sE l 3).number), .string ((sE l 3).text), .int .i64 0, .int .i64 0, .int .i64 0, .int .u64 0, .int .u64 0, .string ⟨#[]⟩, .int .i64 0, .int .i64 0, .int .i64 0, .int .u64 0, .int .u64 0, .string ⟨#[]⟩]) rfl Tryd.sizeOf30 rfl rfl rfl rfl (by kernel_rfl) rfl ?_
            refine any_takeM (i := 8) rfl (by kernel_rfl) (by kernel_rfl) (by kernel_rfl) ?_
            refine any_end (by kernel_rfl) ?_
            refine run_endblock ?_
            refine run_region (todo := [0, 1]) rfl rfl ?_
            refine run_rd (v := .int .i64 2) rfl (rd_add (r := 2) (by decide)) ?_
            refine run_mv rfl ?_
            refine run_endops ?_
            refine run_again ?_
            refine run_seq rfl ?_
            refine run_region (todo := [0]) rfl rfl ?_
            refine run_rd (v := .bool false) rfl (rd_cmp rfl rfl) ?_
            refine run_endops ?_
            refine run_seq rfl ?_
            refine run_false rfl rfl ?_
            refine run_exit rfl rfl ?_
            refine run_endblock ?_
            refine run_region (todo := [0, 1]) rfl rfl ?_
            refine run_rd (v := .int .i64 2) rfl (rd_add (r := 2) (by decide)) ?_
            refine run_mv rfl ?_
            refine run_endops ?_
            refine run_again ?_
            refine run_seq rfl ?_
            refine run_region (todo := [0]) rfl rfl ?_
            refine run_rd (v := .bool true) rfl (rd_cmp rfl rfl) ?_
            refine run_endops ?_
            refine run_seq rfl ?_
            refine run_true rfl rfl ?_
            refine run_skip rfl ?_
            refine run_seq rfl ?_
            refine run_block rfl ?_
            refine run_seq rfl ?_
            refine run_region (todo := [0, 1]) rfl rfl ?_
            refine run_mv rfl ?_
            refine run_mv rfl ?_
            refine run_endops ?_
            refine run_seq rfl ?_
            refine run_region (todo := [0]) rfl rfl ?_
            refine run_mv rfl ?_
            refine run_endops ?_
            refine run_block rfl ?_
            refine run_loop rfl ?_
            refine run_again ?_
            refine run_seq rfl ?_
            refine run_region (todo := [0]) rfl rfl ?_
            refine run_rd (v := .bool true) rfl (rd_cmp rfl rfl) ?_
            refine run_endops ?_
            refine run_seq rfl ?_
            refine run_true rfl rfl ?_
            refine run_skip rfl ?_
            refine run_seq rfl ?_
            refine run_block rfl ?_
            refine run_seq rfl ?_
            refine run_region (todo := [0, 1]) rfl rfl ?_
            refine run_mv rfl ?_
            refine run_mv rfl ?_
            refine run_endops ?_
            refine run_seq rfl ?_
            refine run_region (todo := [0, 1, 2, 3, 4, 5, 6, 7, 8]) rfl rfl ?_
            refine run_mv rfl ?_
            refine run_rd (v := .string (bs ((l.drop 112).take 28))) rfl (rd_substr (l := 0) (h := 28) Tryd.underlying9 (.inr ⟨rfl, rfl⟩) (.inl rfl) (by omega) (by simp only [bs_size, List.length_drop]; omega) bs_pre) ?_
            refine run_pf0 (v := .tuple #[.agg ((sE l 4).arr), .int .i64 (sC l 4)]) rfl Tryd.call64 (pf_decodeS l 4 _ rfl) ?_
            refine run_mv rfl ?_
            refine run_rd (v := .agg ((sE l 4).arr)) rfl (rd_extract rfl) ?_
            refine run_rd (v := .int .i64 (sC l 4)) rfl (rd_extract rfl) ?_
            refine run_alloc rfl Tryd.zeroValue30 (fun g7 => ?_)
            refine run_storeW (j := 0) (c' := (sE l 4).arr) rfl Tryd.sizeOf30 rfl rfl rfl rfl rfl rfl ?_
            refine run_mv rfl ?_
            refine run_endops ?_
            refine run_seq rfl ?_
            refine run_seq rfl ?_
            refine run_region (todo := [0, 1]) rfl rfl ?_
            refine run_mv rfl ?_
            refine run_rd (v := .bool ((sC l 4) != 0)) rfl (rd_cmp rfl rfl) ?_
            refine run_endops ?_
            refine run_if rfl rfl (fun hb6 => ?_) (fun hb6 => ?_)
            · have hb6p := sc_bad hb6
              refine run_seq rfl ?_
              refine run_region (todo := [0, 1, 2, 3]) rfl rfl ?_
              refine run_rd (v := .agg #[.int .i64 0, .int .i64 0, .int .i64 0, .int .u64 0, .int .u64 0, .string ⟨#[]⟩, .int .i64 0, .int .i64 0, .int .i64 0, .int .u64 0, .int .u64 0, .string ⟨#[]⟩, .int .i64 0, .int .i64 0, .int .i64 0, .int .u64 0, .int .u64 0, .string ⟨#[]⟩, .int .i64 0, .int .i64 0, .int .i64 0, .int .u64 0, .int .u64 0, .string ⟨#[]⟩, .int .i64 0, .int .i64 0, .int .i64 0, .int .u64 0, .int .u64 0, .string ⟨#[]⟩, .int .i64 0, .int .i64 0, .int .i64 0, .int .u64 0, .int .u64 0, .string ⟨#[]⟩]) rfl ((fun w _ => by kernel_rfl)) ?_
              refine run_mv rfl ?_
              refine run_storeW (j := 6) (c' := #[.int .i64 0, .int .i64 0, .int .i64 0, .int .u64 0, .int .u64 0, .string ⟨#[]⟩, .int .i64 0, .int .i64 0, .int .i64 0, .int .u64 0, .int .u64 0, .string ⟨#[]⟩, .int .i64 0, .int .i64 0, .int .i64 0, .int .u64 0, .int .u64 0, .string ⟨#[]⟩, .int .i64 0, .int .i64 0, .int .i64 0, .int .u64 0, .int .u64 0, .string ⟨#[]⟩, .int .i64 0, .int .i64 0, .int .i64 0, .int .u64 0, .int .u64 0, .string ⟨#[]⟩, .int .i64 0, .int .i64 0, .int .i64 0, .int .u64 0, .int .u64 0, .string ⟨#[]⟩]) rfl Tryd.sizeOf33 rfl rfl rfl rfl rfl rfl ?_
              refine run_mv rfl ?_
              refine run_endops ?_
              refine run_ret rfl (v := .tuple #[.agg #[.int .i64 0, .int .i64 0, .int .i64 0, .int .u64 0, .int .u64 0, .string ⟨#[]⟩, .int .i64 0, .int .i64 0, .int .i64 0, .int .u64 0, .int .u64 0, .string ⟨#[]⟩, .int .i64 0, .int .i64 0, .int .i64 0, .int .u64 0, .int .u64 0, .string ⟨#[]⟩, .int .i64 0, .int .i64 0, .int .i64 0, .int .u64 0, .int .u64 0, .string ⟨#[]⟩, .int .i64 0, .int .i64 0, .int .i64 0, .int .u64 0, .int .u64 0, .string ⟨#[]⟩, .int .i64 0, .int .i64 0, .int .i64 0, .int .u64 0, .int .u64 0, .string ⟨#[]⟩], .int .i64 (sC l 4)]) (res2 rfl ⟨_, rfl, rdv (rd_loadW (j := 6) Tryd.isAgg33 Tryd.sizeOf33 rfl rfl)⟩ rfl) ?_
              exact dec_bad hl (by rintro ⟨e0, e1, e2, e3, e4, e5⟩; omega) hb6p
            · have hb6p := sc_good hb6
              refine run_skip rfl ?_
              refine any_draw (n := 9) rfl rfl rfl (by kernel_rfl) ?_
              refine any_takeM (i := 0) rfl (by kernel_rfl) (by kernel_rfl) (by kernel_rfl) ?_
              refine any_takeM (i := 1) rfl (by kernel_rfl) (by kernel_rfl) (by kernel_rfl) ?_
              refine any_takeM (i := 3) rfl (by kernel_rfl) (by kernel_rfl) (by kernel_rfl) ?_
              refine any_take (i := 4) (v := .string (bs (l.drop 140))) rfl (fun w => (rd_substr (l := 28) (h := l.length - 112) Tryd.underlying9 (.inl rfl) (.inr ⟨rfl, by rw [bs_size, List.length_drop]⟩) (by omega) (by simp only [bs_size, List.length_drop]; omega) (bs_suf rfl rfl)) w (Sat.start w)) (by kernel_rfl) (by kernel_rfl) (by kernel_rfl) ?_
              refine any_take (i := 5) (v := .pointer (some ⟨g2, 24, none⟩)) rfl (fun w => (rd_indexAddrA (m := 2) (o := 24) Tryd.underlying33 rfl (by decide) Tryd.sizeOf31 rfl) w (Sat.start w)) (by kernel_rfl) (by kernel_rfl) (by kernel_rfl) ?_
              refine any_one (i := 2) (by kernel_rfl) ?_
              refine ro_rd (v := .agg ((sE l 4).arr)) rfl (rd_loadW (j := 0) Tryd.isAgg30 Tryd.sizeOf30 rfl rfl) ?_
              refine any_take (i := 6) (v := .pointer (some ⟨g2, 24, none⟩)) rfl (fun w => (rd_indexAddrA (m := 0) (o := 24) Tryd.underlying31 rfl (by decide) Tryd.sizeOf30 rfl) w (Sat.start w)) (by kernel_rfl) (by kernel_rfl) (by kernel_rfl) ?_
              refine any_one (i := 7) (by kernel_rfl) ?_
              refine ro_store (j := 5) (c' := #[.int .i64 ((sE l 0).kind), .int .i64 ((sE l 0).service), .int .i64 ((sE l 0).group), .int .u64 ((sE l 0).session), .int .u64 ((sE l 0).number), .string ((sE l 0).text), .int .i64 ((sE l 1).kind), .int .i64 ((sE l 1).service), .int .i64 ((sE l 1).group), .int .u64 ((sE l 1).session), .int .u64 ((sE l 1).number), .string ((sE l 1).text), .int .i64 ((sE l 2).kind), .int .i64 ((sE l 2).service), .int .i64 ((sE l 2).group), .int .u64 ((sE l 2).session), .int .u64 ((sE l 2).number), .string ((sE l 2).text), .int .i64 ((sE l 3).kind), .int .i64 ((sE l 3).service), .int .i64 ((sE l 3).group), .int .u64 ((sE l 3).session), .int .u64 ((sE l 3).number), .string ((sE l 3).text), .int .i64 ((sE l 4).kind), .int .i64 ((sE l 4).service), .int .i64 ((sE l 4).group), .int .u64 ((sE l 4).session), .int .u64 ((sE l 4).number), .string ((sE l 4).text), .int .i64 0, .int .i64 0, .int .i64 0, .int .u64 0, .int .u64 0, .string ⟨#[]⟩]) rfl Tryd.sizeOf30 rfl rfl rfl rfl (by kernel_rfl) rfl ?_
              refine any_takeM (i := 8) rfl (by kernel_rfl) (by kernel_rfl) (by kernel_rfl) ?_
              refine any_end (by kernel_rfl) ?_
              refine run_endblock ?_
              refine run_region (todo := [0, 1]) rfl rfl ?_
              refine run_rd (v := .int .i64 1) rfl (rd_add (r := 1) (by decide)) ?_
              refine run_mv rfl ?_
              refine run_endops ?_
              refine run_again ?_
              refine run_seq rfl ?_
              refine run_region (todo := [0]) rfl rfl ?_
              refine run_rd (v := .bool true) rfl (rd_cmp rfl rfl) ?_
              refine run_endops ?_
              refine run_seq rfl ?_
              refine run_true rfl rfl ?_
              refine run_skip rfl ?_
              refine run_seq rfl ?_
              refine run_block rfl ?_
              refine run_seq rfl ?_
              refine run_region (todo := [0, 1]) rfl rfl ?_
              refine run_mv rfl ?_
              refine run_mv rfl ?_
              refine run_endops ?_
              refine run_seq rfl ?_
              refine run_region (todo := [0, 1, 2, 3, 4, 5, 6, 7, 8]) rfl rfl ?_
              refine run_mv rfl ?_
              refine run_rd (v := .string (bs ((l.drop 140).take 28))) rfl (rd_substr (l := 0) (h := 28) Tryd.underlying9 (.inr ⟨rfl, rfl⟩) (.inl rfl) (by omega) (by simp only [bs_size, List.length_drop]; omega) bs_pre) ?_
              refine run_pf0 (v := .tuple #[.agg ((sE l 5).arr), .int .i64 (sC l 5)]) rfl Tryd.call64 (pf_decodeS l 5 _ rfl) ?_
              refine run_mv rfl ?_
              refine run_rd (v := .agg ((sE l 5).arr)) rfl (rd_extract rfl) ?_
              refine run_rd (v := .int .i64 (sC l 5)) rfl (rd_extract rfl) ?_
              refine run_alloc rfl Tryd.zeroValue30 (fun g8 => ?_)
              refine run_storeW (j := 0) (c' := (sE l 5).arr) rfl Tryd.sizeOf30 rfl rfl rfl rfl rfl rfl ?_
              refine run_mv rfl ?_
              refine run_endops ?_
              refine run_seq rfl ?_
              refine run_seq rfl ?_
              refine run_region (todo := [0, 1]) rfl rfl ?_
              refine run_mv rfl ?_
              refine run_rd (v := .bool ((sC l 5) != 0)) rfl (rd_cmp rfl rfl) ?_
              refine run_endops ?_
              refine run_if rfl rfl (fun hb7 => ?_) (fun hb7 => ?_)
              · have hb7p := sc_bad hb7
                refine run_seq rfl ?_
                refine run_region (todo := [0, 1, 2, 3]) rfl rfl ?_
                refine run_rd (v := .agg #[.int .i64 0, .int .i64 0, .int .i64 0, .int .u64 0, .int .u64 0, .string ⟨#[]⟩, .int .i64 0, .int .i64 0, .int .i64 0, .int .u64 0, .int .u64 0, .string ⟨#[]⟩, .int .i64 0, .int .i64 0, .int .i64 0, .int .u64 0, .int .u64 0, .string ⟨#[]⟩, .int .i64 0, .int .i64 0, .int .i64 0, .int .u64 0, .int .u64 0, .string ⟨#[]⟩, .int .i64 0, .int .i64 0, .int .i64 0, .int .u64 0, .int .u64 0, .string ⟨#[]⟩, .int .i64 0, .int .i64 0, .int .i64 0, .int .u64 0, .int .u64 0, .string ⟨#[]⟩]) rfl ((fun w _ => by kernel_rfl)) ?_
                refine run_mv rfl ?_
                refine run_storeW (j := 7) (c' := #[.int .i64 0, .int .i64 0, .int .i64 0, .int .u64 0, .int .u64 0, .string ⟨#[]⟩, .int .i64 0, .int .i64 0, .int .i64 0, .int .u64 0, .int .u64 0, .string ⟨#[]⟩, .int .i64 0, .int .i64 0, .int .i64 0, .int .u64 0, .int .u64 0, .string ⟨#[]⟩, .int .i64 0, .int .i64 0, .int .i64 0, .int .u64 0, .int .u64 0, .string ⟨#[]⟩, .int .i64 0, .int .i64 0, .int .i64 0, .int .u64 0, .int .u64 0, .string ⟨#[]⟩, .int .i64 0, .int .i64 0, .int .i64 0, .int .u64 0, .int .u64 0, .string ⟨#[]⟩]) rfl Tryd.sizeOf33 rfl rfl rfl rfl rfl rfl ?_
                refine run_mv rfl ?_
                refine run_endops ?_
                refine run_ret rfl (v := .tuple #[.agg #[.int .i64 0, .int .i64 0, .int .i64 0, .int .u64 0, .int .u64 0, .string ⟨#[]⟩, .int .i64 0, .int .i64 0, .int .i64 0, .int .u64 0, .int .u64 0, .string ⟨#[]⟩, .int .i64 0, .int .i64 0, .int .i64 0, .int .u64 0, .int .u64 0, .string ⟨#[]⟩, .int .i64 0, .int .i64 0, .int .i64 0, .int .u64 0, .int .u64 0, .string ⟨#[]⟩, .int .i64 0, .int .i64 0, .int .i64 0, .int .u64 0, .int .u64 0, .string ⟨#[]⟩, .int .i64 0, .int .i64 0, .int .i64 0, .int .u64 0, .int .u64 0, .string ⟨#[]⟩], .int .i64 (sC l 5)]) (res2 rfl ⟨_, rfl, rdv (rd_loadW (j := 7) Tryd.isAgg33 Tryd.sizeOf33 rfl rfl)⟩ rfl) ?_
                exact dec_bad hl (by rintro ⟨e0, e1, e2, e3, e4, e5⟩; omega) hb7p
              · have hb7p := sc_good hb7
                refine run_skip rfl ?_
                refine any_draw (n := 9) rfl rfl rfl (by kernel_rfl) ?_
                refine any_takeM (i := 0) rfl (by kernel_rfl) (by kernel_rfl) (by kernel_rfl) ?_
                refine any_takeM (i := 1) rfl (by kernel_rfl) (by kernel_rfl) (by kernel_rfl) ?_
                refine any_takeM (i := 3) rfl (by kernel_rfl) (by kernel_rfl) (by kernel_rfl) ?_
                refine any_take (i := 4) (v := .string (bs (l.drop 168))) rfl (fun w => (rd_substr (l := 28) (h := l.length - 140) Tryd.underlying9 (.inl rfl) (.inr ⟨rfl, by rw [bs_size, List.length_drop]⟩) (by omega) (by simp only [bs_size, List.length_drop]; omega) (bs_suf rfl rfl)) w (Sat.start w)) (by kernel_rfl) (by kernel_rfl) (by kernel_rfl) ?_
                refine any_take (i := 5) (v := .pointer (some ⟨g2, 24, none⟩)) rfl (fun w => (rd_indexAddrA (m := 2) (o := 24) Tryd.underlying33 rfl (by decide) Tryd.sizeOf31 rfl) w (Sat.start w)) (by kernel_rfl) (by kernel_rfl) (by kernel_rfl) ?_
                refine any_one (i := 2) (by kernel_rfl) ?_
                refine ro_rd (v := .agg ((sE l 5).arr)) rfl (rd_loadW (j := 0) Tryd.isAgg30 Tryd.sizeOf30 rfl rfl) ?_
                refine any_take (i := 6) (v := .pointer (some ⟨g2, 30, none⟩)) rfl (fun w => (rd_indexAddrA (m := 1) (o := 30) Tryd.underlying31 rfl (by decide) Tryd.sizeOf30 rfl) w (Sat.start w)) (by kernel_rfl) (by kernel_rfl) (by kernel_rfl) ?_
                refine any_one (i := 7) (by kernel_rfl) ?_
                refine ro_store (j := 6) (c' := #[.int .i64 ((sE l 0).kind), .int .i64 ((sE l 0).service), .int .i64 ((sE l 0).group), .int .u64 ((sE l 0).session), .int .u64 ((sE l 0).number), .string ((sE l 0).text), .int .i64 ((sE l 1).kind), .int .i64 ((sE l 1).service), .int .i64 ((sE l 1).group), .int .u64 ((sE l 1).session), .int .u64 ((sE l 1).number), .string ((sE l 1).text), .int .i64 ((sE l 2).kind), .int .i64 ((sE l 2).service), .int .i64 ((sE l 2).group), .int .u64 ((sE l 2).session), .int .u64 ((sE l 2).number), .string ((sE l 2).text), .int .i64 ((sE l 3).kind), .int .i64 ((sE l 3).service), .int .i64 ((sE l 3).group), .int .u64 ((sE l 3).session), .int .u64 ((sE l 3).number), .string ((sE l 3).text), .int .i64 ((sE l 4).kind), .int .i64 ((sE l 4).service), .int .i64 ((sE l 4).group), .int .u64 ((sE l 4).session), .int .u64 ((sE l 4).number), .string ((sE l 4).text), .int .i64 ((sE l 5).kind), .int .i64 ((sE l 5).service), .int .i64 ((sE l 5).group), .int .u64 ((sE l 5).session), .int .u64 ((sE l 5).number), .string ((sE l 5).text)]) rfl Tryd.sizeOf30 rfl rfl rfl rfl (by kernel_rfl) rfl ?_
                refine any_takeM (i := 8) rfl (by kernel_rfl) (by kernel_rfl) (by kernel_rfl) ?_
                refine any_end (by kernel_rfl) ?_
                refine run_endblock ?_
                refine run_region (todo := [0, 1]) rfl rfl ?_
                refine run_rd (v := .int .i64 2) rfl (rd_add (r := 2) (by decide)) ?_
                refine run_mv rfl ?_
                refine run_endops ?_
                refine run_again ?_
                refine run_seq rfl ?_
                refine run_region (todo := [0]) rfl rfl ?_
                refine run_rd (v := .bool false) rfl (rd_cmp rfl rfl) ?_
                refine run_endops ?_
                refine run_seq rfl ?_
                refine run_false rfl rfl ?_
                refine run_exit rfl rfl ?_
                refine run_endblock ?_
                refine run_region (todo := [0, 1]) rfl rfl ?_
                refine run_rd (v := .int .i64 3) rfl (rd_add (r := 3) (by decide)) ?_
                refine run_mv rfl ?_
                refine run_endops ?_
                refine run_again ?_
                refine run_seq rfl ?_
                refine run_region (todo := [0]) rfl rfl ?_
                refine run_rd (v := .bool false) rfl (rd_cmp rfl rfl) ?_
                refine run_endops ?_
                refine run_seq rfl ?_
                refine run_false rfl rfl ?_
                refine run_exit rfl rfl ?_
                refine run_seq rfl ?_
                refine run_region (todo := [0, 1, 2]) rfl rfl ?_
                refine run_rd (v := .agg #[.int .i64 ((sE l 0).kind), .int .i64 ((sE l 0).service), .int .i64 ((sE l 0).group), .int .u64 ((sE l 0).session), .int .u64 ((sE l 0).number), .string ((sE l 0).text), .int .i64 ((sE l 1).kind), .int .i64 ((sE l 1).service), .int .i64 ((sE l 1).group), .int .u64 ((sE l 1).session), .int .u64 ((sE l 1).number), .string ((sE l 1).text), .int .i64 ((sE l 2).kind), .int .i64 ((sE l 2).service), .int .i64 ((sE l 2).group), .int .u64 ((sE l 2).session), .int .u64 ((sE l 2).number), .string ((sE l 2).text), .int .i64 ((sE l 3).kind), .int .i64 ((sE l 3).service), .int .i64 ((sE l 3).group), .int .u64 ((sE l 3).session), .int .u64 ((sE l 3).number), .string ((sE l 3).text), .int .i64 ((sE l 4).kind), .int .i64 ((sE l 4).service), .int .i64 ((sE l 4).group), .int .u64 ((sE l 4).session), .int .u64 ((sE l 4).number), .string ((sE l 4).text), .int .i64 ((sE l 5).kind), .int .i64 ((sE l 5).service), .int .i64 ((sE l 5).group), .int .u64 ((sE l 5).session), .int .u64 ((sE l 5).number), .string ((sE l 5).text)]) rfl (rd_loadW (j := 6) Tryd.isAgg33 Tryd.sizeOf33 rfl rfl) ?_
                refine run_storeW (j := 7) (c' := #[.int .i64 ((sE l 0).kind), .int .i64 ((sE l 0).service), .int .i64 ((sE l 0).group), .int .u64 ((sE l 0).session), .int .u64 ((sE l 0).number), .string ((sE l 0).text), .int .i64 ((sE l 1).kind), .int .i64 ((sE l 1).service), .int .i64 ((sE l 1).group), .int .u64 ((sE l 1).session), .int .u64 ((sE l 1).number), .string ((sE l 1).text), .int .i64 ((sE l 2).kind), .int .i64 ((sE l 2).service), .int .i64 ((sE l 2).group), .int .u64 ((sE l 2).session), .int .u64 ((sE l 2).number), .string ((sE l 2).text), .int .i64 ((sE l 3).kind), .int .i64 ((sE l 3).service), .int .i64 ((sE l 3).group), .int .u64 ((sE l 3).session), .int .u64 ((sE l 3).number), .string ((sE l 3).text), .int .i64 ((sE l 4).kind), .int .i64 ((sE l 4).service), .int .i64 ((sE l 4).group), .int .u64 ((sE l 4).session), .int .u64 ((sE l 4).number), .string ((sE l 4).text), .int .i64 ((sE l 5).kind), .int .i64 ((sE l 5).service), .int .i64 ((sE l 5).group), .int .u64 ((sE l 5).session), .int .u64 ((sE l 5).number), .string ((sE l 5).text)]) rfl Tryd.sizeOf33 rfl rfl rfl rfl rfl rfl ?_
                refine run_mv rfl ?_
                refine run_endops ?_
                refine run_ret rfl (v := .tuple #[.agg #[.int .i64 ((sE l 0).kind), .int .i64 ((sE l 0).service), .int .i64 ((sE l 0).group), .int .u64 ((sE l 0).session), .int .u64 ((sE l 0).number), .string ((sE l 0).text), .int .i64 ((sE l 1).kind), .int .i64 ((sE l 1).service), .int .i64 ((sE l 1).group), .int .u64 ((sE l 1).session), .int .u64 ((sE l 1).number), .string ((sE l 1).text), .int .i64 ((sE l 2).kind), .int .i64 ((sE l 2).service), .int .i64 ((sE l 2).group), .int .u64 ((sE l 2).session), .int .u64 ((sE l 2).number), .string ((sE l 2).text), .int .i64 ((sE l 3).kind), .int .i64 ((sE l 3).service), .int .i64 ((sE l 3).group), .int .u64 ((sE l 3).session), .int .u64 ((sE l 3).number), .string ((sE l 3).text), .int .i64 ((sE l 4).kind), .int .i64 ((sE l 4).service), .int .i64 ((sE l 4).group), .int .u64 ((sE l 4).session), .int .u64 ((sE l 4).number), .string ((sE l 4).text), .int .i64 ((sE l 5).kind), .int .i64 ((sE l 5).service), .int .i64 ((sE l 5).group), .int .u64 ((sE l 5).session), .int .u64 ((sE l 5).number), .string ((sE l 5).text)], .int .i64 0]) (res2 rfl ⟨_, rfl, rdv (rd_loadW (j := 7) Tryd.isAgg33 Tryd.sizeOf33 rfl rfl)⟩ rfl) ?_
                exact dec_good hl ⟨hb2p, hb3p, hb4p, hb5p, hb6p, hb7p⟩

theorem pf_rfdecode (l : List UInt8) (hmx : l.length ≤ 9223372036854775807) : Pf Tryd.prog 39 #[.string (bs l)] (.tuple #[(outF l).val, .int .i64 (outFC l)]) := by
  refine pf_of_run Tryd.func39 rfl rfl (fun w0 => ?_)
  refine run_seq rfl ?_
  refine run_region (todo := [0, 1]) rfl rfl ?_
  refine run_alloc rfl Tryd.zeroValue33 (fun g1 => ?_)
  refine run_mv rfl ?_
  refine run_endops ?_
  refine run_seq rfl ?_
  refine run_region (todo := [0, 1, 2]) rfl rfl ?_
  refine run_rd (v := .agg #[.int .i64 0, .int .i64 0, .int .i64 0, .int .u64 0, .int .u64 0, .string ⟨#[]⟩, .int .i64 0, .int .i64 0, .int .i64 0, .int .u64 0, .int .u64 0, .string ⟨#[]⟩, .int .i64 0, .int .i64 0, .int .i64 0, .int .u64 0, .int .u64 0, .string ⟨#[]⟩, .int .i64 0, .int .i64 0, .int .i64 0, .int .u64 0, .int .u64 0, .string ⟨#[]⟩, .int .i64 0, .int .i64 0, .int .i64 0, .int .u64 0, .int .u64 0, .string ⟨#[]⟩, .int .i64 0, .int .i64 0, .int .i64 0, .int .u64 0, .int .u64 0, .string ⟨#[]⟩]) rfl ((fun w _ => by kernel_rfl)) ?_
  refine run_alloc rfl Tryd.zeroValue33 (fun g2 => ?_)
  refine run_storeW (j := 0) (c' := #[.int .i64 0, .int .i64 0, .int .i64 0, .int .u64 0, .int .u64 0, .string ⟨#[]⟩, .int .i64 0, .int .i64 0, .int .i64 0, .int .u64 0, .int .u64 0, .string ⟨#[]⟩, .int .i64 0, .int .i64 0, .int .i64 0, .int .u64 0, .int .u64 0, .string ⟨#[]⟩, .int .i64 0, .int .i64 0, .int .i64 0, .int .u64 0, .int .u64 0, .string ⟨#[]⟩, .int .i64 0, .int .i64 0, .int .i64 0, .int .u64 0, .int .u64 0, .string ⟨#[]⟩, .int .i64 0, .int .i64 0, .int .i64 0, .int .u64 0, .int .u64 0, .string ⟨#[]⟩]) rfl Tryd.sizeOf33 rfl rfl rfl rfl rfl rfl ?_
  refine run_endops ?_
  refine run_seq rfl ?_
  refine run_seq rfl ?_
  refine run_region (todo := [0, 1, 2]) rfl rfl ?_
  refine run_mv rfl ?_
  refine run_rd (v := .int .i64 ((l.length : Nat) : Int)) rfl (rd_lenStr Tryd.underlying9 rfl) ?_
  refine run_rd (v := .bool (((l.length : Nat) : Int) != 168)) rfl (rd_cmp rfl rfl) ?_
  refine run_endops ?_
  refine run_if rfl rfl (fun hb1 => ?_) (fun hb1 => ?_)
  · have hl : l.length ≠ 168 := fun e => ne_of_bne_t hb1 (by rw [e]; rfl)
    refine run_seq rfl ?_
    refine run_region (todo := [0, 1, 2]) rfl rfl ?_
    refine run_rd (v := .agg #[.int .i64 0, .int .i64 0, .int .i64 0, .int .u64 0, .int .u64 0, .string ⟨#[]⟩, .int .i64 0, .int .i64 0, .int .i64 0, .int .u64 0, .int .u64 0, .string ⟨#[]⟩, .int .i64 0, .int .i64 0, .int .i64 0, .int .u64 0, .int .u64 0, .string ⟨#[]⟩, .int .i64 0, .int .i64 0, .int .i64 0, .int .u64 0, .int .u64 0, .string ⟨#[]⟩, .int .i64 0, .int .i64 0, .int .i64 0, .int .u64 0, .int .u64 0, .string ⟨#[]⟩, .int .i64 0, .int .i64 0, .int .i64 0, .int .u64 0, .int .u64 0, .string ⟨#[]⟩]) rfl (rd_loadW (j := 0) Tryd.isAgg33 Tryd.sizeOf33 rfl rfl) ?_
    refine run_storeW (j := 1) (c' := #[.int .i64 0, .int .i64 0, .int .i64 0, .int .u64 0, .int .u64 0, .string ⟨#[]⟩, .int .i64 0, .int .i64 0, .int .i64 0, .int .u64 0, .int .u64 0, .string ⟨#[]⟩, .int .i64 0, .int .i64 0, .int .i64 0, .int .u64 0, .int .u64 0, .string ⟨#[]⟩, .int .i64 0, .int .i64 0, .int .i64 0, .int .u64 0, .int .u64 0, .string ⟨#[]⟩, .int .i64 0, .int .i64 0, .int .i64 0, .int .u64 0, .int .u64 0, .string ⟨#[]⟩, .int .i64 0, .int .i64 0, .int .i64 0, .int .u64 0, .int .u64 0, .string ⟨#[]⟩]) rfl Tryd.sizeOf33 rfl rfl rfl rfl rfl rfl ?_
    refine run_mv rfl ?_
    refine run_endops ?_
    refine run_ret rfl (v := .tuple #[.agg #[.int .i64 0, .int .i64 0, .int .i64 0, .int .u64 0, .int .u64 0, .string ⟨#[]⟩, .int .i64 0, .int .i64 0, .int .i64 0, .int .u64 0, .int .u64 0, .string ⟨#[]⟩, .int .i64 0, .int .i64 0, .int .i64 0, .int .u64 0, .int .u64 0, .string ⟨#[]⟩, .int .i64 0, .int .i64 0, .int .i64 0, .int .u64 0, .int .u64 0, .string ⟨#[]⟩, .int .i64 0, .int .i64 0, .int .i64 0, .int .u64 0, .int .u64 0, .string ⟨#[]⟩, .int .i64 0, .int .i64 0, .int .i64 0, .int .u64 0, .int .u64 0, .string ⟨#[]⟩], .int .i64 40]) (res2 rfl ⟨_, rfl, rdv (rd_loadW (j := 1) Tryd.isAgg33 Tryd.sizeOf33 rfl rfl)⟩ rfl) ?_
    exact dec_len hl
  · have hl : l.length = 168 := by have := eq_of_bne_f hb1; omega
    refine run_skip rfl ?_
    refine run_seq rfl ?_
    refine run_region (todo := [0, 1, 2]) rfl rfl ?_
    refine run_rd (v := .agg #[.int .i64 0, .int .i64 0, .int .i64 0, .int .u64 0, .int .u64 0, .string ⟨#[]⟩, .int .i64 0, .int .i64 0, .int .i64 0, .int .u64 0, .int .u64 0, .string ⟨#[]⟩, .int .i64 0, .int .i64 0, .int .i64 0, .int .u64 0, .int .u64 0, .string ⟨#[]⟩, .int .i64 0, .int .i64 0, .int .i64 0, .int .u64 0, .int .u64 0, .string ⟨#[]⟩, .int .i64 0, .int .i64 0, .int .i64 0, .int .u64 0, .int .u64 0, .string ⟨#[]⟩, .int .i64 0, .int .i64 0, .int .i64 0, .int .u64 0, .int .u64 0, .string ⟨#[]⟩]) rfl ((fun w _ => by kernel_rfl)) ?_
    refine run_alloc rfl Tryd.zeroValue33 (fun g3 => ?_)
    refine run_storeW (j := 0) (c' := #[.int .i64 0, .int .i64 0, .int .i64 0, .int .u64 0, .int .u64 0, .string ⟨#[]⟩, .int .i64 0, .int .i64 0, .int .i64 0, .int .u64 0, .int .u64 0, .string ⟨#[]⟩, .int .i64 0, .int .i64 0, .int .i64 0, .int .u64 0, .int .u64 0, .string ⟨#[]⟩, .int .i64 0, .int .i64 0, .int .i64 0, .int .u64 0, .int .u64 0, .string ⟨#[]⟩, .int .i64 0, .int .i64 0, .int .i64 0, .int .u64 0, .int .u64 0, .string ⟨#[]⟩, .int .i64 0, .int .i64 0, .int .i64 0, .int .u64 0, .int .u64 0, .string ⟨#[]⟩]) rfl Tryd.sizeOf33 rfl rfl rfl rfl rfl rfl ?_
    refine run_endops ?_
    refine run_seq rfl ?_
    refine run_seq rfl ?_
    refine run_region (todo := [0]) rfl rfl ?_
    refine run_mv rfl ?_
    refine run_endops ?_
    refine run_block rfl ?_
    refine run_loop rfl ?_
    refine run_again ?_
    refine run_seq rfl ?_
    refine run_seq rfl ?_
    refine run_region (todo := [0, 1]) rfl rfl ?_
    refine run_mv rfl ?_
    refine run_rd (v := .bool true) rfl (rd_cmp rfl rfl) ?_
    refine run_endops ?_
    refine run_true rfl rfl ?_
    refine run_skip rfl ?_
    refine run_seq rfl ?_
    refine run_block rfl ?_
    refine run_seq rfl ?_
    refine run_region (todo := [0]) rfl rfl ?_
    refine run_mv rfl ?_
    refine run_endops ?_
    refine run_block rfl ?_
    refine run_loop rfl ?_
    refine run_again ?_
    refine run_seq rfl ?_
    refine run_seq rfl ?_
    refine run_region (todo := [0, 1]) rfl rfl ?_
    refine run_mv rfl ?_
    refine run_rd (v := .bool true) rfl (rd_cmp rfl rfl) ?_
    refine run_endops ?_
    refine run_true rfl rfl ?_
    refine run_skip rfl ?_
    refine run_seq rfl ?_
    refine run_block rfl ?_
    refine run_seq rfl ?_
    refine run_region (todo := [0, 1, 2, 3, 4, 5]) rfl rfl ?_
    refine run_mv rfl ?_
    refine run_rd (v := .int .i64 0) rfl (rd_mul (r := 0) (by decide)) ?_
    refine run_mv rfl ?_
    refine run_rd (v := .int .i64 0) rfl (rd_add (r := 0) (by decide)) ?_
    refine run_rd (v := .int .i64 0) rfl (rd_mul (r := 0) (by decide)) ?_
    refine run_mv rfl ?_
    refine run_endops ?_
    refine run_seq rfl ?_
    refine run_region (todo := [0, 1, 2, 3, 4, 5, 6, 7, 8, 9, 10, 11]) rfl rfl ?_
    refine run_mv rfl ?_
    refine run_mv rfl ?_
    refine run_mv rfl ?_
    refine run_rd (v := .int .i64 28) rfl (rd_add (r := 28) (by decide)) ?_
    refine run_rd (v := .string (bs ((l.drop 0).take 28))) rfl (rd_substr (l := 0) (h := 28) Tryd.underlying9 (.inl rfl) (.inl rfl) (by omega) (by rw [bs_size]; omega) (by exact bs_mid)) ?_
    refine run_pf0 (v := .tuple #[.agg ((sE l 0).arr), .int .i64 (sC l 0)]) rfl Tryd.call55 (pf_rdecodeS l 0 _ rfl) ?_
    refine run_mv rfl ?_
    refine run_rd (v := .agg ((sE l 0).arr)) rfl (rd_extract rfl) ?_
    refine run_rd (v := .int .i64 (sC l 0)) rfl (rd_extract rfl) ?_
    refine run_alloc rfl Tryd.zeroValue30 (fun g4 => ?_)
    refine run_storeW (j := 0) (c' := (sE l 0).arr) rfl Tryd.sizeOf30 rfl rfl rfl rfl rfl rfl ?_
    refine run_mv rfl ?_
    refine run_endops ?_
    refine run_seq rfl ?_
    refine run_seq rfl ?_
    refine run_region (todo := [0, 1]) rfl rfl ?_
    refine run_mv rfl ?_
    refine run_rd (v := .bool ((sC l 0) != 0)) rfl (rd_cmp rfl rfl) ?_
    refine run_endops ?_
    refine run_if rfl rfl (fun hb2 => ?_) (fun hb2 => ?_)
    · have hb2p := sc_bad hb2
      refine run_seq rfl ?_
      refine run_region (todo := [0, 1, 2, 3]) rfl rfl ?_
      refine run_rd (v := .agg #[.int .i64 0, .int .i64 0, .int .i64 0, .int .u64 0, .int .u64 0, .string ⟨#[]⟩, .int .i64 0, .int .i64 0, .int .i64 0, .int .u64 0, .int .u64 0, .string ⟨#[]⟩, .int .i64 0, .int .i64 0, .int .i64 0, .int .u64 0, .int .u64 0, .string ⟨#[]⟩, .int .i64 0, .int .i64 0, .int .i64 0, .int .u64 0, .int .u64 0, .string ⟨#[]⟩, .int .i64 0, .int .i64 0, .int .i64 0, .int .u64 0, .int .u64 0, .string ⟨#[]⟩, .int .i64 0, .int .i64 0, .int .i64 0, .int .u64 0, .int .u64 0, .string ⟨#[]⟩]) rfl (rd_loadW (j := 2) Tryd.isAgg33 Tryd.sizeOf33 rfl rfl) ?_
      refine run_mv rfl ?_
      refine run_storeW (j := 3) (c' := #[.int .i64 0, .int .i64 0, .int .i64 0, .int .u64 0, .int .u64 0, .string ⟨#[]⟩, .int .i64 0, .int .i64 0, .int .i64 0, .int .u64 0, .int .u64 0, .string ⟨#[]⟩, .int .i64 0, .int .i64 0, .int .i64 0, .int .u64 0, .int .u64 0, .string ⟨#[]⟩, .int .i64 0, .int .i64 0, .int .i64 0, .int .u64 0, .int .u64 0, .string ⟨#[]⟩, .int .i64 0, .int .i64 0, .int .i64 0, .int .u64 0, .int .u64 0, .string ⟨#[]⟩, .int .i64 0, .int .i64 0, .int .i64 0, .int .u64 0, .int .u64 0, .string ⟨#[]⟩]) rfl Tryd.sizeOf33 rfl rfl rfl rfl rfl rfl ?_
      refine run_mv rfl ?_
      refine run_endops ?_
      refine run_ret rfl (v := .tuple #[.agg #[.int .i64 0, .int .i64 0, .int .i64 0, .int .u64 0, .int .u64 0, .string ⟨#[]⟩, .int .i64 0, .int .i64 0, .int .i64 0, .int .u64 0, .int .u64 0, .string ⟨#[]⟩, .int .i64 0, .int .i64 0, .int .i64 0, .int .u64 0, .int .u64 0, .string ⟨#[]⟩, .int .i64 0, .int .i64 0, .int .i64 0, .int .u64 0, .int .u64 0, .string ⟨#[]⟩, .int .i64 0, .int .i64 0, .int .i64 0, .int .u64 0, .int .u64 0, .string ⟨#[]⟩, .int .i64 0, .int .i64 0, .int .i64 0, .int .u64 0, .int .u64 0, .string ⟨#[]⟩], .int .i64 (sC l 0)]) (res2 rfl ⟨_, rfl, rdv (rd_loadW (j := 3) Tryd.isAgg33 Tryd.sizeOf33 rfl rfl)⟩ rfl) ?_
      exact dec_bad hl (by rintro ⟨e0, e1, e2, e3, e4, e5⟩; omega) hb2p
    · have hb2p := sc_good hb2
      refine run_skip rfl ?_
      refine any_draw (n := 6) rfl rfl rfl (by kernel_rfl) ?_
      refine any_takeM (i := 0) rfl (by kernel_rfl) (by kernel_rfl) (by kernel_rfl) ?_
      refine any_takeM (i := 1) rfl (by kernel_rfl) (by kernel_rfl) (by kernel_rfl) ?_
      refine any_take (i := 3) (v := .pointer (some ⟨g3, 0, none⟩)) rfl (fun w => (rd_indexAddrA (m := 0) (o := 0) Tryd.underlying33 rfl (by decide) Tryd.sizeOf31 rfl) w (Sat.start w)) (by kernel_rfl) (by kernel_rfl) (by kernel_rfl) ?_
      refine any_one (i := 2) (by kernel_rfl) ?_
      refine ro_rd (v := .agg ((sE l 0).arr)) rfl (rd_loadW (j := 0) Tryd.isAgg30 Tryd.sizeOf30 rfl rfl) ?_
      refine any_take (i := 4) (v := .pointer (some ⟨g3, 0, none⟩)) rfl (fun w => (rd_indexAddrA (m := 0) (o := 0) Tryd.underlying31 rfl (by decide) Tryd.sizeOf30 rfl) w (Sat.start w)) (by kernel_rfl) (by kernel_rfl) (by kernel_rfl) ?_
      refine any_one (i := 5) (by kernel_rfl) ?_
      refine ro_store (j := 1) (c' := #[.int .i64 ((sE l 0).kind), .int .i64 ((sE l 0).service), .int .i64 ((sE l 0).group), .int .u64 ((sE l 0).session), .int .u64 ((sE l 0).number), .string ((sE l 0).text), .int .i64 0, .int .i64 0, .int .i64 0, .int .u64 0, .int .u64 0, .string ⟨#[]⟩, .int .i64 0, .int .i64 0, .int .i64 0, .int .u64 0, .int .u64 0, .string ⟨#[]⟩, .int .i64 0, .int .i64 0, .int .i64 0, .int .u64 0, .int .u64 0, .string ⟨#[]⟩, .int .i64 0, .int .i64 0, .int .i64 0, .int .u64 0, .int .u64 0, .string ⟨#[]⟩, .int .i64 0, .int .i64 0, .int .i64 0, .int .u64 0, .int .u64 0, .string ⟨#[]⟩]) rfl Tryd.sizeOf30 rfl rfl rfl rfl (by kernel_rfl) rfl ?_
      refine any_end (by kernel_rfl) ?_
      refine run_endblock ?_
      refine run_region (todo := [0, 1, 2]) rfl rfl ?_
      refine run_mv rfl ?_
      refine run_rd (v := .int .i64 1) rfl (rd_add (r := 1) (by decide)) ?_
      refine run_mv rfl ?_
      refine run_endops ?_
      refine run_again ?_
      refine run_seq rfl ?_
      refine run_seq rfl ?_
      refine run_region (todo := [0, 1]) rfl rfl ?_
      refine run_mv rfl ?_
      refine run_rd (v := .bool true) rfl (rd_cmp rfl rfl) ?_
      refine run_endops ?_
      refine run_true rfl rfl ?_
      refine run_skip rfl ?_
      refine run_seq rfl ?_
      refine run_block rfl ?_
      refine run_seq rfl ?_
      refine run_region (todo := [0, 1, 2, 3, 4, 5]) rfl rfl ?_
      refine run_mv rfl ?_
      refine run_rd (v := .int .i64 0) rfl (rd_mul (r := 0) (by decide)) ?_
      refine run_mv rfl ?_
      refine run_rd (v := .int .i64 1) rfl (rd_add (r := 1) (by decide)) ?_
      refine run_rd (v := .int .i64 28) rfl (rd_mul (r := 28) (by decide)) ?_
      refine run_mv rfl ?_
      refine run_endops ?_
      refine run_seq rfl ?_
      refine run_region (todo := [0, 1, 2, 3, 4, 5, 6, 7, 8, 9, 10, 11]) rfl rfl ?_
      refine run_mv rfl ?_
      refine run_mv rfl ?_
      refine run_mv rfl ?_
      refine run_rd (v := .int .i64 56) rfl (rd_add (r := 56) (by decide)) ?_
      refine run_rd (v := .string (bs ((l.drop 28).take 28))) rfl (rd_substr (l := 28) (h := 56) Tryd.underlying9 (.inl rfl) (.inl rfl) (by omega) (by rw [bs_size]; omega) (by exact bs_mid)) ?_
      refine run_pf0 (v := .tuple #[.agg ((sE l 1).arr), .int .i64 (sC l 1)]) rfl Tryd.call55 (pf_rdecodeS l 1 _ rfl) ?_
      refine run_mv rfl ?_
      refine run_rd (v := .agg ((sE l 1).arr)) rfl (rd_extract rfl) ?_
      refine run_rd (v := .int .i64 (sC l 1)) rfl (rd_extract rfl) ?_
      refine run_alloc rfl Tryd.zeroValue30 (fun g5 => ?_)
      refine run_storeW (j := 0) (c' := (sE l 1).arr) rfl Tryd.sizeOf30 rfl rfl rfl rfl rfl rfl ?_
      refine run_mv rfl ?_
      refine run_endops ?_
      refine run_seq rfl ?_
      refine run_seq rfl ?_
      refine run_region (todo := [0, 1]) rfl rfl ?_
      refine run_mv rfl ?_
      refine run_rd (v := .bool ((sC l 1) != 0)) rfl (rd_cmp rfl rfl) ?_
      refine run_endops ?_
      refine run_if rfl rfl (fun hb3 => ?_) (fun hb3 => ?_)
      · have hb3p := sc_bad hb3
        refine run_seq rfl ?_
        refine run_region (todo := [0, 1, 2, 3]) rfl rfl ?_
        refine run_rd (v := .agg #[.int .i64 0, .int .i64 0, .int .i64 0, .int .u64 0, .int .u64 0, .string ⟨#[]⟩, .int .i64 0, .int .i64 0, .int .i64 0, .int .u64 0, .int .u64 0, .string ⟨#[]⟩, .int .i64 0, .int .i64 0, .int .i64 0, .int .u64 0, .int .u64 0, .string ⟨#[]⟩, .int .i64 0, .int .i64 0, .int .i64 0, .int .u64 0, .int .u64 0, .string ⟨#[]⟩, .int .i64 0, .int .i64 0, .int .i64 0, .int .u64 0, .int .u64 0, .string ⟨#[]⟩, .int .i64 0, .int .i64 0, .int .i64 0, .int .u64 0, .int .u64 0, .string ⟨#[]⟩]) rfl (rd_loadW (j := 3) Tryd.isAgg33 Tryd.sizeOf33 rfl rfl) ?_
        refine run_mv rfl ?_
        refine run_storeW (j := 4) (c' := #[.int .i64 0, .int .i64 0, .int .i64 0, .int .u64 0, .int .u64 0, .string ⟨#[]⟩, .int .i64 0, .int .i64 0, .int .i64 0, .int .u64 0, .int .u64 0, .string ⟨#[]⟩, .int .i64 0, .int .i64 0, .int .i64 0, .int .u64 0, .int .u64 0, .string ⟨#[]⟩, .int .i64 0, .int .i64 0, .int .i64 0, .int .u64 0, .int .u64 0, .string ⟨#[]⟩, .int .i64 0, .int .i64 0, .int .i64 0, .int .u64 0, .int .u64 0, .string ⟨#[]⟩, .int .i64 0, .int .i64 0, .int .i64 0, .int .u64 0, .int .u64 0, .string ⟨#[]⟩]) rfl Tryd.sizeOf33 rfl rfl rfl rfl rfl rfl ?_
        refine run_mv rfl ?_
        refine run_endops ?_
        refine run_ret rfl (v := .tuple #[.agg #[.int .i64 0, .int .i64 0, .int .i64 0, .int .u64 0, .int .u64 0, .string ⟨#[]⟩, .int .i64 0, .int .i64 0, .int .i64 0, .int .u64 0, .int .u64 0, .string ⟨#[]⟩, .int .i64 0, .int .i64 0, .int .i64 0, .int .u64 0, .int .u64 0, .string ⟨#[]⟩, .int .i64 0, .int .i64 0, .int .i64 0, .int .u64 0, .int .u64 0, .string ⟨#[]⟩, .int .i64 0, .int .i64 0, .int .i64 0, .int .u64 0, .int .u64 0, .string ⟨#[]⟩, .int .i64 0, .int .i64 0, .int .i64 0, .int .u64 0, .int .u64 0, .string ⟨#[]⟩], .int .i64 (sC l 1)]) (res2 rfl ⟨_, rfl, rdv (rd_loadW (j := 4) Tryd.isAgg33 Tryd.sizeOf33 rfl rfl)⟩ rfl) ?_
        exact dec_bad hl (by rintro ⟨e0, e1, e2, e3, e4, e5⟩; omega) hb3p
      · have hb3p := sc_good hb3
        refine run_skip rfl ?_
        refine any_draw (n := 6) rfl rfl rfl (by kernel_rfl) ?_
        refine any_takeM (i := 0) rfl (by kernel_rfl) (by kernel_rfl) (by kernel_rfl) ?_
        refine any_takeM (i := 1) rfl (by kernel_rfl) (by kernel_rfl) (by kernel_rfl) ?_
        refine any_take (i := 3) (v := .pointer (some ⟨g3, 0, none⟩)) rfl (fun w => (rd_indexAddrA (m := 0) (o := 0) Tryd.underlying33 rfl (by decide) Tryd.sizeOf31 rfl) w (Sat.start w)) (by kernel_rfl) (by kernel_rfl) (by kernel_rfl) ?_
        refine any_one (i := 2) (by kernel_rfl) ?_
        refine ro_rd (v := .agg ((sE l 1).arr)) rfl (rd_loadW (j := 0) Tryd.isAgg30 Tryd.sizeOf30 rfl rfl) ?_
        refine any_take (i := 4) (v := .pointer (some ⟨g3, 6, none⟩)) rfl (fun w => (rd_indexAddrA (m := 1) (o := 6) Tryd.underlying31 rfl (by decide) Tryd.sizeOf30 rfl) w (Sat.start w)) (by kernel_rfl) (by kernel_rfl) (by kernel_rfl) ?_
        refine any_one (i := 5) (by kernel_rfl) ?_
        refine ro_store (j := 2) (c' := #[.int .i64 ((sE l 0).kind), .int .i64 ((sE l 0).service), .int .i64 ((sE l 0).group), .int .u64 ((sE l 0).session), .int .u64 ((sE l 0).number), .string ((sE l 0).text), .int .i64 ((sE l 1).kind), .int .i64 ((sE l 1).service), .int .i64 ((sE l 1).group), .int .u64 ((sE l 1).session), .int .u64 ((sE l 1).number), .string ((sE l 1).text), .int .i64 0, .int .i64 0, .int .i64 0, .int .u64 0, .int .u64 0, .string ⟨#[]⟩, .int .i64 0, .int .i64 0, .int .i64 0, .int .u64 0, .int .u64 0, .string ⟨#[]⟩, .int .i64 0, .int .i64 0, .int .i64 0, .int .u64 0, .int .u64 0, .string ⟨#[]⟩, .int .i64 0, .int .i64 0, .int .i64 0, .int .u64 0, .int .u64 0, .string ⟨#[]⟩]) rfl Tryd.sizeOf30 rfl rfl rfl rfl (by kernel_rfl) rfl ?_
        refine any_end (by kernel_rfl) ?_
        refine run_endblock ?_
        refine run_region (todo := [0, 1, 2]) rfl rfl ?_
        refine run_mv rfl ?_
        refine run_rd (v := .int .i64 2) rfl (rd_add (r := 2) (by decide)) ?_
        refine run_mv rfl ?_
        refine run_endops ?_
        refine run_again ?_
        refine run_seq rfl ?_
        refine run_seq rfl ?_
        refine run_region (todo := [0, 1]) rfl rfl ?_
        refine run_mv rfl ?_
        refine run_rd (v := .bool false) rfl (rd_cmp rfl rfl) ?_
        refine run_endops ?_
        refine run_false rfl rfl ?_
        refine run_exit rfl rfl ?_
        refine run_endblock ?_
        refine run_region (todo := [0, 1, 2]) rfl rfl ?_
        refine run_mv rfl ?_
        refine run_rd (v := .int .i64 1) rfl (rd_add (r := 1) (by decide)) ?_
        refine run_mv rfl ?_
        refine run_endops ?_
        refine run_again ?_
        refine run_seq rfl ?_
        refine run_seq rfl ?_
        refine run_region (todo := [0, 1]) rfl rfl ?_
        refine run_mv rfl ?_
        refine run_rd (v := .bool true) rfl (rd_cmp rfl rfl) ?_
        refine run_endops ?_
        refine run_true rfl rfl ?_
        refine run_skip rfl ?_
        refine run_seq rfl ?_
        refine run_block rfl ?_
        refine run_seq rfl ?_
        refine run_region (todo := [0]) rfl rfl ?_
        refine run_mv rfl ?_
        refine run_endops ?_
        refine run_block rfl ?_
        refine run_loop rfl ?_
        refine run_again ?_
        refine run_seq rfl ?_
        refine run_seq rfl ?_
        refine run_region (todo := [0, 1]) rfl rfl ?_
        refine run_mv rfl ?_
        refine run_rd (v := .bool true) rfl (rd_cmp rfl rfl) ?_
        refine run_endops ?_
        refine run_true rfl rfl ?_
        refine run_skip rfl ?_
        refine run_seq rfl ?_
        refine run_block rfl ?_
        refine run_seq rfl ?_
        refine run_region (todo := [0, 1, 2, 3, 4, 5]) rfl rfl ?_
        refine run_mv rfl ?_
        refine run_rd (v := .int .i64 2) rfl (rd_mul (r := 2) (by decide)) ?_
        refine run_mv rfl ?_
        refine run_rd (v := .int .i64 2) rfl (rd_add (r := 2) (by decide)) ?_
        refine run_rd (v := .int .i64 56) rfl (rd_mul (r := 56) (by decide)) ?_
        refine run_mv rfl ?_
        refine run_endops ?_
        refine run_seq rfl ?_
        refine run_region (todo := [0, 1, 2, 3, 4, 5, 6, 7, 8, 9, 10, 11]) rfl rfl ?_
        refine run_mv rfl ?_
        refine run_mv rfl ?_
        refine run_mv rfl ?_
        refine run_rd (v := .int .i64 84) rfl (rd_add (r := 84) (by decide)) ?_
        refine run_rd (v := .string (bs ((l.drop 56).take 28))) rfl (rd_substr (l := 56) (h := 84) Tryd.underlying9 (.inl rfl) (.inl rfl) (by omega) (by rw [bs_size]; omega) (by exact bs_mid)) ?_
        refine run_pf0 (v := .tuple #[.agg ((sE l 2).arr), .int .i64 (sC l 2)]) rfl Tryd.call55 (pf_rdecodeS l 2 _ rfl) ?_
        refine run_mv rfl ?_
        refine run_rd (v := .agg ((sE l 2).arr)) rfl (rd_extract rfl) ?_
        refine run_rd (v := .int .i64 (sC l 2)) rfl (rd_extract rfl) ?_
        refine run_alloc rfl Tryd.zeroValue30 (fun g6 => ?_)
        refine run_storeW (j := 0) (c' := (sE l 2).arr) rfl Tryd.sizeOf30 rfl rfl rfl rfl rfl rfl ?_
        refine run_mv rfl ?_
        refine run_endops ?_
        refine run_seq rfl ?_
        refine run_seq rfl ?_
        refine run_region (todo := [0, 1]) rfl rfl ?_
        refine run_mv rfl ?_
        refine run_rd (v := .bool ((sC l 2) != 0)) rfl (rd_cmp rfl rfl) ?_
        refine run_endops ?_
        refine run_if rfl rfl (fun hb4 => ?_) (fun hb4 => ?_)
        · have hb4p := sc_bad hb4
          refine run_seq rfl ?_
          refine run_region (todo := [0, 1, 2, 3]) rfl rfl ?_
          refine run_rd (v := .agg #[.int .i64 0, .int .i64 0, .int .i64 0, .int .u64 0, .int .u64 0, .string ⟨#[]⟩, .int .i64 0, .int .i64 0, .int .i64 0, .int .u64 0, .int .u64 0, .string ⟨#[]⟩, .int .i64 0, .int .i64 0, .int .i64 0, .int .u64 0, .int .u64 0, .string ⟨#[]⟩, .int .i64 0, .int .i64 0, .int .i64 0, .int .u64 0, .int .u64 0, .string ⟨#[]⟩, .int .i64 0, .int .i64 0, .int .i64 0, .int .u64 0, .int .u64 0, .string ⟨#[]⟩, .int .i64 0, .int .i64 0, .int .i64 0, .int .u64 0, .int .u64 0, .string ⟨#[]⟩]) rfl (rd_loadW (j := 4) Tryd.isAgg33 Tryd.sizeOf33 rfl rfl) ?_
          refine run_mv rfl ?_
          refine run_storeW (j := 5) (c' := #[.int .i64 0, .int .i64 0, .int .i64 0, .int .u64 0, .int .u64 0, .string ⟨#[]⟩, .int .i64 0, .int .i64 0, .int .i64 0, .int .u64 0, .int .u64 0, .string ⟨#[]⟩, .int .i64 0, .int .i64 0, .int .i64 0, .int .u64 0, .int .u64 0, .string ⟨#[]⟩, .int .i64 0, .int .i64 0, .int .i64 0, .int .u64 0, .int .u64 0, .string ⟨#[]⟩, .int .i64 0, .int .i64 0, .int .i64 0, .int .u64 0, .int .u64 0, .string ⟨#[]⟩, .int .i64 0, .int .i64 0, .int .i64 0, .int .u64 0, .int .u64 0, .string ⟨#[]⟩]) rfl Tryd.sizeOf33 rfl rfl rfl rfl rfl rfl ?_
          refine run_mv rfl ?_
          refine run_endops ?_
          refine run_ret rfl (v := .tuple #[.agg #[.int .i64 0, .int .i64 0, .int .i64 0, .int .u64 0, .int .u64 0, .string ⟨#[]⟩, .int .i64 0, .int .i64 0, .int .i64 0, .int .u64 0, .int .u64 0, .string ⟨#[]⟩, .int .i64 0, .int .i64 0, .int .i64 0, .int .u64 0, .int .u64 0, .string ⟨#[]⟩, .int .i64 0, .int .i64 0, .int .i64 0, .int .u64 0, .int .u64 0, .string ⟨#[]⟩, .int .i64 0, .int .i64 0, .int .i64 0, .int .u64 0, .int .u64 0, .string ⟨#[]⟩, .int .i64 0, .int .i64 0, .int .i64 0, .int .u64 0, .int .u64 0, .string ⟨#[]⟩], .int .i64 (sC l 2)]) (res2 rfl ⟨_, rfl, rdv (rd_loadW (j := 5) Tryd.isAgg33 Tryd.sizeOf33 rfl rfl)⟩ rfl) ?_
          exact dec_bad hl (by rintro ⟨e0, e1, e2, e3, e4, e5⟩; omega) hb4p
        · have hb4p := sc_good hb4
          refine run_skip rfl ?_
          refine any_draw (n := 6) rfl rfl rfl (by kernel_rfl) ?_
          refine any_takeM (i := 0) rfl (by kernel_rfl) (by kernel_rfl) (by kernel_rfl) ?_
          refine any_takeM (i := 1) rfl (by kernel_rfl) (by kernel_rfl) (by kernel_rfl) ?_
          refine any_take (i := 3) (v := .pointer (some ⟨g3, 12, none⟩)) rfl (fun w => (rd_indexAddrA (m := 1) (o := 12) Tryd.underlying33 rfl (by decide) Tryd.sizeOf31 rfl) w (Sat.start w)) (by kernel_rfl) (by kernel_rfl) (by kernel_rfl) ?_
          refine any_one (i := 2) (by kernel_rfl) ?_
          refine ro_rd (v := .agg ((sE l 2).arr)) rfl (rd_loadW (j := 0) Tryd.isAgg30 Tryd.sizeOf30 rfl rfl) ?_
          refine any_take (i := 4) (v := .pointer (some ⟨g3, 12, none⟩)) rfl (fun w => (rd_indexAddrA (m := 0) (o := 12) Tryd.underlying31 rfl (by decide) Tryd.sizeOf30 rfl) w (Sat.start w)) (by kernel_rfl) (by kernel_rfl) (by kernel_rfl) ?_
          refine any_one (i := 5) (by kernel_rfl) ?_
          refine ro_store (j := 3) (c' := #[.int .i64 ((sE l 0).kind), .int .i64 ((sE l 0).service), .int .i64 ((sE l 0).group), .int .u64 ((sE l 0).session), .int .u64 ((sE l 0).number), .string ((sE l 0).text), .int .i64 ((sE l 1).kind), .int .i64 ((sE l 1).service), .int .i64 ((sE l 1).group), .int .u64 ((sE l 1).session), .int .u64 ((sE l 1).number), .string ((sE l 1).text), .int .i64 ((sE l 2).kind), .int .i64 ((sE l 2).service), .int .i64 ((sE l 2).group), .int .u64 ((sE l 2).session), .int .u64 ((sE l 2).number), .string ((sE l 2).text), .int .i64 0, .int .i64 0, .int .i64 0, .int .u64 0, .int .u64 0, .string ⟨#[]⟩, .int .i64 0, .int .i64 0, .int .i64 0, .int .u64 0, .int .u64 0, .string ⟨#[]⟩, .int .i64 0, .int .i64 0, .int .i64 0, .int .u64 0, .int .u64 0, .string ⟨#[]⟩]) rfl Tryd.sizeOf30 rfl rfl rfl rfl (by kernel_rfl) rfl ?_
          refine any_end (by kernel_rfl) ?_
          refine run_endblock ?_
          refine run_region (todo := [0, 1, 2]) rfl rfl ?_
          refine run_mv rfl ?_
          refine run_rd (v := .int .i64 1) rfl (rd_add (r := 1) (by decide)) ?_
          refine run_mv rfl ?_
          refine run_endops ?_
          refine run_again ?_
          refine run_seq rfl ?_
          refine run_seq rfl ?_
          refine run_region (todo := [0, 1]) rfl rfl ?_
          refine run_mv rfl ?_
          refine run_rd (v := .bool true) rfl (rd_cmp rfl rfl) ?_
          refine run_endops ?_
          refine run_true rfl rfl ?_
          refine run_skip rfl ?_
          refine run_seq rfl ?_
          refine run_block rfl ?_
          refine run_seq rfl ?_
          refine run_region (todo := [0, 1, 2, 3, 4, 5]) rfl rfl ?_
          refine run_mv rfl ?_
          refine run_rd (v := .int .i64 2) rfl (rd_mul (r := 2) (by decide)) ?_
          refine run_mv rfl ?_
          refine run_rd (v := .int .i64 3) rfl (rd_add (r := 3) (by decide)) ?_
          refine run_rd (v := .int .i64 84) rfl (rd_mul (r := 84) (by decide)) ?_
          refine run_mv rfl ?_
          refine run_endops ?_
          refine run_seq rfl ?_
          refine run_region (todo := [0, 1, 2, 3, 4, 5, 6, 7, 8, 9, 10, 11]) rfl rfl ?_
          refine run_mv rfl ?_
          refine run_mv rfl ?_
          refine run_mv rfl ?_
          refine run_rd (v := .int .i64 112) rfl (rd_add (r := 112) (by decide)) ?_
          refine run_rd (v := .string (bs ((l.drop 84).take 28))) rfl (rd_substr (l := 84) (h := 112) Tryd.underlying9 (.inl rfl) (.inl rfl) (by omega) (by rw [bs_size]; omega) (by exact bs_mid)) ?_
          refine run_pf0 (v := .tuple #[.agg ((sE l 3).arr), .int .i64 (sC l 3)]) rfl Tryd.call55 (pf_rdecodeS l 3 _ rfl) ?_
          refine run_mv rfl ?_
          refine run_rd (v := .agg ((sE l 3).arr)) rfl (rd_extract rfl) ?_
          refine run_rd (v := .int .i64 (sC l 3)) rfl (rd_extract rfl) ?_
          refine run_alloc rfl Tryd.zeroValue30 (fun g7 => ?_)
          refine run_storeW (j := 0) (c' := (sE l 3).arr) rfl Tryd.sizeOf30 rfl rfl rfl rfl rfl rfl ?_
          refine run_mv rfl ?_
          refine run_endops ?_
          refine run_seq rfl ?_
          refine run_seq rfl ?_
          refine run_region (todo := [0, 1]) rfl rfl ?_
          refine run_mv rfl ?_
          refine run_rd (v := .bool ((sC l 3) != 0)) rfl (rd_cmp rfl rfl) ?_
          refine run_endops ?_
          refine run_if rfl rfl (fun hb5 => ?_) (fun hb5 => ?_)
          · have hb5p := sc_bad hb5
            refine run_seq rfl ?_
            refine run_region (todo := [0, 1, 2, 3]) rfl rfl ?_
            refine run_rd (v := .agg #[.int .i64 0, .int .i64 0, .int .i64 0, .int .u64 0, .int .u64 0, .string ⟨#[]⟩, .int .i64 0, .int .i64 0, .int .i64 0, .int .u64 0, .int .u64 0, .string ⟨#[]⟩, .int .i64 0, .int .i64 0, .int .i64 0, .int .u64 0, .int .u64 0, .string ⟨#[]⟩, .int .i64 0, .int .i64 0, .int .i64 0, .int .u64 0, .int .u64 0, .string ⟨#[]⟩, .int .i64 0, .int .i64 0, .int .i64 0, .int .u64 0, .int .u64 0, .string ⟨#[]⟩, .int .i64 0, .int .i64 0, .int .i64 0, .int .u64 0, .int .u64 0, .string ⟨#[]⟩]) rfl (rd_loadW (j := 5) Tryd.isAgg33 Tryd.sizeOf33 rfl rfl) ?_
            refine run_mv rfl ?_
            refine run_storeW (j := 6) (c' := #[.int .i64 0, .int .i64 0, .int .i64 0, .int .u64 0, .int .u64 0, .string ⟨#[]⟩, .int .i64 0, .int .i64 0, .int .i64 0, .int .u64 0, .int .u64 0, .string ⟨#[]⟩, .int .i64 0, .int .i64 0, .int .i64 0, .int .u64 0, .int .u64 0, .string ⟨#[]⟩, .int .i64 0, .int .i64 0, .int .i64 0, .int .u64 0, .int .u64 0, .string ⟨#[]⟩, .int .i64 0, .int .i64 0, .int .i64 0, .int .u64 0, .int .u64 0, .string ⟨#[]⟩, .int .i64 0, .int .i64 0, .int .i64 0, .int .u64 0, .int .u64 0, .string ⟨#[]⟩]) rfl Tryd.sizeOf33 rfl rfl rfl rfl rfl rfl ?_
            refine run_mv rfl ?_
            refine run_endops ?_
            refine run_ret rfl (v := .tuple #[.agg #[.int .i64 0, .int .i64 0, .int .i64 0, .int .u64 0, .int .u64 0, .string ⟨#[]⟩, .int .i64 0, .int .i64 0, .int .i64 0, .int .u64 0, .int .u64 0, .string ⟨#[]⟩, .int .i64 0, .int .i64 0, .int .i64 0, .int .u64 0, .int .u64 0, .string ⟨#[]⟩, .int .i64 0, .int .i64 0, .int .i64 0, .int .u64 0, .int .u64 0, .string ⟨#[]⟩, .int .i64 0, .int .i64 0, .int .i64 0, .int .u64 0, .int .u64 0, .string ⟨#[]⟩, .int .i64 0, .int .i64 0, .int .i64 0, .int .u64 0, .int .u64 0, .string ⟨#[]⟩], .int .i64 (sC l 3)]) (res2 rfl ⟨_, rfl, rdv (rd_loadW (j := 6) Tryd.isAgg33 Tryd.sizeOf33 rfl rfl)⟩ rfl) ?_
            exact dec_bad hl (by rintro ⟨e0, e1, e2, e3, e4, e5⟩; omega) hb5p
          · have hb5p := sc_good hb5
            refine run_skip rfl ?_
            refine any_draw (n := 6) rfl rfl rfl (by kernel_rfl) ?_
            refine any_takeM (i := 0) rfl (by kernel_rfl) (by kernel_rfl) (by kernel_rfl) ?_
            refine any_takeM (i := 1) rfl (by kernel_rfl) (by kernel_rfl) (by kernel_rfl) ?_
            refine any_take (i := 3) (v := .pointer (some ⟨g3, 12, none⟩)) rfl (fun w => (rd_indexAddrA (m := 1) (o := 12) Tryd.underlying33 rfl (by decide) Tryd.sizeOf31 rfl) w (Sat.start w)) (by kernel_rfl) (by kernel_rfl) (by kernel_rfl) ?_
            refine any_one (i := 2) (by kernel_rfl) ?_
            refine ro_rd (v := .agg ((sE l 3).arr)) rfl (rd_loadW (j := 0) Tryd.isAgg30 Tryd.sizeOf30 rfl rfl) ?_
            refine any_take (i := 4) (v := .pointer (some ⟨g3, 18, none⟩)) rfl (fun w => (rd_indexAddrA (m := 1) (o := 18) Tryd.underlying31 rfl (by decide) Tryd.sizeOf30 rfl) w (Sat.start w)) (by kernel_rfl) (by kernel_rfl) (by kernel_rfl) ?_
            refine any_one (i := 5) (by kernel_rfl) ?_
            refine ro_store (j := 4) (c' := #[.int .i64 ((sE l 0).kind), .int .i64 ((sE l 0).service), .int .i64 ((sE l 0).group), .int .u64 ((sE l 0).session), .int .u64 ((sE l 0).number), .string ((sE l 0).text), .int .i64 ((sE l 1).kind), .int .i64 ((sE l 1).service), .int .i64 ((sE l 1).group), .int .u64 ((sE l 1).session), .int .u64 ((sE l 1).number), .string ((sE l 1).text), .int .i64 ((sE l 2).kind), .int .i64 ((sE l 2).service), .int .i64 ((sE l 2).group), .int .u64 ((sE l 2).session), .int .u64 ((sE l 2).number), .string ((sE l 2).text), .int .i64 ((sE l 3).kind), .int .i64 ((sE l 3).service), .int .i64 ((sE l 3).group), .int .u64 ((sE l 3).session), .int .u64 ((sE l 3).number), .string ((sE l 3).text), .int .i64 0, .int .i64 0, .int .i64 0, .int .u64 0, .int .u64 0, .string ⟨#[]⟩, .int .i64 0, .int .i64 0, .int .i64 0, .int .u64 0, .int .u64 0, .string ⟨#[]⟩]) rfl Tryd.sizeOf30 rfl rfl rfl rfl (by kernel_rfl) rfl ?_
            refine any_end (by kernel_rfl) ?_
            refine run_endblock ?_
            refine run_region (todo := [0, 1, 2]) rfl rfl ?_
            refine run_mv rfl ?_
            refine run_rd (v := .int .i64 2) rfl (rd_add (r := 2) (by decide)) ?_
            refine run_mv rfl ?_
            refine run_endops ?_
            refine run_again ?_
            refine run_seq rfl ?_
            refine run_seq rfl ?_
            refine run_region (todo := [0, 1]) rfl rfl ?_
            refine run_mv rfl ?_
            refine run_rd (v := .bool false) rfl (rd_cmp rfl rfl) ?_
            refine run_endops ?_
            refine run_false rfl rfl ?_
            refine run_exit rfl rfl ?_
            refine run_endblock ?_
            refine run_region (todo := [0, 1, 2]) rfl rfl ?_
            refine run_mv rfl ?_
            refine run_rd (v := .int .i64 2) rfl (rd_add (r := 2) (by decide)) ?_
            refine run_mv rfl ?_
            refine run_endops ?_
            refine run_again ?_
            refine run_seq rfl ?_
            refine run_seq rfl ?_
            refine run_region (todo := [0, 1]) rfl rfl ?_
            refine run_mv rfl ?_
            refine run_rd (v := .bool true) rfl (rd_cmp rfl rfl) ?_
            refine run_endops ?_
            refine run_true rfl rfl ?_
            refine run_skip rfl ?_
            refine run_seq rfl ?_
            refine run_block rfl ?_
            refine run_seq rfl ?_
            refine run_region (todo := [0]) rfl rfl ?_
            refine run_mv rfl ?_
            refine run_endops ?_
            refine run_block rfl ?_
            refine run_loop rfl ?_
            refine run_again ?_
            refine run_seq rfl ?_
            refine run_seq rfl ?_
            refine run_region (todo := [0, 1]) rfl rfl ?_
            refine run_mv rfl ?_
            refine run_rd (v := .bool true) rfl (rd_cmp rfl rfl) ?_
            refine run_endops ?_
            refine run_true rfl rfl ?_
            refine run_skip rfl ?_
            refine run_seq rfl ?_
            refine run_block rfl ?_
            refine run_seq rfl ?_
            refine run_region (todo := [0, 1, 2, 3, 4, 5]) rfl rfl ?_
            refine run_mv rfl ?_
            refine run_rd (v := .int .i64 4) rfl (rd_mul (r := 4) (by decide)) ?_
            refine run_mv rfl ?_
            refine run_rd (v := .int .i64 4) rfl (rd_add (r := 4) (by decide)) ?_
            refine run_rd (v := .int .i64 112) rfl (rd_mul (r := 112) (by decide)) ?_
            refine run_mv rfl ?_
            refine run_endops ?_
            refine run_seq rfl ?_
            refine run_region (todo := [0, 1, 2, 3, 4, 5, 6, 7, 8, 9, 10, 11]) rfl rfl ?_
            refine run_mv rfl ?_
            refine run_mv rfl ?_
            refine run_mv rfl ?_
            refine run_rd (v := .int .i64 140) rfl (rd_add (r := 140) (by decide)) ?_
            refine run_rd (v := .string (bs ((l.drop 112).take 28))) rfl (rd_substr (l := 112) (h := 140) Tryd.underlying9 (.inl rfl) (.inl rfl) (by omega) (by rw [bs_size]; omega) (by exact bs_mid)) ?_
            refine run_pf0 (v := .tuple #[.agg ((sE l 4).arr), .int .i64 (sC l 4)]) rfl Tryd.call55 (pf_rdecodeS l 4 _ rfl) ?_
            refine run_mv rfl ?_
            refine run_rd (v := .agg ((sE l 4).arr)) rfl (rd_extract rfl) ?_
            refine run_rd (v := .int .i64 (sC l 4)) rfl (rd_extract rfl) ?_
            refine run_alloc rfl Tryd.zeroValue30 (fun g8 => ?_)
            refine run_storeW (j := 0) (c' := (sE l 4).arr) rfl Tryd.sizeOf30 rfl rfl rfl rfl rfl rfl ?_
            refine run_mv rfl ?_
            refine run_endops ?_
            refine run_seq rfl ?_
            refine run_seq rfl ?_
            refine run_region (todo := [0, 1]) rfl rfl ?_
            refine run_mv rfl ?_
            refine run_rd (v := .bool ((sC l 4) != 0)) rfl (rd_cmp rfl rfl) ?_
            refine run_endops ?_
            refine run_if rfl rfl (fun hb6 => ?_) (fun hb6 => ?_)
            · have hb6p := sc_bad hb6
              refine run_seq rfl ?_
              refine run_region (todo := [0, 1, 2, 3]) rfl rfl ?_
              refine run_rd (v := .agg #[.int .i64 0, .int .i64 0, .int .i64 0, .int .u64 0, .int .u64 0, .string ⟨#[]⟩, .int .i64 0, .int .i64 0, .int .i64 0, .int .u64 0, .int .u64 0, .string ⟨#[]⟩, .int .i64 0, .int .i64 0, .int .i64 0, .int .u64 0, .int .u64 0, .string ⟨#[]⟩, .int .i64 0, .int .i64 0, .int .i64 0, .int .u64 0, .int .u64 0, .string ⟨#[]⟩, .int .i64 0, .int .i64 0, .int .i64 0, .int .u64 0, .int .u64 0, .string ⟨#[]⟩, .int .i64 0, .int .i64 0, .int .i64 0, .int .u64 0, .int .u64 0, .string ⟨#[]⟩]) rfl (rd_loadW (j := 6) Tryd.isAgg33 Tryd.sizeOf33 rfl rfl) ?_
              refine run_mv rfl ?_
              refine run_storeW (j := 7) (c' := #[.int .i64 0, .int .i64 0, .int .i64 0, .int .u64 0, .int .u64 0, .string ⟨#[]⟩, .int .i64 0, .int .i64 0, .int .i64 0, .int .u64 0, .int .u64 0, .string ⟨#[]⟩, .int .i64 0, .int .i64 0, .int .i64 0, .int .u64 0, .int .u64 0, .string ⟨#[]⟩, .int .i64 0, .int .i64 0, .int .i64 0, .int .u64 0, .int .u64 0, .string ⟨#[]⟩, .int .i64 0, .int .i64 0, .int .i64 0, .int .u64 0, .int .u64 0, .string ⟨#[]⟩, .int .i64 0, .int .i64 0, .int .i64 0, .int .u64 0, .int .u64 0, .string ⟨#[]⟩]) rfl Tryd.sizeOf33 rfl rfl rfl rfl rfl rfl ?_
              refine run_mv rfl ?_
              refine run_endops ?_
              refine run_ret rfl (v := .tuple #[.agg #[.int .i64 0, .int .i64 0, .int .i64 0, .int .u64 0, .int .u64 0, .string ⟨#[]⟩, .int .i64 0, .int .i64 0, .int .i64 0, .int .u64 0, .int .u64 0, .string ⟨#[]⟩, .int .i64 0, .int .i64 0, .int .i64 0, .int .u64 0, .int .u64 0, .string ⟨#[]⟩, .int .i64 0, .int .i64 0, .int .i64 0, .int .u64 0, .int .u64 0, .string ⟨#[]⟩, .int .i64 0, .int .i64 0, .int .i64 0, .int .u64 0, .int .u64 0, .string ⟨#[]⟩, .int .i64 0, .int .i64 0, .int .i64 0, .int .u64 0, .int .u64 0, .string ⟨#[]⟩], .int .i64 (sC l 4)]) (res2 rfl ⟨_, rfl, rdv (rd_loadW (j := 7) Tryd.isAgg33 Tryd.sizeOf33 rfl rfl)⟩ rfl) ?_
              exact dec_bad hl (by rintro ⟨e0, e1, e2, e3, e4, e5⟩; omega) hb6p
            · have hb6p := sc_good hb6
              refine run_skip rfl ?_
              refine any_draw (n := 6) rfl rfl rfl (by kernel_rfl) ?_
              refine any_takeM (i := 0) rfl (by kernel_rfl) (by kernel_rfl) (by kernel_rfl) ?_
              refine any_takeM (i := 1) rfl (by kernel_rfl) (by kernel_rfl) (by kernel_rfl) ?_
              refine any_take (i := 3) (v := .pointer (some ⟨g3, 24, none⟩)) rfl (fun w => (rd_indexAddrA (m := 2) (o := 24) Tryd.underlying33 rfl (by decide) Tryd.sizeOf31 rfl) w (Sat.start w)) (by kernel_rfl) (by kernel_rfl) (by kernel_rfl) ?_
              refine any_one (i := 2) (by kernel_rfl) ?_
              refine ro_rd (v := .agg ((sE l 4).arr)) rfl (rd_loadW (j := 0) Tryd.isAgg30 Tryd.sizeOf30 rfl rfl) ?_
              refine any_take (i := 4) (v := .pointer (some ⟨g3, 24, none⟩)) rfl (fun w => (rd_indexAddrA (m := 0) (o := 24) Tryd.underlying31 rfl (by decide) Tryd.sizeOf30 rfl) w (Sat.start w)) (by kernel_rfl) (by kernel_rfl) (by kernel_rfl) ?_
              refine any_one (i := 5) (by kernel_rfl) ?_
              refine ro_store (j := 5) (c' := #[.int .i64 ((sE l 0).kind), .int .i64 ((sE l 0).service), .int .i64 ((sE l 0).group), .int .u64 ((sE l 0).session), .int .u64 ((sE l 0).number), .string ((sE l 0).text), .int .i64 ((sE l 1).kind), .int .i64 ((sE l 1).service), .int .i64 ((sE l 1).group), .int .u64 ((sE l 1).session), .int .u64 ((sE l 1).number), .string ((sE l 1).text), .int .i64 ((sE l 2).kind), .int .i64 ((sE l 2).service), .int .i64 ((sE l 2).group), .int .u64 ((sE l 2).session), .int .u64 ((sE l 2).number), .string ((sE l 2).text), .int .i64 ((sE l 3).kind), .int .i64 ((sE l 3).service), .int .i64 ((sE l 3).group), .int .u64 ((sE l 3).session), .int .u64 ((sE l 3).number), .string ((sE l 3).text), .int .i64 ((sE l 4).kind), .int .i64 ((sE l 4).service), .int .i64 ((sE l 4).group), .int .u64 ((sE l 4).session), .int .u64 ((sE l 4).number), .string ((sE l 4).text), .int .i64 0, .int .i64 0, .int .i64 0, .int .u64 0, .int .u64 0, .string ⟨#[]⟩]) rfl Tryd.sizeOf30 rfl rfl rfl rfl (by kernel_rfl) rfl ?_
              refine any_end (by kernel_rfl) ?_
              refine run_endblock ?_
              refine run_region (todo := [0, 1, 2]) rfl rfl ?_
              refine run_mv rfl ?_
              refine run_rd (v := .int .i64 1) rfl (rd_add (r := 1) (by decide)) ?_
              refine run_mv rfl ?_
              refine run_endops ?_
              refine run_again ?_
              refine run_seq rfl ?_
              refine run_seq rfl ?_
              refine run_region (todo := [0, 1]) rfl rfl ?_
              refine run_mv rfl ?_
              refine run_rd (v := .bool true) rfl (rd_cmp rfl rfl) ?_
              refine run_endops ?_
              refine run_true rfl rfl ?_
              refine run_skip rfl ?_
              refine run_seq rfl ?_
              refine run_block rfl ?_
              refine run_seq rfl ?_
              refine run_region (todo := [0, 1, 2, 3, 4, 5]) rfl rfl ?_
              refine run_mv rfl ?_
              refine run_rd (v := .int .i64 4) rfl (rd_mul (r := 4) (by decide)) ?_
              refine run_mv rfl ?_
              refine run_rd (v := .int .i64 5) rfl (rd_add (r := 5) (by decide)) ?_
              refine run_rd (v := .int .i64 140) rfl (rd_mul (r := 140) (by decide)) ?_
              refine run_mv rfl ?_
              refine run_endops ?_
              refine run_seq rfl ?_
              refine run_region (todo := [0, 1, 2, 3, 4, 5, 6, 7, 8, 9, 10, 11]) rfl rfl ?_
              refine run_mv rfl ?_
              refine run_mv rfl ?_
              refine run_mv rfl ?_
              refine run_rd (v := .int .i64 168) rfl (rd_add (r := 168) (by decide)) ?_
              refine run_rd (v := .string (bs ((l.drop 140).take 28))) rfl (rd_substr (l := 140) (h := 168) Tryd.underlying9 (.inl rfl) (.inl rfl) (by omega) (by rw [bs_size]; omega) (by exact bs_mid)) ?_
              refine run_pf0 (v := .tuple #[.agg ((sE l 5).arr), .int .i64 (sC l 5)]) rfl Tryd.call55 (pf_rdecodeS l 5 _ rfl) ?_
              refine run_mv rfl ?_
              refine run_rd (v := .agg ((sE l 5).arr)) rfl (rd_extract rfl) ?_
              refine run_rd (v := .int .i64 (sC l 5)) rfl (rd_extract rfl) ?_
              refine run_alloc rfl Tryd.zeroValue30 (fun g9 => ?_)
              refine run_storeW (j := 0) (c' := (sE l 5).arr) rfl Tryd.sizeOf30 rfl rfl rfl rfl rfl rfl ?_
              refine run_mv rfl ?_
              refine run_endops ?_
              refine run_seq rfl ?_
              refine run_seq rfl ?_
              refine run_region (todo := [0, 1]) rfl rfl ?_
              refine run_mv rfl ?_
              refine run_rd (v := .bool ((sC l 5) != 0)) rfl (rd_cmp rfl rfl) ?_
              refine run_endops ?_
              refine run_if rfl rfl (fun hb7 => ?_) (fun hb7 => ?_)
              · have hb7p := sc_bad hb7
                refine run_seq rfl ?_
                refine run_region (todo := [0, 1, 2, 3]) rfl rfl ?_
                refine run_rd (v := .agg #[.int .i64 0, .int .i64 0, .int .i64 0, .int .u64 0, .int .u64 0, .string ⟨#[]⟩, .int .i64 0, .int .i64 0, .int .i64 0, .int .u64 0, .int .u64 0, .string ⟨#[]⟩, .int .i64 0, .int .i64 0, .int .i64 0, .int .u64 0, .int .u64 0, .string ⟨#[]⟩, .int .i64 0, .int .i64 0, .int .i64 0, .int .u64 0, .int .u64 0, .string ⟨#[]⟩, .int .i64 0, .int .i64 0, .int .i64 0, .int .u64 0, .int .u64 0, .string ⟨#[]⟩, .int .i64 0, .int .i64 0, .int .i64 0, .int .u64 0, .int .u64 0, .string ⟨#[]⟩]) rfl (rd_loadW (j := 7) Tryd.isAgg33 Tryd.sizeOf33 rfl rfl) ?_
                refine run_mv rfl ?_
                refine run_storeW (j := 8) (c' := #[.int .i64 0, .int .i64 0, .int .i64 0, .int .u64 0, .int .u64 0, .string ⟨#[]⟩, .int .i64 0, .int .i64 0, .int .i64 0, .int .u64 0, .int .u64 0, .string ⟨#[]⟩, .int .i64 0, .int .i64 0, .int .i64 0, .int .u64 0, .int .u64 0, .string ⟨#[]⟩, .int .i64 0, .int .i64 0, .int .i64 0, .int .u64 0, .int .u64 0, .string ⟨#[]⟩, .int .i64 0, .int .i64 0, .int .i64 0, .int .u64 0, .int .u64 0, .string ⟨#[]⟩, .int .i64 0, .int .i64 0, .int .i64 0, .int .u64 0, .int .u64 0, .string ⟨#[]⟩]) rfl Tryd.sizeOf33 rfl rfl rfl rfl rfl rfl ?_
                refine run_mv rfl ?_
                refine run_endops ?_
                refine run_ret rfl (v := .tuple #[.agg #[.int .i64 0, .int .i64 0, .int .i64 0, .int .u64 0, .int .u64 0, .string ⟨#[]⟩, .int .i64 0, .int .i64 0, .int .i64 0, .int .u64 0, .int .u64 0, .string ⟨#[]⟩, .int .i64 0, .int .i64 0, .int .i64 0, .int .u64 0, .int .u64 0, .string ⟨#[]⟩, .int .i64 0, .int .i64 0, .int .i64 0, .int .u64 0, .int .u64 0, .string ⟨#[]⟩, .int .i64 0, .int .i64 0, .int .i64 0, .int .u64 0, .int .u64 0, .string ⟨#[]⟩, .int .i64 0, .int .i64 0, .int .i64 0, .int .u64 0, .int .u64 0, .string ⟨#[]⟩], .int .i64 (sC l 5)]) (res2 rfl ⟨_, rfl, rdv (rd_loadW (j := 8) Tryd.isAgg33 Tryd.sizeOf33 rfl rfl)⟩ rfl) ?_
                exact dec_bad hl (by rintro ⟨e0, e1, e2, e3, e4, e5⟩; omega) hb7p
              · have hb7p := sc_good hb7
                refine run_skip rfl ?_
                refine any_draw (n := 6) rfl rfl rfl (by kernel_rfl) ?_
                refine any_takeM (i := 0) rfl (by kernel_rfl) (by kernel_rfl) (by kernel_rfl) ?_
                refine any_takeM (i := 1) rfl (by kernel_rfl) (by kernel_rfl) (by kernel_rfl) ?_
                refine any_take (i := 3) (v := .pointer (some ⟨g3, 24, none⟩)) rfl (fun w => (rd_indexAddrA (m := 2) (o := 24) Tryd.underlying33 rfl (by decide) Tryd.sizeOf31 rfl) w (Sat.start w)) (by kernel_rfl) (by kernel_rfl) (by kernel_rfl) ?_
                refine any_one (i := 2) (by kernel_rfl) ?_
                refine ro_rd (v := .agg ((sE l 5).arr)) rfl (rd_loadW (j := 0) Tryd.isAgg30 Tryd.sizeOf30 rfl rfl) ?_
                refine any_take (i := 4) (v := .pointer (some ⟨g3, 30, none⟩)) rfl (fun w => (rd_indexAddrA (m := 1) (o := 30) Tryd.underlying31 rfl (by decide) Tryd.sizeOf30 rfl) w (Sat.start w)) (by kernel_rfl) (by kernel_rfl) (by kernel_rfl) ?_
                refine any_one (i := 5) (by kernel_rfl) ?_
                refine ro_store (j := 6) (c' := #[.int .i64 ((sE l 0).kind), .int .i64 ((sE l 0).service), .int .i64 ((sE l 0).group), .int .u64 ((sE l 0).session), .int .u64 ((sE l 0).number), .string ((sE l 0).text), .int .i64 ((sE l 1).kind), .int .i64 ((sE l 1).service), .int .i64 ((sE l 1).group), .int .u64 ((sE l 1).session), .int .u64 ((sE l 1).number), .string ((sE l 1).text), .int .i64 ((sE l 2).kind), .int .i64 ((sE l 2).service), .int .i64 ((sE l 2).group), .int .u64 ((sE l 2).session), .int .u64 ((sE l 2).number), .string ((sE l 2).text), .int .i64 ((sE l 3).kind), .int .i64 ((sE l 3).service), .int .i64 ((sE l 3).group), .int .u64 ((sE l 3).session), .int .u64 ((sE l 3).number), .string ((sE l 3).text), .int .i64 ((sE l 4).kind), .int .i64 ((sE l 4).service), .int .i64 ((sE l 4).group), .int .u64 ((sE l 4).session), .int .u64 ((sE l 4).number), .string ((sE l 4).text), .int .i64 ((sE l 5).kind), .int .i64 ((sE l 5).service), .int .i64 ((sE l 5).group), .int .u64 ((sE l 5).session), .int .u64 ((sE l 5).number), .string ((sE l 5).text)]) rfl Tryd.sizeOf30 rfl rfl rfl rfl (by kernel_rfl) rfl ?_
                refine any_end (by kernel_rfl) ?_
                refine run_endblock ?_
                refine run_region (todo := [0, 1, 2]) rfl rfl ?_
                refine run_mv rfl ?_
                refine run_rd (v := .int .i64 2) rfl (rd_add (r := 2) (by decide)) ?_
                refine run_mv rfl ?_
                refine run_endops ?_
                refine run_again ?_
                refine run_seq rfl ?_
                refine run_seq rfl ?_
                refine run_region (todo := [0, 1]) rfl rfl ?_
                refine run_mv rfl ?_
                refine run_rd (v := .bool false) rfl (rd_cmp rfl rfl) ?_
                refine run_endops ?_
                refine run_false rfl rfl ?_
                refine run_exit rfl rfl ?_
                refine run_endblock ?_
                refine run_region (todo := [0, 1, 2]) rfl rfl ?_
                refine run_mv rfl ?_
                refine run_rd (v := .int .i64 3) rfl (rd_add (r := 3) (by decide)) ?_
                refine run_mv rfl ?_
                refine run_endops ?_
                refine run_again ?_
                refine run_seq rfl ?_
                refine run_seq rfl ?_
                refine run_region (todo := [0, 1]) rfl rfl ?_
                refine run_mv rfl ?_
                refine run_rd (v := .bool false) rfl (rd_cmp rfl rfl) ?_
                refine run_endops ?_
                refine run_false rfl rfl ?_
                refine run_exit rfl rfl ?_
                refine run_seq rfl ?_
                refine run_region (todo := [0, 1, 2]) rfl rfl ?_
                refine run_rd (v := .agg #[.int .i64 ((sE l 0).kind), .int .i64 ((sE l 0).service), .int .i64 ((sE l 0).group), .int .u64 ((sE l 0).session), .int .u64 ((sE l 0).number), .string ((sE l 0).text), .int .i64 ((sE l 1).kind), .int .i64 ((sE l 1).service), .int .i64 ((sE l 1).group), .int .u64 ((sE l 1).session), .int .u64 ((sE l 1).number), .string ((sE l 1).text), .int .i64 ((sE l 2).kind), .int .i64 ((sE l 2).service), .int .i64 ((sE l 2).group), .int .u64 ((sE l 2).session), .int .u64 ((sE l 2).number), .string ((sE l 2).text), .int .i64 ((sE l 3).kind), .int .i64 ((sE l 3).service), .int .i64 ((sE l 3).group), .int .u64 ((sE l 3).session), .int .u64 ((sE l 3).number), .string ((sE l 3).text), .int .i64 ((sE l 4).kind), .int .i64 ((sE l 4).service), .int .i64 ((sE l 4).group), .int .u64 ((sE l 4).session), .int .u64 ((sE l 4).number), .string ((sE l 4).text), .int .i64 ((sE l 5).kind), .int .i64 ((sE l 5).service), .int .i64 ((sE l 5).group), .int .u64 ((sE l 5).session), .int .u64 ((sE l 5).number), .string ((sE l 5).text)]) rfl (rd_loadW (j := 6) Tryd.isAgg33 Tryd.sizeOf33 rfl rfl) ?_
                refine run_storeW (j := 8) (c' := #[.int .i64 ((sE l 0).kind), .int .i64 ((sE l 0).service), .int .i64 ((sE l 0).group), .int .u64 ((sE l 0).session), .int .u64 ((sE l 0).number), .string ((sE l 0).text), .int .i64 ((sE l 1).kind), .int .i64 ((sE l 1).service), .int .i64 ((sE l 1).group), .int .u64 ((sE l 1).session), .int .u64 ((sE l 1).number), .string ((sE l 1).text), .int .i64 ((sE l 2).kind), .int .i64 ((sE l 2).service), .int .i64 ((sE l 2).group), .int .u64 ((sE l 2).session), .int .u64 ((sE l 2).number), .string ((sE l 2).text), .int .i64 ((sE l 3).kind), .int .i64 ((sE l 3).service), .int .i64 ((sE l 3).group), .int .u64 ((sE l 3).session), .int .u64 ((sE l 3).number), .string ((sE l 3).text), .int .i64 ((sE l 4).kind), .int .i64 ((sE l 4).service), .int .i64 ((sE l 4).group), .int .u64 ((sE l 4).session), .int .u64 ((sE l 4).number), .string ((sE l 4).text), .int .i64 ((sE l 5).kind), .int .i64 ((sE l 5).service), .int .i64 ((sE l 5).group), .int .u64 ((sE l 5).session), .int .u64 ((sE l 5).number), .string ((sE l 5).text)]) rfl Tryd.sizeOf33 rfl rfl rfl rfl rfl rfl ?_
                refine run_mv rfl ?_
                refine run_endops ?_
                refine run_ret rfl (v := .tuple #[.agg #[.int .i64 ((sE l 0).kind), .int .i64 ((sE l 0).service), .int .i64 ((sE l 0).group), .int .u64 ((sE l 0).session), .int .u64 ((sE l 0).number), .string ((sE l 0).text), .int .i64 ((sE l 1).kind), .int .i64 ((sE l 1).service), .int .i64 ((sE l 1).group), .int .u64 ((sE l 1).session), .int .u64 ((sE l 1).number), .string ((sE l 1).text), .int .i64 ((sE l 2).kind), .int .i64 ((sE l 2).service), .int .i64 ((sE l 2).group), .int .u64 ((sE l 2).session), .int .u64 ((sE l 2).number), .string ((sE l 2).text), .int .i64 ((sE l 3).kind), .int .i64 ((sE l 3).service), .int .i64 ((sE l 3).group), .int .u64 ((sE l 3).session), .int .u64 ((sE l 3).number), .string ((sE l 3).text), .int .i64 ((sE l 4).kind), .int .i64 ((sE l 4).service), .int .i64 ((sE l 4).group), .int .u64 ((sE l 4).session), .int .u64 ((sE l 4).number), .string ((sE l 4).text), .int .i64 ((sE l 5).kind), .int .i64 ((sE l 5).service), .int .i64 ((sE l 5).group), .int .u64 ((sE l 5).session), .int .u64 ((sE l 5).number), .string ((sE l 5).text)], .int .i64 0]) (res2 rfl ⟨_, rfl, rdv (rd_loadW (j := 8) Tryd.isAgg33 Tryd.sizeOf33 rfl rfl)⟩ rfl) ?_
                exact dec_good hl ⟨hb2p, hb3p, hb4p, hb5p, hb6p, hb7p⟩

end Go.Proofs.YthapghhmeicbnaaDoor
