/- Packets: laws of layer 5. Printed by wip/k/genS.py. -/
import Derived.Test.YthapghhmeicbnaaDoorKS0
set_option linter.unusedVariables false
set_option linter.unusedSimpArgs false
namespace Go.Proofs.YthapghhmeicbnaaDoor
open Go.RowKit
set_option maxRecDepth 20000

theorem packetEncodes_pf (p : Pkt) (hp : p.Fit) : Pf Tryd.prog 3 #[p.val] (.bool true) := by
  refine pf_of_run Tryd.func3 rfl rfl (fun w0 => ?_)
  refine run_seq rfl ?_
  refine run_region (todo := [0, 1]) rfl rfl ?_
  refine run_box rfl (fun g1 => ?_)
  refine run_mv rfl ?_
  refine run_endops ?_
  refine run_seq rfl ?_
  refine run_region (todo := [0, 1, 2, 3, 4, 5, 6]) rfl rfl ?_
  refine run_rd (v := .agg p.arr) rfl (rd_loadW (j := 0) Tryd.isAgg35 Tryd.sizeOf35 rfl (by kernel_rfl)) ?_
  refine run_pf0 (v := .tuple #[.string (bs p.enc), .int .i64 (pkCode p.may)]) rfl Tryd.call9 (pf_pencode p hp) ?_
  refine run_mv rfl ?_
  refine run_rd (v := .string (bs p.enc)) rfl (rd_extract rfl) ?_
  refine run_rd (v := .int .i64 (pkCode p.may)) rfl (rd_extract rfl) ?_
  refine run_mv rfl ?_
  refine run_mv rfl ?_
  refine run_endops ?_
  refine run_seq rfl ?_
  refine run_region (todo := [0, 1, 2, 3, 4, 5, 6]) rfl rfl ?_
  refine run_rd (v := .agg p.arr) rfl (rd_loadW (j := 0) Tryd.isAgg35 Tryd.sizeOf35 rfl (by kernel_rfl)) ?_
  refine run_pf0 (v := .tuple #[.string (bs p.enc), .int .i64 (pkCode p.may)]) rfl Tryd.call10 (pf_rpencode p hp) ?_
  refine run_mv rfl ?_
  refine run_rd (v := .string (bs p.enc)) rfl (rd_extract rfl) ?_
  refine run_rd (v := .int .i64 (pkCode p.may)) rfl (rd_extract rfl) ?_
  refine run_mv rfl ?_
  refine run_mv rfl ?_
  refine run_endops ?_
  refine run_seq rfl ?_
  refine run_draw (l := [0, 1, 2, 3, 4, 5, 6, 7, 8, 9, 10, 11, 12, 13, 14, 15, 16, 17, 18]) rfl rfl (by kernel_rfl) (by kernel_rfl) ?_
  refine q_pf0 (v := .bool true) rfl Tryd.call11 (pf_fixed) ?_
  refine q_mv rfl ?_
  refine q_mv rfl ?_
  refine q_mv rfl ?_
  refine q_val (v := .bool true) rfl (rd_same) ?_
  refine q_pick (v := .bool true) rfl rfl ?_
  refine q_mv rfl ?_
  refine q_mv rfl ?_
  refine q_mv rfl ?_
  refine q_val (v := .bool true) rfl (rd_cmp rfl (beq_self_eq_true _)) ?_
  refine q_pick (v := .bool true) rfl rfl ?_
  refine q_mv rfl ?_
  refine q_val (v := .agg p.arr) rfl (rd_loadW (j := 0) Tryd.isAgg35 Tryd.sizeOf35 rfl (by kernel_rfl)) ?_
  refine q_pf0 (v := .int .i64 (pkCode p.may)) rfl Tryd.call12 (pf_pcheck p hp) ?_
  refine q_val (v := .agg p.arr) rfl (rd_loadW (j := 0) Tryd.isAgg35 Tryd.sizeOf35 rfl (by kernel_rfl)) ?_
  refine q_pf0 (v := .int .i64 (pkCode p.may)) rfl Tryd.call13 (pf_rpcheck p hp) ?_
  refine q_val (v := .bool true) rfl (rd_cmp rfl (beq_self_eq_true _)) ?_
  refine q_pick (v := .bool true) rfl rfl ?_
  refine q_mv rfl ?_
  refine q_end ?_
  refine run_ret rfl (v := .bool true) (res1 rfl rfl) ?_
  rfl

theorem packetDecodes_pf (l : List UInt8) (hm : l.length ≤ 9223372036854775000) : Pf Tryd.prog 4 #[.string (bs l)] (.bool true) := by
  refine pf_of_run Tryd.func4 rfl rfl (fun w0 => ?_)
  refine run_seq rfl ?_
  refine run_region (todo := [0]) rfl rfl ?_
  refine run_mv rfl ?_
  refine run_endops ?_
  refine run_seq rfl ?_
  refine run_region (todo := [0, 1, 2, 3, 4, 5, 6, 7]) rfl rfl ?_
  refine run_mv rfl ?_
  refine run_pf0 (v := .tuple #[.agg ((outP l).arr), .int .i64 (outPC l)]) rfl Tryd.call14 (pf_pdecode l (by omega)) ?_
  refine run_mv rfl ?_
  refine run_rd (v := .agg ((outP l).arr)) rfl (rd_extract rfl) ?_
  refine run_rd (v := .int .i64 (outPC l)) rfl (rd_extract rfl) ?_
  refine run_alloc rfl Tryd.zeroValue35 (fun g1 => ?_)
  refine run_storeW (j := 0) (c' := (outP l).arr) rfl Tryd.sizeOf35 (by kernel_rfl) (by kernel_rfl) rfl (by kernel_rfl) rfl rfl ?_
  refine run_mv rfl ?_
  refine run_endops ?_
  refine run_seq rfl ?_
  refine run_region (todo := [0, 1, 2, 3, 4, 5, 6, 7]) rfl rfl ?_
  refine run_mv rfl ?_
  refine run_pf0 (v := .tuple #[.agg ((outP l).arr), .int .i64 (outPC l)]) rfl Tryd.call15 (pf_rpdecode l (by omega)) ?_
  refine run_mv rfl ?_
  refine run_rd (v := .agg ((outP l).arr)) rfl (rd_extract rfl) ?_
  refine run_rd (v := .int .i64 (outPC l)) rfl (rd_extract rfl) ?_
  refine run_alloc rfl Tryd.zeroValue35 (fun g2 => ?_)
  refine run_storeW (j := 0) (c' := (outP l).arr) rfl Tryd.sizeOf35 (by kernel_rfl) (by kernel_rfl) rfl (by kernel_rfl) rfl rfl ?_
  refine run_mv rfl ?_
  refine run_endops ?_
  refine run_seq rfl ?_
  refine run_region (todo := [0, 1, 2, 3, 4, 5, 6, 7, 8]) rfl rfl ?_
  refine run_mv rfl ?_
  refine run_pf0 (v := .string (bs (seal4 l))) rfl Tryd.call16 (pf_rSeal l (by omega)) ?_
  refine run_pf0 (v := .tuple #[.agg ((outP (seal4 l)).arr), .int .i64 (outPC (seal4 l))]) rfl Tryd.call14 (pf_pdecode (seal4 l) (by simp only [seal4, four, List.length_append, List.length_cons, List.length_nil]; omega)) ?_
  refine run_mv rfl ?_
  refine run_rd (v := .agg ((outP (seal4 l)).arr)) rfl (rd_extract rfl) ?_
  refine run_rd (v := .int .i64 (outPC (seal4 l))) rfl (rd_extract rfl) ?_
  refine run_alloc rfl Tryd.zeroValue35 (fun g3 => ?_)
  refine run_storeW (j := 0) (c' := (outP (seal4 l)).arr) rfl Tryd.sizeOf35 (by kernel_rfl) (by kernel_rfl) rfl (by kernel_rfl) rfl rfl ?_
  refine run_mv rfl ?_
  refine run_endops ?_
  refine run_seq rfl ?_
  refine run_region (todo := [0, 1, 2, 3, 4, 5, 6, 7, 8]) rfl rfl ?_
  refine run_mv rfl ?_
  refine run_pf0 (v := .string (bs (seal4 l))) rfl Tryd.call16 (pf_rSeal l (by omega)) ?_
  refine run_pf0 (v := .tuple #[.agg ((outP (seal4 l)).arr), .int .i64 (outPC (seal4 l))]) rfl Tryd.call15 (pf_rpdecode (seal4 l) (by simp only [seal4, four, List.length_append, List.length_cons, List.length_nil]; omega)) ?_
  refine run_mv rfl ?_
  refine run_rd (v := .agg ((outP (seal4 l)).arr)) rfl (rd_extract rfl) ?_
  refine run_rd (v := .int .i64 (outPC (seal4 l))) rfl (rd_extract rfl) ?_
  refine run_alloc rfl Tryd.zeroValue35 (fun g4 => ?_)
  refine run_storeW (j := 0) (c' := (outP (seal4 l)).arr) rfl Tryd.sizeOf35 (by kernel_rfl) (by kernel_rfl) rfl (by kernel_rfl) rfl rfl ?_
  refine run_mv rfl ?_
  refine run_endops ?_
  refine run_seq rfl ?_
  refine run_region (todo := [0, 1, 2, 3, 4, 5, 6, 7, 8, 9, 10, 11, 12, 13, 14, 15, 16, 17, 18, 19, 20, 21]) rfl rfl ?_
  refine run_pf0 (v := .bool true) rfl Tryd.call11 (pf_fixed) ?_
  refine run_mv rfl ?_
  refine run_rdG (v := .agg ((outP l).arr)) rfl (rd_loadW (j := 3) Tryd.isAgg35 Tryd.sizeOf35 rfl (by kernel_rfl)) ?_
  refine run_rdG (v := .agg ((outP l).arr)) rfl (rd_loadW (j := 2) Tryd.isAgg35 Tryd.sizeOf35 rfl (by kernel_rfl)) ?_
  refine run_rdG (v := .bool true) rfl (rd_pk_eqlD (outP_fit _) (outP_fit _) (decide_eq_true rfl)) ?_
  refine run_pick (v := .bool true) rfl rfl ?_
  refine run_mv rfl ?_
  refine run_mvG rfl ?_
  refine run_mvG rfl ?_
  refine run_rdG (v := .bool true) rfl (rd_cmp rfl (beq_self_eq_true _)) ?_
  refine run_pick (v := .bool true) rfl rfl ?_
  refine run_mv rfl ?_
  refine run_rdG (v := .agg ((outP (seal4 l)).arr)) rfl (rd_loadW (j := 1) Tryd.isAgg35 Tryd.sizeOf35 rfl (by kernel_rfl)) ?_
  refine run_rdG (v := .agg ((outP (seal4 l)).arr)) rfl (rd_loadW (j := 0) Tryd.isAgg35 Tryd.sizeOf35 rfl (by kernel_rfl)) ?_
  refine run_rdG (v := .bool true) rfl (rd_pk_eqlD (outP_fit _) (outP_fit _) (decide_eq_true rfl)) ?_
  refine run_pick (v := .bool true) rfl rfl ?_
  refine run_mv rfl ?_
  refine run_mvG rfl ?_
  refine run_mvG rfl ?_
  refine run_rdG (v := .bool true) rfl (rd_cmp rfl (beq_self_eq_true _)) ?_
  refine run_pick (v := .bool true) rfl rfl ?_
  refine run_mv rfl ?_
  refine run_endops ?_
  refine run_ret rfl (v := .bool true) (res1 rfl rfl) ?_
  rfl

theorem pk_of {b : Bool} (h : (pkCode b == 0) = true) : b = true := by cases b <;> simp_all [pkCode]
theorem packetBack_pf (p : Pkt) (hp : p.Fit) (l : List UInt8) (hm : l.length ≤ 9223372036854775000) : Pf Tryd.prog 5 #[p.val, .string (bs l)] (.bool true) := by
  refine pf_of_run Tryd.func5 rfl rfl (fun w0 => ?_)
  refine run_seq rfl ?_
  refine run_region (todo := [0, 1]) rfl rfl ?_
  refine run_box rfl (fun g1 => ?_)
  refine run_mv rfl ?_
  refine run_endops ?_
  refine run_seq rfl ?_
  refine run_region (todo := [0, 1, 2, 3, 4, 5, 6]) rfl rfl ?_
  refine run_rd (v := .agg p.arr) rfl (rd_loadW (j := 0) Tryd.isAgg35 Tryd.sizeOf35 rfl (by kernel_rfl)) ?_
  refine run_pf0 (v := .tuple #[.string (bs p.enc), .int .i64 (pkCode p.may)]) rfl Tryd.call9 (pf_pencode p hp) ?_
  refine run_mv rfl ?_
  refine run_rd (v := .string (bs p.enc)) rfl (rd_extract rfl) ?_
  refine run_rd (v := .int .i64 (pkCode p.may)) rfl (rd_extract rfl) ?_
  refine run_mv rfl ?_
  refine run_mv rfl ?_
  refine run_endops ?_
  refine run_seq rfl ?_
  refine run_region (todo := [0, 1, 2, 3, 4, 5, 6, 7]) rfl rfl ?_
  refine run_mv rfl ?_
  refine run_pf0 (v := .tuple #[.agg ((outP p.enc).arr), .int .i64 (outPC p.enc)]) rfl Tryd.call14 (pf_pdecode p.enc (Nat.le_trans (penc_le _) (by decide))) ?_
  refine run_mv rfl ?_
  refine run_rd (v := .agg ((outP p.enc).arr)) rfl (rd_extract rfl) ?_
  refine run_rd (v := .int .i64 (outPC p.enc)) rfl (rd_extract rfl) ?_
  refine run_alloc rfl Tryd.zeroValue35 (fun g2 => ?_)
  refine run_storeW (j := 0) (c' := (outP p.enc).arr) rfl Tryd.sizeOf35 (by kernel_rfl) (by kernel_rfl) rfl (by kernel_rfl) rfl rfl ?_
  refine run_mv rfl ?_
  refine run_endops ?_
  refine run_seq rfl ?_
  refine run_seq rfl ?_
  rcases Bool.eq_false_or_eq_true ((pkCode p.may) == 0) with hb1 | hb1
  · have qm : p.may = true := pk_of hb1
    have qd := outP_enc hp qm
    have e1 : ((outPC p.enc) != 0) = false := by rw [qd.1]; rfl
    have e2 : decide ((outP p.enc) ≠ p) = false := by rw [qd.2]; simp
    have e3 : (((p.enc.length : Nat) : Int) != 641) = false := by rw [penc_len qm]; rfl
    refine run_region (todo := [0, 1, 2, 3, 4, 5, 6, 7, 8, 9, 10, 11, 12, 13, 14, 15, 16, 17, 18, 19]) rfl rfl ?_
    refine run_pf0 (v := .bool true) rfl Tryd.call11 (pf_fixed) ?_
    refine run_rd (v := .bool false) rfl (rd_not) ?_
    refine run_mv rfl ?_
    refine run_mvG rfl ?_
    refine run_rdG (v := .bool true) rfl (rd_cmp rfl hb1) ?_
    refine run_mvG rfl ?_
    refine run_mvG rfl ?_
    refine run_rdG (v := .bool false) rfl (rd_cmp rfl e1) ?_
    refine run_mvG rfl ?_
    refine run_rdG (v := .agg ((outP p.enc).arr)) rfl (rd_loadW (j := 0) Tryd.isAgg35 Tryd.sizeOf35 rfl (by kernel_rfl)) ?_
    refine run_rdG (v := .agg p.arr) rfl (rd_loadW (j := 1) Tryd.isAgg35 Tryd.sizeOf35 rfl (by kernel_rfl)) ?_
    refine run_rdG (v := .bool false) rfl (rd_pk_neqD (outP_fit _) hp e2) ?_
    refine run_pick (v := .bool false) rfl rfl ?_
    refine run_mvG rfl ?_
    refine run_mvG rfl ?_
    refine run_rdG (v := .int .i64 ((p.enc.length : Nat) : Int)) rfl (rd_lenStr Tryd.underlying9 rfl) ?_
    refine run_rdG (v := .bool false) rfl (rd_cmp rfl e3) ?_
    refine run_pick (v := .bool false) rfl rfl ?_
    refine run_pick (v := .bool false) rfl rfl ?_
    refine run_pick (v := .bool false) rfl rfl ?_
    refine run_endops ?_
    refine run_false rfl rfl ?_
    refine run_skip rfl ?_
    refine run_seq rfl ?_
    refine run_region (todo := [0, 1, 2, 3, 4, 5, 6, 7]) rfl rfl ?_
    refine run_mv rfl ?_
    refine run_pf0 (v := .tuple #[.agg ((outP l).arr), .int .i64 (outPC l)]) rfl Tryd.call14 (pf_pdecode l (by omega)) ?_
    refine run_mv rfl ?_
    refine run_rd (v := .agg ((outP l).arr)) rfl (rd_extract rfl) ?_
    refine run_rd (v := .int .i64 (outPC l)) rfl (rd_extract rfl) ?_
    refine run_alloc rfl Tryd.zeroValue35 (fun g3 => ?_)
    refine run_storeW (j := 0) (c' := (outP l).arr) rfl Tryd.sizeOf35 (by kernel_rfl) (by kernel_rfl) rfl (by kernel_rfl) rfl rfl ?_
    refine run_mv rfl ?_
    refine run_endops ?_
    refine run_seq rfl ?_
    refine run_region (todo := [0, 1, 2, 3, 4, 5, 6]) rfl rfl ?_
    refine run_rd (v := .agg ((outP l).arr)) rfl (rd_loadW (j := 0) Tryd.isAgg35 Tryd.sizeOf35 rfl (by kernel_rfl)) ?_
    refine run_pf0 (v := .tuple #[.string (bs (outP l).enc), .int .i64 (pkCode (outP l).may)]) rfl Tryd.call9 (pf_pencode (outP l) (outP_fit _)) ?_
    refine run_mv rfl ?_
    refine run_rd (v := .string (bs (outP l).enc)) rfl (rd_extract rfl) ?_
    refine run_rd (v := .int .i64 (pkCode (outP l).may)) rfl (rd_extract rfl) ?_
    refine run_mv rfl ?_
    refine run_mv rfl ?_
    refine run_endops ?_
    refine run_seq rfl ?_
    rcases Bool.eq_false_or_eq_true ((outPC l) != 0) with hb2 | hb2
    · skip
      refine run_region (todo := [0, 1, 2, 3, 4, 5, 6, 7, 8, 9, 10, 11]) rfl rfl ?_
      refine run_mv rfl ?_
      refine run_rd (v := .bool true) rfl (rd_cmp rfl hb2) ?_
      refine run_mv rfl ?_
      refine run_skipped rfl ?_
      refine run_skipped rfl ?_
      refine run_skipped rfl ?_
      refine run_skipped rfl ?_
      refine run_skipped rfl ?_
      refine run_skipped rfl ?_
      refine run_skipped rfl ?_
      refine run_pick (v := .bool true) rfl rfl ?_
      refine run_mv rfl ?_
      refine run_endops ?_
      refine run_ret rfl (v := .bool true) (res1 rfl rfl) ?_
      rfl
    · obtain ⟨qm2, qb2⟩ := outP_back (eq_of_bne_f hb2)
      have e4 : ((pkCode (outP l).may) == 0) = true := by rw [qm2]; rfl
      have e5 : decide ((outP l).enc = l) = true := decide_eq_true (by unfold Pkt.enc; rw [if_pos qm2]; exact qb2)
      refine run_region (todo := [0, 1, 2, 3, 4, 5, 6, 7, 8, 9, 10, 11]) rfl rfl ?_
      refine run_mv rfl ?_
      refine run_rd (v := .bool false) rfl (rd_cmp rfl hb2) ?_
      refine run_mv rfl ?_
      refine run_mvG rfl ?_
      refine run_rdG (v := .bool true) rfl (rd_cmp rfl e4) ?_
      refine run_mvG rfl ?_
      refine run_mvG rfl ?_
      refine run_mvG rfl ?_
      refine run_rdG (v := .bool true) rfl (rd_bseqD e5) ?_
      refine run_pick (v := .bool true) rfl rfl ?_
      refine run_pick (v := .bool true) rfl rfl ?_
      refine run_mv rfl ?_
      refine run_endops ?_
      refine run_ret rfl (v := .bool true) (res1 rfl rfl) ?_
      rfl
  · skip
    refine run_region (todo := [0, 1, 2, 3, 4, 5, 6, 7, 8, 9, 10, 11, 12, 13, 14, 15, 16, 17, 18, 19]) rfl rfl ?_
    refine run_pf0 (v := .bool true) rfl Tryd.call11 (pf_fixed) ?_
    refine run_rd (v := .bool false) rfl (rd_not) ?_
    refine run_mv rfl ?_
    refine run_mvG rfl ?_
    refine run_rdG (v := .bool false) rfl (rd_cmp rfl hb1) ?_
    refine run_mvG rfl ?_
    refine run_skipped rfl ?_
    refine run_skipped rfl ?_
    refine run_skipped rfl ?_
    refine run_skipped rfl ?_
    refine run_skipped rfl ?_
    refine run_skipped rfl ?_
    refine run_skipped rfl ?_
    refine run_skipped rfl ?_
    refine run_skipped rfl ?_
    refine run_skipped rfl ?_
    refine run_skipped rfl ?_
    refine run_skipped rfl ?_
    refine run_pick (v := .bool false) rfl rfl ?_
    refine run_pick (v := .bool false) rfl rfl ?_
    refine run_endops ?_
    refine run_false rfl rfl ?_
    refine run_skip rfl ?_
    refine run_seq rfl ?_
    refine run_region (todo := [0, 1, 2, 3, 4, 5, 6, 7]) rfl rfl ?_
    refine run_mv rfl ?_
    refine run_pf0 (v := .tuple #[.agg ((outP l).arr), .int .i64 (outPC l)]) rfl Tryd.call14 (pf_pdecode l (by omega)) ?_
    refine run_mv rfl ?_
    refine run_rd (v := .agg ((outP l).arr)) rfl (rd_extract rfl) ?_
    refine run_rd (v := .int .i64 (outPC l)) rfl (rd_extract rfl) ?_
    refine run_alloc rfl Tryd.zeroValue35 (fun g4 => ?_)
    refine run_storeW (j := 0) (c' := (outP l).arr) rfl Tryd.sizeOf35 (by kernel_rfl) (by kernel_rfl) rfl (by kernel_rfl) rfl rfl ?_
    refine run_mv rfl ?_
    refine run_endops ?_
    refine run_seq rfl ?_
    refine run_region (todo := [0, 1, 2, 3, 4, 5, 6]) rfl rfl ?_
    refine run_rd (v := .agg ((outP l).arr)) rfl (rd_loadW (j := 0) Tryd.isAgg35 Tryd.sizeOf35 rfl (by kernel_rfl)) ?_
    refine run_pf0 (v := .tuple #[.string (bs (outP l).enc), .int .i64 (pkCode (outP l).may)]) rfl Tryd.call9 (pf_pencode (outP l) (outP_fit _)) ?_
    refine run_mv rfl ?_
    refine run_rd (v := .string (bs (outP l).enc)) rfl (rd_extract rfl) ?_
    refine run_rd (v := .int .i64 (pkCode (outP l).may)) rfl (rd_extract rfl) ?_
    refine run_mv rfl ?_
    refine run_mv rfl ?_
    refine run_endops ?_
    refine run_seq rfl ?_
    rcases Bool.eq_false_or_eq_true ((outPC l) != 0) with hb3 | hb3
    · skip
      refine run_region (todo := [0, 1, 2, 3, 4, 5, 6, 7, 8, 9, 10, 11]) rfl rfl ?_
      refine run_mv rfl ?_
      refine run_rd (v := .bool true) rfl (rd_cmp rfl hb3) ?_
      refine run_mv rfl ?_
      refine run_skipped rfl ?_
      refine run_skipped rfl ?_
      refine run_skipped rfl ?_
      refine run_skipped rfl ?_
      refine run_skipped rfl ?_
      refine run_skipped rfl ?_
      refine run_skipped rfl ?_
      refine run_pick (v := .bool true) rfl rfl ?_
      refine run_mv rfl ?_
      refine run_endops ?_
      refine run_ret rfl (v := .bool true) (res1 rfl rfl) ?_
      rfl
    · obtain ⟨qm2, qb2⟩ := outP_back (eq_of_bne_f hb3)
      have e4 : ((pkCode (outP l).may) == 0) = true := by rw [qm2]; rfl
      have e5 : decide ((outP l).enc = l) = true := decide_eq_true (by unfold Pkt.enc; rw [if_pos qm2]; exact qb2)
      refine run_region (todo := [0, 1, 2, 3, 4, 5, 6, 7, 8, 9, 10, 11]) rfl rfl ?_
      refine run_mv rfl ?_
      refine run_rd (v := .bool false) rfl (rd_cmp rfl hb3) ?_
      refine run_mv rfl ?_
      refine run_mvG rfl ?_
      refine run_rdG (v := .bool true) rfl (rd_cmp rfl e4) ?_
      refine run_mvG rfl ?_
      refine run_mvG rfl ?_
      refine run_mvG rfl ?_
      refine run_rdG (v := .bool true) rfl (rd_bseqD e5) ?_
      refine run_pick (v := .bool true) rfl rfl ?_
      refine run_pick (v := .bool true) rfl rfl ?_
      refine run_mv rfl ?_
      refine run_endops ?_
      refine run_ret rfl (v := .bool true) (res1 rfl rfl) ?_
      rfl

theorem packetTurned_pf (p : Pkt) (hp : p.Fit) (a : Int) (m : Nat) (hm32 : m < 4294967296) : Pf Tryd.prog 6 #[p.val, .int .i64 a, .int .u32 ((m : Nat) : Int)] (.bool true) := by
  refine pf_of_run Tryd.func6 rfl rfl (fun w0 => ?_)
  refine run_seq rfl ?_
  refine run_region (todo := [0, 1]) rfl rfl ?_
  refine run_box rfl (fun g1 => ?_)
  refine run_mv rfl ?_
  refine run_endops ?_
  refine run_seq rfl ?_
  refine run_region (todo := [0, 1, 2, 3, 4, 5, 6]) rfl rfl ?_
  refine run_rd (v := .agg p.arr) rfl (rd_loadW (j := 0) Tryd.isAgg35 Tryd.sizeOf35 rfl (by kernel_rfl)) ?_
  refine run_pf0 (v := .tuple #[.string (bs p.enc), .int .i64 (pkCode p.may)]) rfl Tryd.call9 (pf_pencode p hp) ?_
  refine run_mv rfl ?_
  refine run_rd (v := .string (bs p.enc)) rfl (rd_extract rfl) ?_
  refine run_rd (v := .int .i64 (pkCode p.may)) rfl (rd_extract rfl) ?_
  refine run_mv rfl ?_
  refine run_mv rfl ?_
  refine run_endops ?_
  refine run_seq rfl ?_
  refine run_seq rfl ?_
  refine run_region (todo := [0, 1, 2, 3, 4, 5]) rfl rfl ?_
  refine run_pf0 (v := .bool true) rfl Tryd.call11 (pf_fixed) ?_
  refine run_rd (v := .bool false) rfl (rd_not) ?_
  refine run_mv rfl ?_
  refine run_mvG rfl ?_
  refine run_rdG (v := .bool ((pkCode p.may) != 0)) rfl (rd_cmp rfl rfl) ?_
  refine run_pick (v := .bool ((pkCode p.may) != 0)) rfl rfl ?_
  refine run_endops ?_
  refine run_if rfl rfl (fun hb1 => ?_) (fun hb1 => ?_)
  · skip
    refine run_seq rfl ?_
    refine run_region (todo := [0, 1]) rfl rfl ?_
    refine run_pf0 (v := .bool true) rfl Tryd.call11 (pf_fixed) ?_
    refine run_mv rfl ?_
    refine run_endops ?_
    refine run_ret rfl (v := .bool true) (res1 rfl rfl) ?_
    rfl
  · have qm : p.may = true := pk_good hb1
    refine run_skip rfl ?_
    refine run_seq rfl ?_
    refine run_region (todo := [0, 1, 2, 3, 4]) rfl rfl ?_
    refine run_mv rfl ?_
    refine run_mv rfl ?_
    refine run_mv rfl ?_
    refine run_pf0 (v := .string (bs (turnTo p.enc a (four m) 4))) rfl Tryd.call17 (pf_turn p.enc a m hm32 (Nat.le_trans (penc_le _) (by decide))) ?_
    refine run_mv rfl ?_
    refine run_endops ?_
    refine run_seq rfl ?_
    refine run_region (todo := [0, 1, 2, 3, 4, 5, 6, 7]) rfl rfl ?_
    refine run_mv rfl ?_
    refine run_pf0 (v := .tuple #[.agg ((outP (turnTo p.enc a (four m) 4)).arr), .int .i64 (outPC (turnTo p.enc a (four m) 4))]) rfl Tryd.call14 (pf_pdecode (turnTo p.enc a (four m) 4) (by rw [turnTo_length]; exact Nat.le_trans (penc_le _) (by decide))) ?_
    refine run_mv rfl ?_
    refine run_rd (v := .agg ((outP (turnTo p.enc a (four m) 4)).arr)) rfl (rd_extract rfl) ?_
    refine run_rd (v := .int .i64 (outPC (turnTo p.enc a (four m) 4))) rfl (rd_extract rfl) ?_
    refine run_alloc rfl Tryd.zeroValue35 (fun g2 => ?_)
    refine run_storeW (j := 0) (c' := (outP (turnTo p.enc a (four m) 4)).arr) rfl Tryd.sizeOf35 (by kernel_rfl) (by kernel_rfl) rfl (by kernel_rfl) rfl rfl ?_
    refine run_mv rfl ?_
    refine run_endops ?_
    refine run_seq rfl ?_
    refine run_seq rfl ?_
    refine run_region (todo := [0, 1, 2]) rfl rfl ?_
    refine run_mv rfl ?_
    refine run_mv rfl ?_
    refine run_rd (v := .bool (decide ((turnTo p.enc a (four m) 4) = p.enc))) rfl (rd_bseq) ?_
    refine run_endops ?_
    refine run_if rfl rfl (fun hb2 => ?_) (fun hb2 => ?_)
    · have qe : (turnTo p.enc a (four m) 4) = p.enc := of_decide_eq_true hb2
      have qd := outP_enc hp qm
      have e1 : ((outPC (turnTo p.enc a (four m) 4)) == 0) = true := by rw [qe, qd.1]; rfl
      have e2 : decide ((outP (turnTo p.enc a (four m) 4)) = p) = true := decide_eq_true (by rw [qe, qd.2])
      refine run_seq rfl ?_
      refine run_region (todo := [0, 1, 2, 3, 4, 5, 6, 7]) rfl rfl ?_
      refine run_mv rfl ?_
      refine run_rd (v := .bool true) rfl (rd_cmp rfl e1) ?_
      refine run_mv rfl ?_
      refine run_rdG (v := .agg ((outP (turnTo p.enc a (four m) 4)).arr)) rfl (rd_loadW (j := 0) Tryd.isAgg35 Tryd.sizeOf35 rfl (by kernel_rfl)) ?_
      refine run_rdG (v := .agg p.arr) rfl (rd_loadW (j := 1) Tryd.isAgg35 Tryd.sizeOf35 rfl (by kernel_rfl)) ?_
      refine run_rdG (v := .bool true) rfl (rd_pk_eqlD (outP_fit _) hp e2) ?_
      refine run_pick (v := .bool true) rfl rfl ?_
      refine run_mv rfl ?_
      refine run_endops ?_
      refine run_ret rfl (v := .bool true) (res1 rfl rfl) ?_
      rfl
    · have qt := turned hp qm a m (of_decide_eq_false hb2)
      have e1 : ((outPC (turnTo p.enc a (four m) 4)) == 51) = true := by rw [qt.1]; rfl
      have e2 : decide ((outP (turnTo p.enc a (four m) 4)) = Pkt.zero) = true := decide_eq_true qt.2
      refine run_skip rfl ?_
      refine run_seq rfl ?_
      refine run_region (todo := [0, 1, 2, 3, 4, 5, 6, 7]) rfl rfl ?_
      refine run_mv rfl ?_
      refine run_rd (v := .bool true) rfl (rd_cmp rfl e1) ?_
      refine run_mv rfl ?_
      refine run_rdG (v := .agg ((outP (turnTo p.enc a (four m) 4)).arr)) rfl (rd_loadW (j := 0) Tryd.isAgg35 Tryd.sizeOf35 rfl (by kernel_rfl)) ?_
      refine run_rdG (v := .agg Pkt.zero.arr) rfl ((fun w _ => by kernel_rfl)) ?_
      refine run_rdG (v := .bool true) rfl (rd_pk_eqlD (outP_fit _) Pkt.zero_fit e2) ?_
      refine run_pick (v := .bool true) rfl rfl ?_
      refine run_mv rfl ?_
      refine run_endops ?_
      refine run_ret rfl (v := .bool true) (res1 rfl rfl) ?_
      rfl

theorem str_mx5 {s : ByteArray} (h : s.size ≤ reachBytes) : s.data.toList.length ≤ 9223372036854775000 := by rw [data_len]; exact Nat.le_trans h (by decide)
theorem packetDecodes_walk (s : ByteArray) (hs : s.data.toList.length ≤ 9223372036854775000) : Pf Tryd.prog 4 #[.string s] (.bool true) := by
  have h := packetDecodes_pf s.data.toList hs
  rwa [bs_data] at h
theorem packetBack_walk (p : Pkt) (hp : p.Fit) (s : ByteArray) (hs : s.data.toList.length ≤ 9223372036854775000) : Pf Tryd.prog 5 #[p.val, .string s] (.bool true) := by
  have h := packetBack_pf p hp s.data.toList hs
  rwa [bs_data] at h
end Go.Proofs.YthapghhmeicbnaaDoor
