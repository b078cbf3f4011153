/- Frames: FrameLoads, lane 2. Printed by wip/k/genF.py. -/
import Derived.Test.YtadjnbjeaeoobaaDoorKI1
set_option linter.unusedVariables false
set_option linter.unusedSimpArgs false
namespace Go.Proofs.YtadjnbjeaeoobaaDoor
open Go.RowKit

theorem frameLoads_2_0 (f : Fr) (hf : f.Ok) (A : Option Addr) (c : Nat) (w0 : World) (hA : Cells w0 A (encE.row ([] : List Ent))) : Fn Tryd.prog 6 #[f.val, .int .i64 2, .slice A (([] : List Ent).length) c] w0 (fun v _ => v = .bool true) := by
  have dl0 : decide ((0 : Int) < ((([] : List Ent).length : Nat) : Int)) = false := decide_eq_false (by simp)
  have dl1 : decide ((1 : Int) < ((([] : List Ent).length : Nat) : Int)) = false := decide_eq_false (by simp)
  have dl2 : decide ((2 : Int) < ((([] : List Ent).length : Nat) : Int)) = false := decide_eq_false (by simp)
  refine fn_of_run Tryd.func6 rfl rfl ?_
  refine run_seq rfl ?_
  refine run_region (todo := [0, 1]) rfl rfl ?_
  refine run_box rfl (fun g1 => ?_)
  refine run_mv rfl ?_
  refine run_endops ?_
  refine run_seq rfl ?_
  refine run_region (todo := [0, 1, 2, 3, 4, 5]) rfl rfl ?_
  refine run_rd (v := .agg f.arr) rfl (rd_loadW (j := 0) Tryd.isAgg27 Tryd.sizeOf27 rfl rfl) ?_
  refine run_mv rfl ?_
  refine run_mv rfl ?_
  refine run_pfw (v := .agg ((Fr.mk f.a0 f.a1 f.b0 f.b1 Ent.zero Ent.zero).arr)) rfl Tryd.call12 (fun w hw => with_any f 2 ([] : List Ent) A c w ((know_old hA) w hw)) ?_
  refine run_alloc rfl Tryd.zeroValue27 (fun g2 => ?_)
  refine run_storeW (j := 0) (c' := (Fr.mk f.a0 f.a1 f.b0 f.b1 Ent.zero Ent.zero).arr) rfl Tryd.sizeOf27 rfl rfl rfl rfl rfl rfl ?_
  refine run_endops ?_
  refine run_seq rfl ?_
  refine run_seq rfl ?_
  refine run_region (todo := [0, 1, 2, 3, 4, 5, 6, 7, 8, 9]) rfl rfl ?_
  refine run_pf0 (v := .bool true) rfl Tryd.call8 (pf_fixed) ?_
  refine run_rd (v := .bool false) rfl (rd_not) ?_
  refine run_mv rfl ?_
  refine run_mvG rfl ?_
  refine run_rdG (v := .bool false) rfl (rd_cmp rfl rfl) ?_
  refine run_pick (v := .bool false) rfl rfl ?_
  refine run_mv rfl ?_
  refine run_mvG rfl ?_
  refine run_rdG (v := .bool false) rfl (rd_cmp rfl rfl) ?_
  refine run_pick (v := .bool false) rfl rfl ?_
  refine run_endops ?_
  refine run_false rfl rfl ?_
  refine run_skip rfl ?_
  refine run_seq rfl ?_
  refine run_region (todo := [0, 1]) rfl rfl ?_
  refine run_lit0 rfl Tryd.underlying28 Tryd.sizeOf24 (fun g3 => ?_)
  refine run_mv rfl ?_
  refine run_endops ?_
  refine run_seq rfl ?_
  refine run_seq rfl ?_
  refine run_region (todo := [0]) rfl rfl ?_
  refine run_mv rfl ?_
  refine run_endops ?_
  refine run_block rfl ?_
  refine run_loop rfl ?_
  refine run_again ?_
  refine run_seq rfl ?_
  refine run_seq rfl ?_
  refine run_region (todo := [0, 1, 2, 3, 4, 5, 6, 7]) rfl rfl ?_
  refine run_mv rfl ?_
  refine run_mv rfl ?_
  refine run_rd (v := .int .i64 ((([] : List Ent).length : Nat) : Int)) rfl (rd_len Tryd.underlying28) ?_
  refine run_rd (v := .bool false) rfl (rd_cmp rfl dl0) ?_
  refine run_mv rfl ?_
  refine run_skipped rfl ?_
  refine run_skipped rfl ?_
  refine run_pick (v := .bool false) rfl rfl ?_
  refine run_endops ?_
  refine run_false rfl rfl ?_
  refine run_exit rfl rfl ?_
  refine run_seq rfl ?_
  refine run_seq rfl ?_
  refine run_region (todo := [0]) rfl rfl ?_
  refine run_mv rfl ?_
  refine run_endops ?_
  refine run_block rfl ?_
  refine run_loop rfl ?_
  refine run_again ?_
  refine run_seq rfl ?_
  refine run_seq rfl ?_
  refine run_region (todo := [0, 1]) rfl rfl ?_
  refine run_mv rfl ?_
  refine run_rd (v := .bool true) rfl (rd_cmp rfl rfl) ?_
  refine run_endops ?_
  refine run_true rfl rfl ?_
  refine run_skip rfl ?_
  refine run_seq rfl ?_
  refine run_block rfl ?_
  refine run_seq rfl ?_
  refine run_draw (l := [0, 1, 2, 3, 4, 5, 6, 7, 8, 9, 10, 11]) rfl rfl (by kernel_rfl) (by kernel_rfl) ?_
  refine q_mv rfl ?_
  refine q_mv rfl ?_
  refine q_val (v := .bool true) rfl (rd_cmp rfl rfl) ?_
  refine q_mv rfl ?_
  refine q_mv rfl ?_
  refine q_val (v := .pointer (some ⟨g2, 0, none⟩)) rfl (rd_indexAddrA (m := 0) (o := 0) Tryd.underlying27 rfl (by decide) Tryd.sizeOf25 rfl) ?_
  refine q_val (v := .agg #[.int .i64 f.a0.kind, .int .i64 f.a0.service, .int .i64 f.a0.group, .int .u64 f.a0.session, .int .u64 f.a0.number, .string f.a0.text, .int .i64 f.a1.kind, .int .i64 f.a1.service, .int .i64 f.a1.group, .int .u64 f.a1.session, .int .u64 f.a1.number, .string f.a1.text]) rfl (rd_loadA (j := 1) (u := #[.int .i64 f.a0.kind, .int .i64 f.a0.service, .int .i64 f.a0.group, .int .u64 f.a0.session, .int .u64 f.a0.number, .string f.a0.text, .int .i64 f.a1.kind, .int .i64 f.a1.service, .int .i64 f.a1.group, .int .u64 f.a1.session, .int .u64 f.a1.number, .string f.a1.text]) Tryd.isAgg25 Tryd.sizeOf25 rfl rfl (by kernel_rfl)) ?_
  refine q_mv rfl ?_
  refine q_val (v := .pointer (some ⟨g1, 0, none⟩)) rfl (rd_indexAddrA (m := 0) (o := 0) Tryd.underlying27 rfl (by decide) Tryd.sizeOf25 rfl) ?_
  refine q_val (v := .agg #[.int .i64 f.a0.kind, .int .i64 f.a0.service, .int .i64 f.a0.group, .int .u64 f.a0.session, .int .u64 f.a0.number, .string f.a0.text, .int .i64 f.a1.kind, .int .i64 f.a1.service, .int .i64 f.a1.group, .int .u64 f.a1.session, .int .u64 f.a1.number, .string f.a1.text]) rfl (rd_loadA (j := 2) (u := #[.int .i64 f.a0.kind, .int .i64 f.a0.service, .int .i64 f.a0.group, .int .u64 f.a0.session, .int .u64 f.a0.number, .string f.a0.text, .int .i64 f.a1.kind, .int .i64 f.a1.service, .int .i64 f.a1.group, .int .u64 f.a1.session, .int .u64 f.a1.number, .string f.a1.text]) Tryd.isAgg25 Tryd.sizeOf25 rfl rfl (by kernel_rfl)) ?_
  refine q_val (v := .bool false) rfl (rd_two_ne hf.a0 hf.a1) ?_
  refine q_pick (v := .bool false) rfl rfl ?_
  refine q_end ?_
  refine run_false rfl rfl ?_
  refine run_skip rfl ?_
  refine run_endblock ?_
  refine run_region (todo := [0, 1, 2]) rfl rfl ?_
  refine run_mv rfl ?_
  refine run_rd (v := .int .i64 1) rfl (rd_add (r := 1) (by decide)) ?_
  refine run_mv rfl ?_
  refine run_endops ?_
  refine run_again ?_
  refine run_seq rfl ?_
  refine run_seq rfl ?_
  refine run_region (todo := [0, 1]) rfl rfl ?_
  refine run_mv rfl ?_
  refine run_rd (v := .bool true) rfl (rd_cmp rfl rfl) ?_
  refine run_endops ?_
  refine run_true rfl rfl ?_
  refine run_skip rfl ?_
  refine run_seq rfl ?_
  refine run_block rfl ?_
  refine run_seq rfl ?_
  refine run_draw (l := [0, 1, 2, 3, 4, 5, 6, 7, 8, 9, 10, 11]) rfl rfl (by kernel_rfl) (by kernel_rfl) ?_
  refine q_mv rfl ?_
  refine q_mv rfl ?_
  refine q_val (v := .bool true) rfl (rd_cmp rfl rfl) ?_
  refine q_mv rfl ?_
  refine q_mv rfl ?_
  refine q_val (v := .pointer (some ⟨g2, 12, none⟩)) rfl (rd_indexAddrA (m := 1) (o := 12) Tryd.underlying27 rfl (by decide) Tryd.sizeOf25 rfl) ?_
  refine q_val (v := .agg #[.int .i64 f.b0.kind, .int .i64 f.b0.service, .int .i64 f.b0.group, .int .u64 f.b0.session, .int .u64 f.b0.number, .string f.b0.text, .int .i64 f.b1.kind, .int .i64 f.b1.service, .int .i64 f.b1.group, .int .u64 f.b1.session, .int .u64 f.b1.number, .string f.b1.text]) rfl (rd_loadA (j := 1) (u := #[.int .i64 f.b0.kind, .int .i64 f.b0.service, .int .i64 f.b0.group, .int .u64 f.b0.session, .int .u64 f.b0.number, .string f.b0.text, .int .i64 f.b1.kind, .int .i64 f.b1.service, .int .i64 f.b1.group, .int .u64 f.b1.session, .int .u64 f.b1.number, .string f.b1.text]) Tryd.isAgg25 Tryd.sizeOf25 rfl rfl (by kernel_rfl)) ?_
  refine q_mv rfl ?_
  refine q_val (v := .pointer (some ⟨g1, 12, none⟩)) rfl (rd_indexAddrA (m := 1) (o := 12) Tryd.underlying27 rfl (by decide) Tryd.sizeOf25 rfl) ?_
  refine q_val (v := .agg #[.int .i64 f.b0.kind, .int .i64 f.b0.service, .int .i64 f.b0.group, .int .u64 f.b0.session, .int .u64 f.b0.number, .string f.b0.text, .int .i64 f.b1.kind, .int .i64 f.b1.service, .int .i64 f.b1.group, .int .u64 f.b1.session, .int .u64 f.b1.number, .string f.b1.text]) rfl (rd_loadA (j := 2) (u := #[.int .i64 f.b0.kind, .int .i64 f.b0.service, .int .i64 f.b0.group, .int .u64 f.b0.session, .int .u64 f.b0.number, .string f.b0.text, .int .i64 f.b1.kind, .int .i64 f.b1.service, .int .i64 f.b1.group, .int .u64 f.b1.session, .int .u64 f.b1.number, .string f.b1.text]) Tryd.isAgg25 Tryd.sizeOf25 rfl rfl (by kernel_rfl)) ?_
  refine q_val (v := .bool false) rfl (rd_two_ne hf.b0 hf.b1) ?_
  refine q_pick (v := .bool false) rfl rfl ?_
  refine q_end ?_
  refine run_false rfl rfl ?_
  refine run_skip rfl ?_
  refine run_endblock ?_
  refine run_region (todo := [0, 1, 2]) rfl rfl ?_
  refine run_mv rfl ?_
  refine run_rd (v := .int .i64 2) rfl (rd_add (r := 2) (by decide)) ?_
  refine run_mv rfl ?_
  refine run_endops ?_
  refine run_again ?_
  refine run_seq rfl ?_
  refine run_seq rfl ?_
  refine run_region (todo := [0, 1]) rfl rfl ?_
  refine run_mv rfl ?_
  refine run_rd (v := .bool true) rfl (rd_cmp rfl rfl) ?_
  refine run_endops ?_
  refine run_true rfl rfl ?_
  refine run_skip rfl ?_
  refine run_seq rfl ?_
  refine run_block rfl ?_
  refine run_seq rfl ?_
  refine run_draw (l := [0, 1, 2, 3, 4, 5, 6, 7, 8, 9, 10, 11]) rfl rfl (by kernel_rfl) (by kernel_rfl) ?_
  refine q_mv rfl ?_
  refine q_mv rfl ?_
  refine q_val (v := .bool false) rfl (rd_cmp rfl rfl) ?_
  refine q_mv rfl ?_
  refine q_skip rfl ?_
  refine q_skip rfl ?_
  refine q_skip rfl ?_
  refine q_skip rfl ?_
  refine q_skip rfl ?_
  refine q_skip rfl ?_
  refine q_skip rfl ?_
  refine q_pick (v := .bool false) rfl rfl ?_
  refine q_end ?_
  refine run_false rfl rfl ?_
  refine run_skip rfl ?_
  refine run_endblock ?_
  refine run_region (todo := [0, 1, 2]) rfl rfl ?_
  refine run_mv rfl ?_
  refine run_rd (v := .int .i64 3) rfl (rd_add (r := 3) (by decide)) ?_
  refine run_mv rfl ?_
  refine run_endops ?_
  refine run_again ?_
  refine run_seq rfl ?_
  refine run_seq rfl ?_
  refine run_region (todo := [0, 1]) rfl rfl ?_
  refine run_mv rfl ?_
  refine run_rd (v := .bool false) rfl (rd_cmp rfl rfl) ?_
  refine run_endops ?_
  refine run_false rfl rfl ?_
  refine run_exit rfl rfl ?_
  refine run_seq rfl ?_
  refine run_par' rfl (by kernel_rfl) (.val [] (fun _ => .agg ((Fr.mk f.a0 f.a1 f.b0 f.b1 Ent.zero Ent.zero).arr)) :: .val [] (fun _ => .int .i64 2) :: .rel [] (fun _ v h => ∃ Ag4 cg4, v = .slice Ag4 (((Fr.mk f.a0 f.a1 f.b0 f.b1 Ent.zero Ent.zero).lane 2).length) cg4 ∧ h = [.row Ag4 cg4 24 6 (((Fr.mk f.a0 f.a1 f.b0 f.b1 Ent.zero Ent.zero).lane 2).length) (encE.row ((Fr.mk f.a0 f.a1 f.b0 f.b1 Ent.zero Ent.zero).lane 2))]) :: .val [] (fun _ => .slice (some ⟨g3, 0, none⟩) 0 0) :: .val [] (fun _ => .bool true) :: .val [] (fun _ => .bool true) :: .val [] (fun _ => .agg ((Fr.mk f.a0 f.a1 f.b0 f.b1 Ent.zero Ent.zero).arr)) :: .val [] (fun _ => .int .i64 2) :: .val [] (fun _ => .slice A (([] : List Ent).length) c) :: .val [] (fun _ => .agg ((Fr.mk f.a0 f.a1 f.b0 f.b1 Ent.zero Ent.zero).arr)) :: .val [] (fun _ => .agg ((Fr.mk f.a0 f.a1 f.b0 f.b1 Ent.zero Ent.zero).arr)) :: .val [] (fun _ => .bool true) :: .val [] (fun _ => .bool true) :: .val [] (fun _ => .bool true) :: []) (⟨[], [], []⟩ :: ⟨[], [], []⟩ :: ⟨[0, 1], [], []⟩ :: ⟨[], [], []⟩ :: ⟨[2, 3], [2], []⟩ :: ⟨[4], [], []⟩ :: ⟨[5], [], []⟩ :: ⟨[5], [], []⟩ :: ⟨[5], [], []⟩ :: ⟨[5, 6, 7, 8], [], []⟩ :: ⟨[5], [], []⟩ :: ⟨[5, 9, 10], [], []⟩ :: ⟨[5, 11], [], []⟩ :: ⟨[12], [], []⟩ :: []) [(1, .int .i64 2), (2, .slice A (([] : List Ent).length) c), (7, .pointer (some ⟨g2, 0, none⟩)), (8, .slice (some ⟨g3, 0, none⟩) 0 0)] (by kernel_rfl) (by kernel_rfl) ⟨rfl, rfl, rfl, rfl, trivial⟩ ⟨trivial, trivial, trivial, trivial, trivial, trivial, trivial, trivial, trivial, trivial, trivial, trivial, trivial, trivial, trivial⟩ ?_ (fun V hs hq => ?_)
  · refine ⟨fun V hs hB => ob_rd rfl rfl (rd_loadW (j := 1) Tryd.isAgg27 Tryd.sizeOf27 rfl rfl), ?_⟩
    refine ⟨fun V hs hB => ob_mv rfl rfl, ?_⟩
    refine ⟨fun V hs hB => ob_call rfl rfl Tryd.call10 (fun w hw => lane_any (Fr.mk f.a0 f.a1 f.b0 f.b1 Ent.zero Ent.zero) (⟨hf.a0, hf.a1, hf.b0, hf.b1, zero_ok', zero_ok'⟩ : (Fr.mk f.a0 f.a1 f.b0 f.b1 Ent.zero Ent.zero).Ok) 2 w), ?_⟩
    refine ⟨fun V hs hB => ob_mv rfl rfl, ?_⟩
    refine ⟨fun V hs hB => ?_, ?_⟩
    · obtain ⟨Ag4, cg4, hV2, hh2⟩ := hB 2 (by simp)
      refine ob_set (j := 2) hV2 hh2 ?_
      exact ob_pf rfl rfl Tryd.call9 (fun w hw => by have h := fn_entries ((Fr.mk f.a0 f.a1 f.b0 f.b1 Ent.zero Ent.zero).lane 2) ([] : List Ent) Ag4 (some ⟨g3, 0, none⟩) cg4 0 w ((know_row (j := 0) rfl) w hw) ((know_row (j := 1) rfl) w hw) (lane_ok (⟨hf.a0, hf.a1, hf.b0, hf.b1, zero_ok', zero_ok'⟩ : (Fr.mk f.a0 f.a1 f.b0 f.b1 Ent.zero Ent.zero).Ok) _) (by intro e he; cases he) (Nat.le_trans (lane_le _ _) (by decide)); rw [decide_eq_true (by simp [Fr.lane, Fr.two])] at h; exact h)
    refine ⟨fun V hs hB => ob_mv rfl rfl, ?_⟩
    refine ⟨fun V hs hB => ob_rd rfl rfl (rd_loadW (j := 1) Tryd.isAgg27 Tryd.sizeOf27 rfl rfl), ?_⟩
    refine ⟨fun V hs hB => ob_mv rfl rfl, ?_⟩
    refine ⟨fun V hs hB => ob_mv rfl rfl, ?_⟩
    refine ⟨fun V hs hB => ob_pf rfl rfl Tryd.call12 (fun w hw => with_any (Fr.mk f.a0 f.a1 f.b0 f.b1 Ent.zero Ent.zero) 2 ([] : List Ent) A c w ((know_old hA) w hw)), ?_⟩
    refine ⟨fun V hs hB => ob_rd rfl rfl (rd_loadW (j := 1) Tryd.isAgg27 Tryd.sizeOf27 rfl rfl), ?_⟩
    refine ⟨fun V hs hB => ob_rd rfl rfl (rd_fr_eqlD (⟨hf.a0, hf.a1, hf.b0, hf.b1, zero_ok', zero_ok'⟩ : (Fr.mk f.a0 f.a1 f.b0 f.b1 Ent.zero Ent.zero).Ok) (⟨hf.a0, hf.a1, hf.b0, hf.b1, zero_ok', zero_ok'⟩ : (Fr.mk f.a0 f.a1 f.b0 f.b1 Ent.zero Ent.zero).Ok) (decide_eq_true rfl)), ?_⟩
    refine ⟨fun V hs hB => ob_pick rfl rfl rfl, ?_⟩
    refine ⟨fun V hs hB => ob_mv rfl rfl, ?_⟩
    trivial
  obtain ⟨Ag4, cg4, hV2, hh2⟩ := hq 2 (of_decide_eq_true (by kernel_rfl))
  rw [show relsOf _ = [2] from by kernel_rfl]
  simp only [List.flatMap_cons, List.flatMap_nil, List.append_nil, hh2]
  refine any_end (by kernel_rfl) ?_
  refine run_less (ρ' := [(6, .bool true)]) (H' := [.row Ag4 cg4 24 6 (((Fr.mk f.a0 f.a1 f.b0 f.b1 Ent.zero Ent.zero).lane 2).length) (encE.row ((Fr.mk f.a0 f.a1 f.b0 f.b1 Ent.zero Ent.zero).lane 2)), .row (some ⟨g3, 0, none⟩) 0 24 6 0 [], .blk g2 (.cells ((Fr.mk f.a0 f.a1 f.b0 f.b1 Ent.zero Ent.zero).arr) 27), .blk g1 (.cells f.arr 27)]) [0, 1, 2, 3] ?_ ⟨rfl, trivial⟩ ⟨rfl, rfl, rfl, rfl, trivial⟩ (by decide)
  refine run_ret rfl (v := .bool true) (res1 rfl rfl) ?_
  rfl

theorem frameLoads_2_1 (f : Fr) (hf : f.Ok) (e1 : Ent) (he1 : e1.Ok) (A : Option Addr) (c : Nat) (w0 : World) (hA : Cells w0 A (encE.row [e1])) : Fn Tryd.prog 6 #[f.val, .int .i64 2, .slice A ([e1].length) c] w0 (fun v _ => v = .bool true) := by
  have dl0 : decide ((0 : Int) < (([e1].length : Nat) : Int)) = true := decide_eq_true (by simp)
  have dl1 : decide ((1 : Int) < (([e1].length : Nat) : Int)) = false := decide_eq_false (by simp)
  have dl2 : decide ((2 : Int) < (([e1].length : Nat) : Int)) = false := decide_eq_false (by simp)
  refine fn_of_run Tryd.func6 rfl rfl ?_
  refine run_seq rfl ?_
  refine run_region (todo := [0, 1]) rfl rfl ?_
  refine run_box rfl (fun g1 => ?_)
  refine run_mv rfl ?_
  refine run_endops ?_
  refine run_seq rfl ?_
  refine run_region (todo := [0, 1, 2, 3, 4, 5]) rfl rfl ?_
  refine run_rd (v := .agg f.arr) rfl (rd_loadW (j := 0) Tryd.isAgg27 Tryd.sizeOf27 rfl rfl) ?_
  refine run_mv rfl ?_
  refine run_mv rfl ?_
  refine run_pfw (v := .agg ((Fr.mk f.a0 f.a1 f.b0 f.b1 e1 Ent.zero).arr)) rfl Tryd.call12 (fun w hw => with_any f 2 [e1] A c w ((know_old hA) w hw)) ?_
  refine run_alloc rfl Tryd.zeroValue27 (fun g2 => ?_)
  refine run_storeW (j := 0) (c' := (Fr.mk f.a0 f.a1 f.b0 f.b1 e1 Ent.zero).arr) rfl Tryd.sizeOf27 rfl rfl rfl rfl rfl rfl ?_
  refine run_endops ?_
  refine run_seq rfl ?_
  refine run_seq rfl ?_
  refine run_region (todo := [0, 1, 2, 3, 4, 5, 6, 7, 8, 9]) rfl rfl ?_
  refine run_pf0 (v := .bool true) rfl Tryd.call8 (pf_fixed) ?_
  refine run_rd (v := .bool false) rfl (rd_not) ?_
  refine run_mv rfl ?_
  refine run_mvG rfl ?_
  refine run_rdG (v := .bool false) rfl (rd_cmp rfl rfl) ?_
  refine run_pick (v := .bool false) rfl rfl ?_
  refine run_mv rfl ?_
  refine run_mvG rfl ?_
  refine run_rdG (v := .bool false) rfl (rd_cmp rfl rfl) ?_
  refine run_pick (v := .bool false) rfl rfl ?_
  refine run_endops ?_
  refine run_false rfl rfl ?_
  refine run_skip rfl ?_
  refine run_seq rfl ?_
  refine run_region (todo := [0, 1]) rfl rfl ?_
  refine run_lit0 rfl Tryd.underlying28 Tryd.sizeOf24 (fun g3 => ?_)
  refine run_mv rfl ?_
  refine run_endops ?_
  refine run_seq rfl ?_
  refine run_seq rfl ?_
  refine run_region (todo := [0]) rfl rfl ?_
  refine run_mv rfl ?_
  refine run_endops ?_
  refine run_block rfl ?_
  refine run_loop rfl ?_
  refine run_again ?_
  refine run_seq rfl ?_
  refine run_seq rfl ?_
  refine run_region (todo := [0, 1, 2, 3, 4, 5, 6, 7]) rfl rfl ?_
  refine run_mv rfl ?_
  refine run_mv rfl ?_
  refine run_rd (v := .int .i64 (([e1].length : Nat) : Int)) rfl (rd_len Tryd.underlying28) ?_
  refine run_rd (v := .bool true) rfl (rd_cmp rfl dl0) ?_
  refine run_mv rfl ?_
  refine run_mvG rfl ?_
  refine run_rdG (v := .bool true) rfl (rd_cmp rfl rfl) ?_
  refine run_pick (v := .bool true) rfl rfl ?_
  refine run_endops ?_
  refine run_true rfl rfl ?_
  refine run_skip rfl ?_
  refine run_seq rfl ?_
  refine run_block rfl ?_
  refine run_seq rfl ?_
  refine run_region (todo := [0, 1, 2, 3, 4, 5]) rfl rfl ?_
  refine run_mv rfl ?_
  refine run_mv rfl ?_
  refine run_rd (v := .pointer (elemAddr A (0 * 6))) rfl (rd_elem (m := 0) (o := 0 * 6) (know_old hA) Tryd.underlying28 Tryd.sizeOf24 rfl (lt_of_item (rfl : [e1][0]? = some e1) rfl) (Nat.lt_of_lt_of_le (m := 0 * 6 + 6) (by omega) (row_lt (E := encE) (rfl : [e1][0]? = some e1))) rfl) ?_
  refine run_rd (v := .agg e1.arr) rfl (rd_elemLoadA (u := e1.arr) (know_old hA) Tryd.isAgg24 Tryd.sizeOf24 rfl (row_all (E := encE) (rfl : [e1][0]? = some e1)) (row_lt (E := encE) (rfl : [e1][0]? = some e1))) ?_
  refine run_rd (v := .agg #[.int .i64 0, .int .i64 0, .int .i64 0, .int .u64 0, .int .u64 0, .string ⟨#[]⟩]) rfl ((fun w _ => by kernel_rfl)) ?_
  refine run_rd (v := .bool (decide (e1 ≠ Ent.zero))) rfl (rd_ent_nz he1) ?_
  refine run_endops ?_
  refine run_if rfl rfl (fun hb1 => ?_) (fun hb1 => ?_)
  · have hb1p := of_decide_eq_true hb1
    refine run_region (todo := [0, 1, 2, 3, 4, 5, 6, 7]) rfl rfl ?_
    refine run_mv rfl ?_
    refine run_mv rfl ?_
    refine run_mv rfl ?_
    refine run_rd (v := .pointer (elemAddr A (0 * 6))) rfl (rd_elem (m := 0) (o := 0 * 6) (know_old hA) Tryd.underlying28 Tryd.sizeOf24 rfl (lt_of_item (rfl : [e1][0]? = some e1) rfl) (Nat.lt_of_lt_of_le (m := 0 * 6 + 6) (by omega) (row_lt (E := encE) (rfl : [e1][0]? = some e1))) rfl) ?_
    refine run_rd (v := .agg e1.arr) rfl (rd_elemLoadA (u := e1.arr) (know_old hA) Tryd.isAgg24 Tryd.sizeOf24 rfl (row_all (E := encE) (rfl : [e1][0]? = some e1)) (row_lt (E := encE) (rfl : [e1][0]? = some e1))) ?_
    refine run_lit (c := #[.int .i64 e1.kind, .int .i64 e1.service, .int .i64 e1.group, .int .u64 e1.session, .int .u64 e1.number, .string e1.text]) rfl Tryd.underlying28 Tryd.sizeOf24 Tryd.zeroValue24 rfl rfl (by kernel_rfl) (fun g4 => ?_)
    refine run_append (j := 1) (ti := Tryd.t24) (z := Ent.zero.val) (size := 6) (bytes := 56) (news := [.int .i64 e1.kind, .int .i64 e1.service, .int .i64 e1.group, .int .u64 e1.session, .int .u64 e1.number, .string e1.text]) rfl Tryd.underlying28 (by kernel_rfl) rfl rfl rfl rfl rfl rfl rfl (know_blk (j := 0) rfl (fun q hq => by rw [Nat.zero_add, List.getElem?_toArray])) rfl rfl (by omega) (by unfold maxLen; omega) (fun Ag5 cg5 hg5 => ?_)
    refine run_mv rfl ?_
    refine run_endops ?_
    refine run_endblock ?_
    refine run_region (todo := [0, 1, 2]) rfl rfl ?_
    refine run_mv rfl ?_
    refine run_rd (v := .int .i64 1) rfl (rd_add (r := 1) (by decide)) ?_
    refine run_mv rfl ?_
    refine run_endops ?_
    refine run_again ?_
    refine run_seq rfl ?_
    refine run_seq rfl ?_
    refine run_region (todo := [0, 1, 2, 3, 4, 5, 6, 7]) rfl rfl ?_
    refine run_mv rfl ?_
    refine run_mv rfl ?_
    refine run_rd (v := .int .i64 (([e1].length : Nat) : Int)) rfl (rd_len Tryd.underlying28) ?_
    refine run_rd (v := .bool false) rfl (rd_cmp rfl dl1) ?_
    refine run_mv rfl ?_
    refine run_skipped rfl ?_
    refine run_skipped rfl ?_
    refine run_pick (v := .bool false) rfl rfl ?_
    refine run_endops ?_
    refine run_false rfl rfl ?_
    refine run_exit rfl rfl ?_
    refine run_seq rfl ?_
    refine run_seq rfl ?_
    refine run_region (todo := [0]) rfl rfl ?_
    refine run_mv rfl ?_
    refine run_endops ?_
    refine run_block rfl ?_
    refine run_loop rfl ?_
    refine run_again ?_
    refine run_seq rfl ?_
    refine run_seq rfl ?_
    refine run_region (todo := [0, 1]) rfl rfl ?_
    refine run_mv rfl ?_
    refine run_rd (v := .bool true) rfl (rd_cmp rfl rfl) ?_
    refine run_endops ?_
    refine run_true rfl rfl ?_
    refine run_skip rfl ?_
    refine run_seq rfl ?_
    refine run_block rfl ?_
    refine run_seq rfl ?_
    refine run_draw (l := [0, 1, 2, 3, 4, 5, 6, 7, 8, 9, 10, 11]) rfl rfl (by kernel_rfl) (by kernel_rfl) ?_
    refine q_mv rfl ?_
    refine q_mv rfl ?_
    refine q_val (v := .bool true) rfl (rd_cmp rfl rfl) ?_
    refine q_mv rfl ?_
    refine q_mv rfl ?_
    refine q_val (v := .pointer (some ⟨g2, 0, none⟩)) rfl (rd_indexAddrA (m := 0) (o := 0) Tryd.underlying27 rfl (by decide) Tryd.sizeOf25 rfl) ?_
    refine q_val (v := .agg #[.int .i64 f.a0.kind, .int .i64 f.a0.service, .int .i64 f.a0.group, .int .u64 f.a0.session, .int .u64 f.a0.number, .string f.a0.text, .int .i64 f.a1.kind, .int .i64 f.a1.service, .int .i64 f.a1.group, .int .u64 f.a1.session, .int .u64 f.a1.number, .string f.a1.text]) rfl (rd_loadA (j := 2) (u := #[.int .i64 f.a0.kind, .int .i64 f.a0.service, .int .i64 f.a0.group, .int .u64 f.a0.session, .int .u64 f.a0.number, .string f.a0.text, .int .i64 f.a1.kind, .int .i64 f.a1.service, .int .i64 f.a1.group, .int .u64 f.a1.session, .int .u64 f.a1.number, .string f.a1.text]) Tryd.isAgg25 Tryd.sizeOf25 rfl rfl (by kernel_rfl)) ?_
    refine q_mv rfl ?_
    refine q_val (v := .pointer (some ⟨g1, 0, none⟩)) rfl (rd_indexAddrA (m := 0) (o := 0) Tryd.underlying27 rfl (by decide) Tryd.sizeOf25 rfl) ?_
    refine q_val (v := .agg #[.int .i64 f.a0.kind, .int .i64 f.a0.service, .int .i64 f.a0.group, .int .u64 f.a0.session, .int .u64 f.a0.number, .string f.a0.text, .int .i64 f.a1.kind, .int .i64 f.a1.service, .int .i64 f.a1.group, .int .u64 f.a1.session, .int .u64 f.a1.number, .string f.a1.text]) rfl (rd_loadA (j := 3) (u := #[.int .i64 f.a0.kind, .int .i64 f.a0.service, .int .i64 f.a0.group, .int .u64 f.a0.session, .int .u64 f.a0.number, .string f.a0.text, .int .i64 f.a1.kind, .int .i64 f.a1.service, .int .i64 f.a1.group, .int .u64 f.a1.session, .int .u64 f.a1.number, .string f.a1.text]) Tryd.isAgg25 Tryd.sizeOf25 rfl rfl (by kernel_rfl)) ?_
    refine q_val (v := .bool false) rfl (rd_two_ne hf.a0 hf.a1) ?_
    refine q_pick (v := .bool false) rfl rfl ?_
    refine q_end ?_
    refine run_false rfl rfl ?_
    refine run_skip rfl ?_
    refine run_endblock ?_
    refine run_region (todo := [0, 1, 2]) rfl rfl ?_
    refine run_mv rfl ?_
    refine run_rd (v := .int .i64 1) rfl (rd_add (r := 1) (by decide)) ?_
    refine run_mv rfl ?_
    refine run_endops ?_
    refine run_again ?_
    refine run_seq rfl ?_
    refine run_seq rfl ?_
    refine run_region (todo := [0, 1]) rfl rfl ?_
    refine run_mv rfl ?_
    refine run_rd (v := .bool true) rfl (rd_cmp rfl rfl) ?_
    refine run_endops ?_
    refine run_true rfl rfl ?_
    refine run_skip rfl ?_
    refine run_seq rfl ?_
    refine run_block rfl ?_
    refine run_seq rfl ?_
    refine run_draw (l := [0, 1, 2, 3, 4, 5, 6, 7, 8, 9, 10, 11]) rfl rfl (by kernel_rfl) (by kernel_rfl) ?_
    refine q_mv rfl ?_
    refine q_mv rfl ?_
    refine q_val (v := .bool true) rfl (rd_cmp rfl rfl) ?_
    refine q_mv rfl ?_
    refine q_mv rfl ?_
    refine q_val (v := .pointer (some ⟨g2, 12, none⟩)) rfl (rd_indexAddrA (m := 1) (o := 12) Tryd.underlying27 rfl (by decide) Tryd.sizeOf25 rfl) ?_
    refine q_val (v := .agg #[.int .i64 f.b0.kind, .int .i64 f.b0.service, .int .i64 f.b0.group, .int .u64 f.b0.session, .int .u64 f.b0.number, .string f.b0.text, .int .i64 f.b1.kind, .int .i64 f.b1.service, .int .i64 f.b1.group, .int .u64 f.b1.session, .int .u64 f.b1.number, .string f.b1.text]) rfl (rd_loadA (j := 2) (u := #[.int .i64 f.b0.kind, .int .i64 f.b0.service, .int .i64 f.b0.group, .int .u64 f.b0.session, .int .u64 f.b0.number, .string f.b0.text, .int .i64 f.b1.kind, .int .i64 f.b1.service, .int .i64 f.b1.group, .int .u64 f.b1.session, .int .u64 f.b1.number, .string f.b1.text]) Tryd.isAgg25 Tryd.sizeOf25 rfl rfl (by kernel_rfl)) ?_
    refine q_mv rfl ?_
    refine q_val (v := .pointer (some ⟨g1, 12, none⟩)) rfl (rd_indexAddrA (m := 1) (o := 12) Tryd.underlying27 rfl (by decide) Tryd.sizeOf25 rfl) ?_
    refine q_val (v := .agg #[.int .i64 f.b0.kind, .int .i64 f.b0.service, .int .i64 f.b0.group, .int .u64 f.b0.session, .int .u64 f.b0.number, .string f.b0.text, .int .i64 f.b1.kind, .int .i64 f.b1.service, .int .i64 f.b1.group, .int .u64 f.b1.session, .int .u64 f.b1.number, .string f.b1.text]) rfl (rd_loadA (j := 3) (u := #[.int .i64 f.b0.kind, .int .i64 f.b0.service, .int .i64 f.b0.group, .int .u64 f.b0.session, .int .u64 f.b0.number, .string f.b0.text, .int .i64 f.b1.kind, .int .i64 f.b1.service, .int .i64 f.b1.group, .int .u64 f.b1.session, .int .u64 f.b1.number, .string f.b1.text]) Tryd.isAgg25 Tryd.sizeOf25 rfl rfl (by kernel_rfl)) ?_
    refine q_val (v := .bool false) rfl (rd_two_ne hf.b0 hf.b1) ?_
    refine q_pick (v := .bool false) rfl rfl ?_
    refine q_end ?_
    refine run_false rfl rfl ?_
    refine run_skip rfl ?_
    refine run_endblock ?_
    refine run_region (todo := [0, 1, 2]) rfl rfl ?_
    refine run_mv rfl ?_
    refine run_rd (v := .int .i64 2) rfl (rd_add (r := 2) (by decide)) ?_
    refine run_mv rfl ?_
    refine run_endops ?_
    refine run_again ?_
    refine run_seq rfl ?_
    refine run_seq rfl ?_
    refine run_region (todo := [0, 1]) rfl rfl ?_
    refine run_mv rfl ?_
    refine run_rd (v := .bool true) rfl (rd_cmp rfl rfl) ?_
    refine run_endops ?_
    refine run_true rfl rfl ?_
    refine run_skip rfl ?_
    refine run_seq rfl ?_
    refine run_block rfl ?_
    refine run_seq rfl ?_
    refine run_draw (l := [0, 1, 2, 3, 4, 5, 6, 7, 8, 9, 10, 11]) rfl rfl (by kernel_rfl) (by kernel_rfl) ?_
    refine q_mv rfl ?_
    refine q_mv rfl ?_
    refine q_val (v := .bool false) rfl (rd_cmp rfl rfl) ?_
    refine q_mv rfl ?_
    refine q_skip rfl ?_
    refine q_skip rfl ?_
    refine q_skip rfl ?_
    refine q_skip rfl ?_
    refine q_skip rfl ?_
    refine q_skip rfl ?_
    refine q_skip rfl ?_
    refine q_pick (v := .bool false) rfl rfl ?_
    refine q_end ?_
    refine run_false rfl rfl ?_
    refine run_skip rfl ?_
    refine run_endblock ?_
    refine run_region (todo := [0, 1, 2]) rfl rfl ?_
    refine run_mv rfl ?_
    refine run_rd (v := .int .i64 3) rfl (rd_add (r := 3) (by decide)) ?_
    refine run_mv rfl ?_
    refine run_endops ?_
    refine run_again ?_
    refine run_seq rfl ?_
    refine run_seq rfl ?_
    refine run_region (todo := [0, 1]) rfl rfl ?_
    refine run_mv rfl ?_
    refine run_rd (v := .bool false) rfl (rd_cmp rfl rfl) ?_
    refine run_endops ?_
    refine run_false rfl rfl ?_
    refine run_exit rfl rfl ?_
    refine run_seq rfl ?_
    refine run_par' rfl (by kernel_rfl) (.val [] (fun _ => .agg ((Fr.mk f.a0 f.a1 f.b0 f.b1 e1 Ent.zero).arr)) :: .val [] (fun _ => .int .i64 2) :: .rel [] (fun _ v h => ∃ Ag6 cg6, v = .slice Ag6 (((Fr.mk f.a0 f.a1 f.b0 f.b1 e1 Ent.zero).lane 2).length) cg6 ∧ h = [.row Ag6 cg6 24 6 (((Fr.mk f.a0 f.a1 f.b0 f.b1 e1 Ent.zero).lane 2).length) (encE.row ((Fr.mk f.a0 f.a1 f.b0 f.b1 e1 Ent.zero).lane 2))]) :: .val [] (fun _ => .slice Ag5 1 cg5) :: .val [] (fun _ => .bool true) :: .val [] (fun _ => .bool true) :: .val [] (fun _ => .agg ((Fr.mk f.a0 f.a1 f.b0 f.b1 e1 Ent.zero).arr)) :: .val [] (fun _ => .int .i64 2) :: .val [] (fun _ => .slice A ([e1].length) c) :: .val [] (fun _ => .agg ((Fr.mk f.a0 f.a1 f.b0 f.b1 e1 Ent.zero).arr)) :: .val [] (fun _ => .agg ((Fr.mk f.a0 f.a1 f.b0 f.b1 e1 Ent.zero).arr)) :: .val [] (fun _ => .bool true) :: .val [] (fun _ => .bool true) :: .val [] (fun _ => .bool true) :: []) (⟨[], [], []⟩ :: ⟨[], [], []⟩ :: ⟨[0, 1], [], []⟩ :: ⟨[], [], []⟩ :: ⟨[2, 3], [2], []⟩ :: ⟨[4], [], []⟩ :: ⟨[5], [], []⟩ :: ⟨[5], [], []⟩ :: ⟨[5], [], []⟩ :: ⟨[5, 6, 7, 8], [], []⟩ :: ⟨[5], [], []⟩ :: ⟨[5, 9, 10], [], []⟩ :: ⟨[5, 11], [], []⟩ :: ⟨[12], [], []⟩ :: []) [(1, .int .i64 2), (2, .slice A ([e1].length) c), (7, .pointer (some ⟨g2, 0, none⟩)), (8, .slice Ag5 1 cg5)] (by kernel_rfl) (by kernel_rfl) ⟨rfl, rfl, rfl, rfl, trivial⟩ ⟨trivial, trivial, trivial, trivial, trivial, trivial, trivial, trivial, trivial, trivial, trivial, trivial, trivial, trivial, trivial⟩ ?_ (fun V hs hq => ?_)
    · refine ⟨fun V hs hB => ob_rd rfl rfl (rd_loadW (j := 2) Tryd.isAgg27 Tryd.sizeOf27 rfl rfl), ?_⟩
      refine ⟨fun V hs hB => ob_mv rfl rfl, ?_⟩
      refine ⟨fun V hs hB => ob_call rfl rfl Tryd.call10 (fun w hw => lane_any (Fr.mk f.a0 f.a1 f.b0 f.b1 e1 Ent.zero) (⟨hf.a0, hf.a1, hf.b0, hf.b1, he1, zero_ok'⟩ : (Fr.mk f.a0 f.a1 f.b0 f.b1 e1 Ent.zero).Ok) 2 w), ?_⟩
      refine ⟨fun V hs hB => ob_mv rfl rfl, ?_⟩
      refine ⟨fun V hs hB => ?_, ?_⟩
      · obtain ⟨Ag6, cg6, hV2, hh2⟩ := hB 2 (by simp)
        refine ob_set (j := 2) hV2 hh2 ?_
        exact ob_pf rfl rfl Tryd.call9 (fun w hw => by have h := fn_entries ((Fr.mk f.a0 f.a1 f.b0 f.b1 e1 Ent.zero).lane 2) [e1] Ag6 Ag5 cg6 cg5 w ((know_row (j := 0) rfl) w hw) ((know_row (j := 2) rfl) w hw) (lane_ok (⟨hf.a0, hf.a1, hf.b0, hf.b1, he1, zero_ok'⟩ : (Fr.mk f.a0 f.a1 f.b0 f.b1 e1 Ent.zero).Ok) _) (by intro e he; simp at he; rcases he with rfl <;> assumption) (Nat.le_trans (lane_le _ _) (by decide)); rw [decide_eq_true (by simp [Fr.lane, Fr.two, hb1p])] at h; exact h)
      refine ⟨fun V hs hB => ob_mv rfl rfl, ?_⟩
      refine ⟨fun V hs hB => ob_rd rfl rfl (rd_loadW (j := 2) Tryd.isAgg27 Tryd.sizeOf27 rfl rfl), ?_⟩
      refine ⟨fun V hs hB => ob_mv rfl rfl, ?_⟩
      refine ⟨fun V hs hB => ob_mv rfl rfl, ?_⟩
      refine ⟨fun V hs hB => ob_pf rfl rfl Tryd.call12 (fun w hw => with_any (Fr.mk f.a0 f.a1 f.b0 f.b1 e1 Ent.zero) 2 [e1] A c w ((know_old hA) w hw)), ?_⟩
      refine ⟨fun V hs hB => ob_rd rfl rfl (rd_loadW (j := 2) Tryd.isAgg27 Tryd.sizeOf27 rfl rfl), ?_⟩
      refine ⟨fun V hs hB => ob_rd rfl rfl (rd_fr_eqlD (⟨hf.a0, hf.a1, hf.b0, hf.b1, he1, zero_ok'⟩ : (Fr.mk f.a0 f.a1 f.b0 f.b1 e1 Ent.zero).Ok) (⟨hf.a0, hf.a1, hf.b0, hf.b1, he1, zero_ok'⟩ : (Fr.mk f.a0 f.a1 f.b0 f.b1 e1 Ent.zero).Ok) (decide_eq_true rfl)), ?_⟩
      refine ⟨fun V hs hB => ob_pick rfl rfl rfl, ?_⟩
      refine ⟨fun V hs hB => ob_mv rfl rfl, ?_⟩
      trivial
    obtain ⟨Ag6, cg6, hV2, hh2⟩ := hq 2 (of_decide_eq_true (by kernel_rfl))
    rw [show relsOf _ = [2] from by kernel_rfl]
    simp only [List.flatMap_cons, List.flatMap_nil, List.append_nil, hh2]
    refine any_end (by kernel_rfl) ?_
    refine run_less (ρ' := [(6, .bool true)]) (H' := [.row Ag6 cg6 24 6 (((Fr.mk f.a0 f.a1 f.b0 f.b1 e1 Ent.zero).lane 2).length) (encE.row ((Fr.mk f.a0 f.a1 f.b0 f.b1 e1 Ent.zero).lane 2)), .blk g4 (.cells #[.int .i64 e1.kind, .int .i64 e1.service, .int .i64 e1.group, .int .u64 e1.session, .int .u64 e1.number, .string e1.text] 24), .row Ag5 cg5 24 6 1 ([] ++ [.int .i64 e1.kind, .int .i64 e1.service, .int .i64 e1.group, .int .u64 e1.session, .int .u64 e1.number, .string e1.text]), .blk g2 (.cells ((Fr.mk f.a0 f.a1 f.b0 f.b1 e1 Ent.zero).arr) 27), .blk g1 (.cells f.arr 27)]) [0, 1, 2, 3, 4] ?_ ⟨rfl, trivial⟩ ⟨rfl, rfl, rfl, rfl, rfl, trivial⟩ (by decide)
    refine run_ret rfl (v := .bool true) (res1 rfl rfl) ?_
    rfl
  · have hb1p := of_decide_eq_false hb1
    refine run_skip rfl ?_
    refine run_endblock ?_
    refine run_region (todo := [0, 1, 2]) rfl rfl ?_
    refine run_mv rfl ?_
    refine run_rd (v := .int .i64 1) rfl (rd_add (r := 1) (by decide)) ?_
    refine run_mv rfl ?_
    refine run_endops ?_
    refine run_again ?_
    refine run_seq rfl ?_
    refine run_seq rfl ?_
    refine run_region (todo := [0, 1, 2, 3, 4, 5, 6, 7]) rfl rfl ?_
    refine run_mv rfl ?_
    refine run_mv rfl ?_
    refine run_rd (v := .int .i64 (([e1].length : Nat) : Int)) rfl (rd_len Tryd.underlying28) ?_
    refine run_rd (v := .bool false) rfl (rd_cmp rfl dl1) ?_
    refine run_mv rfl ?_
    refine run_skipped rfl ?_
    refine run_skipped rfl ?_
    refine run_pick (v := .bool false) rfl rfl ?_
    refine run_endops ?_
    refine run_false rfl rfl ?_
    refine run_exit rfl rfl ?_
    refine run_seq rfl ?_
    refine run_seq rfl ?_
    refine run_region (todo := [0]) rfl rfl ?_
    refine run_mv rfl ?_
    refine run_endops ?_
    refine run_block rfl ?_
    refine run_loop rfl ?_
    refine run_again ?_
    refine run_seq rfl ?_
    refine run_seq rfl ?_
    refine run_region (todo := [0, 1]) rfl rfl ?_
    refine run_mv rfl ?_
    refine run_rd (v := .bool true) rfl (rd_cmp rfl rfl) ?_
    refine run_endops ?_
    refine run_true rfl rfl ?_
    refine run_skip rfl ?_
    refine run_seq rfl ?_
    refine run_block rfl ?_
    refine run_seq rfl ?_
    refine run_draw (l := [0, 1, 2, 3, 4, 5, 6, 7, 8, 9, 10, 11]) rfl rfl (by kernel_rfl) (by kernel_rfl) ?_
    refine q_mv rfl ?_
    refine q_mv rfl ?_
    refine q_val (v := .bool true) rfl (rd_cmp rfl rfl) ?_
    refine q_mv rfl ?_
    refine q_mv rfl ?_
    refine q_val (v := .pointer (some ⟨g2, 0, none⟩)) rfl (rd_indexAddrA (m := 0) (o := 0) Tryd.underlying27 rfl (by decide) Tryd.sizeOf25 rfl) ?_
    refine q_val (v := .agg #[.int .i64 f.a0.kind, .int .i64 f.a0.service, .int .i64 f.a0.group, .int .u64 f.a0.session, .int .u64 f.a0.number, .string f.a0.text, .int .i64 f.a1.kind, .int .i64 f.a1.service, .int .i64 f.a1.group, .int .u64 f.a1.session, .int .u64 f.a1.number, .string f.a1.text]) rfl (rd_loadA (j := 1) (u := #[.int .i64 f.a0.kind, .int .i64 f.a0.service, .int .i64 f.a0.group, .int .u64 f.a0.session, .int .u64 f.a0.number, .string f.a0.text, .int .i64 f.a1.kind, .int .i64 f.a1.service, .int .i64 f.a1.group, .int .u64 f.a1.session, .int .u64 f.a1.number, .string f.a1.text]) Tryd.isAgg25 Tryd.sizeOf25 rfl rfl (by kernel_rfl)) ?_
    refine q_mv rfl ?_
    refine q_val (v := .pointer (some ⟨g1, 0, none⟩)) rfl (rd_indexAddrA (m := 0) (o := 0) Tryd.underlying27 rfl (by decide) Tryd.sizeOf25 rfl) ?_
    refine q_val (v := .agg #[.int .i64 f.a0.kind, .int .i64 f.a0.service, .int .i64 f.a0.group, .int .u64 f.a0.session, .int .u64 f.a0.number, .string f.a0.text, .int .i64 f.a1.kind, .int .i64 f.a1.service, .int .i64 f.a1.group, .int .u64 f.a1.session, .int .u64 f.a1.number, .string f.a1.text]) rfl (rd_loadA (j := 2) (u := #[.int .i64 f.a0.kind, .int .i64 f.a0.service, .int .i64 f.a0.group, .int .u64 f.a0.session, .int .u64 f.a0.number, .string f.a0.text, .int .i64 f.a1.kind, .int .i64 f.a1.service, .int .i64 f.a1.group, .int .u64 f.a1.session, .int .u64 f.a1.number, .string f.a1.text]) Tryd.isAgg25 Tryd.sizeOf25 rfl rfl (by kernel_rfl)) ?_
    refine q_val (v := .bool false) rfl (rd_two_ne hf.a0 hf.a1) ?_
    refine q_pick (v := .bool false) rfl rfl ?_
    refine q_end ?_
    refine run_false rfl rfl ?_
    refine run_skip rfl ?_
    refine run_endblock ?_
    refine run_region (todo := [0, 1, 2]) rfl rfl ?_
    refine run_mv rfl ?_
    refine run_rd (v := .int .i64 1) rfl (rd_add (r := 1) (by decide)) ?_
    refine run_mv rfl ?_
    refine run_endops ?_
    refine run_again ?_
    refine run_seq rfl ?_
    refine run_seq rfl ?_
    refine run_region (todo := [0, 1]) rfl rfl ?_
    refine run_mv rfl ?_
    refine run_rd (v := .bool true) rfl (rd_cmp rfl rfl) ?_
    refine run_endops ?_
    refine run_true rfl rfl ?_
    refine run_skip rfl ?_
    refine run_seq rfl ?_
    refine run_block rfl ?_
    refine run_seq rfl ?_
    refine run_draw (l := [0, 1, 2, 3, 4, 5, 6, 7, 8, 9, 10, 11]) rfl rfl (by kernel_rfl) (by kernel_rfl) ?_
    refine q_mv rfl ?_
    refine q_mv rfl ?_
    refine q_val (v := .bool true) rfl (rd_cmp rfl rfl) ?_
    refine q_mv rfl ?_
    refine q_mv rfl ?_
    refine q_val (v := .pointer (some ⟨g2, 12, none⟩)) rfl (rd_indexAddrA (m := 1) (o := 12) Tryd.underlying27 rfl (by decide) Tryd.sizeOf25 rfl) ?_
    refine q_val (v := .agg #[.int .i64 f.b0.kind, .int .i64 f.b0.service, .int .i64 f.b0.group, .int .u64 f.b0.session, .int .u64 f.b0.number, .string f.b0.text, .int .i64 f.b1.kind, .int .i64 f.b1.service, .int .i64 f.b1.group, .int .u64 f.b1.session, .int .u64 f.b1.number, .string f.b1.text]) rfl (rd_loadA (j := 1) (u := #[.int .i64 f.b0.kind, .int .i64 f.b0.service, .int .i64 f.b0.group, .int .u64 f.b0.session, .int .u64 f.b0.number, .string f.b0.text, .int .i64 f.b1.kind, .int .i64 f.b1.service, .int .i64 f.b1.group, .int .u64 f.b1.session, .int .u64 f.b1.number, .string f.b1.text]) Tryd.isAgg25 Tryd.sizeOf25 rfl rfl (by kernel_rfl)) ?_
    refine q_mv rfl ?_
    refine q_val (v := .pointer (some ⟨g1, 12, none⟩)) rfl (rd_indexAddrA (m := 1) (o := 12) Tryd.underlying27 rfl (by decide) Tryd.sizeOf25 rfl) ?_
    refine q_val (v := .agg #[.int .i64 f.b0.kind, .int .i64 f.b0.service, .int .i64 f.b0.group, .int .u64 f.b0.session, .int .u64 f.b0.number, .string f.b0.text, .int .i64 f.b1.kind, .int .i64 f.b1.service, .int .i64 f.b1.group, .int .u64 f.b1.session, .int .u64 f.b1.number, .string f.b1.text]) rfl (rd_loadA (j := 2) (u := #[.int .i64 f.b0.kind, .int .i64 f.b0.service, .int .i64 f.b0.group, .int .u64 f.b0.session, .int .u64 f.b0.number, .string f.b0.text, .int .i64 f.b1.kind, .int .i64 f.b1.service, .int .i64 f.b1.group, .int .u64 f.b1.session, .int .u64 f.b1.number, .string f.b1.text]) Tryd.isAgg25 Tryd.sizeOf25 rfl rfl (by kernel_rfl)) ?_
    refine q_val (v := .bool false) rfl (rd_two_ne hf.b0 hf.b1) ?_
    refine q_pick (v := .bool false) rfl rfl ?_
    refine q_end ?_
    refine run_false rfl rfl ?_
    refine run_skip rfl ?_
    refine run_endblock ?_
    refine run_region (todo := [0, 1, 2]) rfl rfl ?_
    refine run_mv rfl ?_
    refine run_rd (v := .int .i64 2) rfl (rd_add (r := 2) (by decide)) ?_
    refine run_mv rfl ?_
    refine run_endops ?_
    refine run_again ?_
    refine run_seq rfl ?_
    refine run_seq rfl ?_
    refine run_region (todo := [0, 1]) rfl rfl ?_
    refine run_mv rfl ?_
    refine run_rd (v := .bool true) rfl (rd_cmp rfl rfl) ?_
    refine run_endops ?_
    refine run_true rfl rfl ?_
    refine run_skip rfl ?_
    refine run_seq rfl ?_
    refine run_block rfl ?_
    refine run_seq rfl ?_
    refine run_draw (l := [0, 1, 2, 3, 4, 5, 6, 7, 8, 9, 10, 11]) rfl rfl (by kernel_rfl) (by kernel_rfl) ?_
    refine q_mv rfl ?_
    refine q_mv rfl ?_
    refine q_val (v := .bool false) rfl (rd_cmp rfl rfl) ?_
    refine q_mv rfl ?_
    refine q_skip rfl ?_
    refine q_skip rfl ?_
    refine q_skip rfl ?_
    refine q_skip rfl ?_
    refine q_skip rfl ?_
    refine q_skip rfl ?_
    refine q_skip rfl ?_
    refine q_pick (v := .bool false) rfl rfl ?_
    refine q_end ?_
    refine run_false rfl rfl ?_
    refine run_skip rfl ?_
    refine run_endblock ?_
    refine run_region (todo := [0, 1, 2]) rfl rfl ?_
    refine run_mv rfl ?_
    refine run_rd (v := .int .i64 3) rfl (rd_add (r := 3) (by decide)) ?_
    refine run_mv rfl ?_
    refine run_endops ?_
    refine run_again ?_
    refine run_seq rfl ?_
    refine run_seq rfl ?_
    refine run_region (todo := [0, 1]) rfl rfl ?_
    refine run_mv rfl ?_
    refine run_rd (v := .bool false) rfl (rd_cmp rfl rfl) ?_
    refine run_endops ?_
    refine run_false rfl rfl ?_
    refine run_exit rfl rfl ?_
    refine run_seq rfl ?_
    refine run_par' rfl (by kernel_rfl) (.val [] (fun _ => .agg ((Fr.mk f.a0 f.a1 f.b0 f.b1 e1 Ent.zero).arr)) :: .val [] (fun _ => .int .i64 2) :: .rel [] (fun _ v h => ∃ Ag7 cg7, v = .slice Ag7 (((Fr.mk f.a0 f.a1 f.b0 f.b1 e1 Ent.zero).lane 2).length) cg7 ∧ h = [.row Ag7 cg7 24 6 (((Fr.mk f.a0 f.a1 f.b0 f.b1 e1 Ent.zero).lane 2).length) (encE.row ((Fr.mk f.a0 f.a1 f.b0 f.b1 e1 Ent.zero).lane 2))]) :: .val [] (fun _ => .slice (some ⟨g3, 0, none⟩) 0 0) :: .val [] (fun _ => .bool true) :: .val [] (fun _ => .bool true) :: .val [] (fun _ => .agg ((Fr.mk f.a0 f.a1 f.b0 f.b1 e1 Ent.zero).arr)) :: .val [] (fun _ => .int .i64 2) :: .val [] (fun _ => .slice A ([e1].length) c) :: .val [] (fun _ => .agg ((Fr.mk f.a0 f.a1 f.b0 f.b1 e1 Ent.zero).arr)) :: .val [] (fun _ => .agg ((Fr.mk f.a0 f.a1 f.b0 f.b1 e1 Ent.zero).arr)) :: .val [] (fun _ => .bool true) :: .val [] (fun _ => .bool true) :: .val [] (fun _ => .bool true) :: []) (⟨[], [], []⟩ :: ⟨[], [], []⟩ :: ⟨[0, 1], [], []⟩ :: ⟨[], [], []⟩ :: ⟨[2, 3], [2], []⟩ :: ⟨[4], [], []⟩ :: ⟨[5], [], []⟩ :: ⟨[5], [], []⟩ :: ⟨[5], [], []⟩ :: ⟨[5, 6, 7, 8], [], []⟩ :: ⟨[5], [], []⟩ :: ⟨[5, 9, 10], [], []⟩ :: ⟨[5, 11], [], []⟩ :: ⟨[12], [], []⟩ :: []) [(1, .int .i64 2), (2, .slice A ([e1].length) c), (7, .pointer (some ⟨g2, 0, none⟩)), (8, .slice (some ⟨g3, 0, none⟩) 0 0)] (by kernel_rfl) (by kernel_rfl) ⟨rfl, rfl, rfl, rfl, trivial⟩ ⟨trivial, trivial, trivial, trivial, trivial, trivial, trivial, trivial, trivial, trivial, trivial, trivial, trivial, trivial, trivial⟩ ?_ (fun V hs hq => ?_)
    · refine ⟨fun V hs hB => ob_rd rfl rfl (rd_loadW (j := 1) Tryd.isAgg27 Tryd.sizeOf27 rfl rfl), ?_⟩
      refine ⟨fun V hs hB => ob_mv rfl rfl, ?_⟩
      refine ⟨fun V hs hB => ob_call rfl rfl Tryd.call10 (fun w hw => lane_any (Fr.mk f.a0 f.a1 f.b0 f.b1 e1 Ent.zero) (⟨hf.a0, hf.a1, hf.b0, hf.b1, he1, zero_ok'⟩ : (Fr.mk f.a0 f.a1 f.b0 f.b1 e1 Ent.zero).Ok) 2 w), ?_⟩
      refine ⟨fun V hs hB => ob_mv rfl rfl, ?_⟩
      refine ⟨fun V hs hB => ?_, ?_⟩
      · obtain ⟨Ag7, cg7, hV2, hh2⟩ := hB 2 (by simp)
        refine ob_set (j := 2) hV2 hh2 ?_
        exact ob_pf rfl rfl Tryd.call9 (fun w hw => by have h := fn_entries ((Fr.mk f.a0 f.a1 f.b0 f.b1 e1 Ent.zero).lane 2) ([] : List Ent) Ag7 (some ⟨g3, 0, none⟩) cg7 0 w ((know_row (j := 0) rfl) w hw) ((know_row (j := 1) rfl) w hw) (lane_ok (⟨hf.a0, hf.a1, hf.b0, hf.b1, he1, zero_ok'⟩ : (Fr.mk f.a0 f.a1 f.b0 f.b1 e1 Ent.zero).Ok) _) (by intro e he; cases he) (Nat.le_trans (lane_le _ _) (by decide)); rw [decide_eq_true (by simp [Fr.lane, Fr.two, hb1p])] at h; exact h)
      refine ⟨fun V hs hB => ob_mv rfl rfl, ?_⟩
      refine ⟨fun V hs hB => ob_rd rfl rfl (rd_loadW (j := 1) Tryd.isAgg27 Tryd.sizeOf27 rfl rfl), ?_⟩
      refine ⟨fun V hs hB => ob_mv rfl rfl, ?_⟩
      refine ⟨fun V hs hB => ob_mv rfl rfl, ?_⟩
      refine ⟨fun V hs hB => ob_pf rfl rfl Tryd.call12 (fun w hw => with_any (Fr.mk f.a0 f.a1 f.b0 f.b1 e1 Ent.zero) 2 [e1] A c w ((know_old hA) w hw)), ?_⟩
      refine ⟨fun V hs hB => ob_rd rfl rfl (rd_loadW (j := 1) Tryd.isAgg27 Tryd.sizeOf27 rfl rfl), ?_⟩
      refine ⟨fun V hs hB => ob_rd rfl rfl (rd_fr_eqlD (⟨hf.a0, hf.a1, hf.b0, hf.b1, he1, zero_ok'⟩ : (Fr.mk f.a0 f.a1 f.b0 f.b1 e1 Ent.zero).Ok) (⟨hf.a0, hf.a1, hf.b0, hf.b1, he1, zero_ok'⟩ : (Fr.mk f.a0 f.a1 f.b0 f.b1 e1 Ent.zero).Ok) (decide_eq_true rfl)), ?_⟩
      refine ⟨fun V hs hB => ob_pick rfl rfl rfl, ?_⟩
      refine ⟨fun V hs hB => ob_mv rfl rfl, ?_⟩
      trivial
    obtain ⟨Ag7, cg7, hV2, hh2⟩ := hq 2 (of_decide_eq_true (by kernel_rfl))
    rw [show relsOf _ = [2] from by kernel_rfl]
    simp only [List.flatMap_cons, List.flatMap_nil, List.append_nil, hh2]
    refine any_end (by kernel_rfl) ?_
    refine run_less (ρ' := [(6, .bool true)]) (H' := [.row Ag7 cg7 24 6 (((Fr.mk f.a0 f.a1 f.b0 f.b1 e1 Ent.zero).lane 2).length) (encE.row ((Fr.mk f.a0 f.a1 f.b0 f.b1 e1 Ent.zero).lane 2)), .row (some ⟨g3, 0, none⟩) 0 24 6 0 [], .blk g2 (.cells ((Fr.mk f.a0 f.a1 f.b0 f.b1 e1 Ent.zero).arr) 27), .blk g1 (.cells f.arr 27)]) [0, 1, 2, 3] ?_ ⟨rfl, trivial⟩ ⟨rfl, rfl, rfl, rfl, trivial⟩ (by decide)
    refine run_ret rfl (v := .bool true) (res1 rfl rfl) ?_
    rfl

theorem frameLoads_2_2 (f : Fr) (hf : f.Ok) (e1 : Ent) (he1 : e1.Ok) (e2 : Ent) (he2 : e2.Ok) (A : Option Addr) (c : Nat) (w0 : World) (hA : Cells w0 A (encE.row [e1, e2])) : Fn Tryd.prog 6 #[f.val, .int .i64 2, .slice A ([e1, e2].length) c] w0 (fun v _ => v = .bool true) := by
  have dl0 : decide ((0 : Int) < (([e1, e2].length : Nat) : Int)) = true := decide_eq_true (by simp)
  have dl1 : decide ((1 : Int) < (([e1, e2].length : Nat) : Int)) = true := decide_eq_true (by simp)
  have dl2 : decide ((2 : Int) < (([e1, e2].length : Nat) : Int)) = false := decide_eq_false (by simp)
  refine fn_of_run Tryd.func6 rfl rfl ?_
  refine run_seq rfl ?_
  refine run_region (todo := [0, 1]) rfl rfl ?_
  refine run_box rfl (fun g1 => ?_)
  refine run_mv rfl ?_
  refine run_endops ?_
  refine run_seq rfl ?_
  refine run_region (todo := [0, 1, 2, 3, 4, 5]) rfl rfl ?_
  refine run_rd (v := .agg f.arr) rfl (rd_loadW (j := 0) Tryd.isAgg27 Tryd.sizeOf27 rfl rfl) ?_
  refine run_mv rfl ?_
  refine run_mv rfl ?_
  refine run_pfw (v := .agg ((Fr.mk f.a0 f.a1 f.b0 f.b1 e1 e2).arr)) rfl Tryd.call12 (fun w hw => with_any f 2 [e1, e2] A c w ((know_old hA) w hw)) ?_
  refine run_alloc rfl Tryd.zeroValue27 (fun g2 => ?_)
  refine run_storeW (j := 0) (c' := (Fr.mk f.a0 f.a1 f.b0 f.b1 e1 e2).arr) rfl Tryd.sizeOf27 rfl rfl rfl rfl rfl rfl ?_
  refine run_endops ?_
  refine run_seq rfl ?_
  refine run_seq rfl ?_
  refine run_region (todo := [0, 1, 2, 3, 4, 5, 6, 7, 8, 9]) rfl rfl ?_
  refine run_pf0 (v := .bool true) rfl Tryd.call8 (pf_fixed) ?_
  refine run_rd (v := .bool false) rfl (rd_not) ?_
  refine run_mv rfl ?_
  refine run_mvG rfl ?_
  refine run_rdG (v := .bool false) rfl (rd_cmp rfl rfl) ?_
  refine run_pick (v := .bool false) rfl rfl ?_
  refine run_mv rfl ?_
  refine run_mvG rfl ?_
  refine run_rdG (v := .bool false) rfl (rd_cmp rfl rfl) ?_
  refine run_pick (v := .bool false) rfl rfl ?_
  refine run_endops ?_
  refine run_false rfl rfl ?_
  refine run_skip rfl ?_
  refine run_seq rfl ?_
  refine run_region (todo := [0, 1]) rfl rfl ?_
  refine run_lit0 rfl Tryd.underlying28 Tryd.sizeOf24 (fun g3 => ?_)
  refine run_mv rfl ?_
  refine run_endops ?_
  refine run_seq rfl ?_
  refine run_seq rfl ?_
  refine run_region (todo := [0]) rfl rfl ?_
  refine run_mv rfl ?_
  refine run_endops ?_
  refine run_block rfl ?_
  refine run_loop rfl ?_
  refine run_again ?_
  refine run_seq rfl ?_
  refine run_seq rfl ?_
  refine run_region (todo := [0, 1, 2, 3, 4, 5, 6, 7]) rfl rfl ?_
  refine run_mv rfl ?_
  refine run_mv rfl ?_
  refine run_rd (v := .int .i64 (([e1, e2].length : Nat) : Int)) rfl (rd_len Tryd.underlying28) ?_
  refine run_rd (v := .bool true) rfl (rd_cmp rfl dl0) ?_
  refine run_mv rfl ?_
  refine run_mvG rfl ?_
  refine run_rdG (v := .bool true) rfl (rd_cmp rfl rfl) ?_
  refine run_pick (v := .bool true) rfl rfl ?_
  refine run_endops ?_
  refine run_true rfl rfl ?_
  refine run_skip rfl ?_
  refine run_seq rfl ?_
  refine run_block rfl ?_
  refine run_seq rfl ?_
  refine run_region (todo := [0, 1, 2, 3, 4, 5]) rfl rfl ?_
  refine run_mv rfl ?_
  refine run_mv rfl ?_
  refine run_rd (v := .pointer (elemAddr A (0 * 6))) rfl (rd_elem (m := 0) (o := 0 * 6) (know_old hA) Tryd.underlying28 Tryd.sizeOf24 rfl (lt_of_item (rfl : [e1, e2][0]? = some e1) rfl) (Nat.lt_of_lt_of_le (m := 0 * 6 + 6) (by omega) (row_lt (E := encE) (rfl : [e1, e2][0]? = some e1))) rfl) ?_
  refine run_rd (v := .agg e1.arr) rfl (rd_elemLoadA (u := e1.arr) (know_old hA) Tryd.isAgg24 Tryd.sizeOf24 rfl (row_all (E := encE) (rfl : [e1, e2][0]? = some e1)) (row_lt (E := encE) (rfl : [e1, e2][0]? = some e1))) ?_
  refine run_rd (v := .agg #[.int .i64 0, .int .i64 0, .int .i64 0, .int .u64 0, .int .u64 0, .string ⟨#[]⟩]) rfl ((fun w _ => by kernel_rfl)) ?_
  refine run_rd (v := .bool (decide (e1 ≠ Ent.zero))) rfl (rd_ent_nz he1) ?_
  refine run_endops ?_
  refine run_if rfl rfl (fun hb1 => ?_) (fun hb1 => ?_)
  · have hb1p := of_decide_eq_true hb1
    refine run_region (todo := [0, 1, 2, 3, 4, 5, 6, 7]) rfl rfl ?_
    refine run_mv rfl ?_
    refine run_mv rfl ?_
    refine run_mv rfl ?_
    refine run_rd (v := .pointer (elemAddr A (0 * 6))) rfl (rd_elem (m := 0) (o := 0 * 6) (know_old hA) Tryd.underlying28 Tryd.sizeOf24 rfl (lt_of_item (rfl : [e1, e2][0]? = some e1) rfl) (Nat.lt_of_lt_of_le (m := 0 * 6 + 6) (by omega) (row_lt (E := encE) (rfl : [e1, e2][0]? = some e1))) rfl) ?_
    refine run_rd (v := .agg e1.arr) rfl (rd_elemLoadA (u := e1.arr) (know_old hA) Tryd.isAgg24 Tryd.sizeOf24 rfl (row_all (E := encE) (rfl : [e1, e2][0]? = some e1)) (row_lt (E := encE) (rfl : [e1, e2][0]? = some e1))) ?_
    refine run_lit (c := #[.int .i64 e1.kind, .int .i64 e1.service, .int .i64 e1.group, .int .u64 e1.session, .int .u64 e1.number, .string e1.text]) rfl Tryd.underlying28 Tryd.sizeOf24 Tryd.zeroValue24 rfl rfl (by kernel_rfl) (fun g4 => ?_)
    refine run_append (j := 1) (ti := Tryd.t24) (z := Ent.zero.val) (size := 6) (bytes := 56) (news := [.int .i64 e1.kind, .int .i64 e1.service, .int .i64 e1.group, .int .u64 e1.session, .int .u64 e1.number, .string e1.text]) rfl Tryd.underlying28 (by kernel_rfl) rfl rfl rfl rfl rfl rfl rfl (know_blk (j := 0) rfl (fun q hq => by rw [Nat.zero_add, List.getElem?_toArray])) rfl rfl (by omega) (by unfold maxLen; omega) (fun Ag5 cg5 hg5 => ?_)
    refine run_mv rfl ?_
    refine run_endops ?_
    refine run_endblock ?_
    refine run_region (todo := [0, 1, 2]) rfl rfl ?_
    refine run_mv rfl ?_
    refine run_rd (v := .int .i64 1) rfl (rd_add (r := 1) (by decide)) ?_
    refine run_mv rfl ?_
    refine run_endops ?_
    refine run_again ?_
    refine run_seq rfl ?_
    refine run_seq rfl ?_
    refine run_region (todo := [0, 1, 2, 3, 4, 5, 6, 7]) rfl rfl ?_
    refine run_mv rfl ?_
    refine run_mv rfl ?_
    refine run_rd (v := .int .i64 (([e1, e2].length : Nat) : Int)) rfl (rd_len Tryd.underlying28) ?_
    refine run_rd (v := .bool true) rfl (rd_cmp rfl dl1) ?_
    refine run_mv rfl ?_
    refine run_mvG rfl ?_
    refine run_rdG (v := .bool true) rfl (rd_cmp rfl rfl) ?_
    refine run_pick (v := .bool true) rfl rfl ?_
    refine run_endops ?_
    refine run_true rfl rfl ?_
    refine run_skip rfl ?_
    refine run_seq rfl ?_
    refine run_block rfl ?_
    refine run_seq rfl ?_
    refine run_region (todo := [0, 1, 2, 3, 4, 5]) rfl rfl ?_
    refine run_mv rfl ?_
    refine run_mv rfl ?_
    refine run_rd (v := .pointer (elemAddr A (1 * 6))) rfl (rd_elem (m := 1) (o := 1 * 6) (know_old hA) Tryd.underlying28 Tryd.sizeOf24 rfl (lt_of_item (rfl : [e1, e2][1]? = some e2) rfl) (Nat.lt_of_lt_of_le (m := 1 * 6 + 6) (by omega) (row_lt (E := encE) (rfl : [e1, e2][1]? = some e2))) rfl) ?_
    refine run_rd (v := .agg e2.arr) rfl (rd_elemLoadA (u := e2.arr) (know_old hA) Tryd.isAgg24 Tryd.sizeOf24 rfl (row_all (E := encE) (rfl : [e1, e2][1]? = some e2)) (row_lt (E := encE) (rfl : [e1, e2][1]? = some e2))) ?_
    refine run_rd (v := .agg #[.int .i64 0, .int .i64 0, .int .i64 0, .int .u64 0, .int .u64 0, .string ⟨#[]⟩]) rfl ((fun w _ => by kernel_rfl)) ?_
    refine run_rd (v := .bool (decide (e2 ≠ Ent.zero))) rfl (rd_ent_nz he2) ?_
    refine run_endops ?_
    refine run_if rfl rfl (fun hb2 => ?_) (fun hb2 => ?_)
    · have hb2p := of_decide_eq_true hb2
      refine run_region (todo := [0, 1, 2, 3, 4, 5, 6, 7]) rfl rfl ?_
      refine run_mv rfl ?_
      refine run_mv rfl ?_
      refine run_mv rfl ?_
      refine run_rd (v := .pointer (elemAddr A (1 * 6))) rfl (rd_elem (m := 1) (o := 1 * 6) (know_old hA) Tryd.underlying28 Tryd.sizeOf24 rfl (lt_of_item (rfl : [e1, e2][1]? = some e2) rfl) (Nat.lt_of_lt_of_le (m := 1 * 6 + 6) (by omega) (row_lt (E := encE) (rfl : [e1, e2][1]? = some e2))) rfl) ?_
      refine run_rd (v := .agg e2.arr) rfl (rd_elemLoadA (u := e2.arr) (know_old hA) Tryd.isAgg24 Tryd.sizeOf24 rfl (row_all (E := encE) (rfl : [e1, e2][1]? = some e2)) (row_lt (E := encE) (rfl : [e1, e2][1]? = some e2))) ?_
      refine run_lit (c := #[.int .i64 e2.kind, .int .i64 e2.service, .int .i64 e2.group, .int .u64 e2.session, .int .u64 e2.number, .string e2.text]) rfl Tryd.underlying28 Tryd.sizeOf24 Tryd.zeroValue24 rfl rfl (by kernel_rfl) (fun g6 => ?_)
      refine run_append (j := 2) (ti := Tryd.t24) (z := Ent.zero.val) (size := 6) (bytes := 56) (news := [.int .i64 e2.kind, .int .i64 e2.service, .int .i64 e2.group, .int .u64 e2.session, .int .u64 e2.number, .string e2.text]) rfl Tryd.underlying28 (by kernel_rfl) rfl rfl rfl rfl rfl rfl rfl (know_blk (j := 0) rfl (fun q hq => by rw [Nat.zero_add, List.getElem?_toArray])) rfl rfl (by omega) (by unfold maxLen; omega) (fun Ag7 cg7 hg7 => ?_)
      refine run_mv rfl ?_
      refine run_endops ?_
      refine run_endblock ?_
      refine run_region (todo := [0, 1, 2]) rfl rfl ?_
      refine run_mv rfl ?_
      refine run_rd (v := .int .i64 2) rfl (rd_add (r := 2) (by decide)) ?_
      refine run_mv rfl ?_
      refine run_endops ?_
      refine run_again ?_
      refine run_seq rfl ?_
      refine run_seq rfl ?_
      refine run_region (todo := [0, 1, 2, 3, 4, 5, 6, 7]) rfl rfl ?_
      refine run_mv rfl ?_
      refine run_mv rfl ?_
      refine run_rd (v := .int .i64 (([e1, e2].length : Nat) : Int)) rfl (rd_len Tryd.underlying28) ?_
      refine run_rd (v := .bool false) rfl (rd_cmp rfl dl2) ?_
      refine run_mv rfl ?_
      refine run_skipped rfl ?_
      refine run_skipped rfl ?_
      refine run_pick (v := .bool false) rfl rfl ?_
      refine run_endops ?_
      refine run_false rfl rfl ?_
      refine run_exit rfl rfl ?_
      refine run_seq rfl ?_
      refine run_seq rfl ?_
      refine run_region (todo := [0]) rfl rfl ?_
      refine run_mv rfl ?_
      refine run_endops ?_
      refine run_block rfl ?_
      refine run_loop rfl ?_
      refine run_again ?_
      refine run_seq rfl ?_
      refine run_seq rfl ?_
      refine run_region (todo := [0, 1]) rfl rfl ?_
      refine run_mv rfl ?_
      refine run_rd (v := .bool true) rfl (rd_cmp rfl rfl) ?_
      refine run_endops ?_
      refine run_true rfl rfl ?_
      refine run_skip rfl ?_
      refine run_seq rfl ?_
      refine run_block rfl ?_
      refine run_seq rfl ?_
      refine run_draw (l := [0, 1, 2, 3, 4, 5, 6, 7, 8, 9, 10, 11]) rfl rfl (by kernel_rfl) (by kernel_rfl) ?_
      refine q_mv rfl ?_
      refine q_mv rfl ?_
      refine q_val (v := .bool true) rfl (rd_cmp rfl rfl) ?_
      refine q_mv rfl ?_
      refine q_mv rfl ?_
      refine q_val (v := .pointer (some ⟨g2, 0, none⟩)) rfl (rd_indexAddrA (m := 0) (o := 0) Tryd.underlying27 rfl (by decide) Tryd.sizeOf25 rfl) ?_
      refine q_val (v := .agg #[.int .i64 f.a0.kind, .int .i64 f.a0.service, .int .i64 f.a0.group, .int .u64 f.a0.session, .int .u64 f.a0.number, .string f.a0.text, .int .i64 f.a1.kind, .int .i64 f.a1.service, .int .i64 f.a1.group, .int .u64 f.a1.session, .int .u64 f.a1.number, .string f.a1.text]) rfl (rd_loadA (j := 3) (u := #[.int .i64 f.a0.kind, .int .i64 f.a0.service, .int .i64 f.a0.group, .int .u64 f.a0.session, .int .u64 f.a0.number, .string f.a0.text, .int .i64 f.a1.kind, .int .i64 f.a1.service, .int .i64 f.a1.group, .int .u64 f.a1.session, .int .u64 f.a1.number, .string f.a1.text]) Tryd.isAgg25 Tryd.sizeOf25 rfl rfl (by kernel_rfl)) ?_
      refine q_mv rfl ?_
      refine q_val (v := .pointer (some ⟨g1, 0, none⟩)) rfl (rd_indexAddrA (m := 0) (o := 0) Tryd.underlying27 rfl (by decide) Tryd.sizeOf25 rfl) ?_
      refine q_val (v := .agg #[.int .i64 f.a0.kind, .int .i64 f.a0.service, .int .i64 f.a0.group, .int .u64 f.a0.session, .int .u64 f.a0.number, .string f.a0.text, .int .i64 f.a1.kind, .int .i64 f.a1.service, .int .i64 f.a1.group, .int .u64 f.a1.session, .int .u64 f.a1.number, .string f.a1.text]) rfl (rd_loadA (j := 4) (u := #[.int .i64 f.a0.kind, .int .i64 f.a0.service, .int .i64 f.a0.group, .int .u64 f.a0.session, .int .u64 f.a0.number, .string f.a0.text, .int .i64 f.a1.kind, .int .i64 f.a1.service, .int .i64 f.a1.group, .int .u64 f.a1.session, .int .u64 f.a1.number, .string f.a1.text]) Tryd.isAgg25 Tryd.sizeOf25 rfl rfl (by kernel_rfl)) ?_
      refine q_val (v := .bool false) rfl (rd_two_ne hf.a0 hf.a1) ?_
      refine q_pick (v := .bool false) rfl rfl ?_
      refine q_end ?_
      refine run_false rfl rfl ?_
      refine run_skip rfl ?_
      refine run_endblock ?_
      refine run_region (todo := [0, 1, 2]) rfl rfl ?_
      refine run_mv rfl ?_
      refine run_rd (v := .int .i64 1) rfl (rd_add (r := 1) (by decide)) ?_
      refine run_mv rfl ?_
      refine run_endops ?_
      refine run_again ?_
      refine run_seq rfl ?_
      refine run_seq rfl ?_
      refine run_region (todo := [0, 1]) rfl rfl ?_
      refine run_mv rfl ?_
      refine run_rd (v := .bool true) rfl (rd_cmp rfl rfl) ?_
      refine run_endops ?_
      refine run_true rfl rfl ?_
      refine run_skip rfl ?_
      refine run_seq rfl ?_
      refine run_block rfl ?_
      refine run_seq rfl ?_
      refine run_draw (l := [0, 1, 2, 3, 4, 5, 6, 7, 8, 9, 10, 11]) rfl rfl (by kernel_rfl) (by kernel_rfl) ?_
      refine q_mv rfl ?_
      refine q_mv rfl ?_
      refine q_val (v := .bool true) rfl (rd_cmp rfl rfl) ?_
      refine q_mv rfl ?_
      refine q_mv rfl ?_
      refine q_val (v := .pointer (some ⟨g2, 12, none⟩)) rfl (rd_indexAddrA (m := 1) (o := 12) Tryd.underlying27 rfl (by decide) Tryd.sizeOf25 rfl) ?_
      refine q_val (v := .agg #[.int .i64 f.b0.kind, .int .i64 f.b0.service, .int .i64 f.b0.group, .int .u64 f.b0.session, .int .u64 f.b0.number, .string f.b0.text, .int .i64 f.b1.kind, .int .i64 f.b1.service, .int .i64 f.b1.group, .int .u64 f.b1.session, .int .u64 f.b1.number, .string f.b1.text]) rfl (rd_loadA (j := 3) (u := #[.int .i64 f.b0.kind, .int .i64 f.b0.service, .int .i64 f.b0.group, .int .u64 f.b0.session, .int .u64 f.b0.number, .string f.b0.text, .int .i64 f.b1.kind, .int .i64 f.b1.service, .int .i64 f.b1.group, .int .u64 f.b1.session, .int .u64 f.b1.number, .string f.b1.text]) Tryd.isAgg25 Tryd.sizeOf25 rfl rfl (by kernel_rfl)) ?_
      refine q_mv rfl ?_
      refine q_val (v := .pointer (some ⟨g1, 12, none⟩)) rfl (rd_indexAddrA (m := 1) (o := 12) Tryd.underlying27 rfl (by decide) Tryd.sizeOf25 rfl) ?_
      refine q_val (v := .agg #[.int .i64 f.b0.kind, .int .i64 f.b0.service, .int .i64 f.b0.group, .int .u64 f.b0.session, .int .u64 f.b0.number, .string f.b0.text, .int .i64 f.b1.kind, .int .i64 f.b1.service, .int .i64 f.b1.group, .int .u64 f.b1.session, .int .u64 f.b1.number, .string f.b1.text]) rfl (rd_loadA (j := 4) (u := #[.int .i64 f.b0.kind, .int .i64 f.b0.service, .int .i64 f.b0.group, .int .u64 f.b0.session, .int .u64 f.b0.number, .string f.b0.text, .int .i64 f.b1.kind, .int .i64 f.b1.service, .int .i64 f.b1.group, .int .u64 f.b1.session, .int .u64 f.b1.number, .string f.b1.text]) Tryd.isAgg25 Tryd.sizeOf25 rfl rfl (by kernel_rfl)) ?_
      refine q_val (v := .bool false) rfl (rd_two_ne hf.b0 hf.b1) ?_
      refine q_pick (v := .bool false) rfl rfl ?_
      refine q_end ?_
      refine run_false rfl rfl ?_
      refine run_skip rfl ?_
      refine run_endblock ?_
      refine run_region (todo := [0, 1, 2]) rfl rfl ?_
      refine run_mv rfl ?_
      refine run_rd (v := .int .i64 2) rfl (rd_add (r := 2) (by decide)) ?_
      refine run_mv rfl ?_
      refine run_endops ?_
      refine run_again ?_
      refine run_seq rfl ?_
      refine run_seq rfl ?_
      refine run_region (todo := [0, 1]) rfl rfl ?_
      refine run_mv rfl ?_
      refine run_rd (v := .bool true) rfl (rd_cmp rfl rfl) ?_
      refine run_endops ?_
      refine run_true rfl rfl ?_
      refine run_skip rfl ?_
      refine run_seq rfl ?_
      refine run_block rfl ?_
      refine run_seq rfl ?_
      refine run_draw (l := [0, 1, 2, 3, 4, 5, 6, 7, 8, 9, 10, 11]) rfl rfl (by kernel_rfl) (by kernel_rfl) ?_
      refine q_mv rfl ?_
      refine q_mv rfl ?_
      refine q_val (v := .bool false) rfl (rd_cmp rfl rfl) ?_
      refine q_mv rfl ?_
      refine q_skip rfl ?_
      refine q_skip rfl ?_
      refine q_skip rfl ?_
      refine q_skip rfl ?_
      refine q_skip rfl ?_
      refine q_skip rfl ?_
      refine q_skip rfl ?_
      refine q_pick (v := .bool false) rfl rfl ?_
      refine q_end ?_
      refine run_false rfl rfl ?_
      refine run_skip rfl ?_
      refine run_endblock ?_
      refine run_region (todo := [0, 1, 2]) rfl rfl ?_
      refine run_mv rfl ?_
      refine run_rd (v := .int .i64 3) rfl (rd_add (r := 3) (by decide)) ?_
      refine run_mv rfl ?_
      refine run_endops ?_
      refine run_again ?_
      refine run_seq rfl ?_
      refine run_seq rfl ?_
      refine run_region (todo := [0, 1]) rfl rfl ?_
      refine run_mv rfl ?_
      refine run_rd (v := .bool false) rfl (rd_cmp rfl rfl) ?_
      refine run_endops ?_
      refine run_false rfl rfl ?_
      refine run_exit rfl rfl ?_
      refine run_seq rfl ?_
      refine run_par' rfl (by kernel_rfl) (.val [] (fun _ => .agg ((Fr.mk f.a0 f.a1 f.b0 f.b1 e1 e2).arr)) :: .val [] (fun _ => .int .i64 2) :: .rel [] (fun _ v h => ∃ Ag8 cg8, v = .slice Ag8 (((Fr.mk f.a0 f.a1 f.b0 f.b1 e1 e2).lane 2).length) cg8 ∧ h = [.row Ag8 cg8 24 6 (((Fr.mk f.a0 f.a1 f.b0 f.b1 e1 e2).lane 2).length) (encE.row ((Fr.mk f.a0 f.a1 f.b0 f.b1 e1 e2).lane 2))]) :: .val [] (fun _ => .slice Ag7 2 cg7) :: .val [] (fun _ => .bool true) :: .val [] (fun _ => .bool true) :: .val [] (fun _ => .agg ((Fr.mk f.a0 f.a1 f.b0 f.b1 e1 e2).arr)) :: .val [] (fun _ => .int .i64 2) :: .val [] (fun _ => .slice A ([e1, e2].length) c) :: .val [] (fun _ => .agg ((Fr.mk f.a0 f.a1 f.b0 f.b1 e1 e2).arr)) :: .val [] (fun _ => .agg ((Fr.mk f.a0 f.a1 f.b0 f.b1 e1 e2).arr)) :: .val [] (fun _ => .bool true) :: .val [] (fun _ => .bool true) :: .val [] (fun _ => .bool true) :: []) (⟨[], [], []⟩ :: ⟨[], [], []⟩ :: ⟨[0, 1], [], []⟩ :: ⟨[], [], []⟩ :: ⟨[2, 3], [2], []⟩ :: ⟨[4], [], []⟩ :: ⟨[5], [], []⟩ :: ⟨[5], [], []⟩ :: ⟨[5], [], []⟩ :: ⟨[5, 6, 7, 8], [], []⟩ :: ⟨[5], [], []⟩ :: ⟨[5, 9, 10], [], []⟩ :: ⟨[5, 11], [], []⟩ :: ⟨[12], [], []⟩ :: []) [(1, .int .i64 2), (2, .slice A ([e1, e2].length) c), (7, .pointer (some ⟨g2, 0, none⟩)), (8, .slice Ag7 2 cg7)] (by kernel_rfl) (by kernel_rfl) ⟨rfl, rfl, rfl, rfl, trivial⟩ ⟨trivial, trivial, trivial, trivial, trivial, trivial, trivial, trivial, trivial, trivial, trivial, trivial, trivial, trivial, trivial⟩ ?_ (fun V hs hq => ?_)
      · refine ⟨fun V hs hB => ob_rd rfl rfl (rd_loadW (j := 3) Tryd.isAgg27 Tryd.sizeOf27 rfl rfl), ?_⟩
        refine ⟨fun V hs hB => ob_mv rfl rfl, ?_⟩
        refine ⟨fun V hs hB => ob_call rfl rfl Tryd.call10 (fun w hw => lane_any (Fr.mk f.a0 f.a1 f.b0 f.b1 e1 e2) (⟨hf.a0, hf.a1, hf.b0, hf.b1, he1, he2⟩ : (Fr.mk f.a0 f.a1 f.b0 f.b1 e1 e2).Ok) 2 w), ?_⟩
        refine ⟨fun V hs hB => ob_mv rfl rfl, ?_⟩
        refine ⟨fun V hs hB => ?_, ?_⟩
        · obtain ⟨Ag8, cg8, hV2, hh2⟩ := hB 2 (by simp)
          refine ob_set (j := 2) hV2 hh2 ?_
          exact ob_pf rfl rfl Tryd.call9 (fun w hw => by have h := fn_entries ((Fr.mk f.a0 f.a1 f.b0 f.b1 e1 e2).lane 2) [e1, e2] Ag8 Ag7 cg8 cg7 w ((know_row (j := 0) rfl) w hw) ((know_row (j := 3) rfl) w hw) (lane_ok (⟨hf.a0, hf.a1, hf.b0, hf.b1, he1, he2⟩ : (Fr.mk f.a0 f.a1 f.b0 f.b1 e1 e2).Ok) _) (by intro e he; simp at he; rcases he with rfl | rfl <;> assumption) (Nat.le_trans (lane_le _ _) (by decide)); rw [decide_eq_true (by simp [Fr.lane, Fr.two, hb1p, hb2p])] at h; exact h)
        refine ⟨fun V hs hB => ob_mv rfl rfl, ?_⟩
        refine ⟨fun V hs hB => ob_rd rfl rfl (rd_loadW (j := 3) Tryd.isAgg27 Tryd.sizeOf27 rfl rfl), ?_⟩
        refine ⟨fun V hs hB => ob_mv rfl rfl, ?_⟩
        refine ⟨fun V hs hB => ob_mv rfl rfl, ?_⟩
        refine ⟨fun V hs hB => ob_pf rfl rfl Tryd.call12 (fun w hw => with_any (Fr.mk f.a0 f.a1 f.b0 f.b1 e1 e2) 2 [e1, e2] A c w ((know_old hA) w hw)), ?_⟩
        refine ⟨fun V hs hB => ob_rd rfl rfl (rd_loadW (j := 3) Tryd.isAgg27 Tryd.sizeOf27 rfl rfl), ?_⟩
        refine ⟨fun V hs hB => ob_rd rfl rfl (rd_fr_eqlD (⟨hf.a0, hf.a1, hf.b0, hf.b1, he1, he2⟩ : (Fr.mk f.a0 f.a1 f.b0 f.b1 e1 e2).Ok) (⟨hf.a0, hf.a1, hf.b0, hf.b1, he1, he2⟩ : (Fr.mk f.a0 f.a1 f.b0 f.b1 e1 e2).Ok) (decide_eq_true rfl)), ?_⟩
        refine ⟨fun V hs hB => ob_pick rfl rfl rfl, ?_⟩
        refine ⟨fun V hs hB => ob_mv rfl rfl, ?_⟩
        trivial
      obtain ⟨Ag8, cg8, hV2, hh2⟩ := hq 2 (of_decide_eq_true (by kernel_rfl))
      rw [show relsOf _ = [2] from by kernel_rfl]
      simp only [List.flatMap_cons, List.flatMap_nil, List.append_nil, hh2]
      refine any_end (by kernel_rfl) ?_
      refine run_less (ρ' := [(6, .bool true)]) (H' := [.row Ag8 cg8 24 6 (((Fr.mk f.a0 f.a1 f.b0 f.b1 e1 e2).lane 2).length) (encE.row ((Fr.mk f.a0 f.a1 f.b0 f.b1 e1 e2).lane 2)), .blk g6 (.cells #[.int .i64 e2.kind, .int .i64 e2.service, .int .i64 e2.group, .int .u64 e2.session, .int .u64 e2.number, .string e2.text] 24), .blk g4 (.cells #[.int .i64 e1.kind, .int .i64 e1.service, .int .i64 e1.group, .int .u64 e1.session, .int .u64 e1.number, .string e1.text] 24), .row Ag7 cg7 24 6 2 ([] ++ [.int .i64 e1.kind, .int .i64 e1.service, .int .i64 e1.group, .int .u64 e1.session, .int .u64 e1.number, .string e1.text] ++ [.int .i64 e2.kind, .int .i64 e2.service, .int .i64 e2.group, .int .u64 e2.session, .int .u64 e2.number, .string e2.text]), .blk g2 (.cells ((Fr.mk f.a0 f.a1 f.b0 f.b1 e1 e2).arr) 27), .blk g1 (.cells f.arr 27)]) [0, 1, 2, 3, 4, 5] ?_ ⟨rfl, trivial⟩ ⟨rfl, rfl, rfl, rfl, rfl, rfl, trivial⟩ (by decide)
      refine run_ret rfl (v := .bool true) (res1 rfl rfl) ?_
      rfl
    · have hb2p := of_decide_eq_false hb2
      refine run_skip rfl ?_
      refine run_endblock ?_
      refine run_region (todo := [0, 1, 2]) rfl rfl ?_
      refine run_mv rfl ?_
      refine run_rd (v := .int .i64 2) rfl (rd_add (r := 2) (by decide)) ?_
      refine run_mv rfl ?_
      refine run_endops ?_
      refine run_again ?_
      refine run_seq rfl ?_
      refine run_seq rfl ?_
      refine run_region (todo := [0, 1, 2, 3, 4, 5, 6, 7]) rfl rfl ?_
      refine run_mv rfl ?_
      refine run_mv rfl ?_
      refine run_rd (v := .int .i64 (([e1, e2].length : Nat) : Int)) rfl (rd_len Tryd.underlying28) ?_
      refine run_rd (v := .bool false) rfl (rd_cmp rfl dl2) ?_
      refine run_mv rfl ?_
      refine run_skipped rfl ?_
      refine run_skipped rfl ?_
      refine run_pick (v := .bool false) rfl rfl ?_
      refine run_endops ?_
      refine run_false rfl rfl ?_
      refine run_exit rfl rfl ?_
      refine run_seq rfl ?_
      refine run_seq rfl ?_
      refine run_region (todo := [0]) rfl rfl ?_
      refine run_mv rfl ?_
      refine run_endops ?_
      refine run_block rfl ?_
      refine run_loop rfl ?_
      refine run_again ?_
      refine run_seq rfl ?_
      refine run_seq rfl ?_
      refine run_region (todo := [0, 1]) rfl rfl ?_
      refine run_mv rfl ?_
      refine run_rd (v := .bool true) rfl (rd_cmp rfl rfl) ?_
      refine run_endops ?_
      refine run_true rfl rfl ?_
      refine run_skip rfl ?_
      refine run_seq rfl ?_
      refine run_block rfl ?_
      refine run_seq rfl ?_
      refine run_draw (l := [0, 1, 2, 3, 4, 5, 6, 7, 8, 9, 10, 11]) rfl rfl (by kernel_rfl) (by kernel_rfl) ?_
      refine q_mv rfl ?_
      refine q_mv rfl ?_
      refine q_val (v := .bool true) rfl (rd_cmp rfl rfl) ?_
      refine q_mv rfl ?_
      refine q_mv rfl ?_
      refine q_val (v := .pointer (some ⟨g2, 0, none⟩)) rfl (rd_indexAddrA (m := 0) (o := 0) Tryd.underlying27 rfl (by decide) Tryd.sizeOf25 rfl) ?_
      refine q_val (v := .agg #[.int .i64 f.a0.kind, .int .i64 f.a0.service, .int .i64 f.a0.group, .int .u64 f.a0.session, .int .u64 f.a0.number, .string f.a0.text, .int .i64 f.a1.kind, .int .i64 f.a1.service, .int .i64 f.a1.group, .int .u64 f.a1.session, .int .u64 f.a1.number, .string f.a1.text]) rfl (rd_loadA (j := 2) (u := #[.int .i64 f.a0.kind, .int .i64 f.a0.service, .int .i64 f.a0.group, .int .u64 f.a0.session, .int .u64 f.a0.number, .string f.a0.text, .int .i64 f.a1.kind, .int .i64 f.a1.service, .int .i64 f.a1.group, .int .u64 f.a1.session, .int .u64 f.a1.number, .string f.a1.text]) Tryd.isAgg25 Tryd.sizeOf25 rfl rfl (by kernel_rfl)) ?_
      refine q_mv rfl ?_
      refine q_val (v := .pointer (some ⟨g1, 0, none⟩)) rfl (rd_indexAddrA (m := 0) (o := 0) Tryd.underlying27 rfl (by decide) Tryd.sizeOf25 rfl) ?_
      refine q_val (v := .agg #[.int .i64 f.a0.kind, .int .i64 f.a0.service, .int .i64 f.a0.group, .int .u64 f.a0.session, .int .u64 f.a0.number, .string f.a0.text, .int .i64 f.a1.kind, .int .i64 f.a1.service, .int .i64 f.a1.group, .int .u64 f.a1.session, .int .u64 f.a1.number, .string f.a1.text]) rfl (rd_loadA (j := 3) (u := #[.int .i64 f.a0.kind, .int .i64 f.a0.service, .int .i64 f.a0.group, .int .u64 f.a0.session, .int .u64 f.a0.number, .string f.a0.text, .int .i64 f.a1.kind, .int .i64 f.a1.service, .int .i64 f.a1.group, .int .u64 f.a1.session, .int .u64 f.a1.number, .string f.a1.text]) Tryd.isAgg25 Tryd.sizeOf25 rfl rfl (by kernel_rfl)) ?_
      refine q_val (v := .bool false) rfl (rd_two_ne hf.a0 hf.a1) ?_
      refine q_pick (v := .bool false) rfl rfl ?_
      refine q_end ?_
      refine run_false rfl rfl ?_
      refine run_skip rfl ?_
      refine run_endblock ?_
      refine run_region (todo := [0, 1, 2]) rfl rfl ?_
      refine run_mv rfl ?_
      refine run_rd (v := .int .i64 1) rfl (rd_add (r := 1) (by decide)) ?_
      refine run_mv rfl ?_
      refine run_endops ?_
      refine run_again ?_
      refine run_seq rfl ?_
      refine run_seq rfl ?_
      refine run_region (todo := [0, 1]) rfl rfl ?_
      refine run_mv rfl ?_
      refine run_rd (v := .bool true) rfl (rd_cmp rfl rfl) ?_
      refine run_endops ?_
      refine run_true rfl rfl ?_
      refine run_skip rfl ?_
      refine run_seq rfl ?_
      refine run_block rfl ?_
      refine run_seq rfl ?_
      refine run_draw (l := [0, 1, 2, 3, 4, 5, 6, 7, 8, 9, 10, 11]) rfl rfl (by kernel_rfl) (by kernel_rfl) ?_
      refine q_mv rfl ?_
      refine q_mv rfl ?_
      refine q_val (v := .bool true) rfl (rd_cmp rfl rfl) ?_
      refine q_mv rfl ?_
      refine q_mv rfl ?_
      refine q_val (v := .pointer (some ⟨g2, 12, none⟩)) rfl (rd_indexAddrA (m := 1) (o := 12) Tryd.underlying27 rfl (by decide) Tryd.sizeOf25 rfl) ?_
      refine q_val (v := .agg #[.int .i64 f.b0.kind, .int .i64 f.b0.service, .int .i64 f.b0.group, .int .u64 f.b0.session, .int .u64 f.b0.number, .string f.b0.text, .int .i64 f.b1.kind, .int .i64 f.b1.service, .int .i64 f.b1.group, .int .u64 f.b1.session, .int .u64 f.b1.number, .string f.b1.text]) rfl (rd_loadA (j := 2) (u := #[.int .i64 f.b0.kind, .int .i64 f.b0.service, .int .i64 f.b0.group, .int .u64 f.b0.session, .int .u64 f.b0.number, .string f.b0.text, .int .i64 f.b1.kind, .int .i64 f.b1.service, .int .i64 f.b1.group, .int .u64 f.b1.session, .int .u64 f.b1.number, .string f.b1.text]) Tryd.isAgg25 Tryd.sizeOf25 rfl rfl (by kernel_rfl)) ?_
      refine q_mv rfl ?_
      refine q_val (v := .pointer (some ⟨g1, 12, none⟩)) rfl (rd_indexAddrA (m := 1) (o := 12) Tryd.underlying27 rfl (by decide) Tryd.sizeOf25 rfl) ?_
      refine q_val (v := .agg #[.int .i64 f.b0.kind, .int .i64 f.b0.service, .int .i64 f.b0.group, .int .u64 f.b0.session, .int .u64 f.b0.number, .string f.b0.text, .int .i64 f.b1.kind, .int .i64 f.b1.service, .int .i64 f.b1.group, .int .u64 f.b1.session, .int .u64 f.b1.number, .string f.b1.text]) rfl (rd_loadA (j := 3) (u := #[.int .i64 f.b0.kind, .int .i64 f.b0.service, .int .i64 f.b0.group, .int .u64 f.b0.session, .int .u64 f.b0.number, .string f.b0.text, .int .i64 f.b1.kind, .int .i64 f.b1.service, .int .i64 f.b1.group, .int .u64 f.b1.session, .int .u64 f.b1.number, .string f.b1.text]) Tryd.isAgg25 Tryd.sizeOf25 rfl rfl (by kernel_rfl)) ?_
      refine q_val (v := .bool false) rfl (rd_two_ne hf.b0 hf.b1) ?_
      refine q_pick (v := .bool false) rfl rfl ?_
      refine q_end ?_
      refine run_false rfl rfl ?_
      refine run_skip rfl ?_
      refine run_endblock ?_
      refine run_region (todo := [0, 1, 2]) rfl rfl ?_
      refine run_mv rfl ?_
      refine run_rd (v := .int .i64 2) rfl (rd_add (r := 2) (by decide)) ?_
      refine run_mv rfl ?_
      refine run_endops ?_
      refine run_again ?_
      refine run_seq rfl ?_
      refine run_seq rfl ?_
      refine run_region (todo := [0, 1]) rfl rfl ?_
      refine run_mv rfl ?_
      refine run_rd (v := .bool true) rfl (rd_cmp rfl rfl) ?_
      refine run_endops ?_
      refine run_true rfl rfl ?_
      refine run_skip rfl ?_
      refine run_seq rfl ?_
      refine run_block rfl ?_
      refine run_seq rfl ?_
      refine run_draw (l := [0, 1, 2, 3, 4, 5, 6, 7, 8, 9, 10, 11]) rfl rfl (by kernel_rfl) (by kernel_rfl) ?_
      refine q_mv rfl ?_
      refine q_mv rfl ?_
      refine q_val (v := .bool false) rfl (rd_cmp rfl rfl) ?_
      refine q_mv rfl ?_
      refine q_skip rfl ?_
      refine q_skip rfl ?_
      refine q_skip rfl ?_
      refine q_skip rfl ?_
      refine q_skip rfl ?_
      refine q_skip rfl ?_
      refine q_skip rfl ?_
      refine q_pick (v := .bool false) rfl rfl ?_
      refine q_end ?_
      refine run_false rfl rfl ?_
      refine run_skip rfl ?_
      refine run_endblock ?_
      refine run_region (todo := [0, 1, 2]) rfl rfl ?_
      refine run_mv rfl ?_
      refine run_rd (v := .int .i64 3) rfl (rd_add (r := 3) (by decide)) ?_
      refine run_mv rfl ?_
      refine run_endops ?_
      refine run_again ?_
      refine run_seq rfl ?_
      refine run_seq rfl ?_
      refine run_region (todo := [0, 1]) rfl rfl ?_
      refine run_mv rfl ?_
      refine run_rd (v := .bool false) rfl (rd_cmp rfl rfl) ?_
      refine run_endops ?_
      refine run_false rfl rfl ?_
      refine run_exit rfl rfl ?_
      refine run_seq rfl ?_
      refine run_par' rfl (by kernel_rfl) (.val [] (fun _ => .agg ((Fr.mk f.a0 f.a1 f.b0 f.b1 e1 e2).arr)) :: .val [] (fun _ => .int .i64 2) :: .rel [] (fun _ v h => ∃ Ag9 cg9, v = .slice Ag9 (((Fr.mk f.a0 f.a1 f.b0 f.b1 e1 e2).lane 2).length) cg9 ∧ h = [.row Ag9 cg9 24 6 (((Fr.mk f.a0 f.a1 f.b0 f.b1 e1 e2).lane 2).length) (encE.row ((Fr.mk f.a0 f.a1 f.b0 f.b1 e1 e2).lane 2))]) :: .val [] (fun _ => .slice Ag5 1 cg5) :: .val [] (fun _ => .bool true) :: .val [] (fun _ => .bool true) :: .val [] (fun _ => .agg ((Fr.mk f.a0 f.a1 f.b0 f.b1 e1 e2).arr)) :: .val [] (fun _ => .int .i64 2) :: .val [] (fun _ => .slice A ([e1, e2].length) c) :: .val [] (fun _ => .agg ((Fr.mk f.a0 f.a1 f.b0 f.b1 e1 e2).arr)) :: .val [] (fun _ => .agg ((Fr.mk f.a0 f.a1 f.b0 f.b1 e1 e2).arr)) :: .val [] (fun _ => .bool true) :: .val [] (fun _ => .bool true) :: .val [] (fun _ => .bool true) :: []) (⟨[], [], []⟩ :: ⟨[], [], []⟩ :: ⟨[0, 1], [], []⟩ :: ⟨[], [], []⟩ :: ⟨[2, 3], [2], []⟩ :: ⟨[4], [], []⟩ :: ⟨[5], [], []⟩ :: ⟨[5], [], []⟩ :: ⟨[5], [], []⟩ :: ⟨[5, 6, 7, 8], [], []⟩ :: ⟨[5], [], []⟩ :: ⟨[5, 9, 10], [], []⟩ :: ⟨[5, 11], [], []⟩ :: ⟨[12], [], []⟩ :: []) [(1, .int .i64 2), (2, .slice A ([e1, e2].length) c), (7, .pointer (some ⟨g2, 0, none⟩)), (8, .slice Ag5 1 cg5)] (by kernel_rfl) (by kernel_rfl) ⟨rfl, rfl, rfl, rfl, trivial⟩ ⟨trivial, trivial, trivial, trivial, trivial, trivial, trivial, trivial, trivial, trivial, trivial, trivial, trivial, trivial, trivial⟩ ?_ (fun V hs hq => ?_)
      · refine ⟨fun V hs hB => ob_rd rfl rfl (rd_loadW (j := 2) Tryd.isAgg27 Tryd.sizeOf27 rfl rfl), ?_⟩
        refine ⟨fun V hs hB => ob_mv rfl rfl, ?_⟩
        refine ⟨fun V hs hB => ob_call rfl rfl Tryd.call10 (fun w hw => lane_any (Fr.mk f.a0 f.a1 f.b0 f.b1 e1 e2) (⟨hf.a0, hf.a1, hf.b0, hf.b1, he1, he2⟩ : (Fr.mk f.a0 f.a1 f.b0 f.b1 e1 e2).Ok) 2 w), ?_⟩
        refine ⟨fun V hs hB => ob_mv rfl rfl, ?_⟩
        refine ⟨fun V hs hB => ?_, ?_⟩
        · obtain ⟨Ag9, cg9, hV2, hh2⟩ := hB 2 (by simp)
          refine ob_set (j := 2) hV2 hh2 ?_
          exact ob_pf rfl rfl Tryd.call9 (fun w hw => by have h := fn_entries ((Fr.mk f.a0 f.a1 f.b0 f.b1 e1 e2).lane 2) [e1] Ag9 Ag5 cg9 cg5 w ((know_row (j := 0) rfl) w hw) ((know_row (j := 2) rfl) w hw) (lane_ok (⟨hf.a0, hf.a1, hf.b0, hf.b1, he1, he2⟩ : (Fr.mk f.a0 f.a1 f.b0 f.b1 e1 e2).Ok) _) (by intro e he; simp at he; rcases he with rfl <;> assumption) (Nat.le_trans (lane_le _ _) (by decide)); rw [decide_eq_true (by simp [Fr.lane, Fr.two, hb1p, hb2p])] at h; exact h)
        refine ⟨fun V hs hB => ob_mv rfl rfl, ?_⟩
        refine ⟨fun V hs hB => ob_rd rfl rfl (rd_loadW (j := 2) Tryd.isAgg27 Tryd.sizeOf27 rfl rfl), ?_⟩
        refine ⟨fun V hs hB => ob_mv rfl rfl, ?_⟩
        refine ⟨fun V hs hB => ob_mv rfl rfl, ?_⟩
        refine ⟨fun V hs hB => ob_pf rfl rfl Tryd.call12 (fun w hw => with_any (Fr.mk f.a0 f.a1 f.b0 f.b1 e1 e2) 2 [e1, e2] A c w ((know_old hA) w hw)), ?_⟩
        refine ⟨fun V hs hB => ob_rd rfl rfl (rd_loadW (j := 2) Tryd.isAgg27 Tryd.sizeOf27 rfl rfl), ?_⟩
        refine ⟨fun V hs hB => ob_rd rfl rfl (rd_fr_eqlD (⟨hf.a0, hf.a1, hf.b0, hf.b1, he1, he2⟩ : (Fr.mk f.a0 f.a1 f.b0 f.b1 e1 e2).Ok) (⟨hf.a0, hf.a1, hf.b0, hf.b1, he1, he2⟩ : (Fr.mk f.a0 f.a1 f.b0 f.b1 e1 e2).Ok) (decide_eq_true rfl)), ?_⟩
        refine ⟨fun V hs hB => ob_pick rfl rfl rfl, ?_⟩
        refine ⟨fun V hs hB => ob_mv rfl rfl, ?_⟩
        trivial
      obtain ⟨Ag9, cg9, hV2, hh2⟩ := hq 2 (of_decide_eq_true (by kernel_rfl))
      rw [show relsOf _ = [2] from by kernel_rfl]
      simp only [List.flatMap_cons, List.flatMap_nil, List.append_nil, hh2]
      refine any_end (by kernel_rfl) ?_
      refine run_less (ρ' := [(6, .bool true)]) (H' := [.row Ag9 cg9 24 6 (((Fr.mk f.a0 f.a1 f.b0 f.b1 e1 e2).lane 2).length) (encE.row ((Fr.mk f.a0 f.a1 f.b0 f.b1 e1 e2).lane 2)), .blk g4 (.cells #[.int .i64 e1.kind, .int .i64 e1.service, .int .i64 e1.group, .int .u64 e1.session, .int .u64 e1.number, .string e1.text] 24), .row Ag5 cg5 24 6 1 ([] ++ [.int .i64 e1.kind, .int .i64 e1.service, .int .i64 e1.group, .int .u64 e1.session, .int .u64 e1.number, .string e1.text]), .blk g2 (.cells ((Fr.mk f.a0 f.a1 f.b0 f.b1 e1 e2).arr) 27), .blk g1 (.cells f.arr 27)]) [0, 1, 2, 3, 4] ?_ ⟨rfl, trivial⟩ ⟨rfl, rfl, rfl, rfl, rfl, trivial⟩ (by decide)
      refine run_ret rfl (v := .bool true) (res1 rfl rfl) ?_
      rfl
  · have hb1p := of_decide_eq_false hb1
    refine run_skip rfl ?_
    refine run_endblock ?_
    refine run_region (todo := [0, 1, 2]) rfl rfl ?_
    refine run_mv rfl ?_
    refine run_rd (v := .int .i64 1) rfl (rd_add (r := 1) (by decide)) ?_
    refine run_mv rfl ?_
    refine run_endops ?_
    refine run_again ?_
    refine run_seq rfl ?_
    refine run_seq rfl ?_
    refine run_region (todo := [0, 1, 2, 3, 4, 5, 6, 7]) rfl rfl ?_
    refine run_mv rfl ?_
    refine run_mv rfl ?_
    refine run_rd (v := .int .i64 (([e1, e2].length : Nat) : Int)) rfl (rd_len Tryd.underlying28) ?_
    refine run_rd (v := .bool true) rfl (rd_cmp rfl dl1) ?_
    refine run_mv rfl ?_
    refine run_mvG rfl ?_
    refine run_rdG (v := .bool true) rfl (rd_cmp rfl rfl) ?_
    refine run_pick (v := .bool true) rfl rfl ?_
    refine run_endops ?_
    refine run_true rfl rfl ?_
    refine run_skip rfl ?_
    refine run_seq rfl ?_
    refine run_block rfl ?_
    refine run_seq rfl ?_
    refine run_region (todo := [0, 1, 2, 3, 4, 5]) rfl rfl ?_
    refine run_mv rfl ?_
    refine run_mv rfl ?_
    refine run_rd (v := .pointer (elemAddr A (1 * 6))) rfl (rd_elem (m := 1) (o := 1 * 6) (know_old hA) Tryd.underlying28 Tryd.sizeOf24 rfl (lt_of_item (rfl : [e1, e2][1]? = some e2) rfl) (Nat.lt_of_lt_of_le (m := 1 * 6 + 6) (by omega) (row_lt (E := encE) (rfl : [e1, e2][1]? = some e2))) rfl) ?_
    refine run_rd (v := .agg e2.arr) rfl (rd_elemLoadA (u := e2.arr) (know_old hA) Tryd.isAgg24 Tryd.sizeOf24 rfl (row_all (E := encE) (rfl : [e1, e2][1]? = some e2)) (row_lt (E := encE) (rfl : [e1, e2][1]? = some e2))) ?_
    refine run_rd (v := .agg #[.int .i64 0, .int .i64 0, .int .i64 0, .int .u64 0, .int .u64 0, .string ⟨#[]⟩]) rfl ((fun w _ => by kernel_rfl)) ?_
    refine run_rd (v := .bool (decide (e2 ≠ Ent.zero))) rfl (rd_ent_nz he2) ?_
    refine run_endops ?_
    refine run_if rfl rfl (fun hb3 => ?_) (fun hb3 => ?_)
    · have hb3p := of_decide_eq_true hb3
      refine run_region (todo := [0, 1, 2, 3, 4, 5, 6, 7]) rfl rfl ?_
      refine run_mv rfl ?_
      refine run_mv rfl ?_
      refine run_mv rfl ?_
      refine run_rd (v := .pointer (elemAddr A (1 * 6))) rfl (rd_elem (m := 1) (o := 1 * 6) (know_old hA) Tryd.underlying28 Tryd.sizeOf24 rfl (lt_of_item (rfl : [e1, e2][1]? = some e2) rfl) (Nat.lt_of_lt_of_le (m := 1 * 6 + 6) (by omega) (row_lt (E := encE) (rfl : [e1, e2][1]? = some e2))) rfl) ?_
      refine run_rd (v := .agg e2.arr) rfl (rd_elemLoadA (u := e2.arr) (know_old hA) Tryd.isAgg24 Tryd.sizeOf24 rfl (row_all (E := encE) (rfl : [e1, e2][1]? = some e2)) (row_lt (E := encE) (rfl : [e1, e2][1]? = some e2))) ?_
      refine run_lit (c := #[.int .i64 e2.kind, .int .i64 e2.service, .int .i64 e2.group, .int .u64 e2.session, .int .u64 e2.number, .string e2.text]) rfl Tryd.underlying28 Tryd.sizeOf24 Tryd.zeroValue24 rfl rfl (by kernel_rfl) (fun g10 => ?_)
      refine run_append (j := 1) (ti := Tryd.t24) (z := Ent.zero.val) (size := 6) (bytes := 56) (news := [.int .i64 e2.kind, .int .i64 e2.service, .int .i64 e2.group, .int .u64 e2.session, .int .u64 e2.number, .string e2.text]) rfl Tryd.underlying28 (by kernel_rfl) rfl rfl rfl rfl rfl rfl rfl (know_blk (j := 0) rfl (fun q hq => by rw [Nat.zero_add, List.getElem?_toArray])) rfl rfl (by omega) (by unfold maxLen; omega) (fun Ag11 cg11 hg11 => ?_)
      refine run_mv rfl ?_
      refine run_endops ?_
      refine run_endblock ?_
      refine run_region (todo := [0, 1, 2]) rfl rfl ?_
      refine run_mv rfl ?_
      refine run_rd (v := .int .i64 2) rfl (rd_add (r := 2) (by decide)) ?_
      refine run_mv rfl ?_
      refine run_endops ?_
      refine run_again ?_
      refine run_seq rfl ?_
      refine run_seq rfl ?_
      refine run_region (todo := [0, 1, 2, 3, 4, 5, 6, 7]) rfl rfl ?_
      refine run_mv rfl ?_
      refine run_mv rfl ?_
      refine run_rd (v := .int .i64 (([e1, e2].length : Nat) : Int)) rfl (rd_len Tryd.underlying28) ?_
      refine run_rd (v := .bool false) rfl (rd_cmp rfl dl2) ?_
      refine run_mv rfl ?_
      refine run_skipped rfl ?_
      refine run_skipped rfl ?_
      refine run_pick (v := .bool false) rfl rfl ?_
      refine run_endops ?_
      refine run_false rfl rfl ?_
      refine run_exit rfl rfl ?_
      refine run_seq rfl ?_
      refine run_seq rfl ?_
      refine run_region (todo := [0]) rfl rfl ?_
      refine run_mv rfl ?_
      refine run_endops ?_
      refine run_block rfl ?_
      refine run_loop rfl ?_
      refine run_again ?_
      refine run_seq rfl ?_
      refine run_seq rfl ?_
      refine run_region (todo := [0, 1]) rfl rfl ?_
      refine run_mv rfl ?_
      refine run_rd (v := .bool true) rfl (rd_cmp rfl rfl) ?_
      refine run_endops ?_
      refine run_true rfl rfl ?_
      refine run_skip rfl ?_
      refine run_seq rfl ?_
      refine run_block rfl ?_
      refine run_seq rfl ?_
      refine run_draw (l := [0, 1, 2, 3, 4, 5, 6, 7, 8, 9, 10, 11]) rfl rfl (by kernel_rfl) (by kernel_rfl) ?_
      refine q_mv rfl ?_
      refine q_mv rfl ?_
      refine q_val (v := .bool true) rfl (rd_cmp rfl rfl) ?_
      refine q_mv rfl ?_
      refine q_mv rfl ?_
      refine q_val (v := .pointer (some ⟨g2, 0, none⟩)) rfl (rd_indexAddrA (m := 0) (o := 0) Tryd.underlying27 rfl (by decide) Tryd.sizeOf25 rfl) ?_
      refine q_val (v := .agg #[.int .i64 f.a0.kind, .int .i64 f.a0.service, .int .i64 f.a0.group, .int .u64 f.a0.session, .int .u64 f.a0.number, .string f.a0.text, .int .i64 f.a1.kind, .int .i64 f.a1.service, .int .i64 f.a1.group, .int .u64 f.a1.session, .int .u64 f.a1.number, .string f.a1.text]) rfl (rd_loadA (j := 2) (u := #[.int .i64 f.a0.kind, .int .i64 f.a0.service, .int .i64 f.a0.group, .int .u64 f.a0.session, .int .u64 f.a0.number, .string f.a0.text, .int .i64 f.a1.kind, .int .i64 f.a1.service, .int .i64 f.a1.group, .int .u64 f.a1.session, .int .u64 f.a1.number, .string f.a1.text]) Tryd.isAgg25 Tryd.sizeOf25 rfl rfl (by kernel_rfl)) ?_
      refine q_mv rfl ?_
      refine q_val (v := .pointer (some ⟨g1, 0, none⟩)) rfl (rd_indexAddrA (m := 0) (o := 0) Tryd.underlying27 rfl (by decide) Tryd.sizeOf25 rfl) ?_
      refine q_val (v := .agg #[.int .i64 f.a0.kind, .int .i64 f.a0.service, .int .i64 f.a0.group, .int .u64 f.a0.session, .int .u64 f.a0.number, .string f.a0.text, .int .i64 f.a1.kind, .int .i64 f.a1.service, .int .i64 f.a1.group, .int .u64 f.a1.session, .int .u64 f.a1.number, .string f.a1.text]) rfl (rd_loadA (j := 3) (u := #[.int .i64 f.a0.kind, .int .i64 f.a0.service, .int .i64 f.a0.group, .int .u64 f.a0.session, .int .u64 f.a0.number, .string f.a0.text, .int .i64 f.a1.kind, .int .i64 f.a1.service, .int .i64 f.a1.group, .int .u64 f.a1.session, .int .u64 f.a1.number, .string f.a1.text]) Tryd.isAgg25 Tryd.sizeOf25 rfl rfl (by kernel_rfl)) ?_
      refine q_val (v := .bool false) rfl (rd_two_ne hf.a0 hf.a1) ?_
      refine q_pick (v := .bool false) rfl rfl ?_
      refine q_end ?_
      refine run_false rfl rfl ?_
      refine run_skip rfl ?_
      refine run_endblock ?_
      refine run_region (todo := [0, 1, 2]) rfl rfl ?_
      refine run_mv rfl ?_
      refine run_rd (v := .int .i64 1) rfl (rd_add (r := 1) (by decide)) ?_
      refine run_mv rfl ?_
      refine run_endops ?_
      refine run_again ?_
      refine run_seq rfl ?_
      refine run_seq rfl ?_
      refine run_region (todo := [0, 1]) rfl rfl ?_
      refine run_mv rfl ?_
      refine run_rd (v := .bool true) rfl (rd_cmp rfl rfl) ?_
      refine run_endops ?_
      refine run_true rfl rfl ?_
      refine run_skip rfl ?_
      refine run_seq rfl ?_
      refine run_block rfl ?_
      refine run_seq rfl ?_
      refine run_draw (l := [0, 1, 2, 3, 4, 5, 6, 7, 8, 9, 10, 11]) rfl rfl (by kernel_rfl) (by kernel_rfl) ?_
      refine q_mv rfl ?_
      refine q_mv rfl ?_
      refine q_val (v := .bool true) rfl (rd_cmp rfl rfl) ?_
      refine q_mv rfl ?_
      refine q_mv rfl ?_
      refine q_val (v := .pointer (some ⟨g2, 12, none⟩)) rfl (rd_indexAddrA (m := 1) (o := 12) Tryd.underlying27 rfl (by decide) Tryd.sizeOf25 rfl) ?_
      refine q_val (v := .agg #[.int .i64 f.b0.kind, .int .i64 f.b0.service, .int .i64 f.b0.group, .int .u64 f.b0.session, .int .u64 f.b0.number, .string f.b0.text, .int .i64 f.b1.kind, .int .i64 f.b1.service, .int .i64 f.b1.group, .int .u64 f.b1.session, .int .u64 f.b1.number, .string f.b1.text]) rfl (rd_loadA (j := 2) (u := #[.int .i64 f.b0.kind, .int .i64 f.b0.service, .int .i64 f.b0.group, .int .u64 f.b0.session, .int .u64 f.b0.number, .string f.b0.text, .int .i64 f.b1.kind, .int .i64 f.b1.service, .int .i64 f.b1.group, .int .u64 f.b1.session, .int .u64 f.b1.number, .string f.b1.text]) Tryd.isAgg25 Tryd.sizeOf25 rfl rfl (by kernel_rfl)) ?_
      refine q_mv rfl ?_
      refine q_val (v := .pointer (some ⟨g1, 12, none⟩)) rfl (rd_indexAddrA (m := 1) (o := 12) Tryd.underlying27 rfl (by decide) Tryd.sizeOf25 rfl) ?_
      refine q_val (v := .agg #[.int .i64 f.b0.kind, .int .i64 f.b0.service, .int .i64 f.b0.group, .int .u64 f.b0.session, .int .u64 f.b0.number, .string f.b0.text, .int .i64 f.b1.kind, .int .i64 f.b1.service, .int .i64 f.b1.group, .int .u64 f.b1.session, .int .u64 f.b1.number, .string f.b1.text]) rfl (rd_loadA (j := 3) (u := #[.int .i64 f.b0.kind, .int .i64 f.b0.service, .int .i64 f.b0.group, .int .u64 f.b0.session, .int .u64 f.b0.number, .string f.b0.text, .int .i64 f.b1.kind, .int .i64 f.b1.service, .int .i64 f.b1.group, .int .u64 f.b1.session, .int .u64 f.b1.number, .string f.b1.text]) Tryd.isAgg25 Tryd.sizeOf25 rfl rfl (by kernel_rfl)) ?_
      refine q_val (v := .bool false) rfl (rd_two_ne hf.b0 hf.b1) ?_
      refine q_pick (v := .bool false) rfl rfl ?_
      refine q_end ?_
      refine run_false rfl rfl ?_
      refine run_skip rfl ?_
      refine run_endblock ?_
      refine run_region (todo := [0, 1, 2]) rfl rfl ?_
      refine run_mv rfl ?_
      refine run_rd (v := .int .i64 2) rfl (rd_add (r := 2) (by decide)) ?_
      refine run_mv rfl ?_
      refine run_endops ?_
      refine run_again ?_
      refine run_seq rfl ?_
      refine run_seq rfl ?_
      refine run_region (todo := [0, 1]) rfl rfl ?_
      refine run_mv rfl ?_
      refine run_rd (v := .bool true) rfl (rd_cmp rfl rfl) ?_
      refine run_endops ?_
      refine run_true rfl rfl ?_
      refine run_skip rfl ?_
      refine run_seq rfl ?_
      refine run_block rfl ?_
      refine run_seq rfl ?_
      refine run_draw (l := [0, 1, 2, 3, 4, 5, 6, 7, 8, 9, 10, 11]) rfl rfl (by kernel_rfl) (by kernel_rfl) ?_
      refine q_mv rfl ?_
      refine q_mv rfl ?_
      refine q_val (v := .bool false) rfl (rd_cmp rfl rfl) ?_
      refine q_mv rfl ?_
      refine q_skip rfl ?_
      refine q_skip rfl ?_
      refine q_skip rfl ?_
      refine q_skip rfl ?_
      refine q_skip rfl ?_
      refine q_skip rfl ?_
      refine q_skip rfl ?_
      refine q_pick (v := .bool false) rfl rfl ?_
      refine q_end ?_
      refine run_false rfl rfl ?_
      refine run_skip rfl ?_
      refine run_endblock ?_
      refine run_region (todo := [0, 1, 2]) rfl rfl ?_
      refine run_mv rfl ?_
      refine run_rd (v := .int .i64 3) rfl (rd_add (r := 3) (by decide)) ?_
      refine run_mv rfl ?_
      refine run_endops ?_
      refine run_again ?_
      refine run_seq rfl ?_
      refine run_seq rfl ?_
      refine run_region (todo := [0, 1]) rfl rfl ?_
      refine run_mv rfl ?_
      refine run_rd (v := .bool false) rfl (rd_cmp rfl rfl) ?_
      refine run_endops ?_
      refine run_false rfl rfl ?_
      refine run_exit rfl rfl ?_
      refine run_seq rfl ?_
      refine run_par' rfl (by kernel_rfl) (.val [] (fun _ => .agg ((Fr.mk f.a0 f.a1 f.b0 f.b1 e1 e2).arr)) :: .val [] (fun _ => .int .i64 2) :: .rel [] (fun _ v h => ∃ Ag12 cg12, v = .slice Ag12 (((Fr.mk f.a0 f.a1 f.b0 f.b1 e1 e2).lane 2).length) cg12 ∧ h = [.row Ag12 cg12 24 6 (((Fr.mk f.a0 f.a1 f.b0 f.b1 e1 e2).lane 2).length) (encE.row ((Fr.mk f.a0 f.a1 f.b0 f.b1 e1 e2).lane 2))]) :: .val [] (fun _ => .slice Ag11 1 cg11) :: .val [] (fun _ => .bool true) :: .val [] (fun _ => .bool true) :: .val [] (fun _ => .agg ((Fr.mk f.a0 f.a1 f.b0 f.b1 e1 e2).arr)) :: .val [] (fun _ => .int .i64 2) :: .val [] (fun _ => .slice A ([e1, e2].length) c) :: .val [] (fun _ => .agg ((Fr.mk f.a0 f.a1 f.b0 f.b1 e1 e2).arr)) :: .val [] (fun _ => .agg ((Fr.mk f.a0 f.a1 f.b0 f.b1 e1 e2).arr)) :: .val [] (fun _ => .bool true) :: .val [] (fun _ => .bool true) :: .val [] (fun _ => .bool true) :: []) (⟨[], [], []⟩ :: ⟨[], [], []⟩ :: ⟨[0, 1], [], []⟩ :: ⟨[], [], []⟩ :: ⟨[2, 3], [2], []⟩ :: ⟨[4], [], []⟩ :: ⟨[5], [], []⟩ :: ⟨[5], [], []⟩ :: ⟨[5], [], []⟩ :: ⟨[5, 6, 7, 8], [], []⟩ :: ⟨[5], [], []⟩ :: ⟨[5, 9, 10], [], []⟩ :: ⟨[5, 11], [], []⟩ :: ⟨[12], [], []⟩ :: []) [(1, .int .i64 2), (2, .slice A ([e1, e2].length) c), (7, .pointer (some ⟨g2, 0, none⟩)), (8, .slice Ag11 1 cg11)] (by kernel_rfl) (by kernel_rfl) ⟨rfl, rfl, rfl, rfl, trivial⟩ ⟨trivial, trivial, trivial, trivial, trivial, trivial, trivial, trivial, trivial, trivial, trivial, trivial, trivial, trivial, trivial⟩ ?_ (fun V hs hq => ?_)
      · refine ⟨fun V hs hB => ob_rd rfl rfl (rd_loadW (j := 2) Tryd.isAgg27 Tryd.sizeOf27 rfl rfl), ?_⟩
        refine ⟨fun V hs hB => ob_mv rfl rfl, ?_⟩
        refine ⟨fun V hs hB => ob_call rfl rfl Tryd.call10 (fun w hw => lane_any (Fr.mk f.a0 f.a1 f.b0 f.b1 e1 e2) (⟨hf.a0, hf.a1, hf.b0, hf.b1, he1, he2⟩ : (Fr.mk f.a0 f.a1 f.b0 f.b1 e1 e2).Ok) 2 w), ?_⟩
        refine ⟨fun V hs hB => ob_mv rfl rfl, ?_⟩
        refine ⟨fun V hs hB => ?_, ?_⟩
        · obtain ⟨Ag12, cg12, hV2, hh2⟩ := hB 2 (by simp)
          refine ob_set (j := 2) hV2 hh2 ?_
          exact ob_pf rfl rfl Tryd.call9 (fun w hw => by have h := fn_entries ((Fr.mk f.a0 f.a1 f.b0 f.b1 e1 e2).lane 2) [e2] Ag12 Ag11 cg12 cg11 w ((know_row (j := 0) rfl) w hw) ((know_row (j := 2) rfl) w hw) (lane_ok (⟨hf.a0, hf.a1, hf.b0, hf.b1, he1, he2⟩ : (Fr.mk f.a0 f.a1 f.b0 f.b1 e1 e2).Ok) _) (by intro e he; simp at he; rcases he with rfl <;> assumption) (Nat.le_trans (lane_le _ _) (by decide)); rw [decide_eq_true (by simp [Fr.lane, Fr.two, hb1p, hb3p])] at h; exact h)
        refine ⟨fun V hs hB => ob_mv rfl rfl, ?_⟩
        refine ⟨fun V hs hB => ob_rd rfl rfl (rd_loadW (j := 2) Tryd.isAgg27 Tryd.sizeOf27 rfl rfl), ?_⟩
        refine ⟨fun V hs hB => ob_mv rfl rfl, ?_⟩
        refine ⟨fun V hs hB => ob_mv rfl rfl, ?_⟩
        refine ⟨fun V hs hB => ob_pf rfl rfl Tryd.call12 (fun w hw => with_any (Fr.mk f.a0 f.a1 f.b0 f.b1 e1 e2) 2 [e1, e2] A c w ((know_old hA) w hw)), ?_⟩
        refine ⟨fun V hs hB => ob_rd rfl rfl (rd_loadW (j := 2) Tryd.isAgg27 Tryd.sizeOf27 rfl rfl), ?_⟩
        refine ⟨fun V hs hB => ob_rd rfl rfl (rd_fr_eqlD (⟨hf.a0, hf.a1, hf.b0, hf.b1, he1, he2⟩ : (Fr.mk f.a0 f.a1 f.b0 f.b1 e1 e2).Ok) (⟨hf.a0, hf.a1, hf.b0, hf.b1, he1, he2⟩ : (Fr.mk f.a0 f.a1 f.b0 f.b1 e1 e2).Ok) (decide_eq_true rfl)), ?_⟩
        refine ⟨fun V hs hB => ob_pick rfl rfl rfl, ?_⟩
        refine ⟨fun V hs hB => ob_mv rfl rfl, ?_⟩
        trivial
      obtain ⟨Ag12, cg12, hV2, hh2⟩ := hq 2 (of_decide_eq_true (by kernel_rfl))
      rw [show relsOf _ = [2] from by kernel_rfl]
      simp only [List.flatMap_cons, List.flatMap_nil, List.append_nil, hh2]
      refine any_end (by kernel_rfl) ?_
      refine run_less (ρ' := [(6, .bool true)]) (H' := [.row Ag12 cg12 24 6 (((Fr.mk f.a0 f.a1 f.b0 f.b1 e1 e2).lane 2).length) (encE.row ((Fr.mk f.a0 f.a1 f.b0 f.b1 e1 e2).lane 2)), .blk g10 (.cells #[.int .i64 e2.kind, .int .i64 e2.service, .int .i64 e2.group, .int .u64 e2.session, .int .u64 e2.number, .string e2.text] 24), .row Ag11 cg11 24 6 1 ([] ++ [.int .i64 e2.kind, .int .i64 e2.service, .int .i64 e2.group, .int .u64 e2.session, .int .u64 e2.number, .string e2.text]), .blk g2 (.cells ((Fr.mk f.a0 f.a1 f.b0 f.b1 e1 e2).arr) 27), .blk g1 (.cells f.arr 27)]) [0, 1, 2, 3, 4] ?_ ⟨rfl, trivial⟩ ⟨rfl, rfl, rfl, rfl, rfl, trivial⟩ (by decide)
      refine run_ret rfl (v := .bool true) (res1 rfl rfl) ?_
      rfl
    · have hb3p := of_decide_eq_false hb3
      refine run_skip rfl ?_
      refine run_endblock ?_
      refine run_region (todo := [0, 1, 2]) rfl rfl ?_
      refine run_mv rfl ?_
      refine run_rd (v := .int .i64 2) rfl (rd_add (r := 2) (by decide)) ?_
      refine run_mv rfl ?_
      refine run_endops ?_
      refine run_again ?_
      refine run_seq rfl ?_
      refine run_seq rfl ?_
      refine run_region (todo := [0, 1, 2, 3, 4, 5, 6, 7]) rfl rfl ?_
      refine run_mv rfl ?_
      refine run_mv rfl ?_
      refine run_rd (v := .int .i64 (([e1, e2].length : Nat) : Int)) rfl (rd_len Tryd.underlying28) ?_
      refine run_rd (v := .bool false) rfl (rd_cmp rfl dl2) ?_
      refine run_mv rfl ?_
      refine run_skipped rfl ?_
      refine run_skipped rfl ?_
      refine run_pick (v := .bool false) rfl rfl ?_
      refine run_endops ?_
      refine run_false rfl rfl ?_
      refine run_exit rfl rfl ?_
      refine run_seq rfl ?_
      refine run_seq rfl ?_
      refine run_region (todo := [0]) rfl rfl ?_
      refine run_mv rfl ?_
      refine run_endops ?_
      refine run_block rfl ?_
      refine run_loop rfl ?_
      refine run_again ?_
      refine run_seq rfl ?_
      refine run_seq rfl ?_
      refine run_region (todo := [0, 1]) rfl rfl ?_
      refine run_mv rfl ?_
      refine run_rd (v := .bool true) rfl (rd_cmp rfl rfl) ?_
      refine run_endops ?_
      refine run_true rfl rfl ?_
      refine run_skip rfl ?_
      refine run_seq rfl ?_
      refine run_block rfl ?_
      refine run_seq rfl ?_
      refine run_draw (l := [0, 1, 2, 3, 4, 5, 6, 7, 8, 9, 10, 11]) rfl rfl (by kernel_rfl) (by kernel_rfl) ?_
      refine q_mv rfl ?_
      refine q_mv rfl ?_
      refine q_val (v := .bool true) rfl (rd_cmp rfl rfl) ?_
      refine q_mv rfl ?_
      refine q_mv rfl ?_
      refine q_val (v := .pointer (some ⟨g2, 0, none⟩)) rfl (rd_indexAddrA (m := 0) (o := 0) Tryd.underlying27 rfl (by decide) Tryd.sizeOf25 rfl) ?_
      refine q_val (v := .agg #[.int .i64 f.a0.kind, .int .i64 f.a0.service, .int .i64 f.a0.group, .int .u64 f.a0.session, .int .u64 f.a0.number, .string f.a0.text, .int .i64 f.a1.kind, .int .i64 f.a1.service, .int .i64 f.a1.group, .int .u64 f.a1.session, .int .u64 f.a1.number, .string f.a1.text]) rfl (rd_loadA (j := 1) (u := #[.int .i64 f.a0.kind, .int .i64 f.a0.service, .int .i64 f.a0.group, .int .u64 f.a0.session, .int .u64 f.a0.number, .string f.a0.text, .int .i64 f.a1.kind, .int .i64 f.a1.service, .int .i64 f.a1.group, .int .u64 f.a1.session, .int .u64 f.a1.number, .string f.a1.text]) Tryd.isAgg25 Tryd.sizeOf25 rfl rfl (by kernel_rfl)) ?_
      refine q_mv rfl ?_
      refine q_val (v := .pointer (some ⟨g1, 0, none⟩)) rfl (rd_indexAddrA (m := 0) (o := 0) Tryd.underlying27 rfl (by decide) Tryd.sizeOf25 rfl) ?_
      refine q_val (v := .agg #[.int .i64 f.a0.kind, .int .i64 f.a0.service, .int .i64 f.a0.group, .int .u64 f.a0.session, .int .u64 f.a0.number, .string f.a0.text, .int .i64 f.a1.kind, .int .i64 f.a1.service, .int .i64 f.a1.group, .int .u64 f.a1.session, .int .u64 f.a1.number, .string f.a1.text]) rfl (rd_loadA (j := 2) (u := #[.int .i64 f.a0.kind, .int .i64 f.a0.service, .int .i64 f.a0.group, .int .u64 f.a0.session, .int .u64 f.a0.number, .string f.a0.text, .int .i64 f.a1.kind, .int .i64 f.a1.service, .int .i64 f.a1.group, .int .u64 f.a1.session, .int .u64 f.a1.number, .string f.a1.text]) Tryd.isAgg25 Tryd.sizeOf25 rfl rfl (by kernel_rfl)) ?_
      refine q_val (v := .bool false) rfl (rd_two_ne hf.a0 hf.a1) ?_
      refine q_pick (v := .bool false) rfl rfl ?_
      refine q_end ?_
      refine run_false rfl rfl ?_
      refine run_skip rfl ?_
      refine run_endblock ?_
      refine run_region (todo := [0, 1, 2]) rfl rfl ?_
      refine run_mv rfl ?_
      refine run_rd (v := .int .i64 1) rfl (rd_add (r := 1) (by decide)) ?_
      refine run_mv rfl ?_
      refine run_endops ?_
      refine run_again ?_
      refine run_seq rfl ?_
      refine run_seq rfl ?_
      refine run_region (todo := [0, 1]) rfl rfl ?_
      refine run_mv rfl ?_
      refine run_rd (v := .bool true) rfl (rd_cmp rfl rfl) ?_
      refine run_endops ?_
      refine run_true rfl rfl ?_
      refine run_skip rfl ?_
      refine run_seq rfl ?_
      refine run_block rfl ?_
      refine run_seq rfl ?_
      refine run_draw (l := [0, 1, 2, 3, 4, 5, 6, 7, 8, 9, 10, 11]) rfl rfl (by kernel_rfl) (by kernel_rfl) ?_
      refine q_mv rfl ?_
      refine q_mv rfl ?_
      refine q_val (v := .bool true) rfl (rd_cmp rfl rfl) ?_
      refine q_mv rfl ?_
      refine q_mv rfl ?_
      refine q_val (v := .pointer (some ⟨g2, 12, none⟩)) rfl (rd_indexAddrA (m := 1) (o := 12) Tryd.underlying27 rfl (by decide) Tryd.sizeOf25 rfl) ?_
      refine q_val (v := .agg #[.int .i64 f.b0.kind, .int .i64 f.b0.service, .int .i64 f.b0.group, .int .u64 f.b0.session, .int .u64 f.b0.number, .string f.b0.text, .int .i64 f.b1.kind, .int .i64 f.b1.service, .int .i64 f.b1.group, .int .u64 f.b1.session, .int .u64 f.b1.number, .string f.b1.text]) rfl (rd_loadA (j := 1) (u := #[.int .i64 f.b0.kind, .int .i64 f.b0.service, .int .i64 f.b0.group, .int .u64 f.b0.session, .int .u64 f.b0.number, .string f.b0.text, .int .i64 f.b1.kind, .int .i64 f.b1.service, .int .i64 f.b1.group, .int .u64 f.b1.session, .int .u64 f.b1.number, .string f.b1.text]) Tryd.isAgg25 Tryd.sizeOf25 rfl rfl (by kernel_rfl)) ?_
      refine q_mv rfl ?_
      refine q_val (v := .pointer (some ⟨g1, 12, none⟩)) rfl (rd_indexAddrA (m := 1) (o := 12) Tryd.underlying27 rfl (by decide) Tryd.sizeOf25 rfl) ?_
      refine q_val (v := .agg #[.int .i64 f.b0.kind, .int .i64 f.b0.service, .int .i64 f.b0.group, .int .u64 f.b0.session, .int .u64 f.b0.number, .string f.b0.text, .int .i64 f.b1.kind, .int .i64 f.b1.service, .int .i64 f.b1.group, .int .u64 f.b1.session, .int .u64 f.b1.number, .string f.b1.text]) rfl (rd_loadA (j := 2) (u := #[.int .i64 f.b0.kind, .int .i64 f.b0.service, .int .i64 f.b0.group, .int .u64 f.b0.session, .int .u64 f.b0.number, .string f.b0.text, .int .i64 f.b1.kind, .int .i64 f.b1.service, .int .i64 f.b1.group, .int .u64 f.b1.session, .int .u64 f.b1.number, .string f.b1.text]) Tryd.isAgg25 Tryd.sizeOf25 rfl rfl (by kernel_rfl)) ?_
      refine q_val (v := .bool false) rfl (rd_two_ne hf.b0 hf.b1) ?_
      refine q_pick (v := .bool false) rfl rfl ?_
      refine q_end ?_
      refine run_false rfl rfl ?_
      refine run_skip rfl ?_
      refine run_endblock ?_
      refine run_region (todo := [0, 1, 2]) rfl rfl ?_
      refine run_mv rfl ?_
      refine run_rd (v := .int .i64 2) rfl (rd_add (r := 2) (by decide)) ?_
      refine run_mv rfl ?_
      refine run_endops ?_
      refine run_again ?_
      refine run_seq rfl ?_
      refine run_seq rfl ?_
      refine run_region (todo := [0, 1]) rfl rfl ?_
      refine run_mv rfl ?_
      refine run_rd (v := .bool true) rfl (rd_cmp rfl rfl) ?_
      refine run_endops ?_
      refine run_true rfl rfl ?_
      refine run_skip rfl ?_
      refine run_seq rfl ?_
      refine run_block rfl ?_
      refine run_seq rfl ?_
      refine run_draw (l := [0, 1, 2, 3, 4, 5, 6, 7, 8, 9, 10, 11]) rfl rfl (by kernel_rfl) (by kernel_rfl) ?_
      refine q_mv rfl ?_
      refine q_mv rfl ?_
      refine q_val (v := .bool false) rfl (rd_cmp rfl rfl) ?_
      refine q_mv rfl ?_
      refine q_skip rfl ?_
      refine q_skip rfl ?_
      refine q_skip rfl ?_
      refine q_skip rfl ?_
      refine q_skip rfl ?_
      refine q_skip rfl ?_
      refine q_skip rfl ?_
      refine q_pick (v := .bool false) rfl rfl ?_
      refine q_end ?_
      refine run_false rfl rfl ?_
      refine run_skip rfl ?_
      refine run_endblock ?_
      refine run_region (todo := [0, 1, 2]) rfl rfl ?_
      refine run_mv rfl ?_
      refine run_rd (v := .int .i64 3) rfl (rd_add (r := 3) (by decide)) ?_
      refine run_mv rfl ?_
      refine run_endops ?_
      refine run_again ?_
      refine run_seq rfl ?_
      refine run_seq rfl ?_
      refine run_region (todo := [0, 1]) rfl rfl ?_
      refine run_mv rfl ?_
      refine run_rd (v := .bool false) rfl (rd_cmp rfl rfl) ?_
      refine run_endops ?_
      refine run_false rfl rfl ?_
      refine run_exit rfl rfl ?_
      refine run_seq rfl ?_
      refine run_par' rfl (by kernel_rfl) (.val [] (fun _ => .agg ((Fr.mk f.a0 f.a1 f.b0 f.b1 e1 e2).arr)) :: .val [] (fun _ => .int .i64 2) :: .rel [] (fun _ v h => ∃ Ag13 cg13, v = .slice Ag13 (((Fr.mk f.a0 f.a1 f.b0 f.b1 e1 e2).lane 2).length) cg13 ∧ h = [.row Ag13 cg13 24 6 (((Fr.mk f.a0 f.a1 f.b0 f.b1 e1 e2).lane 2).length) (encE.row ((Fr.mk f.a0 f.a1 f.b0 f.b1 e1 e2).lane 2))]) :: .val [] (fun _ => .slice (some ⟨g3, 0, none⟩) 0 0) :: .val [] (fun _ => .bool true) :: .val [] (fun _ => .bool true) :: .val [] (fun _ => .agg ((Fr.mk f.a0 f.a1 f.b0 f.b1 e1 e2).arr)) :: .val [] (fun _ => .int .i64 2) :: .val [] (fun _ => .slice A ([e1, e2].length) c) :: .val [] (fun _ => .agg ((Fr.mk f.a0 f.a1 f.b0 f.b1 e1 e2).arr)) :: .val [] (fun _ => .agg ((Fr.mk f.a0 f.a1 f.b0 f.b1 e1 e2).arr)) :: .val [] (fun _ => .bool true) :: .val [] (fun _ => .bool true) :: .val [] (fun _ => .bool true) :: []) (⟨[], [], []⟩ :: ⟨[], [], []⟩ :: ⟨[0, 1], [], []⟩ :: ⟨[], [], []⟩ :: ⟨[2, 3], [2], []⟩ :: ⟨[4], [], []⟩ :: ⟨[5], [], []⟩ :: ⟨[5], [], []⟩ :: ⟨[5], [], []⟩ :: ⟨[5, 6, 7, 8], [], []⟩ :: ⟨[5], [], []⟩ :: ⟨[5, 9, 10], [], []⟩ :: ⟨[5, 11], [], []⟩ :: ⟨[12], [], []⟩ :: []) [(1, .int .i64 2), (2, .slice A ([e1, e2].length) c), (7, .pointer (some ⟨g2, 0, none⟩)), (8, .slice (some ⟨g3, 0, none⟩) 0 0)] (by kernel_rfl) (by kernel_rfl) ⟨rfl, rfl, rfl, rfl, trivial⟩ ⟨trivial, trivial, trivial, trivial, trivial, trivial, trivial, trivial, trivial, trivial, trivial, trivial, trivial, trivial, trivial⟩ ?_ (fun V hs hq => ?_)
      · refine ⟨fun V hs hB => ob_rd rfl rfl (rd_loadW (j := 1) Tryd.isAgg27 Tryd.sizeOf27 rfl rfl), ?_⟩
        refine ⟨fun V hs hB => ob_mv rfl rfl, ?_⟩
        refine ⟨fun V hs hB => ob_call rfl rfl Tryd.call10 (fun w hw => lane_any (Fr.mk f.a0 f.a1 f.b0 f.b1 e1 e2) (⟨hf.a0, hf.a1, hf.b0, hf.b1, he1, he2⟩ : (Fr.mk f.a0 f.a1 f.b0 f.b1 e1 e2).Ok) 2 w), ?_⟩
        refine ⟨fun V hs hB => ob_mv rfl rfl, ?_⟩
        refine ⟨fun V hs hB => ?_, ?_⟩
        · obtain ⟨Ag13, cg13, hV2, hh2⟩ := hB 2 (by simp)
          refine ob_set (j := 2) hV2 hh2 ?_
          exact ob_pf rfl rfl Tryd.call9 (fun w hw => by have h := fn_entries ((Fr.mk f.a0 f.a1 f.b0 f.b1 e1 e2).lane 2) ([] : List Ent) Ag13 (some ⟨g3, 0, none⟩) cg13 0 w ((know_row (j := 0) rfl) w hw) ((know_row (j := 1) rfl) w hw) (lane_ok (⟨hf.a0, hf.a1, hf.b0, hf.b1, he1, he2⟩ : (Fr.mk f.a0 f.a1 f.b0 f.b1 e1 e2).Ok) _) (by intro e he; cases he) (Nat.le_trans (lane_le _ _) (by decide)); rw [decide_eq_true (by simp [Fr.lane, Fr.two, hb1p, hb3p])] at h; exact h)
        refine ⟨fun V hs hB => ob_mv rfl rfl, ?_⟩
        refine ⟨fun V hs hB => ob_rd rfl rfl (rd_loadW (j := 1) Tryd.isAgg27 Tryd.sizeOf27 rfl rfl), ?_⟩
        refine ⟨fun V hs hB => ob_mv rfl rfl, ?_⟩
        refine ⟨fun V hs hB => ob_mv rfl rfl, ?_⟩
        refine ⟨fun V hs hB => ob_pf rfl rfl Tryd.call12 (fun w hw => with_any (Fr.mk f.a0 f.a1 f.b0 f.b1 e1 e2) 2 [e1, e2] A c w ((know_old hA) w hw)), ?_⟩
        refine ⟨fun V hs hB => ob_rd rfl rfl (rd_loadW (j := 1) Tryd.isAgg27 Tryd.sizeOf27 rfl rfl), ?_⟩
        refine ⟨fun V hs hB => ob_rd rfl rfl (rd_fr_eqlD (⟨hf.a0, hf.a1, hf.b0, hf.b1, he1, he2⟩ : (Fr.mk f.a0 f.a1 f.b0 f.b1 e1 e2).Ok) (⟨hf.a0, hf.a1, hf.b0, hf.b1, he1, he2⟩ : (Fr.mk f.a0 f.a1 f.b0 f.b1 e1 e2).Ok) (decide_eq_true rfl)), ?_⟩
        refine ⟨fun V hs hB => ob_pick rfl rfl rfl, ?_⟩
        refine ⟨fun V hs hB => ob_mv rfl rfl, ?_⟩
        trivial
      obtain ⟨Ag13, cg13, hV2, hh2⟩ := hq 2 (of_decide_eq_true (by kernel_rfl))
      rw [show relsOf _ = [2] from by kernel_rfl]
      simp only [List.flatMap_cons, List.flatMap_nil, List.append_nil, hh2]
      refine any_end (by kernel_rfl) ?_
      refine run_less (ρ' := [(6, .bool true)]) (H' := [.row Ag13 cg13 24 6 (((Fr.mk f.a0 f.a1 f.b0 f.b1 e1 e2).lane 2).length) (encE.row ((Fr.mk f.a0 f.a1 f.b0 f.b1 e1 e2).lane 2)), .row (some ⟨g3, 0, none⟩) 0 24 6 0 [], .blk g2 (.cells ((Fr.mk f.a0 f.a1 f.b0 f.b1 e1 e2).arr) 27), .blk g1 (.cells f.arr 27)]) [0, 1, 2, 3] ?_ ⟨rfl, trivial⟩ ⟨rfl, rfl, rfl, rfl, trivial⟩ (by decide)
      refine run_ret rfl (v := .bool true) (res1 rfl rfl) ?_
      rfl

theorem frameLoads_2_3 (f : Fr) (hf : f.Ok) (e1 : Ent) (he1 : e1.Ok) (e2 : Ent) (he2 : e2.Ok) (e3 : Ent) (l : List Ent) (A : Option Addr) (c : Nat) (w0 : World) (hA : Cells w0 A (encE.row (e1 :: e2 :: e3 :: l))) : Fn Tryd.prog 6 #[f.val, .int .i64 2, .slice A ((e1 :: e2 :: e3 :: l).length) c] w0 (fun v _ => v = .bool true) := by
  have dl0 : decide ((0 : Int) < (((e1 :: e2 :: e3 :: l).length : Nat) : Int)) = true := decide_eq_true (by simp; omega)
  have dl1 : decide ((1 : Int) < (((e1 :: e2 :: e3 :: l).length : Nat) : Int)) = true := decide_eq_true (by simp; omega)
  have dl2 : decide ((2 : Int) < (((e1 :: e2 :: e3 :: l).length : Nat) : Int)) = true := decide_eq_true (by simp; omega)
  refine fn_of_run Tryd.func6 rfl rfl ?_
  refine run_seq rfl ?_
  refine run_region (todo := [0, 1]) rfl rfl ?_
  refine run_box rfl (fun g1 => ?_)
  refine run_mv rfl ?_
  refine run_endops ?_
  refine run_seq rfl ?_
  refine run_region (todo := [0, 1, 2, 3, 4, 5]) rfl rfl ?_
  refine run_rd (v := .agg f.arr) rfl (rd_loadW (j := 0) Tryd.isAgg27 Tryd.sizeOf27 rfl rfl) ?_
  refine run_mv rfl ?_
  refine run_mv rfl ?_
  refine run_pfw (v := .agg ((Fr.mk f.a0 f.a1 f.b0 f.b1 e1 e2).arr)) rfl Tryd.call12 (fun w hw => with_any f 2 (e1 :: e2 :: e3 :: l) A c w ((know_old hA) w hw)) ?_
  refine run_alloc rfl Tryd.zeroValue27 (fun g2 => ?_)
  refine run_storeW (j := 0) (c' := (Fr.mk f.a0 f.a1 f.b0 f.b1 e1 e2).arr) rfl Tryd.sizeOf27 rfl rfl rfl rfl rfl rfl ?_
  refine run_endops ?_
  refine run_seq rfl ?_
  refine run_seq rfl ?_
  refine run_region (todo := [0, 1, 2, 3, 4, 5, 6, 7, 8, 9]) rfl rfl ?_
  refine run_pf0 (v := .bool true) rfl Tryd.call8 (pf_fixed) ?_
  refine run_rd (v := .bool false) rfl (rd_not) ?_
  refine run_mv rfl ?_
  refine run_mvG rfl ?_
  refine run_rdG (v := .bool false) rfl (rd_cmp rfl rfl) ?_
  refine run_pick (v := .bool false) rfl rfl ?_
  refine run_mv rfl ?_
  refine run_mvG rfl ?_
  refine run_rdG (v := .bool false) rfl (rd_cmp rfl rfl) ?_
  refine run_pick (v := .bool false) rfl rfl ?_
  refine run_endops ?_
  refine run_false rfl rfl ?_
  refine run_skip rfl ?_
  refine run_seq rfl ?_
  refine run_region (todo := [0, 1]) rfl rfl ?_
  refine run_lit0 rfl Tryd.underlying28 Tryd.sizeOf24 (fun g3 => ?_)
  refine run_mv rfl ?_
  refine run_endops ?_
  refine run_seq rfl ?_
  refine run_seq rfl ?_
  refine run_region (todo := [0]) rfl rfl ?_
  refine run_mv rfl ?_
  refine run_endops ?_
  refine run_block rfl ?_
  refine run_loop rfl ?_
  refine run_again ?_
  refine run_seq rfl ?_
  refine run_seq rfl ?_
  refine run_region (todo := [0, 1, 2, 3, 4, 5, 6, 7]) rfl rfl ?_
  refine run_mv rfl ?_
  refine run_mv rfl ?_
  refine run_rd (v := .int .i64 (((e1 :: e2 :: e3 :: l).length : Nat) : Int)) rfl (rd_len Tryd.underlying28) ?_
  refine run_rd (v := .bool true) rfl (rd_cmp rfl dl0) ?_
  refine run_mv rfl ?_
  refine run_mvG rfl ?_
  refine run_rdG (v := .bool true) rfl (rd_cmp rfl rfl) ?_
  refine run_pick (v := .bool true) rfl rfl ?_
  refine run_endops ?_
  refine run_true rfl rfl ?_
  refine run_skip rfl ?_
  refine run_seq rfl ?_
  refine run_block rfl ?_
  refine run_seq rfl ?_
  refine run_region (todo := [0, 1, 2, 3, 4, 5]) rfl rfl ?_
  refine run_mv rfl ?_
  refine run_mv rfl ?_
  refine run_rd (v := .pointer (elemAddr A (0 * 6))) rfl (rd_elem (m := 0) (o := 0 * 6) (know_old hA) Tryd.underlying28 Tryd.sizeOf24 rfl (lt_of_item (rfl : (e1 :: e2 :: e3 :: l)[0]? = some e1) rfl) (Nat.lt_of_lt_of_le (m := 0 * 6 + 6) (by omega) (row_lt (E := encE) (rfl : (e1 :: e2 :: e3 :: l)[0]? = some e1))) rfl) ?_
  refine run_rd (v := .agg e1.arr) rfl (rd_elemLoadA (u := e1.arr) (know_old hA) Tryd.isAgg24 Tryd.sizeOf24 rfl (row_all (E := encE) (rfl : (e1 :: e2 :: e3 :: l)[0]? = some e1)) (row_lt (E := encE) (rfl : (e1 :: e2 :: e3 :: l)[0]? = some e1))) ?_
  refine run_rd (v := .agg #[.int .i64 0, .int .i64 0, .int .i64 0, .int .u64 0, .int .u64 0, .string ⟨#[]⟩]) rfl ((fun w _ => by kernel_rfl)) ?_
  refine run_rd (v := .bool (decide (e1 ≠ Ent.zero))) rfl (rd_ent_nz he1) ?_
  refine run_endops ?_
  refine run_if rfl rfl (fun hb1 => ?_) (fun hb1 => ?_)
  · have hb1p := of_decide_eq_true hb1
    refine run_region (todo := [0, 1, 2, 3, 4, 5, 6, 7]) rfl rfl ?_
    refine run_mv rfl ?_
    refine run_mv rfl ?_
    refine run_mv rfl ?_
    refine run_rd (v := .pointer (elemAddr A (0 * 6))) rfl (rd_elem (m := 0) (o := 0 * 6) (know_old hA) Tryd.underlying28 Tryd.sizeOf24 rfl (lt_of_item (rfl : (e1 :: e2 :: e3 :: l)[0]? = some e1) rfl) (Nat.lt_of_lt_of_le (m := 0 * 6 + 6) (by omega) (row_lt (E := encE) (rfl : (e1 :: e2 :: e3 :: l)[0]? = some e1))) rfl) ?_
    refine run_rd (v := .agg e1.arr) rfl (rd_elemLoadA (u := e1.arr) (know_old hA) Tryd.isAgg24 Tryd.sizeOf24 rfl (row_all (E := encE) (rfl : (e1 :: e2 :: e3 :: l)[0]? = some e1)) (row_lt (E := encE) (rfl : (e1 :: e2 :: e3 :: l)[0]? = some e1))) ?_
    refine run_lit (c := #[.int .i64 e1.kind, .int .i64 e1.service, .int .i64 e1.group, .int .u64 e1.session, .int .u64 e1.number, .string e1.text]) rfl Tryd.underlying28 Tryd.sizeOf24 Tryd.zeroValue24 rfl rfl (by kernel_rfl) (fun g4 => ?_)
    refine run_append (j := 1) (ti := Tryd.t24) (z := Ent.zero.val) (size := 6) (bytes := 56) (news := [.int .i64 e1.kind, .int .i64 e1.service, .int .i64 e1.group, .int .u64 e1.session, .int .u64 e1.number, .string e1.text]) rfl Tryd.underlying28 (by kernel_rfl) rfl rfl rfl rfl rfl rfl rfl (know_blk (j := 0) rfl (fun q hq => by rw [Nat.zero_add, List.getElem?_toArray])) rfl rfl (by omega) (by unfold maxLen; omega) (fun Ag5 cg5 hg5 => ?_)
    refine run_mv rfl ?_
    refine run_endops ?_
    refine run_endblock ?_
    refine run_region (todo := [0, 1, 2]) rfl rfl ?_
    refine run_mv rfl ?_
    refine run_rd (v := .int .i64 1) rfl (rd_add (r := 1) (by decide)) ?_
    refine run_mv rfl ?_
    refine run_endops ?_
    refine run_again ?_
    refine run_seq rfl ?_
    refine run_seq rfl ?_
    refine run_region (todo := [0, 1, 2, 3, 4, 5, 6, 7]) rfl rfl ?_
    refine run_mv rfl ?_
    refine run_mv rfl ?_
    refine run_rd (v := .int .i64 (((e1 :: e2 :: e3 :: l).length : Nat) : Int)) rfl (rd_len Tryd.underlying28) ?_
    refine run_rd (v := .bool true) rfl (rd_cmp rfl dl1) ?_
    refine run_mv rfl ?_
    refine run_mvG rfl ?_
    refine run_rdG (v := .bool true) rfl (rd_cmp rfl rfl) ?_
    refine run_pick (v := .bool true) rfl rfl ?_
    refine run_endops ?_
    refine run_true rfl rfl ?_
    refine run_skip rfl ?_
    refine run_seq rfl ?_
    refine run_block rfl ?_
    refine run_seq rfl ?_
    refine run_region (todo := [0, 1, 2, 3, 4, 5]) rfl rfl ?_
    refine run_mv rfl ?_
    refine run_mv rfl ?_
    refine run_rd (v := .pointer (elemAddr A (1 * 6))) rfl (rd_elem (m := 1) (o := 1 * 6) (know_old hA) Tryd.underlying28 Tryd.sizeOf24 rfl (lt_of_item (rfl : (e1 :: e2 :: e3 :: l)[1]? = some e2) rfl) (Nat.lt_of_lt_of_le (m := 1 * 6 + 6) (by omega) (row_lt (E := encE) (rfl : (e1 :: e2 :: e3 :: l)[1]? = some e2))) rfl) ?_
    refine run_rd (v := .agg e2.arr) rfl (rd_elemLoadA (u := e2.arr) (know_old hA) Tryd.isAgg24 Tryd.sizeOf24 rfl (row_all (E := encE) (rfl : (e1 :: e2 :: e3 :: l)[1]? = some e2)) (row_lt (E := encE) (rfl : (e1 :: e2 :: e3 :: l)[1]? = some e2))) ?_
    refine run_rd (v := .agg #[.int .i64 0, .int .i64 0, .int .i64 0, .int .u64 0, .int .u64 0, .string ⟨#[]⟩]) rfl ((fun w _ => by kernel_rfl)) ?_
    refine run_rd (v := .bool (decide (e2 ≠ Ent.zero))) rfl (rd_ent_nz he2) ?_
    refine run_endops ?_
    refine run_if rfl rfl (fun hb2 => ?_) (fun hb2 => ?_)
    · have hb2p := of_decide_eq_true hb2
      refine run_region (todo := [0, 1, 2, 3, 4, 5, 6, 7]) rfl rfl ?_
      refine run_mv rfl ?_
      refine run_mv rfl ?_
      refine run_mv rfl ?_
      refine run_rd (v := .pointer (elemAddr A (1 * 6))) rfl (rd_elem (m := 1) (o := 1 * 6) (know_old hA) Tryd.underlying28 Tryd.sizeOf24 rfl (lt_of_item (rfl : (e1 :: e2 :: e3 :: l)[1]? = some e2) rfl) (Nat.lt_of_lt_of_le (m := 1 * 6 + 6) (by omega) (row_lt (E := encE) (rfl : (e1 :: e2 :: e3 :: l)[1]? = some e2))) rfl) ?_
      refine run_rd (v := .agg e2.arr) rfl (rd_elemLoadA (u := e2.arr) (know_old hA) Tryd.isAgg24 Tryd.sizeOf24 rfl (row_all (E := encE) (rfl : (e1 :: e2 :: e3 :: l)[1]? = some e2)) (row_lt (E := encE) (rfl : (e1 :: e2 :: e3 :: l)[1]? = some e2))) ?_
      refine run_lit (c := #[.int .i64 e2.kind, .int .i64 e2.service, .int .i64 e2.group, .int .u64 e2.session, .int .u64 e2.number, .string e2.text]) rfl Tryd.underlying28 Tryd.sizeOf24 Tryd.zeroValue24 rfl rfl (by kernel_rfl) (fun g6 => ?_)
      refine run_append (j := 2) (ti := Tryd.t24) (z := Ent.zero.val) (size := 6) (bytes := 56) (news := [.int .i64 e2.kind, .int .i64 e2.service, .int .i64 e2.group, .int .u64 e2.session, .int .u64 e2.number, .string e2.text]) rfl Tryd.underlying28 (by kernel_rfl) rfl rfl rfl rfl rfl rfl rfl (know_blk (j := 0) rfl (fun q hq => by rw [Nat.zero_add, List.getElem?_toArray])) rfl rfl (by omega) (by unfold maxLen; omega) (fun Ag7 cg7 hg7 => ?_)
      refine run_mv rfl ?_
      refine run_endops ?_
      refine run_endblock ?_
      refine run_region (todo := [0, 1, 2]) rfl rfl ?_
      refine run_mv rfl ?_
      refine run_rd (v := .int .i64 2) rfl (rd_add (r := 2) (by decide)) ?_
      refine run_mv rfl ?_
      refine run_endops ?_
      refine run_again ?_
      refine run_seq rfl ?_
      refine run_seq rfl ?_
      refine run_region (todo := [0, 1, 2, 3, 4, 5, 6, 7]) rfl rfl ?_
      refine run_mv rfl ?_
      refine run_mv rfl ?_
      refine run_rd (v := .int .i64 (((e1 :: e2 :: e3 :: l).length : Nat) : Int)) rfl (rd_len Tryd.underlying28) ?_
      refine run_rd (v := .bool true) rfl (rd_cmp rfl dl2) ?_
      refine run_mv rfl ?_
      refine run_mvG rfl ?_
      refine run_rdG (v := .bool false) rfl (rd_cmp rfl rfl) ?_
      refine run_pick (v := .bool false) rfl rfl ?_
      refine run_endops ?_
      refine run_false rfl rfl ?_
      refine run_exit rfl rfl ?_
      refine run_seq rfl ?_
      refine run_seq rfl ?_
      refine run_region (todo := [0]) rfl rfl ?_
      refine run_mv rfl ?_
      refine run_endops ?_
      refine run_block rfl ?_
      refine run_loop rfl ?_
      refine run_again ?_
      refine run_seq rfl ?_
      refine run_seq rfl ?_
      refine run_region (todo := [0, 1]) rfl rfl ?_
      refine run_mv rfl ?_
      refine run_rd (v := .bool true) rfl (rd_cmp rfl rfl) ?_
      refine run_endops ?_
      refine run_true rfl rfl ?_
      refine run_skip rfl ?_
      refine run_seq rfl ?_
      refine run_block rfl ?_
      refine run_seq rfl ?_
      refine run_draw (l := [0, 1, 2, 3, 4, 5, 6, 7, 8, 9, 10, 11]) rfl rfl (by kernel_rfl) (by kernel_rfl) ?_
      refine q_mv rfl ?_
      refine q_mv rfl ?_
      refine q_val (v := .bool true) rfl (rd_cmp rfl rfl) ?_
      refine q_mv rfl ?_
      refine q_mv rfl ?_
      refine q_val (v := .pointer (some ⟨g2, 0, none⟩)) rfl (rd_indexAddrA (m := 0) (o := 0) Tryd.underlying27 rfl (by decide) Tryd.sizeOf25 rfl) ?_
      refine q_val (v := .agg #[.int .i64 f.a0.kind, .int .i64 f.a0.service, .int .i64 f.a0.group, .int .u64 f.a0.session, .int .u64 f.a0.number, .string f.a0.text, .int .i64 f.a1.kind, .int .i64 f.a1.service, .int .i64 f.a1.group, .int .u64 f.a1.session, .int .u64 f.a1.number, .string f.a1.text]) rfl (rd_loadA (j := 3) (u := #[.int .i64 f.a0.kind, .int .i64 f.a0.service, .int .i64 f.a0.group, .int .u64 f.a0.session, .int .u64 f.a0.number, .string f.a0.text, .int .i64 f.a1.kind, .int .i64 f.a1.service, .int .i64 f.a1.group, .int .u64 f.a1.session, .int .u64 f.a1.number, .string f.a1.text]) Tryd.isAgg25 Tryd.sizeOf25 rfl rfl (by kernel_rfl)) ?_
      refine q_mv rfl ?_
      refine q_val (v := .pointer (some ⟨g1, 0, none⟩)) rfl (rd_indexAddrA (m := 0) (o := 0) Tryd.underlying27 rfl (by decide) Tryd.sizeOf25 rfl) ?_
      refine q_val (v := .agg #[.int .i64 f.a0.kind, .int .i64 f.a0.service, .int .i64 f.a0.group, .int .u64 f.a0.session, .int .u64 f.a0.number, .string f.a0.text, .int .i64 f.a1.kind, .int .i64 f.a1.service, .int .i64 f.a1.group, .int .u64 f.a1.session, .int .u64 f.a1.number, .string f.a1.text]) rfl (rd_loadA (j := 4) (u := #[.int .i64 f.a0.kind, .int .i64 f.a0.service, .int .i64 f.a0.group, .int .u64 f.a0.session, .int .u64 f.a0.number, .string f.a0.text, .int .i64 f.a1.kind, .int .i64 f.a1.service, .int .i64 f.a1.group, .int .u64 f.a1.session, .int .u64 f.a1.number, .string f.a1.text]) Tryd.isAgg25 Tryd.sizeOf25 rfl rfl (by kernel_rfl)) ?_
      refine q_val (v := .bool false) rfl (rd_two_ne hf.a0 hf.a1) ?_
      refine q_pick (v := .bool false) rfl rfl ?_
      refine q_end ?_
      refine run_false rfl rfl ?_
      refine run_skip rfl ?_
      refine run_endblock ?_
      refine run_region (todo := [0, 1, 2]) rfl rfl ?_
      refine run_mv rfl ?_
      refine run_rd (v := .int .i64 1) rfl (rd_add (r := 1) (by decide)) ?_
      refine run_mv rfl ?_
      refine run_endops ?_
      refine run_again ?_
      refine run_seq rfl ?_
      refine run_seq rfl ?_
      refine run_region (todo := [0, 1]) rfl rfl ?_
      refine run_mv rfl ?_
      refine run_rd (v := .bool true) rfl (rd_cmp rfl rfl) ?_
      refine run_endops ?_
      refine run_true rfl rfl ?_
      refine run_skip rfl ?_
      refine run_seq rfl ?_
      refine run_block rfl ?_
      refine run_seq rfl ?_
      refine run_draw (l := [0, 1, 2, 3, 4, 5, 6, 7, 8, 9, 10, 11]) rfl rfl (by kernel_rfl) (by kernel_rfl) ?_
      refine q_mv rfl ?_
      refine q_mv rfl ?_
      refine q_val (v := .bool true) rfl (rd_cmp rfl rfl) ?_
      refine q_mv rfl ?_
      refine q_mv rfl ?_
      refine q_val (v := .pointer (some ⟨g2, 12, none⟩)) rfl (rd_indexAddrA (m := 1) (o := 12) Tryd.underlying27 rfl (by decide) Tryd.sizeOf25 rfl) ?_
      refine q_val (v := .agg #[.int .i64 f.b0.kind, .int .i64 f.b0.service, .int .i64 f.b0.group, .int .u64 f.b0.session, .int .u64 f.b0.number, .string f.b0.text, .int .i64 f.b1.kind, .int .i64 f.b1.service, .int .i64 f.b1.group, .int .u64 f.b1.session, .int .u64 f.b1.number, .string f.b1.text]) rfl (rd_loadA (j := 3) (u := #[.int .i64 f.b0.kind, .int .i64 f.b0.service, .int .i64 f.b0.group, .int .u64 f.b0.session, .int .u64 f.b0.number, .string f.b0.text, .int .i64 f.b1.kind, .int .i64 f.b1.service, .int .i64 f.b1.group, .int .u64 f.b1.session, .int .u64 f.b1.number, .string f.b1.text]) Tryd.isAgg25 Tryd.sizeOf25 rfl rfl (by kernel_rfl)) ?_
      refine q_mv rfl ?_
      refine q_val (v := .pointer (some ⟨g1, 12, none⟩)) rfl (rd_indexAddrA (m := 1) (o := 12) Tryd.underlying27 rfl (by decide) Tryd.sizeOf25 rfl) ?_
      refine q_val (v := .agg #[.int .i64 f.b0.kind, .int .i64 f.b0.service, .int .i64 f.b0.group, .int .u64 f.b0.session, .int .u64 f.b0.number, .string f.b0.text, .int .i64 f.b1.kind, .int .i64 f.b1.service, .int .i64 f.b1.group, .int .u64 f.b1.session, .int .u64 f.b1.number, .string f.b1.text]) rfl (rd_loadA (j := 4) (u := #[.int .i64 f.b0.kind, .int .i64 f.b0.service, .int .i64 f.b0.group, .int .u64 f.b0.session, .int .u64 f.b0.number, .string f.b0.text, .int .i64 f.b1.kind, .int .i64 f.b1.service, .int .i64 f.b1.group, .int .u64 f.b1.session, .int .u64 f.b1.number, .string f.b1.text]) Tryd.isAgg25 Tryd.sizeOf25 rfl rfl (by kernel_rfl)) ?_
      refine q_val (v := .bool false) rfl (rd_two_ne hf.b0 hf.b1) ?_
      refine q_pick (v := .bool false) rfl rfl ?_
      refine q_end ?_
      refine run_false rfl rfl ?_
      refine run_skip rfl ?_
      refine run_endblock ?_
      refine run_region (todo := [0, 1, 2]) rfl rfl ?_
      refine run_mv rfl ?_
      refine run_rd (v := .int .i64 2) rfl (rd_add (r := 2) (by decide)) ?_
      refine run_mv rfl ?_
      refine run_endops ?_
      refine run_again ?_
      refine run_seq rfl ?_
      refine run_seq rfl ?_
      refine run_region (todo := [0, 1]) rfl rfl ?_
      refine run_mv rfl ?_
      refine run_rd (v := .bool true) rfl (rd_cmp rfl rfl) ?_
      refine run_endops ?_
      refine run_true rfl rfl ?_
      refine run_skip rfl ?_
      refine run_seq rfl ?_
      refine run_block rfl ?_
      refine run_seq rfl ?_
      refine run_draw (l := [0, 1, 2, 3, 4, 5, 6, 7, 8, 9, 10, 11]) rfl rfl (by kernel_rfl) (by kernel_rfl) ?_
      refine q_mv rfl ?_
      refine q_mv rfl ?_
      refine q_val (v := .bool false) rfl (rd_cmp rfl rfl) ?_
      refine q_mv rfl ?_
      refine q_skip rfl ?_
      refine q_skip rfl ?_
      refine q_skip rfl ?_
      refine q_skip rfl ?_
      refine q_skip rfl ?_
      refine q_skip rfl ?_
      refine q_skip rfl ?_
      refine q_pick (v := .bool false) rfl rfl ?_
      refine q_end ?_
      refine run_false rfl rfl ?_
      refine run_skip rfl ?_
      refine run_endblock ?_
      refine run_region (todo := [0, 1, 2]) rfl rfl ?_
      refine run_mv rfl ?_
      refine run_rd (v := .int .i64 3) rfl (rd_add (r := 3) (by decide)) ?_
      refine run_mv rfl ?_
      refine run_endops ?_
      refine run_again ?_
      refine run_seq rfl ?_
      refine run_seq rfl ?_
      refine run_region (todo := [0, 1]) rfl rfl ?_
      refine run_mv rfl ?_
      refine run_rd (v := .bool false) rfl (rd_cmp rfl rfl) ?_
      refine run_endops ?_
      refine run_false rfl rfl ?_
      refine run_exit rfl rfl ?_
      refine run_seq rfl ?_
      refine run_par' rfl (by kernel_rfl) (.val [] (fun _ => .agg ((Fr.mk f.a0 f.a1 f.b0 f.b1 e1 e2).arr)) :: .val [] (fun _ => .int .i64 2) :: .rel [] (fun _ v h => ∃ Ag8 cg8, v = .slice Ag8 (((Fr.mk f.a0 f.a1 f.b0 f.b1 e1 e2).lane 2).length) cg8 ∧ h = [.row Ag8 cg8 24 6 (((Fr.mk f.a0 f.a1 f.b0 f.b1 e1 e2).lane 2).length) (encE.row ((Fr.mk f.a0 f.a1 f.b0 f.b1 e1 e2).lane 2))]) :: .val [] (fun _ => .slice Ag7 2 cg7) :: .val [] (fun _ => .bool true) :: .val [] (fun _ => .bool true) :: .val [] (fun _ => .agg ((Fr.mk f.a0 f.a1 f.b0 f.b1 e1 e2).arr)) :: .val [] (fun _ => .int .i64 2) :: .val [] (fun _ => .slice A ((e1 :: e2 :: e3 :: l).length) c) :: .val [] (fun _ => .agg ((Fr.mk f.a0 f.a1 f.b0 f.b1 e1 e2).arr)) :: .val [] (fun _ => .agg ((Fr.mk f.a0 f.a1 f.b0 f.b1 e1 e2).arr)) :: .val [] (fun _ => .bool true) :: .val [] (fun _ => .bool true) :: .val [] (fun _ => .bool true) :: []) (⟨[], [], []⟩ :: ⟨[], [], []⟩ :: ⟨[0, 1], [], []⟩ :: ⟨[], [], []⟩ :: ⟨[2, 3], [2], []⟩ :: ⟨[4], [], []⟩ :: ⟨[5], [], []⟩ :: ⟨[5], [], []⟩ :: ⟨[5], [], []⟩ :: ⟨[5, 6, 7, 8], [], []⟩ :: ⟨[5], [], []⟩ :: ⟨[5, 9, 10], [], []⟩ :: ⟨[5, 11], [], []⟩ :: ⟨[12], [], []⟩ :: []) [(1, .int .i64 2), (2, .slice A ((e1 :: e2 :: e3 :: l).length) c), (7, .pointer (some ⟨g2, 0, none⟩)), (8, .slice Ag7 2 cg7)] (by kernel_rfl) (by kernel_rfl) ⟨rfl, rfl, rfl, rfl, trivial⟩ ⟨trivial, trivial, trivial, trivial, trivial, trivial, trivial, trivial, trivial, trivial, trivial, trivial, trivial, trivial, trivial⟩ ?_ (fun V hs hq => ?_)
      · refine ⟨fun V hs hB => ob_rd rfl rfl (rd_loadW (j := 3) Tryd.isAgg27 Tryd.sizeOf27 rfl rfl), ?_⟩
        refine ⟨fun V hs hB => ob_mv rfl rfl, ?_⟩
        refine ⟨fun V hs hB => ob_call rfl rfl Tryd.call10 (fun w hw => lane_any (Fr.mk f.a0 f.a1 f.b0 f.b1 e1 e2) (⟨hf.a0, hf.a1, hf.b0, hf.b1, he1, he2⟩ : (Fr.mk f.a0 f.a1 f.b0 f.b1 e1 e2).Ok) 2 w), ?_⟩
        refine ⟨fun V hs hB => ob_mv rfl rfl, ?_⟩
        refine ⟨fun V hs hB => ?_, ?_⟩
        · obtain ⟨Ag8, cg8, hV2, hh2⟩ := hB 2 (by simp)
          refine ob_set (j := 2) hV2 hh2 ?_
          exact ob_pf rfl rfl Tryd.call9 (fun w hw => by have h := fn_entries ((Fr.mk f.a0 f.a1 f.b0 f.b1 e1 e2).lane 2) [e1, e2] Ag8 Ag7 cg8 cg7 w ((know_row (j := 0) rfl) w hw) ((know_row (j := 3) rfl) w hw) (lane_ok (⟨hf.a0, hf.a1, hf.b0, hf.b1, he1, he2⟩ : (Fr.mk f.a0 f.a1 f.b0 f.b1 e1 e2).Ok) _) (by intro e he; simp at he; rcases he with rfl | rfl <;> assumption) (Nat.le_trans (lane_le _ _) (by decide)); rw [decide_eq_true (by simp [Fr.lane, Fr.two, hb1p, hb2p])] at h; exact h)
        refine ⟨fun V hs hB => ob_mv rfl rfl, ?_⟩
        refine ⟨fun V hs hB => ob_rd rfl rfl (rd_loadW (j := 3) Tryd.isAgg27 Tryd.sizeOf27 rfl rfl), ?_⟩
        refine ⟨fun V hs hB => ob_mv rfl rfl, ?_⟩
        refine ⟨fun V hs hB => ob_mv rfl rfl, ?_⟩
        refine ⟨fun V hs hB => ob_pf rfl rfl Tryd.call12 (fun w hw => with_any (Fr.mk f.a0 f.a1 f.b0 f.b1 e1 e2) 2 (e1 :: e2 :: e3 :: l) A c w ((know_old hA) w hw)), ?_⟩
        refine ⟨fun V hs hB => ob_rd rfl rfl (rd_loadW (j := 3) Tryd.isAgg27 Tryd.sizeOf27 rfl rfl), ?_⟩
        refine ⟨fun V hs hB => ob_rd rfl rfl (rd_fr_eqlD (⟨hf.a0, hf.a1, hf.b0, hf.b1, he1, he2⟩ : (Fr.mk f.a0 f.a1 f.b0 f.b1 e1 e2).Ok) (⟨hf.a0, hf.a1, hf.b0, hf.b1, he1, he2⟩ : (Fr.mk f.a0 f.a1 f.b0 f.b1 e1 e2).Ok) (decide_eq_true rfl)), ?_⟩
        refine ⟨fun V hs hB => ob_pick rfl rfl rfl, ?_⟩
        refine ⟨fun V hs hB => ob_mv rfl rfl, ?_⟩
        trivial
      obtain ⟨Ag8, cg8, hV2, hh2⟩ := hq 2 (of_decide_eq_true (by kernel_rfl))
      rw [show relsOf _ = [2] from by kernel_rfl]
      simp only [List.flatMap_cons, List.flatMap_nil, List.append_nil, hh2]
      refine any_end (by kernel_rfl) ?_
      refine run_less (ρ' := [(6, .bool true)]) (H' := [.row Ag8 cg8 24 6 (((Fr.mk f.a0 f.a1 f.b0 f.b1 e1 e2).lane 2).length) (encE.row ((Fr.mk f.a0 f.a1 f.b0 f.b1 e1 e2).lane 2)), .blk g6 (.cells #[.int .i64 e2.kind, .int .i64 e2.service, .int .i64 e2.group, .int .u64 e2.session, .int .u64 e2.number, .string e2.text] 24), .blk g4 (.cells #[.int .i64 e1.kind, .int .i64 e1.service, .int .i64 e1.group, .int .u64 e1.session, .int .u64 e1.number, .string e1.text] 24), .row Ag7 cg7 24 6 2 ([] ++ [.int .i64 e1.kind, .int .i64 e1.service, .int .i64 e1.group, .int .u64 e1.session, .int .u64 e1.number, .string e1.text] ++ [.int .i64 e2.kind, .int .i64 e2.service, .int .i64 e2.group, .int .u64 e2.session, .int .u64 e2.number, .string e2.text]), .blk g2 (.cells ((Fr.mk f.a0 f.a1 f.b0 f.b1 e1 e2).arr) 27), .blk g1 (.cells f.arr 27)]) [0, 1, 2, 3, 4, 5] ?_ ⟨rfl, trivial⟩ ⟨rfl, rfl, rfl, rfl, rfl, rfl, trivial⟩ (by decide)
      refine run_ret rfl (v := .bool true) (res1 rfl rfl) ?_
      rfl
    · have hb2p := of_decide_eq_false hb2
      refine run_skip rfl ?_
      refine run_endblock ?_
      refine run_region (todo := [0, 1, 2]) rfl rfl ?_
      refine run_mv rfl ?_
      refine run_rd (v := .int .i64 2) rfl (rd_add (r := 2) (by decide)) ?_
      refine run_mv rfl ?_
      refine run_endops ?_
      refine run_again ?_
      refine run_seq rfl ?_
      refine run_seq rfl ?_
      refine run_region (todo := [0, 1, 2, 3, 4, 5, 6, 7]) rfl rfl ?_
      refine run_mv rfl ?_
      refine run_mv rfl ?_
      refine run_rd (v := .int .i64 (((e1 :: e2 :: e3 :: l).length : Nat) : Int)) rfl (rd_len Tryd.underlying28) ?_
      refine run_rd (v := .bool true) rfl (rd_cmp rfl dl2) ?_
      refine run_mv rfl ?_
      refine run_mvG rfl ?_
      refine run_rdG (v := .bool false) rfl (rd_cmp rfl rfl) ?_
      refine run_pick (v := .bool false) rfl rfl ?_
      refine run_endops ?_
      refine run_false rfl rfl ?_
      refine run_exit rfl rfl ?_
      refine run_seq rfl ?_
      refine run_seq rfl ?_
      refine run_region (todo := [0]) rfl rfl ?_
      refine run_mv rfl ?_
      refine run_endops ?_
      refine run_block rfl ?_
      refine run_loop rfl ?_
      refine run_again ?_
      refine run_seq rfl ?_
      refine run_seq rfl ?_
      refine run_region (todo := [0, 1]) rfl rfl ?_
      refine run_mv rfl ?_
      refine run_rd (v := .bool true) rfl (rd_cmp rfl rfl) ?_
      refine run_endops ?_
      refine run_true rfl rfl ?_
      refine run_skip rfl ?_
      refine run_seq rfl ?_
      refine run_block rfl ?_
      refine run_seq rfl ?_
      refine run_draw (l := [0, 1, 2, 3, 4, 5, 6, 7, 8, 9, 10, 11]) rfl rfl (by kernel_rfl) (by kernel_rfl) ?_
      refine q_mv rfl ?_
      refine q_mv rfl ?_
      refine q_val (v := .bool true) rfl (rd_cmp rfl rfl) ?_
      refine q_mv rfl ?_
      refine q_mv rfl ?_
      refine q_val (v := .pointer (some ⟨g2, 0, none⟩)) rfl (rd_indexAddrA (m := 0) (o := 0) Tryd.underlying27 rfl (by decide) Tryd.sizeOf25 rfl) ?_
      refine q_val (v := .agg #[.int .i64 f.a0.kind, .int .i64 f.a0.service, .int .i64 f.a0.group, .int .u64 f.a0.session, .int .u64 f.a0.number, .string f.a0.text, .int .i64 f.a1.kind, .int .i64 f.a1.service, .int .i64 f.a1.group, .int .u64 f.a1.session, .int .u64 f.a1.number, .string f.a1.text]) rfl (rd_loadA (j := 2) (u := #[.int .i64 f.a0.kind, .int .i64 f.a0.service, .int .i64 f.a0.group, .int .u64 f.a0.session, .int .u64 f.a0.number, .string f.a0.text, .int .i64 f.a1.kind, .int .i64 f.a1.service, .int .i64 f.a1.group, .int .u64 f.a1.session, .int .u64 f.a1.number, .string f.a1.text]) Tryd.isAgg25 Tryd.sizeOf25 rfl rfl (by kernel_rfl)) ?_
      refine q_mv rfl ?_
      refine q_val (v := .pointer (some ⟨g1, 0, none⟩)) rfl (rd_indexAddrA (m := 0) (o := 0) Tryd.underlying27 rfl (by decide) Tryd.sizeOf25 rfl) ?_
      refine q_val (v := .agg #[.int .i64 f.a0.kind, .int .i64 f.a0.service, .int .i64 f.a0.group, .int .u64 f.a0.session, .int .u64 f.a0.number, .string f.a0.text, .int .i64 f.a1.kind, .int .i64 f.a1.service, .int .i64 f.a1.group, .int .u64 f.a1.session, .int .u64 f.a1.number, .string f.a1.text]) rfl (rd_loadA (j := 3) (u := #[.int .i64 f.a0.kind, .int .i64 f.a0.service, .int .i64 f.a0.group, .int .u64 f.a0.session, .int .u64 f.a0.number, .string f.a0.text, .int .i64 f.a1.kind, .int .i64 f.a1.service, .int .i64 f.a1.group, .int .u64 f.a1.session, .int .u64 f.a1.number, .string f.a1.text]) Tryd.isAgg25 Tryd.sizeOf25 rfl rfl (by kernel_rfl)) ?_
      refine q_val (v := .bool false) rfl (rd_two_ne hf.a0 hf.a1) ?_
      refine q_pick (v := .bool false) rfl rfl ?_
      refine q_end ?_
      refine run_false rfl rfl ?_
      refine run_skip rfl ?_
      refine run_endblock ?_
      refine run_region (todo := [0, 1, 2]) rfl rfl ?_
      refine run_mv rfl ?_
      refine run_rd (v := .int .i64 1) rfl (rd_add (r := 1) (by decide)) ?_
      refine run_mv rfl ?_
      refine run_endops ?_
      refine run_again ?_
      refine run_seq rfl ?_
      refine run_seq rfl ?_
      refine run_region (todo := [0, 1]) rfl rfl ?_
      refine run_mv rfl ?_
      refine run_rd (v := .bool true) rfl (rd_cmp rfl rfl) ?_
      refine run_endops ?_
      refine run_true rfl rfl ?_
      refine run_skip rfl ?_
      refine run_seq rfl ?_
      refine run_block rfl ?_
      refine run_seq rfl ?_
      refine run_draw (l := [0, 1, 2, 3, 4, 5, 6, 7, 8, 9, 10, 11]) rfl rfl (by kernel_rfl) (by kernel_rfl) ?_
      refine q_mv rfl ?_
      refine q_mv rfl ?_
      refine q_val (v := .bool true) rfl (rd_cmp rfl rfl) ?_
      refine q_mv rfl ?_
      refine q_mv rfl ?_
      refine q_val (v := .pointer (some ⟨g2, 12, none⟩)) rfl (rd_indexAddrA (m := 1) (o := 12) Tryd.underlying27 rfl (by decide) Tryd.sizeOf25 rfl) ?_
      refine q_val (v := .agg #[.int .i64 f.b0.kind, .int .i64 f.b0.service, .int .i64 f.b0.group, .int .u64 f.b0.session, .int .u64 f.b0.number, .string f.b0.text, .int .i64 f.b1.kind, .int .i64 f.b1.service, .int .i64 f.b1.group, .int .u64 f.b1.session, .int .u64 f.b1.number, .string f.b1.text]) rfl (rd_loadA (j := 2) (u := #[.int .i64 f.b0.kind, .int .i64 f.b0.service, .int .i64 f.b0.group, .int .u64 f.b0.session, .int .u64 f.b0.number, .string f.b0.text, .int .i64 f.b1.kind, .int .i64 f.b1.service, .int .i64 f.b1.group, .int .u64 f.b1.session, .int .u64 f.b1.number, .string f.b1.text]) Tryd.isAgg25 Tryd.sizeOf25 rfl rfl (by kernel_rfl)) ?_
      refine q_mv rfl ?_
      refine q_val (v := .pointer (some ⟨g1, 12, none⟩)) rfl (rd_indexAddrA (m := 1) (o := 12) Tryd.underlying27 rfl (by decide) Tryd.sizeOf25 rfl) ?_
      refine q_val (v := .agg #[.int .i64 f.b0.kind, .int .i64 f.b0.service, .int .i64 f.b0.group, .int .u64 f.b0.session, .int .u64 f.b0.number, .string f.b0.text, .int .i64 f.b1.kind, .int .i64 f.b1.service, .int .i64 f.b1.group, .int .u64 f.b1.session, .int .u64 f.b1.number, .string f.b1.text]) rfl (rd_loadA (j := 3) (u := #[.int .i64 f.b0.kind, .int .i64 f.b0.service, .int .i64 f.b0.group, .int .u64 f.b0.session, .int .u64 f.b0.number, .string f.b0.text, .int .i64 f.b1.kind, .int .i64 f.b1.service, .int .i64 f.b1.group, .int .u64 f.b1.session, .int .u64 f.b1.number, .string f.b1.text]) Tryd.isAgg25 Tryd.sizeOf25 rfl rfl (by kernel_rfl)) ?_
      refine q_val (v := .bool false) rfl (rd_two_ne hf.b0 hf.b1) ?_
      refine q_pick (v := .bool false) rfl rfl ?_
      refine q_end ?_
      refine run_false rfl rfl ?_
      refine run_skip rfl ?_
      refine run_endblock ?_
      refine run_region (todo := [0, 1, 2]) rfl rfl ?_
      refine run_mv rfl ?_
      refine run_rd (v := .int .i64 2) rfl (rd_add (r := 2) (by decide)) ?_
      refine run_mv rfl ?_
      refine run_endops ?_
      refine run_again ?_
      refine run_seq rfl ?_
      refine run_seq rfl ?_
      refine run_region (todo := [0, 1]) rfl rfl ?_
      refine run_mv rfl ?_
      refine run_rd (v := .bool true) rfl (rd_cmp rfl rfl) ?_
      refine run_endops ?_
      refine run_true rfl rfl ?_
      refine run_skip rfl ?_
      refine run_seq rfl ?_
      refine run_block rfl ?_
      refine run_seq rfl ?_
      refine run_draw (l := [0, 1, 2, 3, 4, 5, 6, 7, 8, 9, 10, 11]) rfl rfl (by kernel_rfl) (by kernel_rfl) ?_
      refine q_mv rfl ?_
      refine q_mv rfl ?_
      refine q_val (v := .bool false) rfl (rd_cmp rfl rfl) ?_
      refine q_mv rfl ?_
      refine q_skip rfl ?_
      refine q_skip rfl ?_
      refine q_skip rfl ?_
      refine q_skip rfl ?_
      refine q_skip rfl ?_
      refine q_skip rfl ?_
      refine q_skip rfl ?_
      refine q_pick (v := .bool false) rfl rfl ?_
      refine q_end ?_
      refine run_false rfl rfl ?_
      refine run_skip rfl ?_
      refine run_endblock ?_
      refine run_region (todo := [0, 1, 2]) rfl rfl ?_
      refine run_mv rfl ?_
      refine run_rd (v := .int .i64 3) rfl (rd_add (r := 3) (by decide)) ?_
      refine run_mv rfl ?_
      refine run_endops ?_
      refine run_again ?_
      refine run_seq rfl ?_
      refine run_seq rfl ?_
      refine run_region (todo := [0, 1]) rfl rfl ?_
      refine run_mv rfl ?_
      refine run_rd (v := .bool false) rfl (rd_cmp rfl rfl) ?_
      refine run_endops ?_
      refine run_false rfl rfl ?_
      refine run_exit rfl rfl ?_
      refine run_seq rfl ?_
      refine run_par' rfl (by kernel_rfl) (.val [] (fun _ => .agg ((Fr.mk f.a0 f.a1 f.b0 f.b1 e1 e2).arr)) :: .val [] (fun _ => .int .i64 2) :: .rel [] (fun _ v h => ∃ Ag9 cg9, v = .slice Ag9 (((Fr.mk f.a0 f.a1 f.b0 f.b1 e1 e2).lane 2).length) cg9 ∧ h = [.row Ag9 cg9 24 6 (((Fr.mk f.a0 f.a1 f.b0 f.b1 e1 e2).lane 2).length) (encE.row ((Fr.mk f.a0 f.a1 f.b0 f.b1 e1 e2).lane 2))]) :: .val [] (fun _ => .slice Ag5 1 cg5) :: .val [] (fun _ => .bool true) :: .val [] (fun _ => .bool true) :: .val [] (fun _ => .agg ((Fr.mk f.a0 f.a1 f.b0 f.b1 e1 e2).arr)) :: .val [] (fun _ => .int .i64 2) :: .val [] (fun _ => .slice A ((e1 :: e2 :: e3 :: l).length) c) :: .val [] (fun _ => .agg ((Fr.mk f.a0 f.a1 f.b0 f.b1 e1 e2).arr)) :: .val [] (fun _ => .agg ((Fr.mk f.a0 f.a1 f.b0 f.b1 e1 e2).arr)) :: .val [] (fun _ => .bool true) :: .val [] (fun _ => .bool true) :: .val [] (fun _ => .bool true) :: []) (⟨[], [], []⟩ :: ⟨[], [], []⟩ :: ⟨[0, 1], [], []⟩ :: ⟨[], [], []⟩ :: ⟨[2, 3], [2], []⟩ :: ⟨[4], [], []⟩ :: ⟨[5], [], []⟩ :: ⟨[5], [], []⟩ :: ⟨[5], [], []⟩ :: ⟨[5, 6, 7, 8], [], []⟩ :: ⟨[5], [], []⟩ :: ⟨[5, 9, 10], [], []⟩ :: ⟨[5, 11], [], []⟩ :: ⟨[12], [], []⟩ :: []) [(1, .int .i64 2), (2, .slice A ((e1 :: e2 :: e3 :: l).length) c), (7, .pointer (some ⟨g2, 0, none⟩)), (8, .slice Ag5 1 cg5)] (by kernel_rfl) (by kernel_rfl) ⟨rfl, rfl, rfl, rfl, trivial⟩ ⟨trivial, trivial, trivial, trivial, trivial, trivial, trivial, trivial, trivial, trivial, trivial, trivial, trivial, trivial, trivial⟩ ?_ (fun V hs hq => ?_)
      · refine ⟨fun V hs hB => ob_rd rfl rfl (rd_loadW (j := 2) Tryd.isAgg27 Tryd.sizeOf27 rfl rfl), ?_⟩
        refine ⟨fun V hs hB => ob_mv rfl rfl, ?_⟩
        refine ⟨fun V hs hB => ob_call rfl rfl Tryd.call10 (fun w hw => lane_any (Fr.mk f.a0 f.a1 f.b0 f.b1 e1 e2) (⟨hf.a0, hf.a1, hf.b0, hf.b1, he1, he2⟩ : (Fr.mk f.a0 f.a1 f.b0 f.b1 e1 e2).Ok) 2 w), ?_⟩
        refine ⟨fun V hs hB => ob_mv rfl rfl, ?_⟩
        refine ⟨fun V hs hB => ?_, ?_⟩
        · obtain ⟨Ag9, cg9, hV2, hh2⟩ := hB 2 (by simp)
          refine ob_set (j := 2) hV2 hh2 ?_
          exact ob_pf rfl rfl Tryd.call9 (fun w hw => by have h := fn_entries ((Fr.mk f.a0 f.a1 f.b0 f.b1 e1 e2).lane 2) [e1] Ag9 Ag5 cg9 cg5 w ((know_row (j := 0) rfl) w hw) ((know_row (j := 2) rfl) w hw) (lane_ok (⟨hf.a0, hf.a1, hf.b0, hf.b1, he1, he2⟩ : (Fr.mk f.a0 f.a1 f.b0 f.b1 e1 e2).Ok) _) (by intro e he; simp at he; rcases he with rfl <;> assumption) (Nat.le_trans (lane_le _ _) (by decide)); rw [decide_eq_true (by simp [Fr.lane, Fr.two, hb1p, hb2p])] at h; exact h)
        refine ⟨fun V hs hB => ob_mv rfl rfl, ?_⟩
        refine ⟨fun V hs hB => ob_rd rfl rfl (rd_loadW (j := 2) Tryd.isAgg27 Tryd.sizeOf27 rfl rfl), ?_⟩
        refine ⟨fun V hs hB => ob_mv rfl rfl, ?_⟩
        refine ⟨fun V hs hB => ob_mv rfl rfl, ?_⟩
        refine ⟨fun V hs hB => ob_pf rfl rfl Tryd.call12 (fun w hw => with_any (Fr.mk f.a0 f.a1 f.b0 f.b1 e1 e2) 2 (e1 :: e2 :: e3 :: l) A c w ((know_old hA) w hw)), ?_⟩
        refine ⟨fun V hs hB => ob_rd rfl rfl (rd_loadW (j := 2) Tryd.isAgg27 Tryd.sizeOf27 rfl rfl), ?_⟩
        refine ⟨fun V hs hB => ob_rd rfl rfl (rd_fr_eqlD (⟨hf.a0, hf.a1, hf.b0, hf.b1, he1, he2⟩ : (Fr.mk f.a0 f.a1 f.b0 f.b1 e1 e2).Ok) (⟨hf.a0, hf.a1, hf.b0, hf.b1, he1, he2⟩ : (Fr.mk f.a0 f.a1 f.b0 f.b1 e1 e2).Ok) (decide_eq_true rfl)), ?_⟩
        refine ⟨fun V hs hB => ob_pick rfl rfl rfl, ?_⟩
        refine ⟨fun V hs hB => ob_mv rfl rfl, ?_⟩
        trivial
      obtain ⟨Ag9, cg9, hV2, hh2⟩ := hq 2 (of_decide_eq_true (by kernel_rfl))
      rw [show relsOf _ = [2] from by kernel_rfl]
      simp only [List.flatMap_cons, List.flatMap_nil, List.append_nil, hh2]
      refine any_end (by kernel_rfl) ?_
      refine run_less (ρ' := [(6, .bool true)]) (H' := [.row Ag9 cg9 24 6 (((Fr.mk f.a0 f.a1 f.b0 f.b1 e1 e2).lane 2).length) (encE.row ((Fr.mk f.a0 f.a1 f.b0 f.b1 e1 e2).lane 2)), .blk g4 (.cells #[.int .i64 e1.kind, .int .i64 e1.service, .int .i64 e1.group, .int .u64 e1.session, .int .u64 e1.number, .string e1.text] 24), .row Ag5 cg5 24 6 1 ([] ++ [.int .i64 e1.kind, .int .i64 e1.service, .int .i64 e1.group, .int .u64 e1.session, .int .u64 e1.number, .string e1.text]), .blk g2 (.cells ((Fr.mk f.a0 f.a1 f.b0 f.b1 e1 e2).arr) 27), .blk g1 (.cells f.arr 27)]) [0, 1, 2, 3, 4] ?_ ⟨rfl, trivial⟩ ⟨rfl, rfl, rfl, rfl, rfl, trivial⟩ (by decide)
      refine run_ret rfl (v := .bool true) (res1 rfl rfl) ?_
      rfl
  · have hb1p := of_decide_eq_false hb1
    refine run_skip rfl ?_
    refine run_endblock ?_
    refine run_region (todo := [0, 1, 2]) rfl rfl ?_
    refine run_mv rfl ?_
    refine run_rd (v := .int .i64 1) rfl (rd_add (r := 1) (by decide)) ?_
    refine run_mv rfl ?_
    refine run_endops ?_
    refine run_again ?_
    refine run_seq rfl ?_
    refine run_seq rfl ?_
    refine run_region (todo := [0, 1, 2, 3, 4, 5, 6, 7]) rfl rfl ?_
    refine run_mv rfl ?_
    refine run_mv rfl ?_
    refine run_rd (v := .int .i64 (((e1 :: e2 :: e3 :: l).length : Nat) : Int)) rfl (rd_len Tryd.underlying28) ?_
    refine run_rd (v := .bool true) rfl (rd_cmp rfl dl1) ?_
    refine run_mv rfl ?_
    refine run_mvG rfl ?_
    refine run_rdG (v := .bool true) rfl (rd_cmp rfl rfl) ?_
    refine run_pick (v := .bool true) rfl rfl ?_
    refine run_endops ?_
    refine run_true rfl rfl ?_
    refine run_skip rfl ?_
    refine run_seq rfl ?_
    refine run_block rfl ?_
    refine run_seq rfl ?_
    refine run_region (todo := [0, 1, 2, 3, 4, 5]) rfl rfl ?_
    refine run_mv rfl ?_
    refine run_mv rfl ?_
    refine run_rd (v := .pointer (elemAddr A (1 * 6))) rfl (rd_elem (m := 1) (o := 1 * 6) (know_old hA) Tryd.underlying28 Tryd.sizeOf24 rfl (lt_of_item (rfl : (e1 :: e2 :: e3 :: l)[1]? = some e2) rfl) (Nat.lt_of_lt_of_le (m := 1 * 6 + 6) (by omega) (row_lt (E := encE) (rfl : (e1 :: e2 :: e3 :: l)[1]? = some e2))) rfl) ?_
    refine run_rd (v := .agg e2.arr) rfl (rd_elemLoadA (u := e2.arr) (know_old hA) Tryd.isAgg24 Tryd.sizeOf24 rfl (row_all (E := encE) (rfl : (e1 :: e2 :: e3 :: l)[1]? = some e2)) (row_lt (E := encE) (rfl : (e1 :: e2 :: e3 :: l)[1]? = some e2))) ?_
    refine run_rd (v := .agg #[.int .i64 0, .int .i64 0, .int .i64 0, .int .u64 0, .int .u64 0, .string ⟨#[]⟩]) rfl ((fun w _ => by kernel_rfl)) ?_
    refine run_rd (v := .bool (decide (e2 ≠ Ent.zero))) rfl (rd_ent_nz he2) ?_
    refine run_endops ?_
    refine run_if rfl rfl (fun hb3 => ?_) (fun hb3 => ?_)
    · have hb3p := of_decide_eq_true hb3
      refine run_region (todo := [0, 1, 2, 3, 4, 5, 6, 7]) rfl rfl ?_
      refine run_mv rfl ?_
      refine run_mv rfl ?_
      refine run_mv rfl ?_
      refine run_rd (v := .pointer (elemAddr A (1 * 6))) rfl (rd_elem (m := 1) (o := 1 * 6) (know_old hA) Tryd.underlying28 Tryd.sizeOf24 rfl (lt_of_item (rfl : (e1 :: e2 :: e3 :: l)[1]? = some e2) rfl) (Nat.lt_of_lt_of_le (m := 1 * 6 + 6) (by omega) (row_lt (E := encE) (rfl : (e1 :: e2 :: e3 :: l)[1]? = some e2))) rfl) ?_
      refine run_rd (v := .agg e2.arr) rfl (rd_elemLoadA (u := e2.arr) (know_old hA) Tryd.isAgg24 Tryd.sizeOf24 rfl (row_all (E := encE) (rfl : (e1 :: e2 :: e3 :: l)[1]? = some e2)) (row_lt (E := encE) (rfl : (e1 :: e2 :: e3 :: l)[1]? = some e2))) ?_
      refine run_lit (c := #[.int .i64 e2.kind, .int .i64 e2.service, .int .i64 e2.group, .int .u64 e2.session, .int .u64 e2.number, .string e2.text]) rfl Tryd.underlying28 Tryd.sizeOf24 Tryd.zeroValue24 rfl rfl (by kernel_rfl) (fun g10 => ?_)
      refine run_append (j := 1) (ti := Tryd.t24) (z := Ent.zero.val) (size := 6) (bytes := 56) (news := [.int .i64 e2.kind, .int .i64 e2.service, .int .i64 e2.group, .int .u64 e2.session, .int .u64 e2.number, .string e2.text]) rfl Tryd.underlying28 (by kernel_rfl) rfl rfl rfl rfl rfl rfl rfl (know_blk (j := 0) rfl (fun q hq => by rw [Nat.zero_add, List.getElem?_toArray])) rfl rfl (by omega) (by unfold maxLen; omega) (fun Ag11 cg11 hg11 => ?_)
      refine run_mv rfl ?_
      refine run_endops ?_
      refine run_endblock ?_
      refine run_region (todo := [0, 1, 2]) rfl rfl ?_
      refine run_mv rfl ?_
      refine run_rd (v := .int .i64 2) rfl (rd_add (r := 2) (by decide)) ?_
      refine run_mv rfl ?_
      refine run_endops ?_
      refine run_again ?_
      refine run_seq rfl ?_
      refine run_seq rfl ?_
      refine run_region (todo := [0, 1, 2, 3, 4, 5, 6, 7]) rfl rfl ?_
      refine run_mv rfl ?_
      refine run_mv rfl ?_
      refine run_rd (v := .int .i64 (((e1 :: e2 :: e3 :: l).length : Nat) : Int)) rfl (rd_len Tryd.underlying28) ?_
      refine run_rd (v := .bool true) rfl (rd_cmp rfl dl2) ?_
      refine run_mv rfl ?_
      refine run_mvG rfl ?_
      refine run_rdG (v := .bool false) rfl (rd_cmp rfl rfl) ?_
      refine run_pick (v := .bool false) rfl rfl ?_
      refine run_endops ?_
      refine run_false rfl rfl ?_
      refine run_exit rfl rfl ?_
      refine run_seq rfl ?_
      refine run_seq rfl ?_
      refine run_region (todo := [0]) rfl rfl ?_
      refine run_mv rfl ?_
      refine run_endops ?_
      refine run_block rfl ?_
      refine run_loop rfl ?_
      refine run_again ?_
      refine run_seq rfl ?_
      refine run_seq rfl ?_
      refine run_region (todo := [0, 1]) rfl rfl ?_
      refine run_mv rfl ?_
      refine run_rd (v := .bool true) rfl (rd_cmp rfl rfl) ?_
      refine run_endops ?_
      refine run_true rfl rfl ?_
      refine run_skip rfl ?_
      refine run_seq rfl ?_
      refine run_block rfl ?_
      refine run_seq rfl ?_
      refine run_draw (l := [0, 1, 2, 3, 4, 5, 6, 7, 8, 9, 10, 11]) rfl rfl (by kernel_rfl) (by kernel_rfl) ?_
      refine q_mv rfl ?_
      refine q_mv rfl ?_
      refine q_val (v := .bool true) rfl (rd_cmp rfl rfl) ?_
      refine q_mv rfl ?_
      refine q_mv rfl ?_
      refine q_val (v := .pointer (some ⟨g2, 0, none⟩)) rfl (rd_indexAddrA (m := 0) (o := 0) Tryd.underlying27 rfl (by decide) Tryd.sizeOf25 rfl) ?_
      refine q_val (v := .agg #[.int .i64 f.a0.kind, .int .i64 f.a0.service, .int .i64 f.a0.group, .int .u64 f.a0.session, .int .u64 f.a0.number, .string f.a0.text, .int .i64 f.a1.kind, .int .i64 f.a1.service, .int .i64 f.a1.group, .int .u64 f.a1.session, .int .u64 f.a1.number, .string f.a1.text]) rfl (rd_loadA (j := 2) (u := #[.int .i64 f.a0.kind, .int .i64 f.a0.service, .int .i64 f.a0.group, .int .u64 f.a0.session, .int .u64 f.a0.number, .string f.a0.text, .int .i64 f.a1.kind, .int .i64 f.a1.service, .int .i64 f.a1.group, .int .u64 f.a1.session, .int .u64 f.a1.number, .string f.a1.text]) Tryd.isAgg25 Tryd.sizeOf25 rfl rfl (by kernel_rfl)) ?_
      refine q_mv rfl ?_
      refine q_val (v := .pointer (some ⟨g1, 0, none⟩)) rfl (rd_indexAddrA (m := 0) (o := 0) Tryd.underlying27 rfl (by decide) Tryd.sizeOf25 rfl) ?_
      refine q_val (v := .agg #[.int .i64 f.a0.kind, .int .i64 f.a0.service, .int .i64 f.a0.group, .int .u64 f.a0.session, .int .u64 f.a0.number, .string f.a0.text, .int .i64 f.a1.kind, .int .i64 f.a1.service, .int .i64 f.a1.group, .int .u64 f.a1.session, .int .u64 f.a1.number, .string f.a1.text]) rfl (rd_loadA (j := 3) (u := #[.int .i64 f.a0.kind, .int .i64 f.a0.service, .int .i64 f.a0.group, .int .u64 f.a0.session, .int .u64 f.a0.number, .string f.a0.text, .int .i64 f.a1.kind, .int .i64 f.a1.service, .int .i64 f.a1.group, .int .u64 f.a1.session, .int .u64 f.a1.number, .string f.a1.text]) Tryd.isAgg25 Tryd.sizeOf25 rfl rfl (by kernel_rfl)) ?_
      refine q_val (v := .bool false) rfl (rd_two_ne hf.a0 hf.a1) ?_
      refine q_pick (v := .bool false) rfl rfl ?_
      refine q_end ?_
      refine run_false rfl rfl ?_
      refine run_skip rfl ?_
      refine run_endblock ?_
      refine run_region (todo := [0, 1, 2]) rfl rfl ?_
      refine run_mv rfl ?_
      refine run_rd (v := .int .i64 1) rfl (rd_add (r := 1) (by decide)) ?_
      refine run_mv rfl ?_
      refine run_endops ?_
      refine run_again ?_
      refine run_seq rfl ?_
      refine run_seq rfl ?_
      refine run_region (todo := [0, 1]) rfl rfl ?_
      refine run_mv rfl ?_
      refine run_rd (v := .bool true) rfl (rd_cmp rfl rfl) ?_
      refine run_endops ?_
      refine run_true rfl rfl ?_
      refine run_skip rfl ?_
      refine run_seq rfl ?_
      refine run_block rfl ?_
      refine run_seq rfl ?_
      refine run_draw (l := [0, 1, 2, 3, 4, 5, 6, 7, 8, 9, 10, 11]) rfl rfl (by kernel_rfl) (by kernel_rfl) ?_
      refine q_mv rfl ?_
      refine q_mv rfl ?_
      refine q_val (v := .bool true) rfl (rd_cmp rfl rfl) ?_
      refine q_mv rfl ?_
      refine q_mv rfl ?_
      refine q_val (v := .pointer (some ⟨g2, 12, none⟩)) rfl (rd_indexAddrA (m := 1) (o := 12) Tryd.underlying27 rfl (by decide) Tryd.sizeOf25 rfl) ?_
      refine q_val (v := .agg #[.int .i64 f.b0.kind, .int .i64 f.b0.service, .int .i64 f.b0.group, .int .u64 f.b0.session, .int .u64 f.b0.number, .string f.b0.text, .int .i64 f.b1.kind, .int .i64 f.b1.service, .int .i64 f.b1.group, .int .u64 f.b1.session, .int .u64 f.b1.number, .string f.b1.text]) rfl (rd_loadA (j := 2) (u := #[.int .i64 f.b0.kind, .int .i64 f.b0.service, .int .i64 f.b0.group, .int .u64 f.b0.session, .int .u64 f.b0.number, .string f.b0.text, .int .i64 f.b1.kind, .int .i64 f.b1.service, .int .i64 f.b1.group, .int .u64 f.b1.session, .int .u64 f.b1.number, .string f.b1.text]) Tryd.isAgg25 Tryd.sizeOf25 rfl rfl (by kernel_rfl)) ?_
      refine q_mv rfl ?_
      refine q_val (v := .pointer (some ⟨g1, 12, none⟩)) rfl (rd_indexAddrA (m := 1) (o := 12) Tryd.underlying27 rfl (by decide) Tryd.sizeOf25 rfl) ?_
      refine q_val (v := .agg #[.int .i64 f.b0.kind, .int .i64 f.b0.service, .int .i64 f.b0.group, .int .u64 f.b0.session, .int .u64 f.b0.number, .string f.b0.text, .int .i64 f.b1.kind, .int .i64 f.b1.service, .int .i64 f.b1.group, .int .u64 f.b1.session, .int .u64 f.b1.number, .string f.b1.text]) rfl (rd_loadA (j := 3) (u := #[.int .i64 f.b0.kind, .int .i64 f.b0.service, .int .i64 f.b0.group, .int .u64 f.b0.session, .int .u64 f.b0.number, .string f.b0.text, .int .i64 f.b1.kind, .int .i64 f.b1.service, .int .i64 f.b1.group, .int .u64 f.b1.session, .int .u64 f.b1.number, .string f.b1.text]) Tryd.isAgg25 Tryd.sizeOf25 rfl rfl (by kernel_rfl)) ?_
      refine q_val (v := .bool false) rfl (rd_two_ne hf.b0 hf.b1) ?_
      refine q_pick (v := .bool false) rfl rfl ?_
      refine q_end ?_
      refine run_false rfl rfl ?_
      refine run_skip rfl ?_
      refine run_endblock ?_
      refine run_region (todo := [0, 1, 2]) rfl rfl ?_
      refine run_mv rfl ?_
      refine run_rd (v := .int .i64 2) rfl (rd_add (r := 2) (by decide)) ?_
      refine run_mv rfl ?_
      refine run_endops ?_
      refine run_again ?_
      refine run_seq rfl ?_
      refine run_seq rfl ?_
      refine run_region (todo := [0, 1]) rfl rfl ?_
      refine run_mv rfl ?_
      refine run_rd (v := .bool true) rfl (rd_cmp rfl rfl) ?_
      refine run_endops ?_
      refine run_true rfl rfl ?_
      refine run_skip rfl ?_
      refine run_seq rfl ?_
      refine run_block rfl ?_
      refine run_seq rfl ?_
      refine run_draw (l := [0, 1, 2, 3, 4, 5, 6, 7, 8, 9, 10, 11]) rfl rfl (by kernel_rfl) (by kernel_rfl) ?_
      refine q_mv rfl ?_
      refine q_mv rfl ?_
      refine q_val (v := .bool false) rfl (rd_cmp rfl rfl) ?_
      refine q_mv rfl ?_
      refine q_skip rfl ?_
      refine q_skip rfl ?_
      refine q_skip rfl ?_
      refine q_skip rfl ?_
      refine q_skip rfl ?_
      refine q_skip rfl ?_
      refine q_skip rfl ?_
      refine q_pick (v := .bool false) rfl rfl ?_
      refine q_end ?_
      refine run_false rfl rfl ?_
      refine run_skip rfl ?_
      refine run_endblock ?_
      refine run_region (todo := [0, 1, 2]) rfl rfl ?_
      refine run_mv rfl ?_
      refine run_rd (v := .int .i64 3) rfl (rd_add (r := 3) (by decide)) ?_
      refine run_mv rfl ?_
      refine run_endops ?_
      refine run_again ?_
      refine run_seq rfl ?_
      refine run_seq rfl ?_
      refine run_region (todo := [0, 1]) rfl rfl ?_
      refine run_mv rfl ?_
      refine run_rd (v := .bool false) rfl (rd_cmp rfl rfl) ?_
      refine run_endops ?_
      refine run_false rfl rfl ?_
      refine run_exit rfl rfl ?_
      refine run_seq rfl ?_
      refine run_par' rfl (by kernel_rfl) (.val [] (fun _ => .agg ((Fr.mk f.a0 f.a1 f.b0 f.b1 e1 e2).arr)) :: .val [] (fun _ => .int .i64 2) :: .rel [] (fun _ v h => ∃ Ag12 cg12, v = .slice Ag12 (((Fr.mk f.a0 f.a1 f.b0 f.b1 e1 e2).lane 2).length) cg12 ∧ h = [.row Ag12 cg12 24 6 (((Fr.mk f.a0 f.a1 f.b0 f.b1 e1 e2).lane 2).length) (encE.row ((Fr.mk f.a0 f.a1 f.b0 f.b1 e1 e2).lane 2))]) :: .val [] (fun _ => .slice Ag11 1 cg11) :: .val [] (fun _ => .bool true) :: .val [] (fun _ => .bool true) :: .val [] (fun _ => .agg ((Fr.mk f.a0 f.a1 f.b0 f.b1 e1 e2).arr)) :: .val [] (fun _ => .int .i64 2) :: .val [] (fun _ => .slice A ((e1 :: e2 :: e3 :: l).length) c) :: .val [] (fun _ => .agg ((Fr.mk f.a0 f.a1 f.b0 f.b1 e1 e2).arr)) :: .val [] (fun _ => .agg ((Fr.mk f.a0 f.a1 f.b0 f.b1 e1 e2).arr)) :: .val [] (fun _ => .bool true) :: .val [] (fun _ => .bool true) :: .val [] (fun _ => .bool true) :: []) (⟨[], [], []⟩ :: ⟨[], [], []⟩ :: ⟨[0, 1], [], []⟩ :: ⟨[], [], []⟩ :: ⟨[2, 3], [2], []⟩ :: ⟨[4], [], []⟩ :: ⟨[5], [], []⟩ :: ⟨[5], [], []⟩ :: ⟨[5], [], []⟩ :: ⟨[5, 6, 7, 8], [], []⟩ :: ⟨[5], [], []⟩ :: ⟨[5, 9, 10], [], []⟩ :: ⟨[5, 11], [], []⟩ :: ⟨[12], [], []⟩ :: []) [(1, .int .i64 2), (2, .slice A ((e1 :: e2 :: e3 :: l).length) c), (7, .pointer (some ⟨g2, 0, none⟩)), (8, .slice Ag11 1 cg11)] (by kernel_rfl) (by kernel_rfl) ⟨rfl, rfl, rfl, rfl, trivial⟩ ⟨trivial, trivial, trivial, trivial, trivial, trivial, trivial, trivial, trivial, trivial, trivial, trivial, trivial, trivial, trivial⟩ ?_ (fun V hs hq => ?_)
      · refine ⟨fun V hs hB => ob_rd rfl rfl (rd_loadW (j := 2) Tryd.isAgg27 Tryd.sizeOf27 rfl rfl), ?_⟩
        refine ⟨fun V hs hB => ob_mv rfl rfl, ?_⟩
        refine ⟨fun V hs hB => ob_call rfl rfl Tryd.call10 (fun w hw => lane_any (Fr.mk f.a0 f.a1 f.b0 f.b1 e1 e2) (⟨hf.a0, hf.a1, hf.b0, hf.b1, he1, he2⟩ : (Fr.mk f.a0 f.a1 f.b0 f.b1 e1 e2).Ok) 2 w), ?_⟩
        refine ⟨fun V hs hB => ob_mv rfl rfl, ?_⟩
        refine ⟨fun V hs hB => ?_, ?_⟩
        · obtain ⟨Ag12, cg12, hV2, hh2⟩ := hB 2 (by simp)
          refine ob_set (j := 2) hV2 hh2 ?_
          exact ob_pf rfl rfl Tryd.call9 (fun w hw => by have h := fn_entries ((Fr.mk f.a0 f.a1 f.b0 f.b1 e1 e2).lane 2) [e2] Ag12 Ag11 cg12 cg11 w ((know_row (j := 0) rfl) w hw) ((know_row (j := 2) rfl) w hw) (lane_ok (⟨hf.a0, hf.a1, hf.b0, hf.b1, he1, he2⟩ : (Fr.mk f.a0 f.a1 f.b0 f.b1 e1 e2).Ok) _) (by intro e he; simp at he; rcases he with rfl <;> assumption) (Nat.le_trans (lane_le _ _) (by decide)); rw [decide_eq_true (by simp [Fr.lane, Fr.two, hb1p, hb3p])] at h; exact h)
        refine ⟨fun V hs hB => ob_mv rfl rfl, ?_⟩
        refine ⟨fun V hs hB => ob_rd rfl rfl (rd_loadW (j := 2) Tryd.isAgg27 Tryd.sizeOf27 rfl rfl), ?_⟩
        refine ⟨fun V hs hB => ob_mv rfl rfl, ?_⟩
        refine ⟨fun V hs hB => ob_mv rfl rfl, ?_⟩
        refine ⟨fun V hs hB => ob_pf rfl rfl Tryd.call12 (fun w hw => with_any (Fr.mk f.a0 f.a1 f.b0 f.b1 e1 e2) 2 (e1 :: e2 :: e3 :: l) A c w ((know_old hA) w hw)), ?_⟩
        refine ⟨fun V hs hB => ob_rd rfl rfl (rd_loadW (j := 2) Tryd.isAgg27 Tryd.sizeOf27 rfl rfl), ?_⟩
        refine ⟨fun V hs hB => ob_rd rfl rfl (rd_fr_eqlD (⟨hf.a0, hf.a1, hf.b0, hf.b1, he1, he2⟩ : (Fr.mk f.a0 f.a1 f.b0 f.b1 e1 e2).Ok) (⟨hf.a0, hf.a1, hf.b0, hf.b1, he1, he2⟩ : (Fr.mk f.a0 f.a1 f.b0 f.b1 e1 e2).Ok) (decide_eq_true rfl)), ?_⟩
        refine ⟨fun V hs hB => ob_pick rfl rfl rfl, ?_⟩
        refine ⟨fun V hs hB => ob_mv rfl rfl, ?_⟩
        trivial
      obtain ⟨Ag12, cg12, hV2, hh2⟩ := hq 2 (of_decide_eq_true (by kernel_rfl))
      rw [show relsOf _ = [2] from by kernel_rfl]
      simp only [List.flatMap_cons, List.flatMap_nil, List.append_nil, hh2]
      refine any_end (by kernel_rfl) ?_
      refine run_less (ρ' := [(6, .bool true)]) (H' := [.row Ag12 cg12 24 6 (((Fr.mk f.a0 f.a1 f.b0 f.b1 e1 e2).lane 2).length) (encE.row ((Fr.mk f.a0 f.a1 f.b0 f.b1 e1 e2).lane 2)), .blk g10 (.cells #[.int .i64 e2.kind, .int .i64 e2.service, .int .i64 e2.group, .int .u64 e2.session, .int .u64 e2.number, .string e2.text] 24), .row Ag11 cg11 24 6 1 ([] ++ [.int .i64 e2.kind, .int .i64 e2.service, .int .i64 e2.group, .int .u64 e2.session, .int .u64 e2.number, .string e2.text]), .blk g2 (.cells ((Fr.mk f.a0 f.a1 f.b0 f.b1 e1 e2).arr) 27), .blk g1 (.cells f.arr 27)]) [0, 1, 2, 3, 4] ?_ ⟨rfl, trivial⟩ ⟨rfl, rfl, rfl, rfl, rfl, trivial⟩ (by decide)
      refine run_ret rfl (v := .bool true) (res1 rfl rfl) ?_
      rfl
    · have hb3p := of_decide_eq_false hb3
      refine run_skip rfl ?_
      refine run_endblock ?_
      refine run_region (todo := [0, 1, 2]) rfl rfl ?_
      refine run_mv rfl ?_
      refine run_rd (v := .int .i64 2) rfl (rd_add (r := 2) (by decide)) ?_
      refine run_mv rfl ?_
      refine run_endops ?_
      refine run_again ?_
      refine run_seq rfl ?_
      refine run_seq rfl ?_
      refine run_region (todo := [0, 1, 2, 3, 4, 5, 6, 7]) rfl rfl ?_
      refine run_mv rfl ?_
      refine run_mv rfl ?_
      refine run_rd (v := .int .i64 (((e1 :: e2 :: e3 :: l).length : Nat) : Int)) rfl (rd_len Tryd.underlying28) ?_
      refine run_rd (v := .bool true) rfl (rd_cmp rfl dl2) ?_
      refine run_mv rfl ?_
      refine run_mvG rfl ?_
      refine run_rdG (v := .bool false) rfl (rd_cmp rfl rfl) ?_
      refine run_pick (v := .bool false) rfl rfl ?_
      refine run_endops ?_
      refine run_false rfl rfl ?_
      refine run_exit rfl rfl ?_
      refine run_seq rfl ?_
      refine run_seq rfl ?_
      refine run_region (todo := [0]) rfl rfl ?_
      refine run_mv rfl ?_
      refine run_endops ?_
      refine run_block rfl ?_
      refine run_loop rfl ?_
      refine run_again ?_
      refine run_seq rfl ?_
      refine run_seq rfl ?_
      refine run_region (todo := [0, 1]) rfl rfl ?_
      refine run_mv rfl ?_
      refine run_rd (v := .bool true) rfl (rd_cmp rfl rfl) ?_
      refine run_endops ?_
      refine run_true rfl rfl ?_
      refine run_skip rfl ?_
      refine run_seq rfl ?_
      refine run_block rfl ?_
      refine run_seq rfl ?_
      refine run_draw (l := [0, 1, 2, 3, 4, 5, 6, 7, 8, 9, 10, 11]) rfl rfl (by kernel_rfl) (by kernel_rfl) ?_
      refine q_mv rfl ?_
      refine q_mv rfl ?_
      refine q_val (v := .bool true) rfl (rd_cmp rfl rfl) ?_
      refine q_mv rfl ?_
      refine q_mv rfl ?_
      refine q_val (v := .pointer (some ⟨g2, 0, none⟩)) rfl (rd_indexAddrA (m := 0) (o := 0) Tryd.underlying27 rfl (by decide) Tryd.sizeOf25 rfl) ?_
      refine q_val (v := .agg #[.int .i64 f.a0.kind, .int .i64 f.a0.service, .int .i64 f.a0.group, .int .u64 f.a0.session, .int .u64 f.a0.number, .string f.a0.text, .int .i64 f.a1.kind, .int .i64 f.a1.service, .int .i64 f.a1.group, .int .u64 f.a1.session, .int .u64 f.a1.number, .string f.a1.text]) rfl (rd_loadA (j := 1) (u := #[.int .i64 f.a0.kind, .int .i64 f.a0.service, .int .i64 f.a0.group, .int .u64 f.a0.session, .int .u64 f.a0.number, .string f.a0.text, .int .i64 f.a1.kind, .int .i64 f.a1.service, .int .i64 f.a1.group, .int .u64 f.a1.session, .int .u64 f.a1.number, .string f.a1.text]) Tryd.isAgg25 Tryd.sizeOf25 rfl rfl (by kernel_rfl)) ?_
      refine q_mv rfl ?_
      refine q_val (v := .pointer (some ⟨g1, 0, none⟩)) rfl (rd_indexAddrA (m := 0) (o := 0) Tryd.underlying27 rfl (by decide) Tryd.sizeOf25 rfl) ?_
      refine q_val (v := .agg #[.int .i64 f.a0.kind, .int .i64 f.a0.service, .int .i64 f.a0.group, .int .u64 f.a0.session, .int .u64 f.a0.number, .string f.a0.text, .int .i64 f.a1.kind, .int .i64 f.a1.service, .int .i64 f.a1.group, .int .u64 f.a1.session, .int .u64 f.a1.number, .string f.a1.text]) rfl (rd_loadA (j := 2) (u := #[.int .i64 f.a0.kind, .int .i64 f.a0.service, .int .i64 f.a0.group, .int .u64 f.a0.session, .int .u64 f.a0.number, .string f.a0.text, .int .i64 f.a1.kind, .int .i64 f.a1.service, .int .i64 f.a1.group, .int .u64 f.a1.session, .int .u64 f.a1.number, .string f.a1.text]) Tryd.isAgg25 Tryd.sizeOf25 rfl rfl (by kernel_rfl)) ?_
      refine q_val (v := .bool false) rfl (rd_two_ne hf.a0 hf.a1) ?_
      refine q_pick (v := .bool false) rfl rfl ?_
      refine q_end ?_
      refine run_false rfl rfl ?_
      refine run_skip rfl ?_
      refine run_endblock ?_
      refine run_region (todo := [0, 1, 2]) rfl rfl ?_
      refine run_mv rfl ?_
      refine run_rd (v := .int .i64 1) rfl (rd_add (r := 1) (by decide)) ?_
      refine run_mv rfl ?_
      refine run_endops ?_
      refine run_again ?_
      refine run_seq rfl ?_
      refine run_seq rfl ?_
      refine run_region (todo := [0, 1]) rfl rfl ?_
      refine run_mv rfl ?_
      refine run_rd (v := .bool true) rfl (rd_cmp rfl rfl) ?_
      refine run_endops ?_
      refine run_true rfl rfl ?_
      refine run_skip rfl ?_
      refine run_seq rfl ?_
      refine run_block rfl ?_
      refine run_seq rfl ?_
      refine run_draw (l := [0, 1, 2, 3, 4, 5, 6, 7, 8, 9, 10, 11]) rfl rfl (by kernel_rfl) (by kernel_rfl) ?_
      refine q_mv rfl ?_
      refine q_mv rfl ?_
      refine q_val (v := .bool true) rfl (rd_cmp rfl rfl) ?_
      refine q_mv rfl ?_
      refine q_mv rfl ?_
      refine q_val (v := .pointer (some ⟨g2, 12, none⟩)) rfl (rd_indexAddrA (m := 1) (o := 12) Tryd.underlying27 rfl (by decide) Tryd.sizeOf25 rfl) ?_
      refine q_val (v := .agg #[.int .i64 f.b0.kind, .int .i64 f.b0.service, .int .i64 f.b0.group, .int .u64 f.b0.session, .int .u64 f.b0.number, .string f.b0.text, .int .i64 f.b1.kind, .int .i64 f.b1.service, .int .i64 f.b1.group, .int .u64 f.b1.session, .int .u64 f.b1.number, .string f.b1.text]) rfl (rd_loadA (j := 1) (u := #[.int .i64 f.b0.kind, .int .i64 f.b0.service, .int .i64 f.b0.group, .int .u64 f.b0.session, .int .u64 f.b0.number, .string f.b0.text, .int .i64 f.b1.kind, .int .i64 f.b1.service, .int .i64 f.b1.group, .int .u64 f.b1.session, .int .u64 f.b1.number, .string f.b1.text]) Tryd.isAgg25 Tryd.sizeOf25 rfl rfl (by kernel_rfl)) ?_
      refine q_mv rfl ?_
      refine q_val (v := .pointer (some ⟨g1, 12, none⟩)) rfl (rd_indexAddrA (m := 1) (o := 12) Tryd.underlying27 rfl (by decide) Tryd.sizeOf25 rfl) ?_
      refine q_val (v := .agg #[.int .i64 f.b0.kind, .int .i64 f.b0.service, .int .i64 f.b0.group, .int .u64 f.b0.session, .int .u64 f.b0.number, .string f.b0.text, .int .i64 f.b1.kind, .int .i64 f.b1.service, .int .i64 f.b1.group, .int .u64 f.b1.session, .int .u64 f.b1.number, .string f.b1.text]) rfl (rd_loadA (j := 2) (u := #[.int .i64 f.b0.kind, .int .i64 f.b0.service, .int .i64 f.b0.group, .int .u64 f.b0.session, .int .u64 f.b0.number, .string f.b0.text, .int .i64 f.b1.kind, .int .i64 f.b1.service, .int .i64 f.b1.group, .int .u64 f.b1.session, .int .u64 f.b1.number, .string f.b1.text]) Tryd.isAgg25 Tryd.sizeOf25 rfl rfl (by kernel_rfl)) ?_
      refine q_val (v := .bool false) rfl (rd_two_ne hf.b0 hf.b1) ?_
      refine q_pick (v := .bool false) rfl rfl ?_
      refine q_end ?_
      refine run_false rfl rfl ?_
      refine run_skip rfl ?_
      refine run_endblock ?_
      refine run_region (todo := [0, 1, 2]) rfl rfl ?_
      refine run_mv rfl ?_
      refine run_rd (v := .int .i64 2) rfl (rd_add (r := 2) (by decide)) ?_
      refine run_mv rfl ?_
      refine run_endops ?_
      refine run_again ?_
      refine run_seq rfl ?_
      refine run_seq rfl ?_
      refine run_region (todo := [0, 1]) rfl rfl ?_
      refine run_mv rfl ?_
      refine run_rd (v := .bool true) rfl (rd_cmp rfl rfl) ?_
      refine run_endops ?_
      refine run_true rfl rfl ?_
      refine run_skip rfl ?_
      refine run_seq rfl ?_
      refine run_block rfl ?_
      refine run_seq rfl ?_
      refine run_draw (l := [0, 1, 2, 3, 4, 5, 6, 7, 8, 9, 10, 11]) rfl rfl (by kernel_rfl) (by kernel_rfl) ?_
      refine q_mv rfl ?_
      refine q_mv rfl ?_
      refine q_val (v := .bool false) rfl (rd_cmp rfl rfl) ?_
      refine q_mv rfl ?_
      refine q_skip rfl ?_
      refine q_skip rfl ?_
      refine q_skip rfl ?_
      refine q_skip rfl ?_
      refine q_skip rfl ?_
      refine q_skip rfl ?_
      refine q_skip rfl ?_
      refine q_pick (v := .bool false) rfl rfl ?_
      refine q_end ?_
      refine run_false rfl rfl ?_
      refine run_skip rfl ?_
      refine run_endblock ?_
      refine run_region (todo := [0, 1, 2]) rfl rfl ?_
      refine run_mv rfl ?_
      refine run_rd (v := .int .i64 3) rfl (rd_add (r := 3) (by decide)) ?_
      refine run_mv rfl ?_
      refine run_endops ?_
      refine run_again ?_
      refine run_seq rfl ?_
      refine run_seq rfl ?_
      refine run_region (todo := [0, 1]) rfl rfl ?_
      refine run_mv rfl ?_
      refine run_rd (v := .bool false) rfl (rd_cmp rfl rfl) ?_
      refine run_endops ?_
      refine run_false rfl rfl ?_
      refine run_exit rfl rfl ?_
      refine run_seq rfl ?_
      refine run_par' rfl (by kernel_rfl) (.val [] (fun _ => .agg ((Fr.mk f.a0 f.a1 f.b0 f.b1 e1 e2).arr)) :: .val [] (fun _ => .int .i64 2) :: .rel [] (fun _ v h => ∃ Ag13 cg13, v = .slice Ag13 (((Fr.mk f.a0 f.a1 f.b0 f.b1 e1 e2).lane 2).length) cg13 ∧ h = [.row Ag13 cg13 24 6 (((Fr.mk f.a0 f.a1 f.b0 f.b1 e1 e2).lane 2).length) (encE.row ((Fr.mk f.a0 f.a1 f.b0 f.b1 e1 e2).lane 2))]) :: .val [] (fun _ => .slice (some ⟨g3, 0, none⟩) 0 0) :: .val [] (fun _ => .bool true) :: .val [] (fun _ => .bool true) :: .val [] (fun _ => .agg ((Fr.mk f.a0 f.a1 f.b0 f.b1 e1 e2).arr)) :: .val [] (fun _ => .int .i64 2) :: .val [] (fun _ => .slice A ((e1 :: e2 :: e3 :: l).length) c) :: .val [] (fun _ => .agg ((Fr.mk f.a0 f.a1 f.b0 f.b1 e1 e2).arr)) :: .val [] (fun _ => .agg ((Fr.mk f.a0 f.a1 f.b0 f.b1 e1 e2).arr)) :: .val [] (fun _ => .bool true) :: .val [] (fun _ => .bool true) :: .val [] (fun _ => .bool true) :: []) (⟨[], [], []⟩ :: ⟨[], [], []⟩ :: ⟨[0, 1], [], []⟩ :: ⟨[], [], []⟩ :: ⟨[2, 3], [2], []⟩ :: ⟨[4], [], []⟩ :: ⟨[5], [], []⟩ :: ⟨[5], [], []⟩ :: ⟨[5], [], []⟩ :: ⟨[5, 6, 7, 8], [], []⟩ :: ⟨[5], [], []⟩ :: ⟨[5, 9, 10], [], []⟩ :: ⟨[5, 11], [], []⟩ :: ⟨[12], [], []⟩ :: []) [(1, .int .i64 2), (2, .slice A ((e1 :: e2 :: e3 :: l).length) c), (7, .pointer (some ⟨g2, 0, none⟩)), (8, .slice (some ⟨g3, 0, none⟩) 0 0)] (by kernel_rfl) (by kernel_rfl) ⟨rfl, rfl, rfl, rfl, trivial⟩ ⟨trivial, trivial, trivial, trivial, trivial, trivial, trivial, trivial, trivial, trivial, trivial, trivial, trivial, trivial, trivial⟩ ?_ (fun V hs hq => ?_)
      · refine ⟨fun V hs hB => ob_rd rfl rfl (rd_loadW (j := 1) Tryd.isAgg27 Tryd.sizeOf27 rfl rfl), ?_⟩
        refine ⟨fun V hs hB => ob_mv rfl rfl, ?_⟩
        refine ⟨fun V hs hB => ob_call rfl rfl Tryd.call10 (fun w hw => lane_any (Fr.mk f.a0 f.a1 f.b0 f.b1 e1 e2) (⟨hf.a0, hf.a1, hf.b0, hf.b1, he1, he2⟩ : (Fr.mk f.a0 f.a1 f.b0 f.b1 e1 e2).Ok) 2 w), ?_⟩
        refine ⟨fun V hs hB => ob_mv rfl rfl, ?_⟩
        refine ⟨fun V hs hB => ?_, ?_⟩
        · obtain ⟨Ag13, cg13, hV2, hh2⟩ := hB 2 (by simp)
          refine ob_set (j := 2) hV2 hh2 ?_
          exact ob_pf rfl rfl Tryd.call9 (fun w hw => by have h := fn_entries ((Fr.mk f.a0 f.a1 f.b0 f.b1 e1 e2).lane 2) ([] : List Ent) Ag13 (some ⟨g3, 0, none⟩) cg13 0 w ((know_row (j := 0) rfl) w hw) ((know_row (j := 1) rfl) w hw) (lane_ok (⟨hf.a0, hf.a1, hf.b0, hf.b1, he1, he2⟩ : (Fr.mk f.a0 f.a1 f.b0 f.b1 e1 e2).Ok) _) (by intro e he; cases he) (Nat.le_trans (lane_le _ _) (by decide)); rw [decide_eq_true (by simp [Fr.lane, Fr.two, hb1p, hb3p])] at h; exact h)
        refine ⟨fun V hs hB => ob_mv rfl rfl, ?_⟩
        refine ⟨fun V hs hB => ob_rd rfl rfl (rd_loadW (j := 1) Tryd.isAgg27 Tryd.sizeOf27 rfl rfl), ?_⟩
        refine ⟨fun V hs hB => ob_mv rfl rfl, ?_⟩
        refine ⟨fun V hs hB => ob_mv rfl rfl, ?_⟩
        refine ⟨fun V hs hB => ob_pf rfl rfl Tryd.call12 (fun w hw => with_any (Fr.mk f.a0 f.a1 f.b0 f.b1 e1 e2) 2 (e1 :: e2 :: e3 :: l) A c w ((know_old hA) w hw)), ?_⟩
        refine ⟨fun V hs hB => ob_rd rfl rfl (rd_loadW (j := 1) Tryd.isAgg27 Tryd.sizeOf27 rfl rfl), ?_⟩
        refine ⟨fun V hs hB => ob_rd rfl rfl (rd_fr_eqlD (⟨hf.a0, hf.a1, hf.b0, hf.b1, he1, he2⟩ : (Fr.mk f.a0 f.a1 f.b0 f.b1 e1 e2).Ok) (⟨hf.a0, hf.a1, hf.b0, hf.b1, he1, he2⟩ : (Fr.mk f.a0 f.a1 f.b0 f.b1 e1 e2).Ok) (decide_eq_true rfl)), ?_⟩
        refine ⟨fun V hs hB => ob_pick rfl rfl rfl, ?_⟩
        refine ⟨fun V hs hB => ob_mv rfl rfl, ?_⟩
        trivial
      obtain ⟨Ag13, cg13, hV2, hh2⟩ := hq 2 (of_decide_eq_true (by kernel_rfl))
      rw [show relsOf _ = [2] from by kernel_rfl]
      simp only [List.flatMap_cons, List.flatMap_nil, List.append_nil, hh2]
      refine any_end (by kernel_rfl) ?_
      refine run_less (ρ' := [(6, .bool true)]) (H' := [.row Ag13 cg13 24 6 (((Fr.mk f.a0 f.a1 f.b0 f.b1 e1 e2).lane 2).length) (encE.row ((Fr.mk f.a0 f.a1 f.b0 f.b1 e1 e2).lane 2)), .row (some ⟨g3, 0, none⟩) 0 24 6 0 [], .blk g2 (.cells ((Fr.mk f.a0 f.a1 f.b0 f.b1 e1 e2).arr) 27), .blk g1 (.cells f.arr 27)]) [0, 1, 2, 3] ?_ ⟨rfl, trivial⟩ ⟨rfl, rfl, rfl, rfl, trivial⟩ (by decide)
      refine run_ret rfl (v := .bool true) (res1 rfl rfl) ?_
      rfl

end Go.Proofs.YtadjnbjeaeoobaaDoor
