/- Packets: laws of layer 5. Printed by wip/k/genS.py. -/
import Derived.Test.YthapghhmeicbnaaDoorKS0
import Derived.Test.YthapghhmeicbnaaDoorKFr05
set_option linter.unusedVariables false
set_option linter.unusedSimpArgs false
namespace Go.Proofs.YthapghhmeicbnaaDoor
open Go.RowKit
set_option maxRecDepth 20000

theorem pf_lies (i fr : Nat) (t : Int) (hi : i < 1000) (hfr : fr < 1000) (ht0 : 0 ≤ t) (ht2 : t ≤ 2) : Pf Tryd.prog 20 #[.int .i64 ((i : Nat) : Int), .int .i64 ((fr : Nat) : Int), .int .i64 t] (.bool (liesB i fr t)) := by
  refine pf_of_run Tryd.func20 rfl rfl (fun w0 => ?_)
  refine run_seq rfl ?_
  refine run_region (todo := [0]) rfl rfl ?_
  refine run_mv rfl ?_
  refine run_endops ?_
  refine run_seq rfl ?_
  rcases Bool.eq_false_or_eq_true (decide (((i : Nat) : Int) ≥ (((fr : Nat) : Int) + ((56 : Int) * t)))) with hb1 | hb1
  · have hb1p := of_decide_eq_true hb1
    refine run_region (todo := [0, 1, 2, 3, 4, 5, 6, 7, 8, 9, 10, 11, 12, 13, 14, 15]) rfl rfl ?_
    refine run_mv rfl ?_
    refine run_mv rfl ?_
    refine run_mv rfl ?_
    refine run_rd (v := .int .i64 ((56 : Int) * t)) rfl (rd_mul (r := (56 : Int) * t) (IntWalk.i64_in _ (by omega))) ?_
    refine run_rd (v := .int .i64 (((fr : Nat) : Int) + ((56 : Int) * t))) rfl (rd_add (r := ((fr : Nat) : Int) + ((56 : Int) * t)) (IntWalk.i64_in _ (by omega))) ?_
    refine run_rd (v := .bool true) rfl (rd_cmp rfl hb1) ?_
    refine run_mv rfl ?_
    refine run_mvG rfl ?_
    refine run_mvG rfl ?_
    refine run_mvG rfl ?_
    refine run_rdG (v := .int .i64 ((56 : Int) * t)) rfl (rd_mul (r := (56 : Int) * t) (IntWalk.i64_in _ (by omega))) ?_
    refine run_rdG (v := .int .i64 (((fr : Nat) : Int) + ((56 : Int) * t))) rfl (rd_add (r := ((fr : Nat) : Int) + ((56 : Int) * t)) (IntWalk.i64_in _ (by omega))) ?_
    refine run_rdG (v := .int .i64 ((((fr : Nat) : Int) + ((56 : Int) * t)) + 56)) rfl (rd_add (r := (((fr : Nat) : Int) + ((56 : Int) * t)) + 56) (IntWalk.i64_in _ (by omega))) ?_
    refine run_rdG (v := .bool (decide (((i : Nat) : Int) < ((((fr : Nat) : Int) + ((56 : Int) * t)) + 56)))) rfl (rd_cmp rfl rfl) ?_
    refine run_pick (v := .bool (decide (((i : Nat) : Int) < ((((fr : Nat) : Int) + ((56 : Int) * t)) + 56)))) rfl rfl ?_
    refine run_mv rfl ?_
    refine run_endops ?_
    refine run_ret rfl (v := .bool (decide (((i : Nat) : Int) < ((((fr : Nat) : Int) + ((56 : Int) * t)) + 56)))) (res1 rfl rfl) ?_
    exact congrArg Value.bool (show _ = liesB i fr t from by unfold liesB; rw [decide_eq_true (show (i : Int) ≥ fr + 56 * t by omega), Bool.true_and])
  · have hb1p := of_decide_eq_false hb1
    refine run_region (todo := [0, 1, 2, 3, 4, 5, 6, 7, 8, 9, 10, 11, 12, 13, 14, 15]) rfl rfl ?_
    refine run_mv rfl ?_
    refine run_mv rfl ?_
    refine run_mv rfl ?_
    refine run_rd (v := .int .i64 ((56 : Int) * t)) rfl (rd_mul (r := (56 : Int) * t) (IntWalk.i64_in _ (by omega))) ?_
    refine run_rd (v := .int .i64 (((fr : Nat) : Int) + ((56 : Int) * t))) rfl (rd_add (r := ((fr : Nat) : Int) + ((56 : Int) * t)) (IntWalk.i64_in _ (by omega))) ?_
    refine run_rd (v := .bool false) rfl (rd_cmp rfl hb1) ?_
    refine run_mv rfl ?_
    refine run_skipped rfl ?_
    refine run_skipped rfl ?_
    refine run_skipped rfl ?_
    refine run_skipped rfl ?_
    refine run_skipped rfl ?_
    refine run_skipped rfl ?_
    refine run_skipped rfl ?_
    refine run_pick (v := .bool false) rfl rfl ?_
    refine run_mv rfl ?_
    refine run_endops ?_
    refine run_ret rfl (v := .bool false) (res1 rfl rfl) ?_
    exact congrArg Value.bool (show false = liesB i fr t from by unfold liesB; rw [decide_eq_false (by omega)]; rfl)

theorem packetApart_pf (p : Pkt) (hp : p.Fit) (t : Int) (f : Fr) (hf : f.Ok) : Pf Tryd.prog 7 #[p.val, .int .i64 t, f.val] (.bool true) := by
  refine pf_of_run Tryd.func7 rfl rfl (fun w0 => ?_)
  refine run_seq rfl ?_
  refine run_region (todo := [0, 1, 2]) rfl rfl ?_
  refine run_box rfl (fun g1 => ?_)
  refine run_box rfl (fun g2 => ?_)
  refine run_mv rfl ?_
  refine run_endops ?_
  refine run_seq rfl ?_
  refine run_region (todo := [0, 1, 2]) rfl rfl ?_
  refine run_rd (v := .agg p.arr) rfl (rd_loadW (j := 1) Tryd.isAgg35 Tryd.sizeOf35 rfl (by kernel_rfl)) ?_
  refine run_alloc rfl Tryd.zeroValue35 (fun g3 => ?_)
  refine run_storeW (j := 0) (c' := p.arr) rfl Tryd.sizeOf35 (by kernel_rfl) (by kernel_rfl) rfl (by kernel_rfl) rfl rfl ?_
  refine run_endops ?_
  refine run_seq rfl ?_
  refine run_seq rfl ?_
  rcases Bool.eq_false_or_eq_true (decide (t < 0)) with hb1 | hb1
  · skip
    refine run_region (todo := [0, 1, 2, 3, 4, 5]) rfl rfl ?_
    refine run_mv rfl ?_
    refine run_rd (v := .bool true) rfl (rd_cmp rfl hb1) ?_
    refine run_mv rfl ?_
    refine run_skipped rfl ?_
    refine run_skipped rfl ?_
    refine run_pick (v := .bool true) rfl rfl ?_
    refine run_endops ?_
    refine run_true rfl rfl ?_
    refine run_seq rfl ?_
    refine run_region (todo := [0, 1]) rfl rfl ?_
    refine run_pf0 (v := .bool true) rfl Tryd.call11 (pf_fixed) ?_
    refine run_mv rfl ?_
    refine run_endops ?_
    refine run_ret rfl (v := .bool true) (res1 rfl rfl) ?_
    rfl
  · have ht0 : 0 ≤ t := by have := of_decide_eq_false hb1; omega
    refine run_region (todo := [0, 1, 2, 3, 4, 5]) rfl rfl ?_
    refine run_mv rfl ?_
    refine run_rd (v := .bool false) rfl (rd_cmp rfl hb1) ?_
    refine run_mv rfl ?_
    refine run_mvG rfl ?_
    refine run_rdG (v := .bool (decide (t > 2))) rfl (rd_cmp rfl rfl) ?_
    refine run_pick (v := .bool (decide (t > 2))) rfl rfl ?_
    refine run_endops ?_
    refine run_if rfl rfl (fun hb2 => ?_) (fun hb2 => ?_)
    · skip
      refine run_seq rfl ?_
      refine run_region (todo := [0, 1]) rfl rfl ?_
      refine run_pf0 (v := .bool true) rfl Tryd.call11 (pf_fixed) ?_
      refine run_mv rfl ?_
      refine run_endops ?_
      refine run_ret rfl (v := .bool true) (res1 rfl rfl) ?_
      rfl
    · have ht2 : t ≤ 2 := by have := of_decide_eq_false hb2; omega
      refine run_skip rfl ?_
      refine run_seq rfl ?_
      refine run_par' rfl (by kernel_rfl) (.val [] (fun _ => .pointer (some ⟨g1, 35, none⟩)) :: .val [] (fun _ => .agg p.newest.arr) :: .val [] (fun _ => .int .i64 t) :: .val [] (fun _ => .agg f.arr) :: .rel [] (fun _ v h => ∃ Ag4 cg4, v = .slice Ag4 ((f.lane 0).length) cg4 ∧ h = [.row Ag4 cg4 30 6 ((f.lane 0).length) (encE.row (f.lane 0))]) :: .val [] (fun _ => .agg ((p.newest.with t (f.lane 0)).arr)) :: .val [] (fun _ => .pointer (some ⟨g3, 35, none⟩)) :: []) (⟨[], [], []⟩ :: ⟨[0], [], []⟩ :: ⟨[], [], []⟩ :: ⟨[], [], []⟩ :: ⟨[3], [], []⟩ :: ⟨[1, 2, 4], [4], []⟩ :: ⟨[], [], []⟩ :: []) [(1, .int .i64 t), (3, .pointer (some ⟨g1, 0, none⟩)), (5, .pointer (some ⟨g2, 0, none⟩)), (7, .pointer (some ⟨g3, 0, none⟩))] (by kernel_rfl) (by kernel_rfl) ⟨rfl, rfl, rfl, rfl, trivial⟩ ⟨trivial, trivial, trivial, trivial, trivial, trivial, trivial, trivial⟩ ?_ (fun V hs hq => ?_)
      · refine ⟨fun V hs hB => ob_rd rfl rfl (rd_fieldAddr (o := 35) Tryd.underlying35 rfl Tryd.sizeOf33 rfl rfl), ?_⟩
        refine ⟨fun V hs hB => ob_rd rfl rfl (rd_loadA (j := 2) (u := p.newest.arr) Tryd.isAgg33 Tryd.sizeOf33 rfl (by kernel_rfl) (by kernel_rfl)), ?_⟩
        refine ⟨fun V hs hB => ob_mv rfl rfl, ?_⟩
        refine ⟨fun V hs hB => ob_rd rfl rfl (rd_loadW (j := 1) Tryd.isAgg33 Tryd.sizeOf33 rfl rfl), ?_⟩
        refine ⟨fun V hs hB => ob_call rfl rfl Tryd.call19 (fun w hw => rlane_any f hf 0 w), ?_⟩
        refine ⟨fun V hs hB => ?_, ?_⟩
        · obtain ⟨Ag4, cg4, hV4, hh4⟩ := hB 4 (by simp)
          refine ob_set (j := 4) hV4 hh4 ?_
          exact ob_pf rfl rfl Tryd.call18 (fun w hw => rwith_any p.newest t (f.lane 0) Ag4 cg4 w ((know_row (j := 0) rfl) w hw))
        refine ⟨fun V hs hB => ob_rd rfl rfl (rd_fieldAddr (o := 35) Tryd.underlying35 rfl Tryd.sizeOf33 rfl rfl), ?_⟩
        trivial
      obtain ⟨Ag4, cg4, hV4, hh4⟩ := hq 4 (of_decide_eq_true (by kernel_rfl))
      rw [show relsOf _ = [4] from by kernel_rfl]
      simp only [List.flatMap_cons, List.flatMap_nil, List.append_nil, hh4]
      refine any_one (i := 7) (by kernel_rfl) ?_
      refine ro_store (j := 1) (c' := (Pkt.mk p.src p.inc p.conf p.members p.count p.promise p.wanted p.ready p.epoch p.round (p.newest.with t (f.lane 0)) p.older p.relayOf p.relayRound p.relay).arr) rfl Tryd.sizeOf33 (by kernel_rfl) (by kernel_rfl) rfl (by kernel_rfl) (by kernel_rfl) rfl ?_
      refine any_end (by kernel_rfl) ?_
      refine run_less (ρ' := [(1, .int .i64 t), (3, .pointer (some ⟨g1, 0, none⟩)), (5, .pointer (some ⟨g2, 0, none⟩)), (6, .bool false), (7, .pointer (some ⟨g3, 0, none⟩))]) (H' := [.row Ag4 cg4 30 6 ((f.lane 0).length) (encE.row (f.lane 0)), .blk g3 (.cells ((Pkt.mk p.src p.inc p.conf p.members p.count p.promise p.wanted p.ready p.epoch p.round (p.newest.with t (f.lane 0)) p.older p.relayOf p.relayRound p.relay).arr) 35), .blk g2 (.cells f.arr 33), .blk g1 (.cells p.arr 35)]) [0, 1, 2, 3] ?_ ⟨rfl, rfl, rfl, rfl, rfl, trivial⟩ ⟨rfl, rfl, rfl, rfl, trivial⟩ (by decide)
      refine run_seq rfl ?_
      refine run_par' rfl (by kernel_rfl) (.val [] (fun _ => .pointer (some ⟨g1, 71, none⟩)) :: .val [] (fun _ => .agg p.older.arr) :: .val [] (fun _ => .int .i64 t) :: .val [] (fun _ => .agg f.arr) :: .rel [] (fun _ v h => ∃ Ag5 cg5, v = .slice Ag5 ((f.lane 1).length) cg5 ∧ h = [.row Ag5 cg5 30 6 ((f.lane 1).length) (encE.row (f.lane 1))]) :: .val [] (fun _ => .agg ((p.older.with t (f.lane 1)).arr)) :: .val [] (fun _ => .pointer (some ⟨g3, 71, none⟩)) :: []) (⟨[], [], []⟩ :: ⟨[0], [], []⟩ :: ⟨[], [], []⟩ :: ⟨[], [], []⟩ :: ⟨[3], [], []⟩ :: ⟨[1, 2, 4], [4], []⟩ :: ⟨[], [], []⟩ :: []) [(1, .int .i64 t), (3, .pointer (some ⟨g1, 0, none⟩)), (5, .pointer (some ⟨g2, 0, none⟩)), (7, .pointer (some ⟨g3, 0, none⟩))] (by kernel_rfl) (by kernel_rfl) ⟨rfl, rfl, rfl, rfl, trivial⟩ ⟨trivial, trivial, trivial, trivial, trivial, trivial, trivial, trivial⟩ ?_ (fun V hs hq => ?_)
      · refine ⟨fun V hs hB => ob_rd rfl rfl (rd_fieldAddr (o := 71) Tryd.underlying35 rfl Tryd.sizeOf33 rfl rfl), ?_⟩
        refine ⟨fun V hs hB => ob_rd rfl rfl (rd_loadA (j := 3) (u := p.older.arr) Tryd.isAgg33 Tryd.sizeOf33 rfl (by kernel_rfl) (by kernel_rfl)), ?_⟩
        refine ⟨fun V hs hB => ob_mv rfl rfl, ?_⟩
        refine ⟨fun V hs hB => ob_rd rfl rfl (rd_loadW (j := 2) Tryd.isAgg33 Tryd.sizeOf33 rfl rfl), ?_⟩
        refine ⟨fun V hs hB => ob_call rfl rfl Tryd.call19 (fun w hw => rlane_any f hf 1 w), ?_⟩
        refine ⟨fun V hs hB => ?_, ?_⟩
        · obtain ⟨Ag5, cg5, hV4, hh4⟩ := hB 4 (by simp)
          refine ob_set (j := 4) hV4 hh4 ?_
          exact ob_pf rfl rfl Tryd.call18 (fun w hw => rwith_any p.older t (f.lane 1) Ag5 cg5 w ((know_row (j := 0) rfl) w hw))
        refine ⟨fun V hs hB => ob_rd rfl rfl (rd_fieldAddr (o := 71) Tryd.underlying35 rfl Tryd.sizeOf33 rfl rfl), ?_⟩
        trivial
      obtain ⟨Ag5, cg5, hV4, hh4⟩ := hq 4 (of_decide_eq_true (by kernel_rfl))
      rw [show relsOf _ = [4] from by kernel_rfl]
      simp only [List.flatMap_cons, List.flatMap_nil, List.append_nil, hh4]
      refine any_one (i := 7) (by kernel_rfl) ?_
      refine ro_store (j := 2) (c' := (Pkt.mk p.src p.inc p.conf p.members p.count p.promise p.wanted p.ready p.epoch p.round (p.newest.with t (f.lane 0)) (p.older.with t (f.lane 1)) p.relayOf p.relayRound p.relay).arr) rfl Tryd.sizeOf33 (by kernel_rfl) (by kernel_rfl) rfl (by kernel_rfl) (by kernel_rfl) rfl ?_
      refine any_end (by kernel_rfl) ?_
      refine run_less (ρ' := [(1, .int .i64 t), (3, .pointer (some ⟨g1, 0, none⟩)), (5, .pointer (some ⟨g2, 0, none⟩)), (6, .bool false), (7, .pointer (some ⟨g3, 0, none⟩))]) (H' := [.row Ag5 cg5 30 6 ((f.lane 1).length) (encE.row (f.lane 1)), .row Ag4 cg4 30 6 ((f.lane 0).length) (encE.row (f.lane 0)), .blk g3 (.cells ((Pkt.mk p.src p.inc p.conf p.members p.count p.promise p.wanted p.ready p.epoch p.round (p.newest.with t (f.lane 0)) (p.older.with t (f.lane 1)) p.relayOf p.relayRound p.relay).arr) 35), .blk g2 (.cells f.arr 33), .blk g1 (.cells p.arr 35)]) [0, 1, 2, 3, 4] ?_ ⟨rfl, rfl, rfl, rfl, rfl, trivial⟩ ⟨rfl, rfl, rfl, rfl, rfl, trivial⟩ (by decide)
      refine run_seq rfl ?_
      refine run_par' rfl (by kernel_rfl) (.val [] (fun _ => .pointer (some ⟨g1, 109, none⟩)) :: .val [] (fun _ => .agg p.relay.arr) :: .val [] (fun _ => .int .i64 t) :: .val [] (fun _ => .agg f.arr) :: .rel [] (fun _ v h => ∃ Ag6 cg6, v = .slice Ag6 ((f.lane 2).length) cg6 ∧ h = [.row Ag6 cg6 30 6 ((f.lane 2).length) (encE.row (f.lane 2))]) :: .val [] (fun _ => .agg ((p.relay.with t (f.lane 2)).arr)) :: .val [] (fun _ => .pointer (some ⟨g3, 109, none⟩)) :: []) (⟨[], [], []⟩ :: ⟨[0], [], []⟩ :: ⟨[], [], []⟩ :: ⟨[], [], []⟩ :: ⟨[3], [], []⟩ :: ⟨[1, 2, 4], [4], []⟩ :: ⟨[], [], []⟩ :: []) [(1, .int .i64 t), (3, .pointer (some ⟨g1, 0, none⟩)), (5, .pointer (some ⟨g2, 0, none⟩)), (7, .pointer (some ⟨g3, 0, none⟩))] (by kernel_rfl) (by kernel_rfl) ⟨rfl, rfl, rfl, rfl, trivial⟩ ⟨trivial, trivial, trivial, trivial, trivial, trivial, trivial, trivial⟩ ?_ (fun V hs hq => ?_)
      · refine ⟨fun V hs hB => ob_rd rfl rfl (rd_fieldAddr (o := 109) Tryd.underlying35 rfl Tryd.sizeOf33 rfl rfl), ?_⟩
        refine ⟨fun V hs hB => ob_rd rfl rfl (rd_loadA (j := 4) (u := p.relay.arr) Tryd.isAgg33 Tryd.sizeOf33 rfl (by kernel_rfl) (by kernel_rfl)), ?_⟩
        refine ⟨fun V hs hB => ob_mv rfl rfl, ?_⟩
        refine ⟨fun V hs hB => ob_rd rfl rfl (rd_loadW (j := 3) Tryd.isAgg33 Tryd.sizeOf33 rfl rfl), ?_⟩
        refine ⟨fun V hs hB => ob_call rfl rfl Tryd.call19 (fun w hw => rlane_any f hf 2 w), ?_⟩
        refine ⟨fun V hs hB => ?_, ?_⟩
        · obtain ⟨Ag6, cg6, hV4, hh4⟩ := hB 4 (by simp)
          refine ob_set (j := 4) hV4 hh4 ?_
          exact ob_pf rfl rfl Tryd.call18 (fun w hw => rwith_any p.relay t (f.lane 2) Ag6 cg6 w ((know_row (j := 0) rfl) w hw))
        refine ⟨fun V hs hB => ob_rd rfl rfl (rd_fieldAddr (o := 109) Tryd.underlying35 rfl Tryd.sizeOf33 rfl rfl), ?_⟩
        trivial
      obtain ⟨Ag6, cg6, hV4, hh4⟩ := hq 4 (of_decide_eq_true (by kernel_rfl))
      rw [show relsOf _ = [4] from by kernel_rfl]
      simp only [List.flatMap_cons, List.flatMap_nil, List.append_nil, hh4]
      refine any_one (i := 7) (by kernel_rfl) ?_
      refine ro_store (j := 3) (c' := (Pkt.mk p.src p.inc p.conf p.members p.count p.promise p.wanted p.ready p.epoch p.round (p.newest.with t (f.lane 0)) (p.older.with t (f.lane 1)) p.relayOf p.relayRound (p.relay.with t (f.lane 2))).arr) rfl Tryd.sizeOf33 (by kernel_rfl) (by kernel_rfl) rfl (by kernel_rfl) (by kernel_rfl) rfl ?_
      refine any_end (by kernel_rfl) ?_
      refine run_less (ρ' := [(1, .int .i64 t), (3, .pointer (some ⟨g1, 0, none⟩)), (6, .bool false), (7, .pointer (some ⟨g3, 0, none⟩))]) (H' := [.row Ag6 cg6 30 6 ((f.lane 2).length) (encE.row (f.lane 2)), .row Ag5 cg5 30 6 ((f.lane 1).length) (encE.row (f.lane 1)), .row Ag4 cg4 30 6 ((f.lane 0).length) (encE.row (f.lane 0)), .blk g3 (.cells ((Pkt.mk p.src p.inc p.conf p.members p.count p.promise p.wanted p.ready p.epoch p.round (p.newest.with t (f.lane 0)) (p.older.with t (f.lane 1)) p.relayOf p.relayRound (p.relay.with t (f.lane 2))).arr) 35), .blk g2 (.cells f.arr 33), .blk g1 (.cells p.arr 35)]) [0, 1, 2, 3, 4, 5] ?_ ⟨rfl, rfl, rfl, rfl, trivial⟩ ⟨rfl, rfl, rfl, rfl, rfl, rfl, trivial⟩ (by decide)
      refine run_seq rfl ?_
      refine run_region (todo := [0, 1, 2, 3, 4, 5, 6]) rfl rfl ?_
      refine run_rd (v := .agg p.arr) rfl (rd_loadW (j := 5) Tryd.isAgg35 Tryd.sizeOf35 rfl (by kernel_rfl)) ?_
      refine run_pf0 (v := .tuple #[.string (bs p.enc), .int .i64 (pkCode p.may)]) rfl Tryd.call9 (pf_pencode p hp) ?_
      refine run_mv rfl ?_
      refine run_rd (v := .string (bs p.enc)) rfl (rd_extract rfl) ?_
      refine run_rd (v := .int .i64 (pkCode p.may)) rfl (rd_extract rfl) ?_
      refine run_mv rfl ?_
      refine run_mv rfl ?_
      refine run_endops ?_
      refine run_seq rfl ?_
      refine run_region (todo := [0, 1, 2, 3, 4, 5, 6]) rfl rfl ?_
      refine run_rd (v := .agg ((Pkt.mk p.src p.inc p.conf p.members p.count p.promise p.wanted p.ready p.epoch p.round (p.newest.with t (f.lane 0)) (p.older.with t (f.lane 1)) p.relayOf p.relayRound (p.relay.with t (f.lane 2))).arr)) rfl (rd_loadW (j := 3) Tryd.isAgg35 Tryd.sizeOf35 rfl (by kernel_rfl)) ?_
      refine run_pf0 (v := .tuple #[.string (bs (apartP p t f).enc), .int .i64 (pkCode (apartP p t f).may)]) rfl Tryd.call9 (pf_pencode (apartP p t f) (apart_fit t hp hf)) ?_
      refine run_mv rfl ?_
      refine run_rd (v := .string (bs (apartP p t f).enc)) rfl (rd_extract rfl) ?_
      refine run_rd (v := .int .i64 (pkCode (apartP p t f).may)) rfl (rd_extract rfl) ?_
      refine run_mv rfl ?_
      refine run_mv rfl ?_
      refine run_endops ?_
      refine run_seq rfl ?_
      refine run_seq rfl ?_
      rcases Bool.eq_false_or_eq_true ((pkCode p.may) != 0) with hb3 | hb3
      · skip
        refine run_region (todo := [0, 1, 2, 3, 4, 5, 6, 7, 8, 9]) rfl rfl ?_
        refine run_pf0 (v := .bool true) rfl Tryd.call11 (pf_fixed) ?_
        refine run_rd (v := .bool false) rfl (rd_not) ?_
        refine run_mv rfl ?_
        refine run_mvG rfl ?_
        refine run_rdG (v := .bool true) rfl (rd_cmp rfl hb3) ?_
        refine run_pick (v := .bool true) rfl rfl ?_
        refine run_mv rfl ?_
        refine run_skipped rfl ?_
        refine run_skipped rfl ?_
        refine run_pick (v := .bool true) rfl rfl ?_
        refine run_endops ?_
        refine run_true rfl rfl ?_
        refine run_seq rfl ?_
        refine run_region (todo := [0, 1]) rfl rfl ?_
        refine run_pf0 (v := .bool true) rfl Tryd.call11 (pf_fixed) ?_
        refine run_mv rfl ?_
        refine run_endops ?_
        refine run_ret rfl (v := .bool true) (res1 rfl rfl) ?_
        rfl
      · have qm : p.may = true := pk_good hb3
        refine run_region (todo := [0, 1, 2, 3, 4, 5, 6, 7, 8, 9]) rfl rfl ?_
        refine run_pf0 (v := .bool true) rfl Tryd.call11 (pf_fixed) ?_
        refine run_rd (v := .bool false) rfl (rd_not) ?_
        refine run_mv rfl ?_
        refine run_mvG rfl ?_
        refine run_rdG (v := .bool false) rfl (rd_cmp rfl hb3) ?_
        refine run_pick (v := .bool false) rfl rfl ?_
        refine run_mv rfl ?_
        refine run_mvG rfl ?_
        refine run_rdG (v := .bool ((pkCode (apartP p t f).may) != 0)) rfl (rd_cmp rfl rfl) ?_
        refine run_pick (v := .bool ((pkCode (apartP p t f).may) != 0)) rfl rfl ?_
        refine run_endops ?_
        refine run_if rfl rfl (fun hb4 => ?_) (fun hb4 => ?_)
        · skip
          refine run_seq rfl ?_
          refine run_region (todo := [0, 1]) rfl rfl ?_
          refine run_pf0 (v := .bool true) rfl Tryd.call11 (pf_fixed) ?_
          refine run_mv rfl ?_
          refine run_endops ?_
          refine run_ret rfl (v := .bool true) (res1 rfl rfl) ?_
          rfl
        · have gm : (apartP p t f).may = true := pk_good hb4
          have l1 := penc_len qm
          have l2 := penc_len gm
          have e1 : (((p.enc.length : Nat) : Int) != ((((apartP p t f).enc).length : Nat) : Int)) = false := by rw [l1, l2]; rfl
          refine run_skip rfl ?_
          refine run_seq rfl ?_
          refine run_seq rfl ?_
          refine run_region (todo := [0, 1, 2, 3, 4]) rfl rfl ?_
          refine run_mv rfl ?_
          refine run_rd (v := .int .i64 ((p.enc.length : Nat) : Int)) rfl (rd_lenStr Tryd.underlying9 rfl) ?_
          refine run_mv rfl ?_
          refine run_rd (v := .int .i64 ((((apartP p t f).enc).length : Nat) : Int)) rfl (rd_lenStr Tryd.underlying9 rfl) ?_
          refine run_rd (v := .bool false) rfl (rd_cmp rfl e1) ?_
          refine run_endops ?_
          refine run_false rfl rfl ?_
          refine run_skip rfl ?_
          refine run_seq rfl ?_
          refine run_seq rfl ?_
          refine run_region (todo := [0]) rfl rfl ?_
          refine run_mv rfl ?_
          refine run_endops ?_
          refine run_block rfl ?_
          refine run_loop rfl ?_
          refine run_ind1 (fun (k : Nat) => 637 - k) (fun (k : Nat) => [(1, .int .i64 t), (6, .bool false), (8, .string (bs p.enc)), (10, .string (bs (apartP p t f).enc)), (12, .int .i64 (k : Int))]) (fun (k : Nat) => [.row Ag6 cg6 30 6 ((f.lane 2).length) (encE.row (f.lane 2)), .row Ag5 cg5 30 6 ((f.lane 1).length) (encE.row (f.lane 1)), .row Ag4 cg4 30 6 ((f.lane 0).length) (encE.row (f.lane 0)), .blk g3 (.cells ((Pkt.mk p.src p.inc p.conf p.members p.count p.promise p.wanted p.ready p.epoch p.round (p.newest.with t (f.lane 0)) (p.older.with t (f.lane 1)) p.relayOf p.relayRound (p.relay.with t (f.lane 2))).arr) 35), .blk g2 (.cells f.arr 33), .blk g1 (.cells p.arr 35)]) (fun (k : Nat) => k ≤ 637) 0 (Nat.zero_le _) [0, 1, 2, 3, 4, 5] ⟨rfl, rfl, rfl, rfl, rfl, trivial⟩ ⟨rfl, rfl, rfl, rfl, rfl, rfl, trivial⟩ (by decide) (fun k hI ih1 => ?_)
          refine run_again ?_
          refine run_seq rfl ?_
          refine run_seq rfl ?_
          refine run_region (todo := [0, 1]) rfl rfl ?_
          refine run_mv rfl ?_
          refine run_rd (v := .bool (decide ((k : Int) < 637))) rfl (rd_cmp rfl rfl) ?_
          refine run_endops ?_
          refine run_if rfl rfl (fun hb5 => ?_) (fun hb5 => ?_)
          · have hk : k < 637 := by have := of_decide_eq_true hb5; omega
            obtain ⟨x, hx⟩ := item_at (l := p.enc) (q := k) (by omega)
            obtain ⟨y, hy⟩ := item_at (l := (apartP p t f).enc) (q := k) (by omega)
            refine run_skip rfl ?_
            refine run_seq rfl ?_
            refine run_block rfl ?_
            refine run_seq rfl ?_
            rcases Bool.eq_false_or_eq_true (((x.toNat : Nat) : Int) != ((y.toNat : Nat) : Int)) with hb6 | hb6
            · have hne := u8_ne hb6
              rcases Bool.eq_false_or_eq_true (!(liesB (k : Int) 128 t)) with hb7 | hb7
              · have n128 : liesB (k : Int) 128 t = false := (Bool.not_eq_true' _).mp hb7
                rcases Bool.eq_false_or_eq_true (!(liesB (k : Int) 296 t)) with hb8 | hb8
                · have n296 : liesB (k : Int) 296 t = false := (Bool.not_eq_true' _).mp hb8
                  have e3 : (!(liesB (k : Int) 469 t)) = false := by
                    cases hq : liesB (k : Int) 469 t
                    · exfalso
                      have ha := Pkt.apart qm gm hk n128 n296 hq
                      rw [hx, hy] at ha
                      exact hne (Option.some.inj ha)
                    · rfl
                  refine run_draw (l := [0, 1, 2, 3, 4, 5, 6, 7, 8, 9, 10, 11, 12, 13, 14, 15, 16, 17, 18, 19, 20, 21, 22, 23, 24]) rfl rfl (by kernel_rfl) (by kernel_rfl) ?_
                  refine q_mv rfl ?_
                  refine q_mv rfl ?_
                  refine q_val (v := .int .u8 ((x.toNat : Nat) : Int)) rfl (rd_byteL Tryd.underlying9 hx rfl) ?_
                  refine q_mv rfl ?_
                  refine q_mv rfl ?_
                  refine q_val (v := .int .u8 ((y.toNat : Nat) : Int)) rfl (rd_byteL Tryd.underlying9 hy rfl) ?_
                  refine q_val (v := .bool true) rfl (rd_cmp rfl hb6) ?_
                  refine q_mv rfl ?_
                  refine q_mv rfl ?_
                  refine q_mv rfl ?_
                  refine q_pf0 (v := .bool (liesB (k : Int) 128 t)) rfl Tryd.call20 (pf_lies k 128 t (by omega) (by decide) ht0 ht2) ?_
                  refine q_val (v := .bool true) rfl (rd_notD hb7) ?_
                  refine q_pick (v := .bool true) rfl rfl ?_
                  refine q_mv rfl ?_
                  refine q_mv rfl ?_
                  refine q_mv rfl ?_
                  refine q_pf0 (v := .bool (liesB (k : Int) 296 t)) rfl Tryd.call20 (pf_lies k 296 t (by omega) (by decide) ht0 ht2) ?_
                  refine q_val (v := .bool true) rfl (rd_notD hb8) ?_
                  refine q_pick (v := .bool true) rfl rfl ?_
                  refine q_mv rfl ?_
                  refine q_mv rfl ?_
                  refine q_mv rfl ?_
                  refine q_pf0 (v := .bool (liesB (k : Int) 469 t)) rfl Tryd.call20 (pf_lies k 469 t (by omega) (by decide) ht0 ht2) ?_
                  refine q_val (v := .bool false) rfl (rd_notD e3) ?_
                  refine q_pick (v := .bool false) rfl rfl ?_
                  refine q_end ?_
                  refine run_false rfl rfl ?_
                  refine run_skip rfl ?_
                  refine run_endblock ?_
                  refine run_region (todo := [0, 1, 2]) rfl rfl ?_
                  refine run_mv rfl ?_
                  refine run_rd (v := .int .i64 ((k : Int) + 1)) rfl (rd_add (r := (k : Int) + 1) (IntWalk.i64_in _ (by omega))) ?_
                  refine run_mv rfl ?_
                  refine run_endops ?_
                  exact run_less [0, 1, 2, 3, 4, 5] (ih1 (k + 1) hk (by omega)) ⟨rfl, rfl, rfl, rfl, rfl, trivial⟩ ⟨rfl, rfl, rfl, rfl, rfl, rfl, trivial⟩ (by decide)
                · skip
                  refine run_draw (l := [0, 1, 2, 3, 4, 5, 6, 7, 8, 9, 10, 11, 12, 13, 14, 15, 16, 17, 18, 19, 20, 21, 22, 23, 24]) rfl rfl (by kernel_rfl) (by kernel_rfl) ?_
                  refine q_mv rfl ?_
                  refine q_mv rfl ?_
                  refine q_val (v := .int .u8 ((x.toNat : Nat) : Int)) rfl (rd_byteL Tryd.underlying9 hx rfl) ?_
                  refine q_mv rfl ?_
                  refine q_mv rfl ?_
                  refine q_val (v := .int .u8 ((y.toNat : Nat) : Int)) rfl (rd_byteL Tryd.underlying9 hy rfl) ?_
                  refine q_val (v := .bool true) rfl (rd_cmp rfl hb6) ?_
                  refine q_mv rfl ?_
                  refine q_mv rfl ?_
                  refine q_mv rfl ?_
                  refine q_pf0 (v := .bool (liesB (k : Int) 128 t)) rfl Tryd.call20 (pf_lies k 128 t (by omega) (by decide) ht0 ht2) ?_
                  refine q_val (v := .bool true) rfl (rd_notD hb7) ?_
                  refine q_pick (v := .bool true) rfl rfl ?_
                  refine q_mv rfl ?_
                  refine q_mv rfl ?_
                  refine q_mv rfl ?_
                  refine q_pf0 (v := .bool (liesB (k : Int) 296 t)) rfl Tryd.call20 (pf_lies k 296 t (by omega) (by decide) ht0 ht2) ?_
                  refine q_val (v := .bool false) rfl (rd_notD hb8) ?_
                  refine q_pick (v := .bool false) rfl rfl ?_
                  refine q_mv rfl ?_
                  refine q_skip rfl ?_
                  refine q_skip rfl ?_
                  refine q_skip rfl ?_
                  refine q_skip rfl ?_
                  refine q_pick (v := .bool false) rfl rfl ?_
                  refine q_end ?_
                  refine run_false rfl rfl ?_
                  refine run_skip rfl ?_
                  refine run_endblock ?_
                  refine run_region (todo := [0, 1, 2]) rfl rfl ?_
                  refine run_mv rfl ?_
                  refine run_rd (v := .int .i64 ((k : Int) + 1)) rfl (rd_add (r := (k : Int) + 1) (IntWalk.i64_in _ (by omega))) ?_
                  refine run_mv rfl ?_
                  refine run_endops ?_
                  exact run_less [0, 1, 2, 3, 4, 5] (ih1 (k + 1) hk (by omega)) ⟨rfl, rfl, rfl, rfl, rfl, trivial⟩ ⟨rfl, rfl, rfl, rfl, rfl, rfl, trivial⟩ (by decide)
              · skip
                refine run_draw (l := [0, 1, 2, 3, 4, 5, 6, 7, 8, 9, 10, 11, 12, 13, 14, 15, 16, 17, 18, 19, 20, 21, 22, 23, 24]) rfl rfl (by kernel_rfl) (by kernel_rfl) ?_
                refine q_mv rfl ?_
                refine q_mv rfl ?_
                refine q_val (v := .int .u8 ((x.toNat : Nat) : Int)) rfl (rd_byteL Tryd.underlying9 hx rfl) ?_
                refine q_mv rfl ?_
                refine q_mv rfl ?_
                refine q_val (v := .int .u8 ((y.toNat : Nat) : Int)) rfl (rd_byteL Tryd.underlying9 hy rfl) ?_
                refine q_val (v := .bool true) rfl (rd_cmp rfl hb6) ?_
                refine q_mv rfl ?_
                refine q_mv rfl ?_
                refine q_mv rfl ?_
                refine q_pf0 (v := .bool (liesB (k : Int) 128 t)) rfl Tryd.call20 (pf_lies k 128 t (by omega) (by decide) ht0 ht2) ?_
                refine q_val (v := .bool false) rfl (rd_notD hb7) ?_
                refine q_pick (v := .bool false) rfl rfl ?_
                refine q_mv rfl ?_
                refine q_skip rfl ?_
                refine q_skip rfl ?_
                refine q_skip rfl ?_
                refine q_skip rfl ?_
                refine q_pick (v := .bool false) rfl rfl ?_
                refine q_mv rfl ?_
                refine q_skip rfl ?_
                refine q_skip rfl ?_
                refine q_skip rfl ?_
                refine q_skip rfl ?_
                refine q_pick (v := .bool false) rfl rfl ?_
                refine q_end ?_
                refine run_false rfl rfl ?_
                refine run_skip rfl ?_
                refine run_endblock ?_
                refine run_region (todo := [0, 1, 2]) rfl rfl ?_
                refine run_mv rfl ?_
                refine run_rd (v := .int .i64 ((k : Int) + 1)) rfl (rd_add (r := (k : Int) + 1) (IntWalk.i64_in _ (by omega))) ?_
                refine run_mv rfl ?_
                refine run_endops ?_
                exact run_less [0, 1, 2, 3, 4, 5] (ih1 (k + 1) hk (by omega)) ⟨rfl, rfl, rfl, rfl, rfl, trivial⟩ ⟨rfl, rfl, rfl, rfl, rfl, rfl, trivial⟩ (by decide)
            · skip
              refine run_draw (l := [0, 1, 2, 3, 4, 5, 6, 7, 8, 9, 10, 11, 12, 13, 14, 15, 16, 17, 18, 19, 20, 21, 22, 23, 24]) rfl rfl (by kernel_rfl) (by kernel_rfl) ?_
              refine q_mv rfl ?_
              refine q_mv rfl ?_
              refine q_val (v := .int .u8 ((x.toNat : Nat) : Int)) rfl (rd_byteL Tryd.underlying9 hx rfl) ?_
              refine q_mv rfl ?_
              refine q_mv rfl ?_
              refine q_val (v := .int .u8 ((y.toNat : Nat) : Int)) rfl (rd_byteL Tryd.underlying9 hy rfl) ?_
              refine q_val (v := .bool false) rfl (rd_cmp rfl hb6) ?_
              refine q_mv rfl ?_
              refine q_skip rfl ?_
              refine q_skip rfl ?_
              refine q_skip rfl ?_
              refine q_skip rfl ?_
              refine q_pick (v := .bool false) rfl rfl ?_
              refine q_mv rfl ?_
              refine q_skip rfl ?_
              refine q_skip rfl ?_
              refine q_skip rfl ?_
              refine q_skip rfl ?_
              refine q_pick (v := .bool false) rfl rfl ?_
              refine q_mv rfl ?_
              refine q_skip rfl ?_
              refine q_skip rfl ?_
              refine q_skip rfl ?_
              refine q_skip rfl ?_
              refine q_pick (v := .bool false) rfl rfl ?_
              refine q_end ?_
              refine run_false rfl rfl ?_
              refine run_skip rfl ?_
              refine run_endblock ?_
              refine run_region (todo := [0, 1, 2]) rfl rfl ?_
              refine run_mv rfl ?_
              refine run_rd (v := .int .i64 ((k : Int) + 1)) rfl (rd_add (r := (k : Int) + 1) (IntWalk.i64_in _ (by omega))) ?_
              refine run_mv rfl ?_
              refine run_endops ?_
              exact run_less [0, 1, 2, 3, 4, 5] (ih1 (k + 1) hk (by omega)) ⟨rfl, rfl, rfl, rfl, rfl, trivial⟩ ⟨rfl, rfl, rfl, rfl, rfl, rfl, trivial⟩ (by decide)
          · skip
            refine run_exit rfl rfl ?_
            refine run_seq rfl ?_
            refine run_region (todo := [0]) rfl rfl ?_
            refine run_mv rfl ?_
            refine run_endops ?_
            refine run_ret rfl (v := .bool true) (res1 rfl rfl) ?_
            rfl

end Go.Proofs.YthapghhmeicbnaaDoor
