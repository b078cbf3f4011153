/- Frames: FrameLoads. Printed by wip/k/genF.py. -/
import Derived.Test.YtadjnbjeaeoobaaDoorKI2
set_option linter.unusedVariables false
set_option linter.unusedSimpArgs false
namespace Go.Proofs.YtadjnbjeaeoobaaDoor
open Go.RowKit

theorem frameLoads_neg (f : Fr) (hf : f.Ok) (t : Int) (l : List Ent) (hl : ∀ e ∈ l, e.Ok) (A : Option Addr) (c : Nat) (w0 : World) (hA : Cells w0 A (encE.row l)) (ht : t < 0) : Fn Tryd.prog 6 #[f.val, .int .i64 t, .slice A l.length c] w0 (fun v _ => v = .bool true) := by
  have d0 : decide (t < 0) = true := decide_eq_true ht
  have e1 : decide ((f.with t l) = f) = true := decide_eq_true (by unfold Fr.with; rw [if_neg (by omega), if_neg (by omega), if_neg (by omega)])
  refine fn_of_run Tryd.func6 rfl rfl ?_
  refine run_seq rfl ?_
  refine run_region (todo := [0, 1]) rfl rfl ?_
  refine run_box rfl (fun g1 => ?_)
  refine run_mv rfl ?_
  refine run_endops ?_
  refine run_seq rfl ?_
  refine run_region (todo := [0, 1, 2, 3, 4, 5]) rfl rfl ?_
  refine run_rd (v := .agg f.arr) rfl (rd_loadW (j := 0) Tryd.isAgg27 Tryd.sizeOf27 rfl rfl) ?_
  refine run_mv rfl ?_
  refine run_mv rfl ?_
  refine run_pfw (v := .agg ((f.with t l).arr)) rfl Tryd.call12 (fun w hw => with_any f t l A c w ((know_old hA) w hw)) ?_
  refine run_alloc rfl Tryd.zeroValue27 (fun g2 => ?_)
  refine run_storeW (j := 0) (c' := (f.with t l).arr) rfl Tryd.sizeOf27 rfl rfl rfl rfl rfl rfl ?_
  refine run_endops ?_
  refine run_seq rfl ?_
  refine run_seq rfl ?_
  refine run_region (todo := [0, 1, 2, 3, 4, 5, 6, 7, 8, 9]) rfl rfl ?_
  refine run_pf0 (v := .bool true) rfl Tryd.call8 (pf_fixed) ?_
  refine run_rd (v := .bool false) rfl (rd_not) ?_
  refine run_mv rfl ?_
  refine run_mvG rfl ?_
  refine run_rdG (v := .bool true) rfl (rd_cmp rfl d0) ?_
  refine run_pick (v := .bool true) rfl rfl ?_
  refine run_mv rfl ?_
  refine run_skipped rfl ?_
  refine run_skipped rfl ?_
  refine run_pick (v := .bool true) rfl rfl ?_
  refine run_endops ?_
  refine run_true rfl rfl ?_
  refine run_seq rfl ?_
  refine run_region (todo := [0, 1, 2, 3, 4, 5, 6]) rfl rfl ?_
  refine run_pf0 (v := .bool true) rfl Tryd.call8 (pf_fixed) ?_
  refine run_mv rfl ?_
  refine run_rdG (v := .agg ((f.with t l).arr)) rfl (rd_loadW (j := 0) Tryd.isAgg27 Tryd.sizeOf27 rfl rfl) ?_
  refine run_rdG (v := .agg f.arr) rfl (rd_loadW (j := 1) Tryd.isAgg27 Tryd.sizeOf27 rfl rfl) ?_
  refine run_rdG (v := .bool true) rfl (rd_fr_eqlD (with_ok hf hl t) hf e1) ?_
  refine run_pick (v := .bool true) rfl rfl ?_
  refine run_mv rfl ?_
  refine run_endops ?_
  refine run_ret rfl (v := .bool true) (res1 rfl rfl) ?_
  rfl

theorem frameLoads_big (f : Fr) (hf : f.Ok) (t : Int) (l : List Ent) (hl : ∀ e ∈ l, e.Ok) (A : Option Addr) (c : Nat) (w0 : World) (hA : Cells w0 A (encE.row l)) (ht : 3 ≤ t) : Fn Tryd.prog 6 #[f.val, .int .i64 t, .slice A l.length c] w0 (fun v _ => v = .bool true) := by
  have d0 : decide (t < 0) = false := decide_eq_false (by omega)
  have d1 : decide (t > 2) = true := decide_eq_true (by omega)
  have e1 : decide ((f.with t l) = f) = true := decide_eq_true (by unfold Fr.with; rw [if_neg (by omega), if_neg (by omega), if_neg (by omega)])
  refine fn_of_run Tryd.func6 rfl rfl ?_
  refine run_seq rfl ?_
  refine run_region (todo := [0, 1]) rfl rfl ?_
  refine run_box rfl (fun g1 => ?_)
  refine run_mv rfl ?_
  refine run_endops ?_
  refine run_seq rfl ?_
  refine run_region (todo := [0, 1, 2, 3, 4, 5]) rfl rfl ?_
  refine run_rd (v := .agg f.arr) rfl (rd_loadW (j := 0) Tryd.isAgg27 Tryd.sizeOf27 rfl rfl) ?_
  refine run_mv rfl ?_
  refine run_mv rfl ?_
  refine run_pfw (v := .agg ((f.with t l).arr)) rfl Tryd.call12 (fun w hw => with_any f t l A c w ((know_old hA) w hw)) ?_
  refine run_alloc rfl Tryd.zeroValue27 (fun g2 => ?_)
  refine run_storeW (j := 0) (c' := (f.with t l).arr) rfl Tryd.sizeOf27 rfl rfl rfl rfl rfl rfl ?_
  refine run_endops ?_
  refine run_seq rfl ?_
  refine run_seq rfl ?_
  refine run_region (todo := [0, 1, 2, 3, 4, 5, 6, 7, 8, 9]) rfl rfl ?_
  refine run_pf0 (v := .bool true) rfl Tryd.call8 (pf_fixed) ?_
  refine run_rd (v := .bool false) rfl (rd_not) ?_
  refine run_mv rfl ?_
  refine run_mvG rfl ?_
  refine run_rdG (v := .bool false) rfl (rd_cmp rfl d0) ?_
  refine run_pick (v := .bool false) rfl rfl ?_
  refine run_mv rfl ?_
  refine run_mvG rfl ?_
  refine run_rdG (v := .bool true) rfl (rd_cmp rfl d1) ?_
  refine run_pick (v := .bool true) rfl rfl ?_
  refine run_endops ?_
  refine run_true rfl rfl ?_
  refine run_seq rfl ?_
  refine run_region (todo := [0, 1, 2, 3, 4, 5, 6]) rfl rfl ?_
  refine run_pf0 (v := .bool true) rfl Tryd.call8 (pf_fixed) ?_
  refine run_mv rfl ?_
  refine run_rdG (v := .agg ((f.with t l).arr)) rfl (rd_loadW (j := 0) Tryd.isAgg27 Tryd.sizeOf27 rfl rfl) ?_
  refine run_rdG (v := .agg f.arr) rfl (rd_loadW (j := 1) Tryd.isAgg27 Tryd.sizeOf27 rfl rfl) ?_
  refine run_rdG (v := .bool true) rfl (rd_fr_eqlD (with_ok hf hl t) hf e1) ?_
  refine run_pick (v := .bool true) rfl rfl ?_
  refine run_mv rfl ?_
  refine run_endops ?_
  refine run_ret rfl (v := .bool true) (res1 rfl rfl) ?_
  rfl

theorem frameLoads_fn (f : Fr) (hf : f.Ok) (t : Int) (l : List Ent) (hl : ∀ e ∈ l, e.Ok) (A : Option Addr) (c : Nat) (w0 : World) (hA : Cells w0 A (encE.row l)) : Fn Tryd.prog 6 #[f.val, .int .i64 t, .slice A l.length c] w0 (fun v _ => v = .bool true) := by
  rcases (show t = 0 ∨ t = 1 ∨ t = 2 ∨ t < 0 ∨ 3 ≤ t by omega) with rfl | rfl | rfl | h | h
  · match l, hl, hA with
    | [], _, hA => exact frameLoads_0_0 f hf A c w0 hA
    | [e1], hl, hA => exact frameLoads_0_1 f hf e1 (hl _ (by simp)) A c w0 hA
    | [e1, e2], hl, hA => exact frameLoads_0_2 f hf e1 (hl _ (by simp)) e2 (hl _ (by simp)) A c w0 hA
    | e1 :: e2 :: e3 :: l, hl, hA => exact frameLoads_0_3 f hf e1 (hl _ (by simp)) e2 (hl _ (by simp)) e3 l A c w0 hA
  · match l, hl, hA with
    | [], _, hA => exact frameLoads_1_0 f hf A c w0 hA
    | [e1], hl, hA => exact frameLoads_1_1 f hf e1 (hl _ (by simp)) A c w0 hA
    | [e1, e2], hl, hA => exact frameLoads_1_2 f hf e1 (hl _ (by simp)) e2 (hl _ (by simp)) A c w0 hA
    | e1 :: e2 :: e3 :: l, hl, hA => exact frameLoads_1_3 f hf e1 (hl _ (by simp)) e2 (hl _ (by simp)) e3 l A c w0 hA
  · match l, hl, hA with
    | [], _, hA => exact frameLoads_2_0 f hf A c w0 hA
    | [e1], hl, hA => exact frameLoads_2_1 f hf e1 (hl _ (by simp)) A c w0 hA
    | [e1, e2], hl, hA => exact frameLoads_2_2 f hf e1 (hl _ (by simp)) e2 (hl _ (by simp)) A c w0 hA
    | e1 :: e2 :: e3 :: l, hl, hA => exact frameLoads_2_3 f hf e1 (hl _ (by simp)) e2 (hl _ (by simp)) e3 l A c w0 hA
  · exact frameLoads_neg f hf t l hl A c w0 hA h
  · exact frameLoads_big f hf t l hl A c w0 hA h

end Go.Proofs.YtadjnbjeaeoobaaDoor
