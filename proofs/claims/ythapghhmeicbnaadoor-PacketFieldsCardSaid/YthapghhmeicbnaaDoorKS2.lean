/- Packets: laws of layer 5. Printed by wip/k/genS.py. -/
import Derived.Test.YthapghhmeicbnaaDoorKS0
set_option linter.unusedVariables false
set_option linter.unusedSimpArgs false
namespace Go.Proofs.YthapghhmeicbnaaDoor
open Go.RowKit
set_option maxRecDepth 20000

theorem packetFields_pf (p : Pkt) (hp : p.Fit) (x : V8) (hx : x.Ok) : Pf Tryd.prog 8 #[p.val, .agg x.vals.toArray] (.bool true) := by
  refine pf_of_run Tryd.func8 rfl rfl (fun w0 => ?_)
  refine run_seq rfl ?_
  refine run_region (todo := [0, 1, 2]) rfl rfl ?_
  refine run_box rfl (fun g1 => ?_)
  refine run_box rfl (fun g2 => ?_)
  refine run_mv rfl ?_
  refine run_endops ?_
  refine run_seq rfl ?_
  refine any_draw (n := 6) rfl rfl rfl (by kernel_rfl) ?_
  refine any_multi2 (fun g3 g4 => [(2, .pointer (some ⟨g1, 0, none⟩)), (3, .pointer (some ⟨g2, 0, none⟩)), (4, .bool false), (5, .pointer (some ⟨g3, 0, none⟩)), (6, .pointer (some ⟨g4, 0, none⟩))]) (fun g3 g4 => [.blk g4 (.cells p.arr 35), .blk g3 (.cells p.arr 35), .blk g2 (.cells x.vals.toArray 27), .blk g1 (.cells p.arr 35)]) ?_ (fun g3 g4 => ?_)
  · refine to_step (l := [0, 1, 2, 3]) (by kernel_rfl) (by decide) (fun i hi => ?_)
    simp only [List.mem_cons, List.mem_nil_iff, or_false] at hi
    rcases hi with rfl | rfl | rfl | rfl
    · refine ro_rd (v := .agg p.arr) rfl (rd_loadW (j := 1) Tryd.isAgg35 Tryd.sizeOf35 rfl (by kernel_rfl)) ?_
      refine to_step (l := [1, 2, 3]) (by kernel_rfl) (by decide) (fun i hi => ?_)
      simp only [List.mem_cons, List.mem_nil_iff, or_false] at hi
      rcases hi with rfl | rfl | rfl
      · refine ro_rd (v := .agg p.arr) rfl (rd_loadW (j := 1) Tryd.isAgg35 Tryd.sizeOf35 rfl (by kernel_rfl)) ?_
        refine to_step (l := [2, 3]) (by kernel_rfl) (by decide) (fun i hi => ?_)
        simp only [List.mem_cons, List.mem_nil_iff, or_false] at hi
        rcases hi with rfl | rfl
        · refine ro_alloc rfl Tryd.zeroValue35 (fun g3 => ?_)
          refine to_step (l := [3]) (by kernel_rfl) (by decide) (fun i hi => ?_)
          simp only [List.mem_cons, List.mem_nil_iff, or_false] at hi
          subst hi
          · refine ro_alloc rfl Tryd.zeroValue35 (fun g4 => ?_)
            refine to_step (l := [4]) (by kernel_rfl) (by decide) (fun i hi => ?_)
            simp only [List.mem_cons, List.mem_nil_iff, or_false] at hi
            subst hi
            · refine ro_storeW (j := 1) (c' := p.arr) rfl Tryd.sizeOf35 (by kernel_rfl) (by kernel_rfl) rfl (by kernel_rfl) rfl rfl ?_
              refine to_step (l := [5]) (by kernel_rfl) (by decide) (fun i hi => ?_)
              simp only [List.mem_cons, List.mem_nil_iff, or_false] at hi
              subst hi
              · refine ro_storeW (j := 0) (c' := p.arr) rfl Tryd.sizeOf35 (by kernel_rfl) (by kernel_rfl) rfl (by kernel_rfl) rfl rfl ?_
                exact to_end (by kernel_rfl) ⟨g3, g4, ⟨rfl, rfl, rfl, rfl, rfl, trivial⟩, [0, 1, 2, 3], ⟨rfl, rfl, rfl, rfl, trivial⟩, by decide⟩
        · refine ro_alloc rfl Tryd.zeroValue35 (fun g4 => ?_)
          refine to_step (l := [2]) (by kernel_rfl) (by decide) (fun i hi => ?_)
          simp only [List.mem_cons, List.mem_nil_iff, or_false] at hi
          subst hi
          · refine ro_alloc rfl Tryd.zeroValue35 (fun g3 => ?_)
            refine to_step (l := [4]) (by kernel_rfl) (by decide) (fun i hi => ?_)
            simp only [List.mem_cons, List.mem_nil_iff, or_false] at hi
            subst hi
            · refine ro_storeW (j := 0) (c' := p.arr) rfl Tryd.sizeOf35 (by kernel_rfl) (by kernel_rfl) rfl (by kernel_rfl) rfl rfl ?_
              refine to_step (l := [5]) (by kernel_rfl) (by decide) (fun i hi => ?_)
              simp only [List.mem_cons, List.mem_nil_iff, or_false] at hi
              subst hi
              · refine ro_storeW (j := 1) (c' := p.arr) rfl Tryd.sizeOf35 (by kernel_rfl) (by kernel_rfl) rfl (by kernel_rfl) rfl rfl ?_
                exact to_end (by kernel_rfl) ⟨g3, g4, ⟨rfl, rfl, rfl, rfl, rfl, trivial⟩, [1, 0, 2, 3], ⟨rfl, rfl, rfl, rfl, trivial⟩, by decide⟩
      · refine ro_alloc rfl Tryd.zeroValue35 (fun g3 => ?_)
        refine to_step (l := [1, 3]) (by kernel_rfl) (by decide) (fun i hi => ?_)
        simp only [List.mem_cons, List.mem_nil_iff, or_false] at hi
        rcases hi with rfl | rfl
        · refine ro_rd (v := .agg p.arr) rfl (rd_loadW (j := 2) Tryd.isAgg35 Tryd.sizeOf35 rfl (by kernel_rfl)) ?_
          refine to_step (l := [3]) (by kernel_rfl) (by decide) (fun i hi => ?_)
          simp only [List.mem_cons, List.mem_nil_iff, or_false] at hi
          subst hi
          · refine ro_alloc rfl Tryd.zeroValue35 (fun g4 => ?_)
            refine to_step (l := [4]) (by kernel_rfl) (by decide) (fun i hi => ?_)
            simp only [List.mem_cons, List.mem_nil_iff, or_false] at hi
            subst hi
            · refine ro_storeW (j := 1) (c' := p.arr) rfl Tryd.sizeOf35 (by kernel_rfl) (by kernel_rfl) rfl (by kernel_rfl) rfl rfl ?_
              refine to_step (l := [5]) (by kernel_rfl) (by decide) (fun i hi => ?_)
              simp only [List.mem_cons, List.mem_nil_iff, or_false] at hi
              subst hi
              · refine ro_storeW (j := 0) (c' := p.arr) rfl Tryd.sizeOf35 (by kernel_rfl) (by kernel_rfl) rfl (by kernel_rfl) rfl rfl ?_
                exact to_end (by kernel_rfl) ⟨g3, g4, ⟨rfl, rfl, rfl, rfl, rfl, trivial⟩, [0, 1, 2, 3], ⟨rfl, rfl, rfl, rfl, trivial⟩, by decide⟩
        · refine ro_alloc rfl Tryd.zeroValue35 (fun g4 => ?_)
          refine to_step (l := [1, 4]) (by kernel_rfl) (by decide) (fun i hi => ?_)
          simp only [List.mem_cons, List.mem_nil_iff, or_false] at hi
          rcases hi with rfl | rfl
          · refine ro_rd (v := .agg p.arr) rfl (rd_loadW (j := 3) Tryd.isAgg35 Tryd.sizeOf35 rfl (by kernel_rfl)) ?_
            refine to_step (l := [4]) (by kernel_rfl) (by decide) (fun i hi => ?_)
            simp only [List.mem_cons, List.mem_nil_iff, or_false] at hi
            subst hi
            · refine ro_storeW (j := 1) (c' := p.arr) rfl Tryd.sizeOf35 (by kernel_rfl) (by kernel_rfl) rfl (by kernel_rfl) rfl rfl ?_
              refine to_step (l := [5]) (by kernel_rfl) (by decide) (fun i hi => ?_)
              simp only [List.mem_cons, List.mem_nil_iff, or_false] at hi
              subst hi
              · refine ro_storeW (j := 0) (c' := p.arr) rfl Tryd.sizeOf35 (by kernel_rfl) (by kernel_rfl) rfl (by kernel_rfl) rfl rfl ?_
                exact to_end (by kernel_rfl) ⟨g3, g4, ⟨rfl, rfl, rfl, rfl, rfl, trivial⟩, [0, 1, 2, 3], ⟨rfl, rfl, rfl, rfl, trivial⟩, by decide⟩
          · refine ro_storeW (j := 1) (c' := p.arr) rfl Tryd.sizeOf35 (by kernel_rfl) (by kernel_rfl) rfl (by kernel_rfl) rfl rfl ?_
            refine to_step (l := [1]) (by kernel_rfl) (by decide) (fun i hi => ?_)
            simp only [List.mem_cons, List.mem_nil_iff, or_false] at hi
            subst hi
            · refine ro_rd (v := .agg p.arr) rfl (rd_loadW (j := 3) Tryd.isAgg35 Tryd.sizeOf35 rfl (by kernel_rfl)) ?_
              refine to_step (l := [5]) (by kernel_rfl) (by decide) (fun i hi => ?_)
              simp only [List.mem_cons, List.mem_nil_iff, or_false] at hi
              subst hi
              · refine ro_storeW (j := 0) (c' := p.arr) rfl Tryd.sizeOf35 (by kernel_rfl) (by kernel_rfl) rfl (by kernel_rfl) rfl rfl ?_
                exact to_end (by kernel_rfl) ⟨g3, g4, ⟨rfl, rfl, rfl, rfl, rfl, trivial⟩, [0, 1, 2, 3], ⟨rfl, rfl, rfl, rfl, trivial⟩, by decide⟩
      · refine ro_alloc rfl Tryd.zeroValue35 (fun g4 => ?_)
        refine to_step (l := [1, 2]) (by kernel_rfl) (by decide) (fun i hi => ?_)
        simp only [List.mem_cons, List.mem_nil_iff, or_false] at hi
        rcases hi with rfl | rfl
        · refine ro_rd (v := .agg p.arr) rfl (rd_loadW (j := 2) Tryd.isAgg35 Tryd.sizeOf35 rfl (by kernel_rfl)) ?_
          refine to_step (l := [2]) (by kernel_rfl) (by decide) (fun i hi => ?_)
          simp only [List.mem_cons, List.mem_nil_iff, or_false] at hi
          subst hi
          · refine ro_alloc rfl Tryd.zeroValue35 (fun g3 => ?_)
            refine to_step (l := [4]) (by kernel_rfl) (by decide) (fun i hi => ?_)
            simp only [List.mem_cons, List.mem_nil_iff, or_false] at hi
            subst hi
            · refine ro_storeW (j := 0) (c' := p.arr) rfl Tryd.sizeOf35 (by kernel_rfl) (by kernel_rfl) rfl (by kernel_rfl) rfl rfl ?_
              refine to_step (l := [5]) (by kernel_rfl) (by decide) (fun i hi => ?_)
              simp only [List.mem_cons, List.mem_nil_iff, or_false] at hi
              subst hi
              · refine ro_storeW (j := 1) (c' := p.arr) rfl Tryd.sizeOf35 (by kernel_rfl) (by kernel_rfl) rfl (by kernel_rfl) rfl rfl ?_
                exact to_end (by kernel_rfl) ⟨g3, g4, ⟨rfl, rfl, rfl, rfl, rfl, trivial⟩, [1, 0, 2, 3], ⟨rfl, rfl, rfl, rfl, trivial⟩, by decide⟩
        · refine ro_alloc rfl Tryd.zeroValue35 (fun g3 => ?_)
          refine to_step (l := [1, 4]) (by kernel_rfl) (by decide) (fun i hi => ?_)
          simp only [List.mem_cons, List.mem_nil_iff, or_false] at hi
          rcases hi with rfl | rfl
          · refine ro_rd (v := .agg p.arr) rfl (rd_loadW (j := 3) Tryd.isAgg35 Tryd.sizeOf35 rfl (by kernel_rfl)) ?_
            refine to_step (l := [4]) (by kernel_rfl) (by decide) (fun i hi => ?_)
            simp only [List.mem_cons, List.mem_nil_iff, or_false] at hi
            subst hi
            · refine ro_storeW (j := 0) (c' := p.arr) rfl Tryd.sizeOf35 (by kernel_rfl) (by kernel_rfl) rfl (by kernel_rfl) rfl rfl ?_
              refine to_step (l := [5]) (by kernel_rfl) (by decide) (fun i hi => ?_)
              simp only [List.mem_cons, List.mem_nil_iff, or_false] at hi
              subst hi
              · refine ro_storeW (j := 1) (c' := p.arr) rfl Tryd.sizeOf35 (by kernel_rfl) (by kernel_rfl) rfl (by kernel_rfl) rfl rfl ?_
                exact to_end (by kernel_rfl) ⟨g3, g4, ⟨rfl, rfl, rfl, rfl, rfl, trivial⟩, [1, 0, 2, 3], ⟨rfl, rfl, rfl, rfl, trivial⟩, by decide⟩
          · refine ro_storeW (j := 0) (c' := p.arr) rfl Tryd.sizeOf35 (by kernel_rfl) (by kernel_rfl) rfl (by kernel_rfl) rfl rfl ?_
            refine to_step (l := [1]) (by kernel_rfl) (by decide) (fun i hi => ?_)
            simp only [List.mem_cons, List.mem_nil_iff, or_false] at hi
            subst hi
            · refine ro_rd (v := .agg p.arr) rfl (rd_loadW (j := 3) Tryd.isAgg35 Tryd.sizeOf35 rfl (by kernel_rfl)) ?_
              refine to_step (l := [5]) (by kernel_rfl) (by decide) (fun i hi => ?_)
              simp only [List.mem_cons, List.mem_nil_iff, or_false] at hi
              subst hi
              · refine ro_storeW (j := 1) (c' := p.arr) rfl Tryd.sizeOf35 (by kernel_rfl) (by kernel_rfl) rfl (by kernel_rfl) rfl rfl ?_
                exact to_end (by kernel_rfl) ⟨g3, g4, ⟨rfl, rfl, rfl, rfl, rfl, trivial⟩, [1, 0, 2, 3], ⟨rfl, rfl, rfl, rfl, trivial⟩, by decide⟩
    · refine ro_rd (v := .agg p.arr) rfl (rd_loadW (j := 1) Tryd.isAgg35 Tryd.sizeOf35 rfl (by kernel_rfl)) ?_
      refine to_step (l := [0, 2, 3]) (by kernel_rfl) (by decide) (fun i hi => ?_)
      simp only [List.mem_cons, List.mem_nil_iff, or_false] at hi
      rcases hi with rfl | rfl | rfl
      · refine ro_rd (v := .agg p.arr) rfl (rd_loadW (j := 1) Tryd.isAgg35 Tryd.sizeOf35 rfl (by kernel_rfl)) ?_
        refine to_step (l := [2, 3]) (by kernel_rfl) (by decide) (fun i hi => ?_)
        simp only [List.mem_cons, List.mem_nil_iff, or_false] at hi
        rcases hi with rfl | rfl
        · refine ro_alloc rfl Tryd.zeroValue35 (fun g3 => ?_)
          refine to_step (l := [3]) (by kernel_rfl) (by decide) (fun i hi => ?_)
          simp only [List.mem_cons, List.mem_nil_iff, or_false] at hi
          subst hi
          · refine ro_alloc rfl Tryd.zeroValue35 (fun g4 => ?_)
            refine to_step (l := [4]) (by kernel_rfl) (by decide) (fun i hi => ?_)
            simp only [List.mem_cons, List.mem_nil_iff, or_false] at hi
            subst hi
            · refine ro_storeW (j := 1) (c' := p.arr) rfl Tryd.sizeOf35 (by kernel_rfl) (by kernel_rfl) rfl (by kernel_rfl) rfl rfl ?_
              refine to_step (l := [5]) (by kernel_rfl) (by decide) (fun i hi => ?_)
              simp only [List.mem_cons, List.mem_nil_iff, or_false] at hi
              subst hi
              · refine ro_storeW (j := 0) (c' := p.arr) rfl Tryd.sizeOf35 (by kernel_rfl) (by kernel_rfl) rfl (by kernel_rfl) rfl rfl ?_
                exact to_end (by kernel_rfl) ⟨g3, g4, ⟨rfl, rfl, rfl, rfl, rfl, trivial⟩, [0, 1, 2, 3], ⟨rfl, rfl, rfl, rfl, trivial⟩, by decide⟩
        · refine ro_alloc rfl Tryd.zeroValue35 (fun g4 => ?_)
          refine to_step (l := [2]) (by kernel_rfl) (by decide) (fun i hi => ?_)
          simp only [List.mem_cons, List.mem_nil_iff, or_false] at hi
          subst hi
          · refine ro_alloc rfl Tryd.zeroValue35 (fun g3 => ?_)
            refine to_step (l := [4]) (by kernel_rfl) (by decide) (fun i hi => ?_)
            simp only [List.mem_cons, List.mem_nil_iff, or_false] at hi
            subst hi
            · refine ro_storeW (j := 0) (c' := p.arr) rfl Tryd.sizeOf35 (by kernel_rfl) (by kernel_rfl) rfl (by kernel_rfl) rfl rfl ?_
              refine to_step (l := [5]) (by kernel_rfl) (by decide) (fun i hi => ?_)
              simp only [List.mem_cons, List.mem_nil_iff, or_false] at hi
              subst hi
              · refine ro_storeW (j := 1) (c' := p.arr) rfl Tryd.sizeOf35 (by kernel_rfl) (by kernel_rfl) rfl (by kernel_rfl) rfl rfl ?_
                exact to_end (by kernel_rfl) ⟨g3, g4, ⟨rfl, rfl, rfl, rfl, rfl, trivial⟩, [1, 0, 2, 3], ⟨rfl, rfl, rfl, rfl, trivial⟩, by decide⟩
      · refine ro_alloc rfl Tryd.zeroValue35 (fun g3 => ?_)
        refine to_step (l := [0, 3]) (by kernel_rfl) (by decide) (fun i hi => ?_)
        simp only [List.mem_cons, List.mem_nil_iff, or_false] at hi
        rcases hi with rfl | rfl
        · refine ro_rd (v := .agg p.arr) rfl (rd_loadW (j := 2) Tryd.isAgg35 Tryd.sizeOf35 rfl (by kernel_rfl)) ?_
          refine to_step (l := [3]) (by kernel_rfl) (by decide) (fun i hi => ?_)
          simp only [List.mem_cons, List.mem_nil_iff, or_false] at hi
          subst hi
          · refine ro_alloc rfl Tryd.zeroValue35 (fun g4 => ?_)
            refine to_step (l := [4]) (by kernel_rfl) (by decide) (fun i hi => ?_)
            simp only [List.mem_cons, List.mem_nil_iff, or_false] at hi
            subst hi
            · refine ro_storeW (j := 1) (c' := p.arr) rfl Tryd.sizeOf35 (by kernel_rfl) (by kernel_rfl) rfl (by kernel_rfl) rfl rfl ?_
              refine to_step (l := [5]) (by kernel_rfl) (by decide) (fun i hi => ?_)
              simp only [List.mem_cons, List.mem_nil_iff, or_false] at hi
              subst hi
              · refine ro_storeW (j := 0) (c' := p.arr) rfl Tryd.sizeOf35 (by kernel_rfl) (by kernel_rfl) rfl (by kernel_rfl) rfl rfl ?_
                exact to_end (by kernel_rfl) ⟨g3, g4, ⟨rfl, rfl, rfl, rfl, rfl, trivial⟩, [0, 1, 2, 3], ⟨rfl, rfl, rfl, rfl, trivial⟩, by decide⟩
        · refine ro_alloc rfl Tryd.zeroValue35 (fun g4 => ?_)
          refine to_step (l := [0]) (by kernel_rfl) (by decide) (fun i hi => ?_)
          simp only [List.mem_cons, List.mem_nil_iff, or_false] at hi
          subst hi
          · refine ro_rd (v := .agg p.arr) rfl (rd_loadW (j := 3) Tryd.isAgg35 Tryd.sizeOf35 rfl (by kernel_rfl)) ?_
            refine to_step (l := [4]) (by kernel_rfl) (by decide) (fun i hi => ?_)
            simp only [List.mem_cons, List.mem_nil_iff, or_false] at hi
            subst hi
            · refine ro_storeW (j := 1) (c' := p.arr) rfl Tryd.sizeOf35 (by kernel_rfl) (by kernel_rfl) rfl (by kernel_rfl) rfl rfl ?_
              refine to_step (l := [5]) (by kernel_rfl) (by decide) (fun i hi => ?_)
              simp only [List.mem_cons, List.mem_nil_iff, or_false] at hi
              subst hi
              · refine ro_storeW (j := 0) (c' := p.arr) rfl Tryd.sizeOf35 (by kernel_rfl) (by kernel_rfl) rfl (by kernel_rfl) rfl rfl ?_
                exact to_end (by kernel_rfl) ⟨g3, g4, ⟨rfl, rfl, rfl, rfl, rfl, trivial⟩, [0, 1, 2, 3], ⟨rfl, rfl, rfl, rfl, trivial⟩, by decide⟩
      · refine ro_alloc rfl Tryd.zeroValue35 (fun g4 => ?_)
        refine to_step (l := [0, 2]) (by kernel_rfl) (by decide) (fun i hi => ?_)
        simp only [List.mem_cons, List.mem_nil_iff, or_false] at hi
        rcases hi with rfl | rfl
        · refine ro_rd (v := .agg p.arr) rfl (rd_loadW (j := 2) Tryd.isAgg35 Tryd.sizeOf35 rfl (by kernel_rfl)) ?_
          refine to_step (l := [2]) (by kernel_rfl) (by decide) (fun i hi => ?_)
          simp only [List.mem_cons, List.mem_nil_iff, or_false] at hi
          subst hi
          · refine ro_alloc rfl Tryd.zeroValue35 (fun g3 => ?_)
            refine to_step (l := [4]) (by kernel_rfl) (by decide) (fun i hi => ?_)
            simp only [List.mem_cons, List.mem_nil_iff, or_false] at hi
            subst hi
            · refine ro_storeW (j := 0) (c' := p.arr) rfl Tryd.sizeOf35 (by kernel_rfl) (by kernel_rfl) rfl (by kernel_rfl) rfl rfl ?_
              refine to_step (l := [5]) (by kernel_rfl) (by decide) (fun i hi => ?_)
              simp only [List.mem_cons, List.mem_nil_iff, or_false] at hi
              subst hi
              · refine ro_storeW (j := 1) (c' := p.arr) rfl Tryd.sizeOf35 (by kernel_rfl) (by kernel_rfl) rfl (by kernel_rfl) rfl rfl ?_
                exact to_end (by kernel_rfl) ⟨g3, g4, ⟨rfl, rfl, rfl, rfl, rfl, trivial⟩, [1, 0, 2, 3], ⟨rfl, rfl, rfl, rfl, trivial⟩, by decide⟩
        · refine ro_alloc rfl Tryd.zeroValue35 (fun g3 => ?_)
          refine to_step (l := [0]) (by kernel_rfl) (by decide) (fun i hi => ?_)
          simp only [List.mem_cons, List.mem_nil_iff, or_false] at hi
          subst hi
          · refine ro_rd (v := .agg p.arr) rfl (rd_loadW (j := 3) Tryd.isAgg35 Tryd.sizeOf35 rfl (by kernel_rfl)) ?_
            refine to_step (l := [4]) (by kernel_rfl) (by decide) (fun i hi => ?_)
            simp only [List.mem_cons, List.mem_nil_iff, or_false] at hi
            subst hi
            · refine ro_storeW (j := 0) (c' := p.arr) rfl Tryd.sizeOf35 (by kernel_rfl) (by kernel_rfl) rfl (by kernel_rfl) rfl rfl ?_
              refine to_step (l := [5]) (by kernel_rfl) (by decide) (fun i hi => ?_)
              simp only [List.mem_cons, List.mem_nil_iff, or_false] at hi
              subst hi
              · refine ro_storeW (j := 1) (c' := p.arr) rfl Tryd.sizeOf35 (by kernel_rfl) (by kernel_rfl) rfl (by kernel_rfl) rfl rfl ?_
                exact to_end (by kernel_rfl) ⟨g3, g4, ⟨rfl, rfl, rfl, rfl, rfl, trivial⟩, [1, 0, 2, 3], ⟨rfl, rfl, rfl, rfl, trivial⟩, by decide⟩
    · refine ro_alloc rfl Tryd.zeroValue35 (fun g3 => ?_)
      refine to_step (l := [0, 1, 3]) (by kernel_rfl) (by decide) (fun i hi => ?_)
      simp only [List.mem_cons, List.mem_nil_iff, or_false] at hi
      rcases hi with rfl | rfl | rfl
      · refine ro_rd (v := .agg p.arr) rfl (rd_loadW (j := 2) Tryd.isAgg35 Tryd.sizeOf35 rfl (by kernel_rfl)) ?_
        refine to_step (l := [1, 3]) (by kernel_rfl) (by decide) (fun i hi => ?_)
        simp only [List.mem_cons, List.mem_nil_iff, or_false] at hi
        rcases hi with rfl | rfl
        · refine ro_rd (v := .agg p.arr) rfl (rd_loadW (j := 2) Tryd.isAgg35 Tryd.sizeOf35 rfl (by kernel_rfl)) ?_
          refine to_step (l := [3]) (by kernel_rfl) (by decide) (fun i hi => ?_)
          simp only [List.mem_cons, List.mem_nil_iff, or_false] at hi
          subst hi
          · refine ro_alloc rfl Tryd.zeroValue35 (fun g4 => ?_)
            refine to_step (l := [4]) (by kernel_rfl) (by decide) (fun i hi => ?_)
            simp only [List.mem_cons, List.mem_nil_iff, or_false] at hi
            subst hi
            · refine ro_storeW (j := 1) (c' := p.arr) rfl Tryd.sizeOf35 (by kernel_rfl) (by kernel_rfl) rfl (by kernel_rfl) rfl rfl ?_
              refine to_step (l := [5]) (by kernel_rfl) (by decide) (fun i hi => ?_)
              simp only [List.mem_cons, List.mem_nil_iff, or_false] at hi
              subst hi
              · refine ro_storeW (j := 0) (c' := p.arr) rfl Tryd.sizeOf35 (by kernel_rfl) (by kernel_rfl) rfl (by kernel_rfl) rfl rfl ?_
                exact to_end (by kernel_rfl) ⟨g3, g4, ⟨rfl, rfl, rfl, rfl, rfl, trivial⟩, [0, 1, 2, 3], ⟨rfl, rfl, rfl, rfl, trivial⟩, by decide⟩
        · refine ro_alloc rfl Tryd.zeroValue35 (fun g4 => ?_)
          refine to_step (l := [1, 4]) (by kernel_rfl) (by decide) (fun i hi => ?_)
          simp only [List.mem_cons, List.mem_nil_iff, or_false] at hi
          rcases hi with rfl | rfl
          · refine ro_rd (v := .agg p.arr) rfl (rd_loadW (j := 3) Tryd.isAgg35 Tryd.sizeOf35 rfl (by kernel_rfl)) ?_
            refine to_step (l := [4]) (by kernel_rfl) (by decide) (fun i hi => ?_)
            simp only [List.mem_cons, List.mem_nil_iff, or_false] at hi
            subst hi
            · refine ro_storeW (j := 1) (c' := p.arr) rfl Tryd.sizeOf35 (by kernel_rfl) (by kernel_rfl) rfl (by kernel_rfl) rfl rfl ?_
              refine to_step (l := [5]) (by kernel_rfl) (by decide) (fun i hi => ?_)
              simp only [List.mem_cons, List.mem_nil_iff, or_false] at hi
              subst hi
              · refine ro_storeW (j := 0) (c' := p.arr) rfl Tryd.sizeOf35 (by kernel_rfl) (by kernel_rfl) rfl (by kernel_rfl) rfl rfl ?_
                exact to_end (by kernel_rfl) ⟨g3, g4, ⟨rfl, rfl, rfl, rfl, rfl, trivial⟩, [0, 1, 2, 3], ⟨rfl, rfl, rfl, rfl, trivial⟩, by decide⟩
          · refine ro_storeW (j := 1) (c' := p.arr) rfl Tryd.sizeOf35 (by kernel_rfl) (by kernel_rfl) rfl (by kernel_rfl) rfl rfl ?_
            refine to_step (l := [1]) (by kernel_rfl) (by decide) (fun i hi => ?_)
            simp only [List.mem_cons, List.mem_nil_iff, or_false] at hi
            subst hi
            · refine ro_rd (v := .agg p.arr) rfl (rd_loadW (j := 3) Tryd.isAgg35 Tryd.sizeOf35 rfl (by kernel_rfl)) ?_
              refine to_step (l := [5]) (by kernel_rfl) (by decide) (fun i hi => ?_)
              simp only [List.mem_cons, List.mem_nil_iff, or_false] at hi
              subst hi
              · refine ro_storeW (j := 0) (c' := p.arr) rfl Tryd.sizeOf35 (by kernel_rfl) (by kernel_rfl) rfl (by kernel_rfl) rfl rfl ?_
                exact to_end (by kernel_rfl) ⟨g3, g4, ⟨rfl, rfl, rfl, rfl, rfl, trivial⟩, [0, 1, 2, 3], ⟨rfl, rfl, rfl, rfl, trivial⟩, by decide⟩
      · refine ro_rd (v := .agg p.arr) rfl (rd_loadW (j := 2) Tryd.isAgg35 Tryd.sizeOf35 rfl (by kernel_rfl)) ?_
        refine to_step (l := [0, 3]) (by kernel_rfl) (by decide) (fun i hi => ?_)
        simp only [List.mem_cons, List.mem_nil_iff, or_false] at hi
        rcases hi with rfl | rfl
        · refine ro_rd (v := .agg p.arr) rfl (rd_loadW (j := 2) Tryd.isAgg35 Tryd.sizeOf35 rfl (by kernel_rfl)) ?_
          refine to_step (l := [3]) (by kernel_rfl) (by decide) (fun i hi => ?_)
          simp only [List.mem_cons, List.mem_nil_iff, or_false] at hi
          subst hi
          · refine ro_alloc rfl Tryd.zeroValue35 (fun g4 => ?_)
            refine to_step (l := [4]) (by kernel_rfl) (by decide) (fun i hi => ?_)
            simp only [List.mem_cons, List.mem_nil_iff, or_false] at hi
            subst hi
            · refine ro_storeW (j := 1) (c' := p.arr) rfl Tryd.sizeOf35 (by kernel_rfl) (by kernel_rfl) rfl (by kernel_rfl) rfl rfl ?_
              refine to_step (l := [5]) (by kernel_rfl) (by decide) (fun i hi => ?_)
              simp only [List.mem_cons, List.mem_nil_iff, or_false] at hi
              subst hi
              · refine ro_storeW (j := 0) (c' := p.arr) rfl Tryd.sizeOf35 (by kernel_rfl) (by kernel_rfl) rfl (by kernel_rfl) rfl rfl ?_
                exact to_end (by kernel_rfl) ⟨g3, g4, ⟨rfl, rfl, rfl, rfl, rfl, trivial⟩, [0, 1, 2, 3], ⟨rfl, rfl, rfl, rfl, trivial⟩, by decide⟩
        · refine ro_alloc rfl Tryd.zeroValue35 (fun g4 => ?_)
          refine to_step (l := [0]) (by kernel_rfl) (by decide) (fun i hi => ?_)
          simp only [List.mem_cons, List.mem_nil_iff, or_false] at hi
          subst hi
          · refine ro_rd (v := .agg p.arr) rfl (rd_loadW (j := 3) Tryd.isAgg35 Tryd.sizeOf35 rfl (by kernel_rfl)) ?_
            refine to_step (l := [4]) (by kernel_rfl) (by decide) (fun i hi => ?_)
            simp only [List.mem_cons, List.mem_nil_iff, or_false] at hi
            subst hi
            · refine ro_storeW (j := 1) (c' := p.arr) rfl Tryd.sizeOf35 (by kernel_rfl) (by kernel_rfl) rfl (by kernel_rfl) rfl rfl ?_
              refine to_step (l := [5]) (by kernel_rfl) (by decide) (fun i hi => ?_)
              simp only [List.mem_cons, List.mem_nil_iff, or_false] at hi
              subst hi
              · refine ro_storeW (j := 0) (c' := p.arr) rfl Tryd.sizeOf35 (by kernel_rfl) (by kernel_rfl) rfl (by kernel_rfl) rfl rfl ?_
                exact to_end (by kernel_rfl) ⟨g3, g4, ⟨rfl, rfl, rfl, rfl, rfl, trivial⟩, [0, 1, 2, 3], ⟨rfl, rfl, rfl, rfl, trivial⟩, by decide⟩
      · refine ro_alloc rfl Tryd.zeroValue35 (fun g4 => ?_)
        refine to_step (l := [0, 1]) (by kernel_rfl) (by decide) (fun i hi => ?_)
        simp only [List.mem_cons, List.mem_nil_iff, or_false] at hi
        rcases hi with rfl | rfl
        · refine ro_rd (v := .agg p.arr) rfl (rd_loadW (j := 3) Tryd.isAgg35 Tryd.sizeOf35 rfl (by kernel_rfl)) ?_
          refine to_step (l := [1, 4]) (by kernel_rfl) (by decide) (fun i hi => ?_)
          simp only [List.mem_cons, List.mem_nil_iff, or_false] at hi
          rcases hi with rfl | rfl
          · refine ro_rd (v := .agg p.arr) rfl (rd_loadW (j := 3) Tryd.isAgg35 Tryd.sizeOf35 rfl (by kernel_rfl)) ?_
            refine to_step (l := [4]) (by kernel_rfl) (by decide) (fun i hi => ?_)
            simp only [List.mem_cons, List.mem_nil_iff, or_false] at hi
            subst hi
            · refine ro_storeW (j := 1) (c' := p.arr) rfl Tryd.sizeOf35 (by kernel_rfl) (by kernel_rfl) rfl (by kernel_rfl) rfl rfl ?_
              refine to_step (l := [5]) (by kernel_rfl) (by decide) (fun i hi => ?_)
              simp only [List.mem_cons, List.mem_nil_iff, or_false] at hi
              subst hi
              · refine ro_storeW (j := 0) (c' := p.arr) rfl Tryd.sizeOf35 (by kernel_rfl) (by kernel_rfl) rfl (by kernel_rfl) rfl rfl ?_
                exact to_end (by kernel_rfl) ⟨g3, g4, ⟨rfl, rfl, rfl, rfl, rfl, trivial⟩, [0, 1, 2, 3], ⟨rfl, rfl, rfl, rfl, trivial⟩, by decide⟩
          · refine ro_storeW (j := 1) (c' := p.arr) rfl Tryd.sizeOf35 (by kernel_rfl) (by kernel_rfl) rfl (by kernel_rfl) rfl rfl ?_
            refine to_step (l := [1]) (by kernel_rfl) (by decide) (fun i hi => ?_)
            simp only [List.mem_cons, List.mem_nil_iff, or_false] at hi
            subst hi
            · refine ro_rd (v := .agg p.arr) rfl (rd_loadW (j := 3) Tryd.isAgg35 Tryd.sizeOf35 rfl (by kernel_rfl)) ?_
              refine to_step (l := [5]) (by kernel_rfl) (by decide) (fun i hi => ?_)
              simp only [List.mem_cons, List.mem_nil_iff, or_false] at hi
              subst hi
              · refine ro_storeW (j := 0) (c' := p.arr) rfl Tryd.sizeOf35 (by kernel_rfl) (by kernel_rfl) rfl (by kernel_rfl) rfl rfl ?_
                exact to_end (by kernel_rfl) ⟨g3, g4, ⟨rfl, rfl, rfl, rfl, rfl, trivial⟩, [0, 1, 2, 3], ⟨rfl, rfl, rfl, rfl, trivial⟩, by decide⟩
        · refine ro_rd (v := .agg p.arr) rfl (rd_loadW (j := 3) Tryd.isAgg35 Tryd.sizeOf35 rfl (by kernel_rfl)) ?_
          refine to_step (l := [0]) (by kernel_rfl) (by decide) (fun i hi => ?_)
          simp only [List.mem_cons, List.mem_nil_iff, or_false] at hi
          subst hi
          · refine ro_rd (v := .agg p.arr) rfl (rd_loadW (j := 3) Tryd.isAgg35 Tryd.sizeOf35 rfl (by kernel_rfl)) ?_
            refine to_step (l := [4]) (by kernel_rfl) (by decide) (fun i hi => ?_)
            simp only [List.mem_cons, List.mem_nil_iff, or_false] at hi
            subst hi
            · refine ro_storeW (j := 1) (c' := p.arr) rfl Tryd.sizeOf35 (by kernel_rfl) (by kernel_rfl) rfl (by kernel_rfl) rfl rfl ?_
              refine to_step (l := [5]) (by kernel_rfl) (by decide) (fun i hi => ?_)
              simp only [List.mem_cons, List.mem_nil_iff, or_false] at hi
              subst hi
              · refine ro_storeW (j := 0) (c' := p.arr) rfl Tryd.sizeOf35 (by kernel_rfl) (by kernel_rfl) rfl (by kernel_rfl) rfl rfl ?_
                exact to_end (by kernel_rfl) ⟨g3, g4, ⟨rfl, rfl, rfl, rfl, rfl, trivial⟩, [0, 1, 2, 3], ⟨rfl, rfl, rfl, rfl, trivial⟩, by decide⟩
    · refine ro_alloc rfl Tryd.zeroValue35 (fun g4 => ?_)
      refine to_step (l := [0, 1, 2]) (by kernel_rfl) (by decide) (fun i hi => ?_)
      simp only [List.mem_cons, List.mem_nil_iff, or_false] at hi
      rcases hi with rfl | rfl | rfl
      · refine ro_rd (v := .agg p.arr) rfl (rd_loadW (j := 2) Tryd.isAgg35 Tryd.sizeOf35 rfl (by kernel_rfl)) ?_
        refine to_step (l := [1, 2]) (by kernel_rfl) (by decide) (fun i hi => ?_)
        simp only [List.mem_cons, List.mem_nil_iff, or_false] at hi
        rcases hi with rfl | rfl
        · refine ro_rd (v := .agg p.arr) rfl (rd_loadW (j := 2) Tryd.isAgg35 Tryd.sizeOf35 rfl (by kernel_rfl)) ?_
          refine to_step (l := [2]) (by kernel_rfl) (by decide) (fun i hi => ?_)
          simp only [List.mem_cons, List.mem_nil_iff, or_false] at hi
          subst hi
          · refine ro_alloc rfl Tryd.zeroValue35 (fun g3 => ?_)
            refine to_step (l := [4]) (by kernel_rfl) (by decide) (fun i hi => ?_)
            simp only [List.mem_cons, List.mem_nil_iff, or_false] at hi
            subst hi
            · refine ro_storeW (j := 0) (c' := p.arr) rfl Tryd.sizeOf35 (by kernel_rfl) (by kernel_rfl) rfl (by kernel_rfl) rfl rfl ?_
              refine to_step (l := [5]) (by kernel_rfl) (by decide) (fun i hi => ?_)
              simp only [List.mem_cons, List.mem_nil_iff, or_false] at hi
              subst hi
              · refine ro_storeW (j := 1) (c' := p.arr) rfl Tryd.sizeOf35 (by kernel_rfl) (by kernel_rfl) rfl (by kernel_rfl) rfl rfl ?_
                exact to_end (by kernel_rfl) ⟨g3, g4, ⟨rfl, rfl, rfl, rfl, rfl, trivial⟩, [1, 0, 2, 3], ⟨rfl, rfl, rfl, rfl, trivial⟩, by decide⟩
        · refine ro_alloc rfl Tryd.zeroValue35 (fun g3 => ?_)
          refine to_step (l := [1, 4]) (by kernel_rfl) (by decide) (fun i hi => ?_)
          simp only [List.mem_cons, List.mem_nil_iff, or_false] at hi
          rcases hi with rfl | rfl
          · refine ro_rd (v := .agg p.arr) rfl (rd_loadW (j := 3) Tryd.isAgg35 Tryd.sizeOf35 rfl (by kernel_rfl)) ?_
            refine to_step (l := [4]) (by kernel_rfl) (by decide) (fun i hi => ?_)
            simp only [List.mem_cons, List.mem_nil_iff, or_false] at hi
            subst hi
            · refine ro_storeW (j := 0) (c' := p.arr) rfl Tryd.sizeOf35 (by kernel_rfl) (by kernel_rfl) rfl (by kernel_rfl) rfl rfl ?_
              refine to_step (l := [5]) (by kernel_rfl) (by decide) (fun i hi => ?_)
              simp only [List.mem_cons, List.mem_nil_iff, or_false] at hi
              subst hi
              · refine ro_storeW (j := 1) (c' := p.arr) rfl Tryd.sizeOf35 (by kernel_rfl) (by kernel_rfl) rfl (by kernel_rfl) rfl rfl ?_
                exact to_end (by kernel_rfl) ⟨g3, g4, ⟨rfl, rfl, rfl, rfl, rfl, trivial⟩, [1, 0, 2, 3], ⟨rfl, rfl, rfl, rfl, trivial⟩, by decide⟩
          · refine ro_storeW (j := 0) (c' := p.arr) rfl Tryd.sizeOf35 (by kernel_rfl) (by kernel_rfl) rfl (by kernel_rfl) rfl rfl ?_
            refine to_step (l := [1]) (by kernel_rfl) (by decide) (fun i hi => ?_)
            simp only [List.mem_cons, List.mem_nil_iff, or_false] at hi
            subst hi
            · refine ro_rd (v := .agg p.arr) rfl (rd_loadW (j := 3) Tryd.isAgg35 Tryd.sizeOf35 rfl (by kernel_rfl)) ?_
              refine to_step (l := [5]) (by kernel_rfl) (by decide) (fun i hi => ?_)
              simp only [List.mem_cons, List.mem_nil_iff, or_false] at hi
              subst hi
              · refine ro_storeW (j := 1) (c' := p.arr) rfl Tryd.sizeOf35 (by kernel_rfl) (by kernel_rfl) rfl (by kernel_rfl) rfl rfl ?_
                exact to_end (by kernel_rfl) ⟨g3, g4, ⟨rfl, rfl, rfl, rfl, rfl, trivial⟩, [1, 0, 2, 3], ⟨rfl, rfl, rfl, rfl, trivial⟩, by decide⟩
      · refine ro_rd (v := .agg p.arr) rfl (rd_loadW (j := 2) Tryd.isAgg35 Tryd.sizeOf35 rfl (by kernel_rfl)) ?_
        refine to_step (l := [0, 2]) (by kernel_rfl) (by decide) (fun i hi => ?_)
        simp only [List.mem_cons, List.mem_nil_iff, or_false] at hi
        rcases hi with rfl | rfl
        · refine ro_rd (v := .agg p.arr) rfl (rd_loadW (j := 2) Tryd.isAgg35 Tryd.sizeOf35 rfl (by kernel_rfl)) ?_
          refine to_step (l := [2]) (by kernel_rfl) (by decide) (fun i hi => ?_)
          simp only [List.mem_cons, List.mem_nil_iff, or_false] at hi
          subst hi
          · refine ro_alloc rfl Tryd.zeroValue35 (fun g3 => ?_)
            refine to_step (l := [4]) (by kernel_rfl) (by decide) (fun i hi => ?_)
            simp only [List.mem_cons, List.mem_nil_iff, or_false] at hi
            subst hi
            · refine ro_storeW (j := 0) (c' := p.arr) rfl Tryd.sizeOf35 (by kernel_rfl) (by kernel_rfl) rfl (by kernel_rfl) rfl rfl ?_
              refine to_step (l := [5]) (by kernel_rfl) (by decide) (fun i hi => ?_)
              simp only [List.mem_cons, List.mem_nil_iff, or_false] at hi
              subst hi
              · refine ro_storeW (j := 1) (c' := p.arr) rfl Tryd.sizeOf35 (by kernel_rfl) (by kernel_rfl) rfl (by kernel_rfl) rfl rfl ?_
                exact to_end (by kernel_rfl) ⟨g3, g4, ⟨rfl, rfl, rfl, rfl, rfl, trivial⟩, [1, 0, 2, 3], ⟨rfl, rfl, rfl, rfl, trivial⟩, by decide⟩
        · refine ro_alloc rfl Tryd.zeroValue35 (fun g3 => ?_)
          refine to_step (l := [0]) (by kernel_rfl) (by decide) (fun i hi => ?_)
          simp only [List.mem_cons, List.mem_nil_iff, or_false] at hi
          subst hi
          · refine ro_rd (v := .agg p.arr) rfl (rd_loadW (j := 3) Tryd.isAgg35 Tryd.sizeOf35 rfl (by kernel_rfl)) ?_
            refine to_step (l := [4]) (by kernel_rfl) (by decide) (fun i hi => ?_)
            simp only [List.mem_cons, List.mem_nil_iff, or_false] at hi
            subst hi
            · refine ro_storeW (j := 0) (c' := p.arr) rfl Tryd.sizeOf35 (by kernel_rfl) (by kernel_rfl) rfl (by kernel_rfl) rfl rfl ?_
              refine to_step (l := [5]) (by kernel_rfl) (by decide) (fun i hi => ?_)
              simp only [List.mem_cons, List.mem_nil_iff, or_false] at hi
              subst hi
              · refine ro_storeW (j := 1) (c' := p.arr) rfl Tryd.sizeOf35 (by kernel_rfl) (by kernel_rfl) rfl (by kernel_rfl) rfl rfl ?_
                exact to_end (by kernel_rfl) ⟨g3, g4, ⟨rfl, rfl, rfl, rfl, rfl, trivial⟩, [1, 0, 2, 3], ⟨rfl, rfl, rfl, rfl, trivial⟩, by decide⟩
      · refine ro_alloc rfl Tryd.zeroValue35 (fun g3 => ?_)
        refine to_step (l := [0, 1]) (by kernel_rfl) (by decide) (fun i hi => ?_)
        simp only [List.mem_cons, List.mem_nil_iff, or_false] at hi
        rcases hi with rfl | rfl
        · refine ro_rd (v := .agg p.arr) rfl (rd_loadW (j := 3) Tryd.isAgg35 Tryd.sizeOf35 rfl (by kernel_rfl)) ?_
          refine to_step (l := [1, 4]) (by kernel_rfl) (by decide) (fun i hi => ?_)
          simp only [List.mem_cons, List.mem_nil_iff, or_false] at hi
          rcases hi with rfl | rfl
          · refine ro_rd (v := .agg p.arr) rfl (rd_loadW (j := 3) Tryd.isAgg35 Tryd.sizeOf35 rfl (by kernel_rfl)) ?_
            refine to_step (l := [4]) (by kernel_rfl) (by decide) (fun i hi => ?_)
            simp only [List.mem_cons, List.mem_nil_iff, or_false] at hi
            subst hi
            · refine ro_storeW (j := 0) (c' := p.arr) rfl Tryd.sizeOf35 (by kernel_rfl) (by kernel_rfl) rfl (by kernel_rfl) rfl rfl ?_
              refine to_step (l := [5]) (by kernel_rfl) (by decide) (fun i hi => ?_)
              simp only [List.mem_cons, List.mem_nil_iff, or_false] at hi
              subst hi
              · refine ro_storeW (j := 1) (c' := p.arr) rfl Tryd.sizeOf35 (by kernel_rfl) (by kernel_rfl) rfl (by kernel_rfl) rfl rfl ?_
                exact to_end (by kernel_rfl) ⟨g3, g4, ⟨rfl, rfl, rfl, rfl, rfl, trivial⟩, [1, 0, 2, 3], ⟨rfl, rfl, rfl, rfl, trivial⟩, by decide⟩
          · refine ro_storeW (j := 0) (c' := p.arr) rfl Tryd.sizeOf35 (by kernel_rfl) (by kernel_rfl) rfl (by kernel_rfl) rfl rfl ?_
            refine to_step (l := [1]) (by kernel_rfl) (by decide) (fun i hi => ?_)
            simp only [List.mem_cons, List.mem_nil_iff, or_false] at hi
            subst hi
            · refine ro_rd (v := .agg p.arr) rfl (rd_loadW (j := 3) Tryd.isAgg35 Tryd.sizeOf35 rfl (by kernel_rfl)) ?_
              refine to_step (l := [5]) (by kernel_rfl) (by decide) (fun i hi => ?_)
              simp only [List.mem_cons, List.mem_nil_iff, or_false] at hi
              subst hi
              · refine ro_storeW (j := 1) (c' := p.arr) rfl Tryd.sizeOf35 (by kernel_rfl) (by kernel_rfl) rfl (by kernel_rfl) rfl rfl ?_
                exact to_end (by kernel_rfl) ⟨g3, g4, ⟨rfl, rfl, rfl, rfl, rfl, trivial⟩, [1, 0, 2, 3], ⟨rfl, rfl, rfl, rfl, trivial⟩, by decide⟩
        · refine ro_rd (v := .agg p.arr) rfl (rd_loadW (j := 3) Tryd.isAgg35 Tryd.sizeOf35 rfl (by kernel_rfl)) ?_
          refine to_step (l := [0]) (by kernel_rfl) (by decide) (fun i hi => ?_)
          simp only [List.mem_cons, List.mem_nil_iff, or_false] at hi
          subst hi
          · refine ro_rd (v := .agg p.arr) rfl (rd_loadW (j := 3) Tryd.isAgg35 Tryd.sizeOf35 rfl (by kernel_rfl)) ?_
            refine to_step (l := [4]) (by kernel_rfl) (by decide) (fun i hi => ?_)
            simp only [List.mem_cons, List.mem_nil_iff, or_false] at hi
            subst hi
            · refine ro_storeW (j := 0) (c' := p.arr) rfl Tryd.sizeOf35 (by kernel_rfl) (by kernel_rfl) rfl (by kernel_rfl) rfl rfl ?_
              refine to_step (l := [5]) (by kernel_rfl) (by decide) (fun i hi => ?_)
              simp only [List.mem_cons, List.mem_nil_iff, or_false] at hi
              subst hi
              · refine ro_storeW (j := 1) (c' := p.arr) rfl Tryd.sizeOf35 (by kernel_rfl) (by kernel_rfl) rfl (by kernel_rfl) rfl rfl ?_
                exact to_end (by kernel_rfl) ⟨g3, g4, ⟨rfl, rfl, rfl, rfl, rfl, trivial⟩, [1, 0, 2, 3], ⟨rfl, rfl, rfl, rfl, trivial⟩, by decide⟩
  refine run_seq rfl ?_
  refine run_region (todo := [0, 1, 2]) rfl rfl ?_
  refine run_rd (v := .agg x.vals.toArray) rfl (rd_loadW (j := 2) Tryd.isAgg27 Tryd.sizeOf27 rfl rfl) ?_
  refine run_rd (v := .pointer (some ⟨g3, 13, none⟩)) rfl (rd_fieldAddr (o := 13) Tryd.underlying35 rfl Tryd.sizeOf27 rfl rfl) ?_
  refine run_store (j := 1) (c' := (Pkt.mk p.src p.inc p.conf p.members x p.promise p.wanted p.ready p.epoch p.round p.newest p.older p.relayOf p.relayRound p.relay).arr) rfl Tryd.sizeOf27 (by kernel_rfl) (by kernel_rfl) rfl (by kernel_rfl) (by kernel_rfl) rfl ?_
  refine run_endops ?_
  refine run_seq rfl ?_
  refine run_region (todo := [0, 1, 2, 3, 4]) rfl rfl ?_
  refine run_rd (v := .pointer (some ⟨g1, 32, none⟩)) rfl (rd_fieldAddr (o := 32) Tryd.underlying35 rfl Tryd.sizeOf4 rfl rfl) ?_
  refine run_rd (v := .bool p.ready) rfl (rd_load (j := 3) (v := .bool p.ready) Tryd.isAgg4 rfl (by kernel_rfl)) ?_
  refine run_rd (v := .bool (!p.ready)) rfl (rd_not) ?_
  refine run_rd (v := .pointer (some ⟨g4, 32, none⟩)) rfl (rd_fieldAddr (o := 32) Tryd.underlying35 rfl Tryd.sizeOf4 rfl rfl) ?_
  refine run_store (j := 0) (c' := (Pkt.mk p.src p.inc p.conf p.members p.count p.promise p.wanted (!p.ready) p.epoch p.round p.newest p.older p.relayOf p.relayRound p.relay).arr) rfl Tryd.sizeOf4 (by kernel_rfl) (by kernel_rfl) rfl (by kernel_rfl) (by kernel_rfl) rfl ?_
  refine run_endops ?_
  refine run_seq rfl ?_
  refine run_region (todo := [0, 1, 2, 3, 4, 5, 6]) rfl rfl ?_
  refine run_rd (v := .agg p.arr) rfl (rd_loadW (j := 3) Tryd.isAgg35 Tryd.sizeOf35 rfl (by kernel_rfl)) ?_
  refine run_pf0 (v := .tuple #[.string (bs p.enc), .int .i64 (pkCode p.may)]) rfl Tryd.call9 (pf_pencode p hp) ?_
  refine run_mv rfl ?_
  refine run_rd (v := .string (bs p.enc)) rfl (rd_extract rfl) ?_
  refine run_rd (v := .int .i64 (pkCode p.may)) rfl (rd_extract rfl) ?_
  refine run_mv rfl ?_
  refine run_mv rfl ?_
  refine run_endops ?_
  refine run_seq rfl ?_
  refine run_region (todo := [0, 1, 2, 3, 4, 5, 6]) rfl rfl ?_
  refine run_rd (v := .agg ((Pkt.mk p.src p.inc p.conf p.members x p.promise p.wanted p.ready p.epoch p.round p.newest p.older p.relayOf p.relayRound p.relay).arr)) rfl (rd_loadW (j := 1) Tryd.isAgg35 Tryd.sizeOf35 rfl (by kernel_rfl)) ?_
  refine run_pf0 (v := .tuple #[.string (bs (withCount p x).enc), .int .i64 (pkCode (withCount p x).may)]) rfl Tryd.call9 (pf_pencode (withCount p x) (count_fit hp hx)) ?_
  refine run_mv rfl ?_
  refine run_rd (v := .string (bs (withCount p x).enc)) rfl (rd_extract rfl) ?_
  refine run_rd (v := .int .i64 (pkCode (withCount p x).may)) rfl (rd_extract rfl) ?_
  refine run_mv rfl ?_
  refine run_mv rfl ?_
  refine run_endops ?_
  refine run_seq rfl ?_
  refine run_region (todo := [0, 1, 2, 3, 4, 5, 6]) rfl rfl ?_
  refine run_rd (v := .agg ((Pkt.mk p.src p.inc p.conf p.members p.count p.promise p.wanted (!p.ready) p.epoch p.round p.newest p.older p.relayOf p.relayRound p.relay).arr)) rfl (rd_loadW (j := 0) Tryd.isAgg35 Tryd.sizeOf35 rfl (by kernel_rfl)) ?_
  refine run_pf0 (v := .tuple #[.string (bs (flipped p).enc), .int .i64 (pkCode (flipped p).may)]) rfl Tryd.call9 (pf_pencode (flipped p) (flip_fit hp)) ?_
  refine run_mv rfl ?_
  refine run_rd (v := .string (bs (flipped p).enc)) rfl (rd_extract rfl) ?_
  refine run_rd (v := .int .i64 (pkCode (flipped p).may)) rfl (rd_extract rfl) ?_
  refine run_mv rfl ?_
  refine run_mv rfl ?_
  refine run_endops ?_
  refine run_seq rfl ?_
  refine run_seq rfl ?_
  refine run_region (todo := [0, 1, 2, 3, 4, 5]) rfl rfl ?_
  refine run_pf0 (v := .bool true) rfl Tryd.call11 (pf_fixed) ?_
  refine run_rd (v := .bool false) rfl (rd_not) ?_
  refine run_mv rfl ?_
  refine run_mvG rfl ?_
  refine run_rdG (v := .bool ((pkCode p.may) != 0)) rfl (rd_cmp rfl rfl) ?_
  refine run_pick (v := .bool ((pkCode p.may) != 0)) rfl rfl ?_
  refine run_endops ?_
  refine run_if rfl rfl (fun hb1 => ?_) (fun hb1 => ?_)
  · skip
    refine run_seq rfl ?_
    refine run_region (todo := [0, 1]) rfl rfl ?_
    refine run_pf0 (v := .bool true) rfl Tryd.call11 (pf_fixed) ?_
    refine run_mv rfl ?_
    refine run_endops ?_
    refine run_ret rfl (v := .bool true) (res1 rfl rfl) ?_
    rfl
  · have qm : p.may = true := pk_good hb1
    have l1 := penc_len qm
    have l2 := penc_len (show (withCount p x).may = true from qm)
    have l3 := penc_len (show (flipped p).may = true from qm)
    have e0 : (decide ((p.enc.take 46) = (((withCount p x).enc).take 46))) = true := decide_eq_true (field_a qm)
    have e1 : (decide ((seg p.enc 78 559) = (seg ((withCount p x).enc) 78 559))) = true := decide_eq_true (field_b qm)
    have e2 : ((decide (p.enc = (withCount p x).enc)) == (decide (p.count = x))) = true := field_c hp hx qm
    have e3 : (decide ((p.enc.take 119) = (((flipped p).enc).take 119))) = true := decide_eq_true (field_d qm)
    have e4 : (decide ((seg p.enc 120 517) = (seg ((flipped p).enc) 120 517))) = true := decide_eq_true (field_e qm)
    have e5 : (decide (p.enc ≠ (flipped p).enc)) = true := decide_eq_true (field_f qm)
    have e6 : ((pkCode (withCount p x).may) != 0) = false := by rw [count_may, qm]; rfl
    have e7 : ((pkCode (flipped p).may) != 0) = false := by rw [flip_may, qm]; rfl
    have e8 : (((p.enc.length : Nat) : Int) != 641) = false := by rw [l1]; rfl
    have e9 : (((((withCount p x).enc).length : Nat) : Int) != 641) = false := by rw [l2]; rfl
    have e10 : (((((flipped p).enc).length : Nat) : Int) != 641) = false := by rw [l3]; rfl
    refine run_skip rfl ?_
    refine run_seq rfl ?_
    refine run_seq rfl ?_
    refine run_region (todo := [0, 1, 2, 3, 4, 5, 6, 7, 8, 9, 10, 11, 12, 13, 14, 15, 16, 17, 18, 19, 20]) rfl rfl ?_
    refine run_mv rfl ?_
    refine run_rd (v := .bool false) rfl (rd_cmp rfl e6) ?_
    refine run_mv rfl ?_
    refine run_mvG rfl ?_
    refine run_rdG (v := .bool false) rfl (rd_cmp rfl e7) ?_
    refine run_pick (v := .bool false) rfl rfl ?_
    refine run_mv rfl ?_
    refine run_mvG rfl ?_
    refine run_rdG (v := .int .i64 ((p.enc.length : Nat) : Int)) rfl (rd_lenStr Tryd.underlying9 rfl) ?_
    refine run_rdG (v := .bool false) rfl (rd_cmp rfl e8) ?_
    refine run_pick (v := .bool false) rfl rfl ?_
    refine run_mv rfl ?_
    refine run_mvG rfl ?_
    refine run_rdG (v := .int .i64 ((((withCount p x).enc).length : Nat) : Int)) rfl (rd_lenStr Tryd.underlying9 rfl) ?_
    refine run_rdG (v := .bool false) rfl (rd_cmp rfl e9) ?_
    refine run_pick (v := .bool false) rfl rfl ?_
    refine run_mv rfl ?_
    refine run_mvG rfl ?_
    refine run_rdG (v := .int .i64 ((((flipped p).enc).length : Nat) : Int)) rfl (rd_lenStr Tryd.underlying9 rfl) ?_
    refine run_rdG (v := .bool false) rfl (rd_cmp rfl e10) ?_
    refine run_pick (v := .bool false) rfl rfl ?_
    refine run_endops ?_
    refine run_false rfl rfl ?_
    refine run_skip rfl ?_
    refine run_seq rfl ?_
    refine run_draw (l := [0, 1, 2, 3, 4, 5, 6, 7, 8, 9, 10, 11, 12, 13, 14, 15, 16, 17, 18, 19, 20, 21, 22, 23, 24, 25, 26, 27, 28, 29, 30, 31, 32, 33, 34, 35, 36, 37, 38, 39, 40, 41]) rfl rfl (by kernel_rfl) (by kernel_rfl) ?_
    refine q_mv rfl ?_
    refine q_val (v := .string (bs (p.enc.take 46))) rfl (rd_substr (l := 0) (h := 46) Tryd.underlying9 (.inr ⟨rfl, rfl⟩) (.inl rfl) (by omega) (by rw [bs_size]; omega) (by rw [bs_extract]; rfl)) ?_
    refine q_mv rfl ?_
    refine q_val (v := .string (bs (((withCount p x).enc).take 46))) rfl (rd_substr (l := 0) (h := 46) Tryd.underlying9 (.inr ⟨rfl, rfl⟩) (.inl rfl) (by omega) (by rw [bs_size]; omega) (by rw [bs_extract]; rfl)) ?_
    refine q_val (v := .bool true) rfl (rd_bseqD e0) ?_
    refine q_mv rfl ?_
    refine q_mv rfl ?_
    refine q_val (v := .string (bs (seg p.enc 78 559))) rfl (rd_substr (l := 78) (h := 637) Tryd.underlying9 (.inl rfl) (.inl rfl) (by omega) (by rw [bs_size]; omega) (by exact bs_mid)) ?_
    refine q_mv rfl ?_
    refine q_val (v := .string (bs (seg ((withCount p x).enc) 78 559))) rfl (rd_substr (l := 78) (h := 637) Tryd.underlying9 (.inl rfl) (.inl rfl) (by omega) (by rw [bs_size]; omega) (by exact bs_mid)) ?_
    refine q_val (v := .bool true) rfl (rd_bseqD e1) ?_
    refine q_pick (v := .bool true) rfl rfl ?_
    refine q_mv rfl ?_
    refine q_mv rfl ?_
    refine q_mv rfl ?_
    refine q_val (v := .bool (decide (p.enc = (withCount p x).enc))) rfl (rd_bseq) ?_
    refine q_val (v := .pointer (some ⟨g1, 13, none⟩)) rfl (rd_fieldAddr (o := 13) Tryd.underlying35 rfl Tryd.sizeOf27 rfl rfl) ?_
    refine q_val (v := .agg #[.int .u32 p.count.n0, .int .u32 p.count.n1, .int .u32 p.count.n2, .int .u32 p.count.n3, .int .u32 p.count.n4, .int .u32 p.count.n5, .int .u32 p.count.n6, .int .u32 p.count.n7]) rfl (rd_loadA (j := 3) (u := #[.int .u32 p.count.n0, .int .u32 p.count.n1, .int .u32 p.count.n2, .int .u32 p.count.n3, .int .u32 p.count.n4, .int .u32 p.count.n5, .int .u32 p.count.n6, .int .u32 p.count.n7]) Tryd.isAgg27 Tryd.sizeOf27 rfl (by kernel_rfl) (by kernel_rfl)) ?_
    refine q_val (v := .agg x.vals.toArray) rfl (rd_loadW (j := 2) Tryd.isAgg27 Tryd.sizeOf27 rfl rfl) ?_
    refine q_val (v := .bool (decide (p.count = x))) rfl (rd_v8_eql hp.ok.count hx) ?_
    refine q_val (v := .bool true) rfl (rd_booleq Tryd.underlying4 e2) ?_
    refine q_pick (v := .bool true) rfl rfl ?_
    refine q_mv rfl ?_
    refine q_mv rfl ?_
    refine q_val (v := .string (bs (p.enc.take 119))) rfl (rd_substr (l := 0) (h := 119) Tryd.underlying9 (.inr ⟨rfl, rfl⟩) (.inl rfl) (by omega) (by rw [bs_size]; omega) (by rw [bs_extract]; rfl)) ?_
    refine q_mv rfl ?_
    refine q_val (v := .string (bs (((flipped p).enc).take 119))) rfl (rd_substr (l := 0) (h := 119) Tryd.underlying9 (.inr ⟨rfl, rfl⟩) (.inl rfl) (by omega) (by rw [bs_size]; omega) (by rw [bs_extract]; rfl)) ?_
    refine q_val (v := .bool true) rfl (rd_bseqD e3) ?_
    refine q_pick (v := .bool true) rfl rfl ?_
    refine q_mv rfl ?_
    refine q_mv rfl ?_
    refine q_val (v := .string (bs (seg p.enc 120 517))) rfl (rd_substr (l := 120) (h := 637) Tryd.underlying9 (.inl rfl) (.inl rfl) (by omega) (by rw [bs_size]; omega) (by exact bs_mid)) ?_
    refine q_mv rfl ?_
    refine q_val (v := .string (bs (seg ((flipped p).enc) 120 517))) rfl (rd_substr (l := 120) (h := 637) Tryd.underlying9 (.inl rfl) (.inl rfl) (by omega) (by rw [bs_size]; omega) (by exact bs_mid)) ?_
    refine q_val (v := .bool true) rfl (rd_bseqD e4) ?_
    refine q_pick (v := .bool true) rfl rfl ?_
    refine q_mv rfl ?_
    refine q_mv rfl ?_
    refine q_mv rfl ?_
    refine q_val (v := .bool true) rfl (rd_bsneD e5) ?_
    refine q_pick (v := .bool true) rfl rfl ?_
    refine q_mv rfl ?_
    refine q_end ?_
    refine run_ret rfl (v := .bool true) (res1 rfl rfl) ?_
    rfl

end Go.Proofs.YthapghhmeicbnaaDoor
