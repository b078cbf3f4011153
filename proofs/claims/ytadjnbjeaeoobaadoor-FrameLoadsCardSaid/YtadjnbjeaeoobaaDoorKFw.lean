/- Frames: another lane, and lists of entries told apart. Printed by wip/k/genF.py. -/
import Derived.Test.YtadjnbjeaeoobaaDoorKF
set_option linter.unusedVariables false
set_option linter.unusedSimpArgs false
namespace Go.Proofs.YtadjnbjeaeoobaaDoor
open Go.RowKit

theorem row_one (l : List Ent) : (encE.row l).all Value.oneCell' = true := by
  simp only [Enc.row, List.all_flatMap, List.all_eq_true]
  intro x _ v hv
  simp only [encE, Ent.cells, List.mem_cons, List.mem_nil_iff, or_false] at hv
  rcases hv with rfl | rfl | rfl | rfl | rfl | rfl <;> rfl

theorem fn_entries (la lb : List Ent) (A B : Option Addr) (ca cb : Nat) (w0 : World) (hA : Cells w0 A (encE.row la)) (hB : Cells w0 B (encE.row lb)) (hoa : ∀ e ∈ la, e.Ok) (hob : ∀ e ∈ lb, e.Ok) (hm : la.length ≤ maxLen) : Fn Tryd.prog 9 #[.slice A la.length ca, .slice B lb.length cb] w0 (fun v _ => v = .bool (decide (la = lb))) := by
  unfold maxLen at hm
  refine fn_of_run Tryd.func9 rfl rfl ?_
  refine run_seq rfl ?_
  refine run_region (todo := [0]) rfl rfl ?_
  refine run_mv rfl ?_
  refine run_endops ?_
  refine run_seq rfl ?_
  refine run_seq rfl ?_
  refine run_region (todo := [0, 1, 2, 3, 4]) rfl rfl ?_
  refine run_mv rfl ?_
  refine run_rd (v := .int .i64 ((la.length : Nat) : Int)) rfl (rd_len Tryd.underlying28) ?_
  refine run_mv rfl ?_
  refine run_rd (v := .int .i64 ((lb.length : Nat) : Int)) rfl (rd_len Tryd.underlying28) ?_
  refine run_rd (v := .bool (((la.length : Nat) : Int) != ((lb.length : Nat) : Int))) rfl (rd_cmp rfl rfl) ?_
  refine run_endops ?_
  refine run_if rfl rfl (fun hb1 => ?_) (fun hb1 => ?_)
  · have hne : ¬ la.length = lb.length := fun e => ne_of_bne_t hb1 (by rw [e])
    refine run_seq rfl ?_
    refine run_region (todo := [0]) rfl rfl ?_
    refine run_mv rfl ?_
    refine run_endops ?_
    refine run_ret rfl (v := .bool false) (res1 rfl rfl) ?_
    exact congrArg Value.bool (decide_eq_false (fun e => hne (by rw [e]))).symm
  · have hlen : la.length = lb.length := by have := eq_of_bne_f hb1; omega
    refine run_skip rfl ?_
    refine run_seq rfl ?_
    refine run_seq rfl ?_
    refine run_region (todo := [0]) rfl rfl ?_
    refine run_mv rfl ?_
    refine run_endops ?_
    refine run_block rfl ?_
    refine run_loop rfl ?_
    refine run_ind1 (fun (k : Nat) => la.length - k) (fun (k : Nat) => [(0, .slice A la.length ca), (1, .slice B lb.length cb), (4, .bool false), (5, .int .i64 (k : Int))]) (fun (k : Nat) => []) (fun (k : Nat) => k ≤ la.length ∧ la.take k = lb.take k) 0 ⟨Nat.zero_le _, by simp⟩ [] ⟨rfl, rfl, rfl, rfl, trivial⟩ trivial (by decide) (fun k hI ih => ?_)
    obtain ⟨hk0, htk⟩ := hI
    refine run_again ?_
    refine run_seq rfl ?_
    refine run_seq rfl ?_
    refine run_region (todo := [0, 1, 2, 3]) rfl rfl ?_
    refine run_mv rfl ?_
    refine run_mv rfl ?_
    refine run_rd (v := .int .i64 ((la.length : Nat) : Int)) rfl (rd_len Tryd.underlying28) ?_
    refine run_rd (v := .bool (decide ((k : Int) < ((la.length : Nat) : Int)))) rfl (rd_cmp rfl rfl) ?_
    refine run_endops ?_
    refine run_if rfl rfl (fun hb2 => ?_) (fun hb2 => ?_)
    · have hk : k < la.length := by have := of_decide_eq_true hb2; omega
      obtain ⟨ea, hea⟩ := item_at hk
      obtain ⟨eb, heb⟩ := item_at (l := lb) (show k < lb.length by omega)
      refine run_skip rfl ?_
      refine run_seq rfl ?_
      refine run_block rfl ?_
      refine run_seq rfl ?_
      refine run_draw (l := [0, 1, 2, 3, 4, 5, 6, 7, 8]) rfl rfl (by kernel_rfl) (by kernel_rfl) ?_
      refine q_mv rfl ?_
      refine q_mv rfl ?_
      refine q_val (v := .pointer (elemAddr A (k * 6))) rfl (rd_elem (m := k) (o := k * 6) (know_old hA) Tryd.underlying28 Tryd.sizeOf24 rfl (lt_of_item hea rfl) (Nat.lt_of_lt_of_le (m := k * 6 + 6) (by omega) (row_lt (E := encE) hea)) rfl) ?_
      refine q_val (v := .agg ea.arr) rfl (rd_elemLoadA (u := ea.arr) (know_old hA) Tryd.isAgg24 Tryd.sizeOf24 rfl (row_all (E := encE) hea) (row_lt (E := encE) hea)) ?_
      refine q_mv rfl ?_
      refine q_mv rfl ?_
      refine q_val (v := .pointer (elemAddr B (k * 6))) rfl (rd_elem (m := k) (o := k * 6) (know_old hB) Tryd.underlying28 Tryd.sizeOf24 rfl (lt_of_item heb rfl) (Nat.lt_of_lt_of_le (m := k * 6 + 6) (by omega) (row_lt (E := encE) heb)) rfl) ?_
      refine q_val (v := .agg eb.arr) rfl (rd_elemLoadA (u := eb.arr) (know_old hB) Tryd.isAgg24 Tryd.sizeOf24 rfl (row_all (E := encE) heb) (row_lt (E := encE) heb)) ?_
      refine q_val (v := .bool (decide (ea ≠ eb))) rfl (rd_ent_neq (hoa _ (List.mem_of_getElem? hea)) (hob _ (List.mem_of_getElem? heb))) ?_
      refine q_end ?_
      refine run_if rfl rfl (fun hb3 => ?_) (fun hb3 => ?_)
      · have hee := of_decide_eq_true hb3
        refine run_seq rfl ?_
        refine run_region (todo := [0]) rfl rfl ?_
        refine run_mv rfl ?_
        refine run_endops ?_
        refine run_ret rfl (v := .bool false) (res1 rfl rfl) ?_
        exact congrArg Value.bool (decide_eq_false (ne_of_item hea heb hee)).symm
      · have hee : ea = eb := by simpa using hb3
        refine run_skip rfl ?_
        refine run_endblock ?_
        refine run_region (todo := [0, 1, 2]) rfl rfl ?_
        refine run_mv rfl ?_
        refine run_rd (v := .int .i64 ((k : Int) + 1)) rfl (rd_add (r := (k : Int) + 1) (IntWalk.i64_in _ (by omega))) ?_
        refine run_mv rfl ?_
        refine run_endops ?_
        exact run_less [] (ih (k + 1) ⟨hk, take_succ_same htk hea heb hee⟩ (by omega)) ⟨rfl, rfl, rfl, rfl, trivial⟩ trivial (by decide)
    · have hk : ¬ (k : Int) < (la.length : Nat) := of_decide_eq_false hb2
      refine run_exit rfl rfl ?_
      refine run_seq rfl ?_
      refine run_region (todo := [0]) rfl rfl ?_
      refine run_mv rfl ?_
      refine run_endops ?_
      refine run_ret rfl (v := .bool true) (res1 rfl rfl) ?_
      exact congrArg Value.bool (decide_eq_true (by rw [List.take_of_length_le (by omega), List.take_of_length_le (by omega)] at htk; exact htk)).symm

theorem with_0_0 (f : Fr) (A : Option Addr) (c : Nat) (w0 : World) (hA : Cells w0 A (encE.row ([] : List Ent))) : Fn Tryd.prog 12 #[f.val, .int .i64 0, .slice A (([] : List Ent).length) c] w0 (fun v _ => v = (f.with 0 ([] : List Ent)).val) := by
  refine fn_of_run Tryd.func12 rfl rfl ?_
  refine run_seq rfl ?_
  refine run_region (todo := [0, 1]) rfl rfl ?_
  refine run_box rfl (fun g1 => ?_)
  refine run_alloc rfl Tryd.zeroValue27 (fun g2 => ?_)
  refine run_endops ?_
  refine run_seq rfl ?_
  refine run_seq rfl ?_
  refine run_region (todo := [0, 1]) rfl rfl ?_
  refine run_mv rfl ?_
  refine run_pf0 (v := .bool true) rfl Tryd.call22 (has_in 0 (by decide) (by decide)) ?_
  refine run_endops ?_
  refine run_true rfl rfl ?_
  refine run_seq rfl ?_
  refine run_region (todo := [0]) rfl rfl ?_
  refine run_alloc rfl Tryd.zeroValue25 (fun g3 => ?_)
  refine run_endops ?_
  refine run_seq rfl ?_
  refine run_region (todo := [0, 1, 2]) rfl rfl ?_
  refine run_rd (v := .slice (some ⟨g3, 0, none⟩) 2 2) rfl (rd_arrSlice Tryd.underlying25 Tryd.sizeOf24) ?_
  refine run_mv rfl ?_
  refine run_copy (j := 0) (n := 0) (c' := #[.int .i64 0, .int .i64 0, .int .i64 0, .int .u64 0, .int .u64 0, .string ⟨#[]⟩, .int .i64 0, .int .i64 0, .int .i64 0, .int .u64 0, .int .u64 0, .string ⟨#[]⟩]) rfl Tryd.underlying28 Tryd.sizeOf24 rfl (know_old hA) (by rw [encE.row_length]; rfl) (by simp) (row_one _) (by decide) (by kernel_rfl) rfl ?_
  refine run_endops ?_
  refine run_region (todo := [0, 1, 2, 3]) rfl rfl ?_
  refine run_mv rfl ?_
  refine run_rd (v := .agg #[.int .i64 0, .int .i64 0, .int .i64 0, .int .u64 0, .int .u64 0, .string ⟨#[]⟩, .int .i64 0, .int .i64 0, .int .i64 0, .int .u64 0, .int .u64 0, .string ⟨#[]⟩]) rfl (rd_loadW (j := 0) Tryd.isAgg25 Tryd.sizeOf25 rfl rfl) ?_
  refine run_rd (v := .pointer (some ⟨g1, 0, none⟩)) rfl (rd_indexAddrA (m := 0) (o := 0) Tryd.underlying27 rfl (by decide) Tryd.sizeOf25 rfl) ?_
  refine run_store (j := 2) (c' := #[.int .i64 0, .int .i64 0, .int .i64 0, .int .u64 0, .int .u64 0, .string ⟨#[]⟩, .int .i64 0, .int .i64 0, .int .i64 0, .int .u64 0, .int .u64 0, .string ⟨#[]⟩, .int .i64 f.b0.kind, .int .i64 f.b0.service, .int .i64 f.b0.group, .int .u64 f.b0.session, .int .u64 f.b0.number, .string f.b0.text, .int .i64 f.b1.kind, .int .i64 f.b1.service, .int .i64 f.b1.group, .int .u64 f.b1.session, .int .u64 f.b1.number, .string f.b1.text, .int .i64 f.c0.kind, .int .i64 f.c0.service, .int .i64 f.c0.group, .int .u64 f.c0.session, .int .u64 f.c0.number, .string f.c0.text, .int .i64 f.c1.kind, .int .i64 f.c1.service, .int .i64 f.c1.group, .int .u64 f.c1.session, .int .u64 f.c1.number, .string f.c1.text]) rfl Tryd.sizeOf25 rfl rfl rfl rfl (by kernel_rfl) rfl ?_
  refine run_endops ?_
  refine run_seq rfl ?_
  refine run_region (todo := [0, 1]) rfl rfl ?_
  refine run_rd (v := .agg #[.int .i64 0, .int .i64 0, .int .i64 0, .int .u64 0, .int .u64 0, .string ⟨#[]⟩, .int .i64 0, .int .i64 0, .int .i64 0, .int .u64 0, .int .u64 0, .string ⟨#[]⟩, .int .i64 f.b0.kind, .int .i64 f.b0.service, .int .i64 f.b0.group, .int .u64 f.b0.session, .int .u64 f.b0.number, .string f.b0.text, .int .i64 f.b1.kind, .int .i64 f.b1.service, .int .i64 f.b1.group, .int .u64 f.b1.session, .int .u64 f.b1.number, .string f.b1.text, .int .i64 f.c0.kind, .int .i64 f.c0.service, .int .i64 f.c0.group, .int .u64 f.c0.session, .int .u64 f.c0.number, .string f.c0.text, .int .i64 f.c1.kind, .int .i64 f.c1.service, .int .i64 f.c1.group, .int .u64 f.c1.session, .int .u64 f.c1.number, .string f.c1.text]) rfl (rd_loadW (j := 2) Tryd.isAgg27 Tryd.sizeOf27 rfl rfl) ?_
  refine run_storeW (j := 1) (c' := #[.int .i64 0, .int .i64 0, .int .i64 0, .int .u64 0, .int .u64 0, .string ⟨#[]⟩, .int .i64 0, .int .i64 0, .int .i64 0, .int .u64 0, .int .u64 0, .string ⟨#[]⟩, .int .i64 f.b0.kind, .int .i64 f.b0.service, .int .i64 f.b0.group, .int .u64 f.b0.session, .int .u64 f.b0.number, .string f.b0.text, .int .i64 f.b1.kind, .int .i64 f.b1.service, .int .i64 f.b1.group, .int .u64 f.b1.session, .int .u64 f.b1.number, .string f.b1.text, .int .i64 f.c0.kind, .int .i64 f.c0.service, .int .i64 f.c0.group, .int .u64 f.c0.session, .int .u64 f.c0.number, .string f.c0.text, .int .i64 f.c1.kind, .int .i64 f.c1.service, .int .i64 f.c1.group, .int .u64 f.c1.session, .int .u64 f.c1.number, .string f.c1.text]) rfl Tryd.sizeOf27 rfl rfl rfl rfl rfl rfl ?_
  refine run_endops ?_
  refine run_ret rfl (v := .agg #[.int .i64 0, .int .i64 0, .int .i64 0, .int .u64 0, .int .u64 0, .string ⟨#[]⟩, .int .i64 0, .int .i64 0, .int .i64 0, .int .u64 0, .int .u64 0, .string ⟨#[]⟩, .int .i64 f.b0.kind, .int .i64 f.b0.service, .int .i64 f.b0.group, .int .u64 f.b0.session, .int .u64 f.b0.number, .string f.b0.text, .int .i64 f.b1.kind, .int .i64 f.b1.service, .int .i64 f.b1.group, .int .u64 f.b1.session, .int .u64 f.b1.number, .string f.b1.text, .int .i64 f.c0.kind, .int .i64 f.c0.service, .int .i64 f.c0.group, .int .u64 f.c0.session, .int .u64 f.c0.number, .string f.c0.text, .int .i64 f.c1.kind, .int .i64 f.c1.service, .int .i64 f.c1.group, .int .u64 f.c1.session, .int .u64 f.c1.number, .string f.c1.text]) (res1 rfl ⟨_, rfl, rdv (rd_loadW (j := 1) Tryd.isAgg27 Tryd.sizeOf27 rfl rfl)⟩) ?_
  rfl

theorem with_0_1 (f : Fr) (e1 : Ent) (A : Option Addr) (c : Nat) (w0 : World) (hA : Cells w0 A (encE.row [e1])) : Fn Tryd.prog 12 #[f.val, .int .i64 0, .slice A ([e1].length) c] w0 (fun v _ => v = (f.with 0 [e1]).val) := by
  refine fn_of_run Tryd.func12 rfl rfl ?_
  refine run_seq rfl ?_
  refine run_region (todo := [0, 1]) rfl rfl ?_
  refine run_box rfl (fun g1 => ?_)
  refine run_alloc rfl Tryd.zeroValue27 (fun g2 => ?_)
  refine run_endops ?_
  refine run_seq rfl ?_
  refine run_seq rfl ?_
  refine run_region (todo := [0, 1]) rfl rfl ?_
  refine run_mv rfl ?_
  refine run_pf0 (v := .bool true) rfl Tryd.call22 (has_in 0 (by decide) (by decide)) ?_
  refine run_endops ?_
  refine run_true rfl rfl ?_
  refine run_seq rfl ?_
  refine run_region (todo := [0]) rfl rfl ?_
  refine run_alloc rfl Tryd.zeroValue25 (fun g3 => ?_)
  refine run_endops ?_
  refine run_seq rfl ?_
  refine run_region (todo := [0, 1, 2]) rfl rfl ?_
  refine run_rd (v := .slice (some ⟨g3, 0, none⟩) 2 2) rfl (rd_arrSlice Tryd.underlying25 Tryd.sizeOf24) ?_
  refine run_mv rfl ?_
  refine run_copy (j := 0) (n := 1) (c' := #[.int .i64 e1.kind, .int .i64 e1.service, .int .i64 e1.group, .int .u64 e1.session, .int .u64 e1.number, .string e1.text, .int .i64 0, .int .i64 0, .int .i64 0, .int .u64 0, .int .u64 0, .string ⟨#[]⟩]) rfl Tryd.underlying28 Tryd.sizeOf24 rfl (know_old hA) (by rw [encE.row_length]; rfl) (by simp) (row_one _) (by decide) (by kernel_rfl) rfl ?_
  refine run_endops ?_
  refine run_region (todo := [0, 1, 2, 3]) rfl rfl ?_
  refine run_mv rfl ?_
  refine run_rd (v := .agg #[.int .i64 e1.kind, .int .i64 e1.service, .int .i64 e1.group, .int .u64 e1.session, .int .u64 e1.number, .string e1.text, .int .i64 0, .int .i64 0, .int .i64 0, .int .u64 0, .int .u64 0, .string ⟨#[]⟩]) rfl (rd_loadW (j := 0) Tryd.isAgg25 Tryd.sizeOf25 rfl rfl) ?_
  refine run_rd (v := .pointer (some ⟨g1, 0, none⟩)) rfl (rd_indexAddrA (m := 0) (o := 0) Tryd.underlying27 rfl (by decide) Tryd.sizeOf25 rfl) ?_
  refine run_store (j := 2) (c' := #[.int .i64 e1.kind, .int .i64 e1.service, .int .i64 e1.group, .int .u64 e1.session, .int .u64 e1.number, .string e1.text, .int .i64 0, .int .i64 0, .int .i64 0, .int .u64 0, .int .u64 0, .string ⟨#[]⟩, .int .i64 f.b0.kind, .int .i64 f.b0.service, .int .i64 f.b0.group, .int .u64 f.b0.session, .int .u64 f.b0.number, .string f.b0.text, .int .i64 f.b1.kind, .int .i64 f.b1.service, .int .i64 f.b1.group, .int .u64 f.b1.session, .int .u64 f.b1.number, .string f.b1.text, .int .i64 f.c0.kind, .int .i64 f.c0.service, .int .i64 f.c0.group, .int .u64 f.c0.session, .int .u64 f.c0.number, .string f.c0.text, .int .i64 f.c1.kind, .int .i64 f.c1.service, .int .i64 f.c1.group, .int .u64 f.c1.session, .int .u64 f.c1.number, .string f.c1.text]) rfl Tryd.sizeOf25 rfl rfl rfl rfl (by kernel_rfl) rfl ?_
  refine run_endops ?_
  refine run_seq rfl ?_
  refine run_region (todo := [0, 1]) rfl rfl ?_
  refine run_rd (v := .agg #[.int .i64 e1.kind, .int .i64 e1.service, .int .i64 e1.group, .int .u64 e1.session, .int .u64 e1.number, .string e1.text, .int .i64 0, .int .i64 0, .int .i64 0, .int .u64 0, .int .u64 0, .string ⟨#[]⟩, .int .i64 f.b0.kind, .int .i64 f.b0.service, .int .i64 f.b0.group, .int .u64 f.b0.session, .int .u64 f.b0.number, .string f.b0.text, .int .i64 f.b1.kind, .int .i64 f.b1.service, .int .i64 f.b1.group, .int .u64 f.b1.session, .int .u64 f.b1.number, .string f.b1.text, .int .i64 f.c0.kind, .int .i64 f.c0.service, .int .i64 f.c0.group, .int .u64 f.c0.session, .int .u64 f.c0.number, .string f.c0.text, .int .i64 f.c1.kind, .int .i64 f.c1.service, .int .i64 f.c1.group, .int .u64 f.c1.session, .int .u64 f.c1.number, .string f.c1.text]) rfl (rd_loadW (j := 2) Tryd.isAgg27 Tryd.sizeOf27 rfl rfl) ?_
  refine run_storeW (j := 1) (c' := #[.int .i64 e1.kind, .int .i64 e1.service, .int .i64 e1.group, .int .u64 e1.session, .int .u64 e1.number, .string e1.text, .int .i64 0, .int .i64 0, .int .i64 0, .int .u64 0, .int .u64 0, .string ⟨#[]⟩, .int .i64 f.b0.kind, .int .i64 f.b0.service, .int .i64 f.b0.group, .int .u64 f.b0.session, .int .u64 f.b0.number, .string f.b0.text, .int .i64 f.b1.kind, .int .i64 f.b1.service, .int .i64 f.b1.group, .int .u64 f.b1.session, .int .u64 f.b1.number, .string f.b1.text, .int .i64 f.c0.kind, .int .i64 f.c0.service, .int .i64 f.c0.group, .int .u64 f.c0.session, .int .u64 f.c0.number, .string f.c0.text, .int .i64 f.c1.kind, .int .i64 f.c1.service, .int .i64 f.c1.group, .int .u64 f.c1.session, .int .u64 f.c1.number, .string f.c1.text]) rfl Tryd.sizeOf27 rfl rfl rfl rfl rfl rfl ?_
  refine run_endops ?_
  refine run_ret rfl (v := .agg #[.int .i64 e1.kind, .int .i64 e1.service, .int .i64 e1.group, .int .u64 e1.session, .int .u64 e1.number, .string e1.text, .int .i64 0, .int .i64 0, .int .i64 0, .int .u64 0, .int .u64 0, .string ⟨#[]⟩, .int .i64 f.b0.kind, .int .i64 f.b0.service, .int .i64 f.b0.group, .int .u64 f.b0.session, .int .u64 f.b0.number, .string f.b0.text, .int .i64 f.b1.kind, .int .i64 f.b1.service, .int .i64 f.b1.group, .int .u64 f.b1.session, .int .u64 f.b1.number, .string f.b1.text, .int .i64 f.c0.kind, .int .i64 f.c0.service, .int .i64 f.c0.group, .int .u64 f.c0.session, .int .u64 f.c0.number, .string f.c0.text, .int .i64 f.c1.kind, .int .i64 f.c1.service, .int .i64 f.c1.group, .int .u64 f.c1.session, .int .u64 f.c1.number, .string f.c1.text]) (res1 rfl ⟨_, rfl, rdv (rd_loadW (j := 1) Tryd.isAgg27 Tryd.sizeOf27 rfl rfl)⟩) ?_
  rfl

theorem with_0_2 (f : Fr) (e1 e2 : Ent) (l : List Ent) (A : Option Addr) (c : Nat) (w0 : World) (hA : Cells w0 A (encE.row (e1 :: e2 :: l))) : Fn Tryd.prog 12 #[f.val, .int .i64 0, .slice A ((e1 :: e2 :: l).length) c] w0 (fun v _ => v = (f.with 0 (e1 :: e2 :: l)).val) := by
  refine fn_of_run Tryd.func12 rfl rfl ?_
  refine run_seq rfl ?_
  refine run_region (todo := [0, 1]) rfl rfl ?_
  refine run_box rfl (fun g1 => ?_)
  refine run_alloc rfl Tryd.zeroValue27 (fun g2 => ?_)
  refine run_endops ?_
  refine run_seq rfl ?_
  refine run_seq rfl ?_
  refine run_region (todo := [0, 1]) rfl rfl ?_
  refine run_mv rfl ?_
  refine run_pf0 (v := .bool true) rfl Tryd.call22 (has_in 0 (by decide) (by decide)) ?_
  refine run_endops ?_
  refine run_true rfl rfl ?_
  refine run_seq rfl ?_
  refine run_region (todo := [0]) rfl rfl ?_
  refine run_alloc rfl Tryd.zeroValue25 (fun g3 => ?_)
  refine run_endops ?_
  refine run_seq rfl ?_
  refine run_region (todo := [0, 1, 2]) rfl rfl ?_
  refine run_rd (v := .slice (some ⟨g3, 0, none⟩) 2 2) rfl (rd_arrSlice Tryd.underlying25 Tryd.sizeOf24) ?_
  refine run_mv rfl ?_
  refine run_copy (j := 0) (n := 2) (c' := #[.int .i64 e1.kind, .int .i64 e1.service, .int .i64 e1.group, .int .u64 e1.session, .int .u64 e1.number, .string e1.text, .int .i64 e2.kind, .int .i64 e2.service, .int .i64 e2.group, .int .u64 e2.session, .int .u64 e2.number, .string e2.text]) rfl Tryd.underlying28 Tryd.sizeOf24 rfl (know_old hA) (by rw [encE.row_length]; rfl) (by simp) (row_one _) (by decide) (by kernel_rfl) rfl ?_
  refine run_endops ?_
  refine run_region (todo := [0, 1, 2, 3]) rfl rfl ?_
  refine run_mv rfl ?_
  refine run_rd (v := .agg #[.int .i64 e1.kind, .int .i64 e1.service, .int .i64 e1.group, .int .u64 e1.session, .int .u64 e1.number, .string e1.text, .int .i64 e2.kind, .int .i64 e2.service, .int .i64 e2.group, .int .u64 e2.session, .int .u64 e2.number, .string e2.text]) rfl (rd_loadW (j := 0) Tryd.isAgg25 Tryd.sizeOf25 rfl rfl) ?_
  refine run_rd (v := .pointer (some ⟨g1, 0, none⟩)) rfl (rd_indexAddrA (m := 0) (o := 0) Tryd.underlying27 rfl (by decide) Tryd.sizeOf25 rfl) ?_
  refine run_store (j := 2) (c' := #[.int .i64 e1.kind, .int .i64 e1.service, .int .i64 e1.group, .int .u64 e1.session, .int .u64 e1.number, .string e1.text, .int .i64 e2.kind, .int .i64 e2.service, .int .i64 e2.group, .int .u64 e2.session, .int .u64 e2.number, .string e2.text, .int .i64 f.b0.kind, .int .i64 f.b0.service, .int .i64 f.b0.group, .int .u64 f.b0.session, .int .u64 f.b0.number, .string f.b0.text, .int .i64 f.b1.kind, .int .i64 f.b1.service, .int .i64 f.b1.group, .int .u64 f.b1.session, .int .u64 f.b1.number, .string f.b1.text, .int .i64 f.c0.kind, .int .i64 f.c0.service, .int .i64 f.c0.group, .int .u64 f.c0.session, .int .u64 f.c0.number, .string f.c0.text, .int .i64 f.c1.kind, .int .i64 f.c1.service, .int .i64 f.c1.group, .int .u64 f.c1.session, .int .u64 f.c1.number, .string f.c1.text]) rfl Tryd.sizeOf25 rfl rfl rfl rfl (by kernel_rfl) rfl ?_
  refine run_endops ?_
  refine run_seq rfl ?_
  refine run_region (todo := [0, 1]) rfl rfl ?_
  refine run_rd (v := .agg #[.int .i64 e1.kind, .int .i64 e1.service, .int .i64 e1.group, .int .u64 e1.session, .int .u64 e1.number, .string e1.text, .int .i64 e2.kind, .int .i64 e2.service, .int .i64 e2.group, .int .u64 e2.session, .int .u64 e2.number, .string e2.text, .int .i64 f.b0.kind, .int .i64 f.b0.service, .int .i64 f.b0.group, .int .u64 f.b0.session, .int .u64 f.b0.number, .string f.b0.text, .int .i64 f.b1.kind, .int .i64 f.b1.service, .int .i64 f.b1.group, .int .u64 f.b1.session, .int .u64 f.b1.number, .string f.b1.text, .int .i64 f.c0.kind, .int .i64 f.c0.service, .int .i64 f.c0.group, .int .u64 f.c0.session, .int .u64 f.c0.number, .string f.c0.text, .int .i64 f.c1.kind, .int .i64 f.c1.service, .int .i64 f.c1.group, .int .u64 f.c1.session, .int .u64 f.c1.number, .string f.c1.text]) rfl (rd_loadW (j := 2) Tryd.isAgg27 Tryd.sizeOf27 rfl rfl) ?_
  refine run_storeW (j := 1) (c' := #[.int .i64 e1.kind, .int .i64 e1.service, .int .i64 e1.group, .int .u64 e1.session, .int .u64 e1.number, .string e1.text, .int .i64 e2.kind, .int .i64 e2.service, .int .i64 e2.group, .int .u64 e2.session, .int .u64 e2.number, .string e2.text, .int .i64 f.b0.kind, .int .i64 f.b0.service, .int .i64 f.b0.group, .int .u64 f.b0.session, .int .u64 f.b0.number, .string f.b0.text, .int .i64 f.b1.kind, .int .i64 f.b1.service, .int .i64 f.b1.group, .int .u64 f.b1.session, .int .u64 f.b1.number, .string f.b1.text, .int .i64 f.c0.kind, .int .i64 f.c0.service, .int .i64 f.c0.group, .int .u64 f.c0.session, .int .u64 f.c0.number, .string f.c0.text, .int .i64 f.c1.kind, .int .i64 f.c1.service, .int .i64 f.c1.group, .int .u64 f.c1.session, .int .u64 f.c1.number, .string f.c1.text]) rfl Tryd.sizeOf27 rfl rfl rfl rfl rfl rfl ?_
  refine run_endops ?_
  refine run_ret rfl (v := .agg #[.int .i64 e1.kind, .int .i64 e1.service, .int .i64 e1.group, .int .u64 e1.session, .int .u64 e1.number, .string e1.text, .int .i64 e2.kind, .int .i64 e2.service, .int .i64 e2.group, .int .u64 e2.session, .int .u64 e2.number, .string e2.text, .int .i64 f.b0.kind, .int .i64 f.b0.service, .int .i64 f.b0.group, .int .u64 f.b0.session, .int .u64 f.b0.number, .string f.b0.text, .int .i64 f.b1.kind, .int .i64 f.b1.service, .int .i64 f.b1.group, .int .u64 f.b1.session, .int .u64 f.b1.number, .string f.b1.text, .int .i64 f.c0.kind, .int .i64 f.c0.service, .int .i64 f.c0.group, .int .u64 f.c0.session, .int .u64 f.c0.number, .string f.c0.text, .int .i64 f.c1.kind, .int .i64 f.c1.service, .int .i64 f.c1.group, .int .u64 f.c1.session, .int .u64 f.c1.number, .string f.c1.text]) (res1 rfl ⟨_, rfl, rdv (rd_loadW (j := 1) Tryd.isAgg27 Tryd.sizeOf27 rfl rfl)⟩) ?_
  rfl

theorem with_1_0 (f : Fr) (A : Option Addr) (c : Nat) (w0 : World) (hA : Cells w0 A (encE.row ([] : List Ent))) : Fn Tryd.prog 12 #[f.val, .int .i64 1, .slice A (([] : List Ent).length) c] w0 (fun v _ => v = (f.with 1 ([] : List Ent)).val) := by
  refine fn_of_run Tryd.func12 rfl rfl ?_
  refine run_seq rfl ?_
  refine run_region (todo := [0, 1]) rfl rfl ?_
  refine run_box rfl (fun g1 => ?_)
  refine run_alloc rfl Tryd.zeroValue27 (fun g2 => ?_)
  refine run_endops ?_
  refine run_seq rfl ?_
  refine run_seq rfl ?_
  refine run_region (todo := [0, 1]) rfl rfl ?_
  refine run_mv rfl ?_
  refine run_pf0 (v := .bool true) rfl Tryd.call22 (has_in 1 (by decide) (by decide)) ?_
  refine run_endops ?_
  refine run_true rfl rfl ?_
  refine run_seq rfl ?_
  refine run_region (todo := [0]) rfl rfl ?_
  refine run_alloc rfl Tryd.zeroValue25 (fun g3 => ?_)
  refine run_endops ?_
  refine run_seq rfl ?_
  refine run_region (todo := [0, 1, 2]) rfl rfl ?_
  refine run_rd (v := .slice (some ⟨g3, 0, none⟩) 2 2) rfl (rd_arrSlice Tryd.underlying25 Tryd.sizeOf24) ?_
  refine run_mv rfl ?_
  refine run_copy (j := 0) (n := 0) (c' := #[.int .i64 0, .int .i64 0, .int .i64 0, .int .u64 0, .int .u64 0, .string ⟨#[]⟩, .int .i64 0, .int .i64 0, .int .i64 0, .int .u64 0, .int .u64 0, .string ⟨#[]⟩]) rfl Tryd.underlying28 Tryd.sizeOf24 rfl (know_old hA) (by rw [encE.row_length]; rfl) (by simp) (row_one _) (by decide) (by kernel_rfl) rfl ?_
  refine run_endops ?_
  refine run_region (todo := [0, 1, 2, 3]) rfl rfl ?_
  refine run_mv rfl ?_
  refine run_rd (v := .agg #[.int .i64 0, .int .i64 0, .int .i64 0, .int .u64 0, .int .u64 0, .string ⟨#[]⟩, .int .i64 0, .int .i64 0, .int .i64 0, .int .u64 0, .int .u64 0, .string ⟨#[]⟩]) rfl (rd_loadW (j := 0) Tryd.isAgg25 Tryd.sizeOf25 rfl rfl) ?_
  refine run_rd (v := .pointer (some ⟨g1, 12, none⟩)) rfl (rd_indexAddrA (m := 1) (o := 12) Tryd.underlying27 rfl (by decide) Tryd.sizeOf25 rfl) ?_
  refine run_store (j := 2) (c' := #[.int .i64 f.a0.kind, .int .i64 f.a0.service, .int .i64 f.a0.group, .int .u64 f.a0.session, .int .u64 f.a0.number, .string f.a0.text, .int .i64 f.a1.kind, .int .i64 f.a1.service, .int .i64 f.a1.group, .int .u64 f.a1.session, .int .u64 f.a1.number, .string f.a1.text, .int .i64 0, .int .i64 0, .int .i64 0, .int .u64 0, .int .u64 0, .string ⟨#[]⟩, .int .i64 0, .int .i64 0, .int .i64 0, .int .u64 0, .int .u64 0, .string ⟨#[]⟩, .int .i64 f.c0.kind, .int .i64 f.c0.service, .int .i64 f.c0.group, .int .u64 f.c0.session, .int .u64 f.c0.number, .string f.c0.text, .int .i64 f.c1.kind, .int .i64 f.c1.service, .int .i64 f.c1.group, .int .u64 f.c1.session, .int .u64 f.c1.number, .string f.c1.text]) rfl Tryd.sizeOf25 rfl rfl rfl rfl (by kernel_rfl) rfl ?_
  refine run_endops ?_
  refine run_seq rfl ?_
  refine run_region (todo := [0, 1]) rfl rfl ?_
  refine run_rd (v := .agg #[.int .i64 f.a0.kind, .int .i64 f.a0.service, .int .i64 f.a0.group, .int .u64 f.a0.session, .int .u64 f.a0.number, .string f.a0.text, .int .i64 f.a1.kind, .int .i64 f.a1.service, .int .i64 f.a1.group, .int .u64 f.a1.session, .int .u64 f.a1.number, .string f.a1.text, .int .i64 0, .int .i64 0, .int .i64 0, .int .u64 0, .int .u64 0, .string ⟨#[]⟩, .int .i64 0, .int .i64 0, .int .i64 0, .int .u64 0, .int .u64 0, .string ⟨#[]⟩, .int .i64 f.c0.kind, .int .i64 f.c0.service, .int .i64 f.c0.group, .int .u64 f.c0.session, .int .u64 f.c0.number, .string f.c0.text, .int .i64 f.c1.kind, .int .i64 f.c1.service, .int .i64 f.c1.group, .int .u64 f.c1.session, .int .u64 f.c1.number, .string f.c1.text]) rfl (rd_loadW (j := 2) Tryd.isAgg27 Tryd.sizeOf27 rfl rfl) ?_
  refine run_storeW (j := 1) (c' := #[.int .i64 f.a0.kind, .int .i64 f.a0.service, .int .i64 f.a0.group, .int .u64 f.a0.session, .int .u64 f.a0.number, .string f.a0.text, .int .i64 f.a1.kind, .int .i64 f.a1.service, .int .i64 f.a1.group, .int .u64 f.a1.session, .int .u64 f.a1.number, .string f.a1.text, .int .i64 0, .int .i64 0, .int .i64 0, .int .u64 0, .int .u64 0, .string ⟨#[]⟩, .int .i64 0, .int .i64 0, .int .i64 0, .int .u64 0, .int .u64 0, .string ⟨#[]⟩, .int .i64 f.c0.kind, .int .i64 f.c0.service, .int .i64 f.c0.group, .int .u64 f.c0.session, .int .u64 f.c0.number, .string f.c0.text, .int .i64 f.c1.kind, .int .i64 f.c1.service, .int .i64 f.c1.group, .int .u64 f.c1.session, .int .u64 f.c1.number, .string f.c1.text]) rfl Tryd.sizeOf27 rfl rfl rfl rfl rfl rfl ?_
  refine run_endops ?_
  refine run_ret rfl (v := .agg #[.int .i64 f.a0.kind, .int .i64 f.a0.service, .int .i64 f.a0.group, .int .u64 f.a0.session, .int .u64 f.a0.number, .string f.a0.text, .int .i64 f.a1.kind, .int .i64 f.a1.service, .int .i64 f.a1.group, .int .u64 f.a1.session, .int .u64 f.a1.number, .string f.a1.text, .int .i64 0, .int .i64 0, .int .i64 0, .int .u64 0, .int .u64 0, .string ⟨#[]⟩, .int .i64 0, .int .i64 0, .int .i64 0, .int .u64 0, .int .u64 0, .string ⟨#[]⟩, .int .i64 f.c0.kind, .int .i64 f.c0.service, .int .i64 f.c0.group, .int .u64 f.c0.session, .int .u64 f.c0.number, .string f.c0.text, .int .i64 f.c1.kind, .int .i64 f.c1.service, .int .i64 f.c1.group, .int .u64 f.c1.session, .int .u64 f.c1.number, .string f.c1.text]) (res1 rfl ⟨_, rfl, rdv (rd_loadW (j := 1) Tryd.isAgg27 Tryd.sizeOf27 rfl rfl)⟩) ?_
  rfl

theorem with_1_1 (f : Fr) (e1 : Ent) (A : Option Addr) (c : Nat) (w0 : World) (hA : Cells w0 A (encE.row [e1])) : Fn Tryd.prog 12 #[f.val, .int .i64 1, .slice A ([e1].length) c] w0 (fun v _ => v = (f.with 1 [e1]).val) := by
  refine fn_of_run Tryd.func12 rfl rfl ?_
  refine run_seq rfl ?_
  refine run_region (todo := [0, 1]) rfl rfl ?_
  refine run_box rfl (fun g1 => ?_)
  refine run_alloc rfl Tryd.zeroValue27 (fun g2 => ?_)
  refine run_endops ?_
  refine run_seq rfl ?_
  refine run_seq rfl ?_
  refine run_region (todo := [0, 1]) rfl rfl ?_
  refine run_mv rfl ?_
  refine run_pf0 (v := .bool true) rfl Tryd.call22 (has_in 1 (by decide) (by decide)) ?_
  refine run_endops ?_
  refine run_true rfl rfl ?_
  refine run_seq rfl ?_
  refine run_region (todo := [0]) rfl rfl ?_
  refine run_alloc rfl Tryd.zeroValue25 (fun g3 => ?_)
  refine run_endops ?_
  refine run_seq rfl ?_
  refine run_region (todo := [0, 1, 2]) rfl rfl ?_
  refine run_rd (v := .slice (some ⟨g3, 0, none⟩) 2 2) rfl (rd_arrSlice Tryd.underlying25 Tryd.sizeOf24) ?_
  refine run_mv rfl ?_
  refine run_copy (j := 0) (n := 1) (c' := #[.int .i64 e1.kind, .int .i64 e1.service, .int .i64 e1.group, .int .u64 e1.session, .int .u64 e1.number, .string e1.text, .int .i64 0, .int .i64 0, .int .i64 0, .int .u64 0, .int .u64 0, .string ⟨#[]⟩]) rfl Tryd.underlying28 Tryd.sizeOf24 rfl (know_old hA) (by rw [encE.row_length]; rfl) (by simp) (row_one _) (by decide) (by kernel_rfl) rfl ?_
  refine run_endops ?_
  refine run_region (todo := [0, 1, 2, 3]) rfl rfl ?_
  refine run_mv rfl ?_
  refine run_rd (v := .agg #[.int .i64 e1.kind, .int .i64 e1.service, .int .i64 e1.group, .int .u64 e1.session, .int .u64 e1.number, .string e1.text, .int .i64 0, .int .i64 0, .int .i64 0, .int .u64 0, .int .u64 0, .string ⟨#[]⟩]) rfl (rd_loadW (j := 0) Tryd.isAgg25 Tryd.sizeOf25 rfl rfl) ?_
  refine run_rd (v := .pointer (some ⟨g1, 12, none⟩)) rfl (rd_indexAddrA (m := 1) (o := 12) Tryd.underlying27 rfl (by decide) Tryd.sizeOf25 rfl) ?_
  refine run_store (j := 2) (c' := #[.int .i64 f.a0.kind, .int .i64 f.a0.service, .int .i64 f.a0.group, .int .u64 f.a0.session, .int .u64 f.a0.number, .string f.a0.text, .int .i64 f.a1.kind, .int .i64 f.a1.service, .int .i64 f.a1.group, .int .u64 f.a1.session, .int .u64 f.a1.number, .string f.a1.text, .int .i64 e1.kind, .int .i64 e1.service, .int .i64 e1.group, .int .u64 e1.session, .int .u64 e1.number, .string e1.text, .int .i64 0, .int .i64 0, .int .i64 0, .int .u64 0, .int .u64 0, .string ⟨#[]⟩, .int .i64 f.c0.kind, .int .i64 f.c0.service, .int .i64 f.c0.group, .int .u64 f.c0.session, .int .u64 f.c0.number, .string f.c0.text, .int .i64 f.c1.kind, .int .i64 f.c1.service, .int .i64 f.c1.group, .int .u64 f.c1.session, .int .u64 f.c1.number, .string f.c1.text]) rfl Tryd.sizeOf25 rfl rfl rfl rfl (by kernel_rfl) rfl ?_
  refine run_endops ?_
  refine run_seq rfl ?_
  refine run_region (todo := [0, 1]) rfl rfl ?_
  refine run_rd (v := .agg #[.int .i64 f.a0.kind, .int .i64 f.a0.service, .int .i64 f.a0.group, .int .u64 f.a0.session, .int .u64 f.a0.number, .string f.a0.text, .int .i64 f.a1.kind, .int .i64 f.a1.service, .int .i64 f.a1.group, .int .u64 f.a1.session, .int .u64 f.a1.number, .string f.a1.text, .int .i64 e1.kind, .int .i64 e1.service, .int .i64 e1.group, .int .u64 e1.session, .int .u64 e1.number, .string e1.text, .int .i64 0, .int .i64 0, .int .i64 0, .int .u64 0, .int .u64 0, .string ⟨#[]⟩, .int .i64 f.c0.kind, .int .i64 f.c0.service, .int .i64 f.c0.group, .int .u64 f.c0.session, .int .u64 f.c0.number, .string f.c0.text, .int .i64 f.c1.kind, .int .i64 f.c1.service, .int .i64 f.c1.group, .int .u64 f.c1.session, .int .u64 f.c1.number, .string f.c1.text]) rfl (rd_loadW (j := 2) Tryd.isAgg27 Tryd.sizeOf27 rfl rfl) ?_
  refine run_storeW (j := 1) (c' := #[.int .i64 f.a0.kind, .int .i64 f.a0.service, .int .i64 f.a0.group, .int .u64 f.a0.session, .int .u64 f.a0.number, .string f.a0.text, .int .i64 f.a1.kind, .int .i64 f.a1.service, .int .i64 f.a1.group, .int .u64 f.a1.session, .int .u64 f.a1.number, .string f.a1.text, .int .i64 e1.kind, .int .i64 e1.service, .int .i64 e1.group, .int .u64 e1.session, .int .u64 e1.number, .string e1.text, .int .i64 0, .int .i64 0, .int .i64 0, .int .u64 0, .int .u64 0, .string ⟨#[]⟩, .int .i64 f.c0.kind, .int .i64 f.c0.service, .int .i64 f.c0.group, .int .u64 f.c0.session, .int .u64 f.c0.number, .string f.c0.text, .int .i64 f.c1.kind, .int .i64 f.c1.service, .int .i64 f.c1.group, .int .u64 f.c1.session, .int .u64 f.c1.number, .string f.c1.text]) rfl Tryd.sizeOf27 rfl rfl rfl rfl rfl rfl ?_
  refine run_endops ?_
  refine run_ret rfl (v := .agg #[.int .i64 f.a0.kind, .int .i64 f.a0.service, .int .i64 f.a0.group, .int .u64 f.a0.session, .int .u64 f.a0.number, .string f.a0.text, .int .i64 f.a1.kind, .int .i64 f.a1.service, .int .i64 f.a1.group, .int .u64 f.a1.session, .int .u64 f.a1.number, .string f.a1.text, .int .i64 e1.kind, .int .i64 e1.service, .int .i64 e1.group, .int .u64 e1.session, .int .u64 e1.number, .string e1.text, .int .i64 0, .int .i64 0, .int .i64 0, .int .u64 0, .int .u64 0, .string ⟨#[]⟩, .int .i64 f.c0.kind, .int .i64 f.c0.service, .int .i64 f.c0.group, .int .u64 f.c0.session, .int .u64 f.c0.number, .string f.c0.text, .int .i64 f.c1.kind, .int .i64 f.c1.service, .int .i64 f.c1.group, .int .u64 f.c1.session, .int .u64 f.c1.number, .string f.c1.text]) (res1 rfl ⟨_, rfl, rdv (rd_loadW (j := 1) Tryd.isAgg27 Tryd.sizeOf27 rfl rfl)⟩) ?_
  rfl

theorem with_1_2 (f : Fr) (e1 e2 : Ent) (l : List Ent) (A : Option Addr) (c : Nat) (w0 : World) (hA : Cells w0 A (encE.row (e1 :: e2 :: l))) : Fn Tryd.prog 12 #[f.val, .int .i64 1, .slice A ((e1 :: e2 :: l).length) c] w0 (fun v _ => v = (f.with 1 (e1 :: e2 :: l)).val) := by
  refine fn_of_run Tryd.func12 rfl rfl ?_
  refine run_seq rfl ?_
  refine run_region (todo := [0, 1]) rfl rfl ?_
  refine run_box rfl (fun g1 => ?_)
  refine run_alloc rfl Tryd.zeroValue27 (fun g2 => ?_)
  refine run_endops ?_
  refine run_seq rfl ?_
  refine run_seq rfl ?_
  refine run_region (todo := [0, 1]) rfl rfl ?_
  refine run_mv rfl ?_
  refine run_pf0 (v := .bool true) rfl Tryd.call22 (has_in 1 (by decide) (by decide)) ?_
  refine run_endops ?_
  refine run_true rfl rfl ?_
  refine run_seq rfl ?_
  refine run_region (todo := [0]) rfl rfl ?_
  refine run_alloc rfl Tryd.zeroValue25 (fun g3 => ?_)
  refine run_endops ?_
  refine run_seq rfl ?_
  refine run_region (todo := [0, 1, 2]) rfl rfl ?_
  refine run_rd (v := .slice (some ⟨g3, 0, none⟩) 2 2) rfl (rd_arrSlice Tryd.underlying25 Tryd.sizeOf24) ?_
  refine run_mv rfl ?_
  refine run_copy (j := 0) (n := 2) (c' := #[.int .i64 e1.kind, .int .i64 e1.service, .int .i64 e1.group, .int .u64 e1.session, .int .u64 e1.number, .string e1.text, .int .i64 e2.kind, .int .i64 e2.service, .int .i64 e2.group, .int .u64 e2.session, .int .u64 e2.number, .string e2.text]) rfl Tryd.underlying28 Tryd.sizeOf24 rfl (know_old hA) (by rw [encE.row_length]; rfl) (by simp) (row_one _) (by decide) (by kernel_rfl) rfl ?_
  refine run_endops ?_
  refine run_region (todo := [0, 1, 2, 3]) rfl rfl ?_
  refine run_mv rfl ?_
  refine run_rd (v := .agg #[.int .i64 e1.kind, .int .i64 e1.service, .int .i64 e1.group, .int .u64 e1.session, .int .u64 e1.number, .string e1.text, .int .i64 e2.kind, .int .i64 e2.service, .int .i64 e2.group, .int .u64 e2.session, .int .u64 e2.number, .string e2.text]) rfl (rd_loadW (j := 0) Tryd.isAgg25 Tryd.sizeOf25 rfl rfl) ?_
  refine run_rd (v := .pointer (some ⟨g1, 12, none⟩)) rfl (rd_indexAddrA (m := 1) (o := 12) Tryd.underlying27 rfl (by decide) Tryd.sizeOf25 rfl) ?_
  refine run_store (j := 2) (c' := #[.int .i64 f.a0.kind, .int .i64 f.a0.service, .int .i64 f.a0.group, .int .u64 f.a0.session, .int .u64 f.a0.number, .string f.a0.text, .int .i64 f.a1.kind, .int .i64 f.a1.service, .int .i64 f.a1.group, .int .u64 f.a1.session, .int .u64 f.a1.number, .string f.a1.text, .int .i64 e1.kind, .int .i64 e1.service, .int .i64 e1.group, .int .u64 e1.session, .int .u64 e1.number, .string e1.text, .int .i64 e2.kind, .int .i64 e2.service, .int .i64 e2.group, .int .u64 e2.session, .int .u64 e2.number, .string e2.text, .int .i64 f.c0.kind, .int .i64 f.c0.service, .int .i64 f.c0.group, .int .u64 f.c0.session, .int .u64 f.c0.number, .string f.c0.text, .int .i64 f.c1.kind, .int .i64 f.c1.service, .int .i64 f.c1.group, .int .u64 f.c1.session, .int .u64 f.c1.number, .string f.c1.text]) rfl Tryd.sizeOf25 rfl rfl rfl rfl (by kernel_rfl) rfl ?_
  refine run_endops ?_
  refine run_seq rfl ?_
  refine run_region (todo := [0, 1]) rfl rfl ?_
  refine run_rd (v := .agg #[.int .i64 f.a0.kind, .int .i64 f.a0.service, .int .i64 f.a0.group, .int .u64 f.a0.session, .int .u64 f.a0.number, .string f.a0.text, .int .i64 f.a1.kind, .int .i64 f.a1.service, .int .i64 f.a1.group, .int .u64 f.a1.session, .int .u64 f.a1.number, .string f.a1.text, .int .i64 e1.kind, .int .i64 e1.service, .int .i64 e1.group, .int .u64 e1.session, .int .u64 e1.number, .string e1.text, .int .i64 e2.kind, .int .i64 e2.service, .int .i64 e2.group, .int .u64 e2.session, .int .u64 e2.number, .string e2.text, .int .i64 f.c0.kind, .int .i64 f.c0.service, .int .i64 f.c0.group, .int .u64 f.c0.session, .int .u64 f.c0.number, .string f.c0.text, .int .i64 f.c1.kind, .int .i64 f.c1.service, .int .i64 f.c1.group, .int .u64 f.c1.session, .int .u64 f.c1.number, .string f.c1.text]) rfl (rd_loadW (j := 2) Tryd.isAgg27 Tryd.sizeOf27 rfl rfl) ?_
  refine run_storeW (j := 1) (c' := #[.int .i64 f.a0.kind, .int .i64 f.a0.service, .int .i64 f.a0.group, .int .u64 f.a0.session, .int .u64 f.a0.number, .string f.a0.text, .int .i64 f.a1.kind, .int .i64 f.a1.service, .int .i64 f.a1.group, .int .u64 f.a1.session, .int .u64 f.a1.number, .string f.a1.text, .int .i64 e1.kind, .int .i64 e1.service, .int .i64 e1.group, .int .u64 e1.session, .int .u64 e1.number, .string e1.text, .int .i64 e2.kind, .int .i64 e2.service, .int .i64 e2.group, .int .u64 e2.session, .int .u64 e2.number, .string e2.text, .int .i64 f.c0.kind, .int .i64 f.c0.service, .int .i64 f.c0.group, .int .u64 f.c0.session, .int .u64 f.c0.number, .string f.c0.text, .int .i64 f.c1.kind, .int .i64 f.c1.service, .int .i64 f.c1.group, .int .u64 f.c1.session, .int .u64 f.c1.number, .string f.c1.text]) rfl Tryd.sizeOf27 rfl rfl rfl rfl rfl rfl ?_
  refine run_endops ?_
  refine run_ret rfl (v := .agg #[.int .i64 f.a0.kind, .int .i64 f.a0.service, .int .i64 f.a0.group, .int .u64 f.a0.session, .int .u64 f.a0.number, .string f.a0.text, .int .i64 f.a1.kind, .int .i64 f.a1.service, .int .i64 f.a1.group, .int .u64 f.a1.session, .int .u64 f.a1.number, .string f.a1.text, .int .i64 e1.kind, .int .i64 e1.service, .int .i64 e1.group, .int .u64 e1.session, .int .u64 e1.number, .string e1.text, .int .i64 e2.kind, .int .i64 e2.service, .int .i64 e2.group, .int .u64 e2.session, .int .u64 e2.number, .string e2.text, .int .i64 f.c0.kind, .int .i64 f.c0.service, .int .i64 f.c0.group, .int .u64 f.c0.session, .int .u64 f.c0.number, .string f.c0.text, .int .i64 f.c1.kind, .int .i64 f.c1.service, .int .i64 f.c1.group, .int .u64 f.c1.session, .int .u64 f.c1.number, .string f.c1.text]) (res1 rfl ⟨_, rfl, rdv (rd_loadW (j := 1) Tryd.isAgg27 Tryd.sizeOf27 rfl rfl)⟩) ?_
  rfl

theorem with_2_0 (f : Fr) (A : Option Addr) (c : Nat) (w0 : World) (hA : Cells w0 A (encE.row ([] : List Ent))) : Fn Tryd.prog 12 #[f.val, .int .i64 2, .slice A (([] : List Ent).length) c] w0 (fun v _ => v = (f.with 2 ([] : List Ent)).val) := by
  refine fn_of_run Tryd.func12 rfl rfl ?_
  refine run_seq rfl ?_
  refine run_region (todo := [0, 1]) rfl rfl ?_
  refine run_box rfl (fun g1 => ?_)
  refine run_alloc rfl Tryd.zeroValue27 (fun g2 => ?_)
  refine run_endops ?_
  refine run_seq rfl ?_
  refine run_seq rfl ?_
  refine run_region (todo := [0, 1]) rfl rfl ?_
  refine run_mv rfl ?_
  refine run_pf0 (v := .bool true) rfl Tryd.call22 (has_in 2 (by decide) (by decide)) ?_
  refine run_endops ?_
  refine run_true rfl rfl ?_
  refine run_seq rfl ?_
  refine run_region (todo := [0]) rfl rfl ?_
  refine run_alloc rfl Tryd.zeroValue25 (fun g3 => ?_)
  refine run_endops ?_
  refine run_seq rfl ?_
  refine run_region (todo := [0, 1, 2]) rfl rfl ?_
  refine run_rd (v := .slice (some ⟨g3, 0, none⟩) 2 2) rfl (rd_arrSlice Tryd.underlying25 Tryd.sizeOf24) ?_
  refine run_mv rfl ?_
  refine run_copy (j := 0) (n := 0) (c' := #[.int .i64 0, .int .i64 0, .int .i64 0, .int .u64 0, .int .u64 0, .string ⟨#[]⟩, .int .i64 0, .int .i64 0, .int .i64 0, .int .u64 0, .int .u64 0, .string ⟨#[]⟩]) rfl Tryd.underlying28 Tryd.sizeOf24 rfl (know_old hA) (by rw [encE.row_length]; rfl) (by simp) (row_one _) (by decide) (by kernel_rfl) rfl ?_
  refine run_endops ?_
  refine run_region (todo := [0, 1, 2, 3]) rfl rfl ?_
  refine run_mv rfl ?_
  refine run_rd (v := .agg #[.int .i64 0, .int .i64 0, .int .i64 0, .int .u64 0, .int .u64 0, .string ⟨#[]⟩, .int .i64 0, .int .i64 0, .int .i64 0, .int .u64 0, .int .u64 0, .string ⟨#[]⟩]) rfl (rd_loadW (j := 0) Tryd.isAgg25 Tryd.sizeOf25 rfl rfl) ?_
  refine run_rd (v := .pointer (some ⟨g1, 24, none⟩)) rfl (rd_indexAddrA (m := 2) (o := 24) Tryd.underlying27 rfl (by decide) Tryd.sizeOf25 rfl) ?_
  refine run_store (j := 2) (c' := #[.int .i64 f.a0.kind, .int .i64 f.a0.service, .int .i64 f.a0.group, .int .u64 f.a0.session, .int .u64 f.a0.number, .string f.a0.text, .int .i64 f.a1.kind, .int .i64 f.a1.service, .int .i64 f.a1.group, .int .u64 f.a1.session, .int .u64 f.a1.number, .string f.a1.text, .int .i64 f.b0.kind, .int .i64 f.b0.service, .int .i64 f.b0.group, .int .u64 f.b0.session, .int .u64 f.b0.number, .string f.b0.text, .int .i64 f.b1.kind, .int .i64 f.b1.service, .int .i64 f.b1.group, .int .u64 f.b1.session, .int .u64 f.b1.number, .string f.b1.text, .int .i64 0, .int .i64 0, .int .i64 0, .int .u64 0, .int .u64 0, .string ⟨#[]⟩, .int .i64 0, .int .i64 0, .int .i64 0, .int .u64 0, .int .u64 0, .string ⟨#[]⟩]) rfl Tryd.sizeOf25 rfl rfl rfl rfl (by kernel_rfl) rfl ?_
  refine run_endops ?_
  refine run_seq rfl ?_
  refine run_region (todo := [0, 1]) rfl rfl ?_
  refine run_rd (v := .agg #[.int .i64 f.a0.kind, .int .i64 f.a0.service, .int .i64 f.a0.group, .int .u64 f.a0.session, .int .u64 f.a0.number, .string f.a0.text, .int .i64 f.a1.kind, .int .i64 f.a1.service, .int .i64 f.a1.group, .int .u64 f.a1.session, .int .u64 f.a1.number, .string f.a1.text, .int .i64 f.b0.kind, .int .i64 f.b0.service, .int .i64 f.b0.group, .int .u64 f.b0.session, .int .u64 f.b0.number, .string f.b0.text, .int .i64 f.b1.kind, .int .i64 f.b1.service, .int .i64 f.b1.group, .int .u64 f.b1.session, .int .u64 f.b1.number, .string f.b1.text, .int .i64 0, .int .i64 0, .int .i64 0, .int .u64 0, .int .u64 0, .string ⟨#[]⟩, .int .i64 0, .int .i64 0, .int .i64 0, .int .u64 0, .int .u64 0, .string ⟨#[]⟩]) rfl (rd_loadW (j := 2) Tryd.isAgg27 Tryd.sizeOf27 rfl rfl) ?_
  refine run_storeW (j := 1) (c' := #[.int .i64 f.a0.kind, .int .i64 f.a0.service, .int .i64 f.a0.group, .int .u64 f.a0.session, .int .u64 f.a0.number, .string f.a0.text, .int .i64 f.a1.kind, .int .i64 f.a1.service, .int .i64 f.a1.group, .int .u64 f.a1.session, .int .u64 f.a1.number, .string f.a1.text, .int .i64 f.b0.kind, .int .i64 f.b0.service, .int .i64 f.b0.group, .int .u64 f.b0.session, .int .u64 f.b0.number, .string f.b0.text, .int .i64 f.b1.kind, .int .i64 f.b1.service, .int .i64 f.b1.group, .int .u64 f.b1.session, .int .u64 f.b1.number, .string f.b1.text, .int .i64 0, .int .i64 0, .int .i64 0, .int .u64 0, .int .u64 0, .string ⟨#[]⟩, .int .i64 0, .int .i64 0, .int .i64 0, .int .u64 0, .int .u64 0, .string ⟨#[]⟩]) rfl Tryd.sizeOf27 rfl rfl rfl rfl rfl rfl ?_
  refine run_endops ?_
  refine run_ret rfl (v := .agg #[.int .i64 f.a0.kind, .int .i64 f.a0.service, .int .i64 f.a0.group, .int .u64 f.a0.session, .int .u64 f.a0.number, .string f.a0.text, .int .i64 f.a1.kind, .int .i64 f.a1.service, .int .i64 f.a1.group, .int .u64 f.a1.session, .int .u64 f.a1.number, .string f.a1.text, .int .i64 f.b0.kind, .int .i64 f.b0.service, .int .i64 f.b0.group, .int .u64 f.b0.session, .int .u64 f.b0.number, .string f.b0.text, .int .i64 f.b1.kind, .int .i64 f.b1.service, .int .i64 f.b1.group, .int .u64 f.b1.session, .int .u64 f.b1.number, .string f.b1.text, .int .i64 0, .int .i64 0, .int .i64 0, .int .u64 0, .int .u64 0, .string ⟨#[]⟩, .int .i64 0, .int .i64 0, .int .i64 0, .int .u64 0, .int .u64 0, .string ⟨#[]⟩]) (res1 rfl ⟨_, rfl, rdv (rd_loadW (j := 1) Tryd.isAgg27 Tryd.sizeOf27 rfl rfl)⟩) ?_
  rfl

theorem with_2_1 (f : Fr) (e1 : Ent) (A : Option Addr) (c : Nat) (w0 : World) (hA : Cells w0 A (encE.row [e1])) : Fn Tryd.prog 12 #[f.val, .int .i64 2, .slice A ([e1].length) c] w0 (fun v _ => v = (f.with 2 [e1]).val) := by
  refine fn_of_run Tryd.func12 rfl rfl ?_
  refine run_seq rfl ?_
  refine run_region (todo := [0, 1]) rfl rfl ?_
  refine run_box rfl (fun g1 => ?_)
  refine run_alloc rfl Tryd.zeroValue27 (fun g2 => ?_)
  refine run_endops ?_
  refine run_seq rfl ?_
  refine run_seq rfl ?_
  refine run_region (todo := [0, 1]) rfl rfl ?_
  refine run_mv rfl ?_
  refine run_pf0 (v := .bool true) rfl Tryd.call22 (has_in 2 (by decide) (by decide)) ?_
  refine run_endops ?_
  refine run_true rfl rfl ?_
  refine run_seq rfl ?_
  refine run_region (todo := [0]) rfl rfl ?_
  refine run_alloc rfl Tryd.zeroValue25 (fun g3 => ?_)
  refine run_endops ?_
  refine run_seq rfl ?_
  refine run_region (todo := [0, 1, 2]) rfl rfl ?_
  refine run_rd (v := .slice (some ⟨g3, 0, none⟩) 2 2) rfl (rd_arrSlice Tryd.underlying25 Tryd.sizeOf24) ?_
  refine run_mv rfl ?_
  refine run_copy (j := 0) (n := 1) (c' := #[.int .i64 e1.kind, .int .i64 e1.service, .int .i64 e1.group, .int .u64 e1.session, .int .u64 e1.number, .string e1.text, .int .i64 0, .int .i64 0, .int .i64 0, .int .u64 0, .int .u64 0, .string ⟨#[]⟩]) rfl Tryd.underlying28 Tryd.sizeOf24 rfl (know_old hA) (by rw [encE.row_length]; rfl) (by simp) (row_one _) (by decide) (by kernel_rfl) rfl ?_
  refine run_endops ?_
  refine run_region (todo := [0, 1, 2, 3]) rfl rfl ?_
  refine run_mv rfl ?_
  refine run_rd (v := .agg #[.int .i64 e1.kind, .int .i64 e1.service, .int .i64 e1.group, .int .u64 e1.session, .int .u64 e1.number, .string e1.text, .int .i64 0, .int .i64 0, .int .i64 0, .int .u64 0, .int .u64 0, .string ⟨#[]⟩]) rfl (rd_loadW (j := 0) Tryd.isAgg25 Tryd.sizeOf25 rfl rfl) ?_
  refine run_rd (v := .pointer (some ⟨g1, 24, none⟩)) rfl (rd_indexAddrA (m := 2) (o := 24) Tryd.underlying27 rfl (by decide) Tryd.sizeOf25 rfl) ?_
  refine run_store (j := 2) (c' := #[.int .i64 f.a0.kind, .int .i64 f.a0.service, .int .i64 f.a0.group, .int .u64 f.a0.session, .int .u64 f.a0.number, .string f.a0.text, .int .i64 f.a1.kind, .int .i64 f.a1.service, .int .i64 f.a1.group, .int .u64 f.a1.session, .int .u64 f.a1.number, .string f.a1.text, .int .i64 f.b0.kind, .int .i64 f.b0.service, .int .i64 f.b0.group, .int .u64 f.b0.session, .int .u64 f.b0.number, .string f.b0.text, .int .i64 f.b1.kind, .int .i64 f.b1.service, .int .i64 f.b1.group, .int .u64 f.b1.session, .int .u64 f.b1.number, .string f.b1.text, .int .i64 e1.kind, .int .i64 e1.service, .int .i64 e1.group, .int .u64 e1.session, .int .u64 e1.number, .string e1.text, .int .i64 0, .int .i64 0, .int .i64 0, .int .u64 0, .int .u64 0, .string ⟨#[]⟩]) rfl Tryd.sizeOf25 rfl rfl rfl rfl (by kernel_rfl) rfl ?_
  refine run_endops ?_
  refine run_seq rfl ?_
  refine run_region (todo := [0, 1]) rfl rfl ?_
  refine run_rd (v := .agg #[.int .i64 f.a0.kind, .int .i64 f.a0.service, .int .i64 f.a0.group, .int .u64 f.a0.session, .int .u64 f.a0.number, .string f.a0.text, .int .i64 f.a1.kind, .int .i64 f.a1.service, .int .i64 f.a1.group, .int .u64 f.a1.session, .int .u64 f.a1.number, .string f.a1.text, .int .i64 f.b0.kind, .int .i64 f.b0.service, .int .i64 f.b0.group, .int .u64 f.b0.session, .int .u64 f.b0.number, .string f.b0.text, .int .i64 f.b1.kind, .int .i64 f.b1.service, .int .i64 f.b1.group, .int .u64 f.b1.session, .int .u64 f.b1.number, .string f.b1.text, .int .i64 e1.kind, .int .i64 e1.service, .int .i64 e1.group, .int .u64 e1.session, .int .u64 e1.number, .string e1.text, .int .i64 0, .int .i64 0, .int .i64 0, .int .u64 0, .int .u64 0, .string ⟨#[]⟩]) rfl (rd_loadW (j := 2) Tryd.isAgg27 Tryd.sizeOf27 rfl rfl) ?_
  refine run_storeW (j := 1) (c' := #[.int .i64 f.a0.kind, .int .i64 f.a0.service, .int .i64 f.a0.group, .int .u64 f.a0.session, .int .u64 f.a0.number, .string f.a0.text, .int .i64 f.a1.kind, .int .i64 f.a1.service, .int .i64 f.a1.group, .int .u64 f.a1.session, .int .u64 f.a1.number, .string f.a1.text, .int .i64 f.b0.kind, .int .i64 f.b0.service, .int .i64 f.b0.group, .int .u64 f.b0.session, .int .u64 f.b0.number, .string f.b0.text, .int .i64 f.b1.kind, .int .i64 f.b1.service, .int .i64 f.b1.group, .int .u64 f.b1.session, .int .u64 f.b1.number, .string f.b1.text, .int .i64 e1.kind, .int .i64 e1.service, .int .i64 e1.group, .int .u64 e1.session, .int .u64 e1.number, .string e1.text, .int .i64 0, .int .i64 0, .int .i64 0, .int .u64 0, .int .u64 0, .string ⟨#[]⟩]) rfl Tryd.sizeOf27 rfl rfl rfl rfl rfl rfl ?_
  refine run_endops ?_
  refine run_ret rfl (v := .agg #[.int .i64 f.a0.kind, .int .i64 f.a0.service, .int .i64 f.a0.group, .int .u64 f.a0.session, .int .u64 f.a0.number, .string f.a0.text, .int .i64 f.a1.kind, .int .i64 f.a1.service, .int .i64 f.a1.group, .int .u64 f.a1.session, .int .u64 f.a1.number, .string f.a1.text, .int .i64 f.b0.kind, .int .i64 f.b0.service, .int .i64 f.b0.group, .int .u64 f.b0.session, .int .u64 f.b0.number, .string f.b0.text, .int .i64 f.b1.kind, .int .i64 f.b1.service, .int .i64 f.b1.group, .int .u64 f.b1.session, .int .u64 f.b1.number, .string f.b1.text, .int .i64 e1.kind, .int .i64 e1.service, .int .i64 e1.group, .int .u64 e1.session, .int .u64 e1.number, .string e1.text, .int .i64 0, .int .i64 0, .int .i64 0, .int .u64 0, .int .u64 0, .string ⟨#[]⟩]) (res1 rfl ⟨_, rfl, rdv (rd_loadW (j := 1) Tryd.isAgg27 Tryd.sizeOf27 rfl rfl)⟩) ?_
  rfl

theorem with_2_2 (f : Fr) (e1 e2 : Ent) (l : List Ent) (A : Option Addr) (c : Nat) (w0 : World) (hA : Cells w0 A (encE.row (e1 :: e2 :: l))) : Fn Tryd.prog 12 #[f.val, .int .i64 2, .slice A ((e1 :: e2 :: l).length) c] w0 (fun v _ => v = (f.with 2 (e1 :: e2 :: l)).val) := by
  refine fn_of_run Tryd.func12 rfl rfl ?_
  refine run_seq rfl ?_
  refine run_region (todo := [0, 1]) rfl rfl ?_
  refine run_box rfl (fun g1 => ?_)
  refine run_alloc rfl Tryd.zeroValue27 (fun g2 => ?_)
  refine run_endops ?_
  refine run_seq rfl ?_
  refine run_seq rfl ?_
  refine run_region (todo := [0, 1]) rfl rfl ?_
  refine run_mv rfl ?_
  refine run_pf0 (v := .bool true) rfl Tryd.call22 (has_in 2 (by decide) (by decide)) ?_
  refine run_endops ?_
  refine run_true rfl rfl ?_
  refine run_seq rfl ?_
  refine run_region (todo := [0]) rfl rfl ?_
  refine run_alloc rfl Tryd.zeroValue25 (fun g3 => ?_)
  refine run_endops ?_
  refine run_seq rfl ?_
  refine run_region (todo := [0, 1, 2]) rfl rfl ?_
  refine run_rd (v := .slice (some ⟨g3, 0, none⟩) 2 2) rfl (rd_arrSlice Tryd.underlying25 Tryd.sizeOf24) ?_
  refine run_mv rfl ?_
  refine run_copy (j := 0) (n := 2) (c' := #[.int .i64 e1.kind, .int .i64 e1.service, .int .i64 e1.group, .int .u64 e1.session, .int .u64 e1.number, .string e1.text, .int .i64 e2.kind, .int .i64 e2.service, .int .i64 e2.group, .int .u64 e2.session, .int .u64 e2.number, .string e2.text]) rfl Tryd.underlying28 Tryd.sizeOf24 rfl (know_old hA) (by rw [encE.row_length]; rfl) (by simp) (row_one _) (by decide) (by kernel_rfl) rfl ?_
  refine run_endops ?_
  refine run_region (todo := [0, 1, 2, 3]) rfl rfl ?_
  refine run_mv rfl ?_
  refine run_rd (v := .agg #[.int .i64 e1.kind, .int .i64 e1.service, .int .i64 e1.group, .int .u64 e1.session, .int .u64 e1.number, .string e1.text, .int .i64 e2.kind, .int .i64 e2.service, .int .i64 e2.group, .int .u64 e2.session, .int .u64 e2.number, .string e2.text]) rfl (rd_loadW (j := 0) Tryd.isAgg25 Tryd.sizeOf25 rfl rfl) ?_
  refine run_rd (v := .pointer (some ⟨g1, 24, none⟩)) rfl (rd_indexAddrA (m := 2) (o := 24) Tryd.underlying27 rfl (by decide) Tryd.sizeOf25 rfl) ?_
  refine run_store (j := 2) (c' := #[.int .i64 f.a0.kind, .int .i64 f.a0.service, .int .i64 f.a0.group, .int .u64 f.a0.session, .int .u64 f.a0.number, .string f.a0.text, .int .i64 f.a1.kind, .int .i64 f.a1.service, .int .i64 f.a1.group, .int .u64 f.a1.session, .int .u64 f.a1.number, .string f.a1.text, .int .i64 f.b0.kind, .int .i64 f.b0.service, .int .i64 f.b0.group, .int .u64 f.b0.session, .int .u64 f.b0.number, .string f.b0.text, .int .i64 f.b1.kind, .int .i64 f.b1.service, .int .i64 f.b1.group, .int .u64 f.b1.session, .int .u64 f.b1.number, .string f.b1.text, .int .i64 e1.kind, .int .i64 e1.service, .int .i64 e1.group, .int .u64 e1.session, .int .u64 e1.number, .string e1.text, .int .i64 e2.kind, .int .i64 e2.service, .int .i64 e2.group, .int .u64 e2.session, .int .u64 e2.number, .string e2.text]) rfl Tryd.sizeOf25 rfl rfl rfl rfl (by kernel_rfl) rfl ?_
  refine run_endops ?_
  refine run_seq rfl ?_
  refine run_region (todo := [0, 1]) rfl rfl ?_
  refine run_rd (v := .agg #[.int .i64 f.a0.kind, .int .i64 f.a0.service, .int .i64 f.a0.group, .int .u64 f.a0.session, .int .u64 f.a0.number, .string f.a0.text, .int .i64 f.a1.kind, .int .i64 f.a1.service, .int .i64 f.a1.group, .int .u64 f.a1.session, .int .u64 f.a1.number, .string f.a1.text, .int .i64 f.b0.kind, .int .i64 f.b0.service, .int .i64 f.b0.group, .int .u64 f.b0.session, .int .u64 f.b0.number, .string f.b0.text, .int .i64 f.b1.kind, .int .i64 f.b1.service, .int .i64 f.b1.group, .int .u64 f.b1.session, .int .u64 f.b1.number, .string f.b1.text, .int .i64 e1.kind, .int .i64 e1.service, .int .i64 e1.group, .int .u64 e1.session, .int .u64 e1.number, .string e1.text, .int .i64 e2.kind, .int .i64 e2.service, .int .i64 e2.group, .int .u64 e2.session, .int .u64 e2.number, .string e2.text]) rfl (rd_loadW (j := 2) Tryd.isAgg27 Tryd.sizeOf27 rfl rfl) ?_
  refine run_storeW (j := 1) (c' := #[.int .i64 f.a0.kind, .int .i64 f.a0.service, .int .i64 f.a0.group, .int .u64 f.a0.session, .int .u64 f.a0.number, .string f.a0.text, .int .i64 f.a1.kind, .int .i64 f.a1.service, .int .i64 f.a1.group, .int .u64 f.a1.session, .int .u64 f.a1.number, .string f.a1.text, .int .i64 f.b0.kind, .int .i64 f.b0.service, .int .i64 f.b0.group, .int .u64 f.b0.session, .int .u64 f.b0.number, .string f.b0.text, .int .i64 f.b1.kind, .int .i64 f.b1.service, .int .i64 f.b1.group, .int .u64 f.b1.session, .int .u64 f.b1.number, .string f.b1.text, .int .i64 e1.kind, .int .i64 e1.service, .int .i64 e1.group, .int .u64 e1.session, .int .u64 e1.number, .string e1.text, .int .i64 e2.kind, .int .i64 e2.service, .int .i64 e2.group, .int .u64 e2.session, .int .u64 e2.number, .string e2.text]) rfl Tryd.sizeOf27 rfl rfl rfl rfl rfl rfl ?_
  refine run_endops ?_
  refine run_ret rfl (v := .agg #[.int .i64 f.a0.kind, .int .i64 f.a0.service, .int .i64 f.a0.group, .int .u64 f.a0.session, .int .u64 f.a0.number, .string f.a0.text, .int .i64 f.a1.kind, .int .i64 f.a1.service, .int .i64 f.a1.group, .int .u64 f.a1.session, .int .u64 f.a1.number, .string f.a1.text, .int .i64 f.b0.kind, .int .i64 f.b0.service, .int .i64 f.b0.group, .int .u64 f.b0.session, .int .u64 f.b0.number, .string f.b0.text, .int .i64 f.b1.kind, .int .i64 f.b1.service, .int .i64 f.b1.group, .int .u64 f.b1.session, .int .u64 f.b1.number, .string f.b1.text, .int .i64 e1.kind, .int .i64 e1.service, .int .i64 e1.group, .int .u64 e1.session, .int .u64 e1.number, .string e1.text, .int .i64 e2.kind, .int .i64 e2.service, .int .i64 e2.group, .int .u64 e2.session, .int .u64 e2.number, .string e2.text]) (res1 rfl ⟨_, rfl, rdv (rd_loadW (j := 1) Tryd.isAgg27 Tryd.sizeOf27 rfl rfl)⟩) ?_
  rfl

theorem with_neg (f : Fr) (t : Int) (ht : t < 0) (l : List Ent) (A : Option Addr) (c : Nat) (w0 : World) : Fn Tryd.prog 12 #[f.val, .int .i64 t, .slice A l.length c] w0 (fun v _ => v = (f.with t l).val) := by
  have hout : t < 0 ∨ 3 ≤ t := by omega
  have d0 : decide (t < 0) = true := decide_eq_true ht
  refine fn_of_run Tryd.func12 rfl rfl ?_
  refine run_seq rfl ?_
  refine run_region (todo := [0, 1]) rfl rfl ?_
  refine run_box rfl (fun g1 => ?_)
  refine run_alloc rfl Tryd.zeroValue27 (fun g2 => ?_)
  refine run_endops ?_
  refine run_seq rfl ?_
  refine run_seq rfl ?_
  refine run_region (todo := [0, 1]) rfl rfl ?_
  refine run_mv rfl ?_
  refine run_pf0 (v := .bool false) rfl Tryd.call22 (has_out t hout) ?_
  refine run_endops ?_
  refine run_false rfl rfl ?_
  refine run_skip rfl ?_
  refine run_seq rfl ?_
  refine run_region (todo := [0, 1]) rfl rfl ?_
  refine run_rd (v := .agg f.arr) rfl (rd_loadW (j := 1) Tryd.isAgg27 Tryd.sizeOf27 rfl rfl) ?_
  refine run_storeW (j := 0) (c' := f.arr) rfl Tryd.sizeOf27 rfl rfl rfl rfl rfl rfl ?_
  refine run_endops ?_
  refine run_ret rfl (v := .agg f.arr) (res1 rfl ⟨_, rfl, rdv (rd_loadW (j := 0) Tryd.isAgg27 Tryd.sizeOf27 rfl rfl)⟩) ?_
  have e : f.with t l = f := by unfold Fr.with; rw [if_neg (by omega), if_neg (by omega), if_neg (by omega)]
  rw [e]
  rfl

theorem with_big (f : Fr) (t : Int) (ht : 3 ≤ t) (l : List Ent) (A : Option Addr) (c : Nat) (w0 : World) : Fn Tryd.prog 12 #[f.val, .int .i64 t, .slice A l.length c] w0 (fun v _ => v = (f.with t l).val) := by
  have hout : t < 0 ∨ 3 ≤ t := by omega
  have d0 : decide (t < 0) = false := decide_eq_false (by omega)
  have d1 : decide (t > 2) = true := decide_eq_true (by omega)
  refine fn_of_run Tryd.func12 rfl rfl ?_
  refine run_seq rfl ?_
  refine run_region (todo := [0, 1]) rfl rfl ?_
  refine run_box rfl (fun g1 => ?_)
  refine run_alloc rfl Tryd.zeroValue27 (fun g2 => ?_)
  refine run_endops ?_
  refine run_seq rfl ?_
  refine run_seq rfl ?_
  refine run_region (todo := [0, 1]) rfl rfl ?_
  refine run_mv rfl ?_
  refine run_pf0 (v := .bool false) rfl Tryd.call22 (has_out t hout) ?_
  refine run_endops ?_
  refine run_false rfl rfl ?_
  refine run_skip rfl ?_
  refine run_seq rfl ?_
  refine run_region (todo := [0, 1]) rfl rfl ?_
  refine run_rd (v := .agg f.arr) rfl (rd_loadW (j := 1) Tryd.isAgg27 Tryd.sizeOf27 rfl rfl) ?_
  refine run_storeW (j := 0) (c' := f.arr) rfl Tryd.sizeOf27 rfl rfl rfl rfl rfl rfl ?_
  refine run_endops ?_
  refine run_ret rfl (v := .agg f.arr) (res1 rfl ⟨_, rfl, rdv (rd_loadW (j := 0) Tryd.isAgg27 Tryd.sizeOf27 rfl rfl)⟩) ?_
  have e : f.with t l = f := by unfold Fr.with; rw [if_neg (by omega), if_neg (by omega), if_neg (by omega)]
  rw [e]
  rfl

theorem with_any (f : Fr) (t : Int) (l : List Ent) (A : Option Addr) (c : Nat) (w0 : World) (hA : Cells w0 A (encE.row l)) : Fn Tryd.prog 12 #[f.val, .int .i64 t, .slice A l.length c] w0 (fun v _ => v = (f.with t l).val) := by
  rcases (show t = 0 ∨ t = 1 ∨ t = 2 ∨ t < 0 ∨ 3 ≤ t by omega) with rfl | rfl | rfl | h | h
  · match l, hA with
    | [], hA => exact with_0_0 f A c w0 hA
    | [e1], hA => exact with_0_1 f e1 A c w0 hA
    | e1 :: e2 :: l, hA => exact with_0_2 f e1 e2 l A c w0 hA
  · match l, hA with
    | [], hA => exact with_1_0 f A c w0 hA
    | [e1], hA => exact with_1_1 f e1 A c w0 hA
    | e1 :: e2 :: l, hA => exact with_1_2 f e1 e2 l A c w0 hA
  · match l, hA with
    | [], hA => exact with_2_0 f A c w0 hA
    | [e1], hA => exact with_2_1 f e1 A c w0 hA
    | e1 :: e2 :: l, hA => exact with_2_2 f e1 e2 l A c w0 hA
  · exact with_neg f t h l A c w0
  · exact with_big f t h l A c w0

end Go.Proofs.YtadjnbjeaeoobaaDoor
