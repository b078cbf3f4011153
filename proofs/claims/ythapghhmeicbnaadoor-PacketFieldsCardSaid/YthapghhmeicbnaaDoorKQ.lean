/- Packets: the walks of layer 5. Printed by wip/k/genP.py. -/
import Derived.Test.YthapghhmeicbnaaDoorKP
import Derived.Test.YthapghhmeicbnaaDoorKW
set_option linter.unusedVariables false
set_option linter.unusedSimpArgs false
namespace Go.Proofs.YthapghhmeicbnaaDoor
open Go.RowKit
set_option maxRecDepth 20000

theorem wrap_u64U {n : Int} (h : U32 n) : IntKind.u64.wrap n = ((n.toNat : Nat) : Int) := by
  obtain ⟨h1, h2⟩ := h
  rw [wrap_u64]
  omega
def putI (k : Nat) (n : Int) : List UInt8 := put n.toNat k
def encF : Enc Fr := ⟨Fr.cells, 36, fun _ => rfl⟩
theorem pf_put {n k : Nat} (h1 : 1 ≤ k) (h8 : k ≤ 8) (hn : n < 18446744073709551616) : Pf Tryd.prog 43 #[.int .u64 (n : Int), .int .i64 (k : Int)] (.string (bs (put n k))) := pf_of_below fun w => put_yes n k w h1 h8 hn
theorem pk_members (p : Pkt) : ∀ q, q < ((encI .u32).row p.members.list).length → p.arr[5 + q]? = ((encI .u32).row p.members.list)[q]? := by
  intro q hq
  have hq : q < 8 := hq
  rcases (show q = 0 ∨ q = 1 ∨ q = 2 ∨ q = 3 ∨ q = 4 ∨ q = 5 ∨ q = 6 ∨ q = 7 by omega) with rfl | rfl | rfl | rfl | rfl | rfl | rfl | rfl <;> rfl
theorem pk_count (p : Pkt) : ∀ q, q < ((encI .u32).row p.count.list).length → p.arr[13 + q]? = ((encI .u32).row p.count.list)[q]? := by
  intro q hq
  have hq : q < 8 := hq
  rcases (show q = 0 ∨ q = 1 ∨ q = 2 ∨ q = 3 ∨ q = 4 ∨ q = 5 ∨ q = 6 ∨ q = 7 by omega) with rfl | rfl | rfl | rfl | rfl | rfl | rfl | rfl <;> rfl
theorem pk_wanted (p : Pkt) : ∀ q, q < ((encI .u32).row p.wanted.list).length → p.arr[24 + q]? = ((encI .u32).row p.wanted.list)[q]? := by
  intro q hq
  have hq : q < 8 := hq
  rcases (show q = 0 ∨ q = 1 ∨ q = 2 ∨ q = 3 ∨ q = 4 ∨ q = 5 ∨ q = 6 ∨ q = 7 by omega) with rfl | rfl | rfl | rfl | rfl | rfl | rfl | rfl <;> rfl
theorem take_oneA {α : Type} {l : List α} {k : Nat} {x : α} (h : l[k]? = some x) : l.take (k + 1) = l.take k ++ [x] := by rw [List.take_add_one, h]; rfl
theorem u32_n64 {n : Int} (h : U32 n) : n.toNat < 18446744073709551616 := by obtain ⟨h1, h2⟩ := h; omega
theorem Id3.Ok.all {x : Id3} (h : x.Ok) : U32 x.epoch ∧ U32 x.coord ∧ U32 x.inc := h
theorem V8.Ok.all {x : V8} (h : x.Ok) : ∀ n ∈ x.list, U32 n := by
  obtain ⟨h0, h1, h2, h3, h4, h5, h6, h7⟩ := h
  intro n hn
  simp only [V8.list, List.mem_cons, List.mem_nil_iff, or_false] at hn
  rcases hn with rfl | rfl | rfl | rfl | rfl | rfl | rfl | rfl <;> assumption
theorem one_all {n : Int} (h : U32 n) : ∀ m ∈ [n], U32 m := by intro m hm; rw [List.mem_singleton.1 hm]; exact h
theorem two_all {n m : Int} (h : U32 n) (g : U32 m) : ∀ k ∈ [n, m], U32 k := by
  intro k hk
  rcases List.mem_cons.1 hk with rfl | hk
  · exact h
  · rw [List.mem_singleton.1 hk]; exact g

theorem pf_pcheck (p : Pkt) (hp : p.Fit) : Pf Tryd.prog 12 #[p.val] (.int .i64 (pkCode p.may)) := by
  refine pf_of_run Tryd.func12 rfl rfl (fun w0 => ?_)
  refine run_seq rfl ?_
  refine run_region (todo := [0, 1]) rfl rfl ?_
  refine run_box rfl (fun g1 => ?_)
  refine run_mv rfl ?_
  refine run_endops ?_
  refine run_seq rfl ?_
  refine run_seq rfl ?_
  refine run_region (todo := [0, 1, 2, 3, 4, 5, 6, 7, 8, 9, 10, 11]) rfl rfl ?_
  refine run_rd (v := .pointer (some ⟨g1, 0, none⟩)) rfl (rd_fieldAddr (o := 0) Tryd.underlying35 rfl Tryd.sizeOf22 rfl rfl) ?_
  refine run_rd (v := .int .u32 p.src) rfl (rd_load (j := 0) (v := .int .u32 p.src) Tryd.isAgg22 rfl (by kernel_rfl)) ?_
  refine run_rd (v := .pointer (some ⟨g1, 107, none⟩)) rfl (rd_fieldAddr (o := 107) Tryd.underlying35 rfl Tryd.sizeOf22 rfl rfl) ?_
  refine run_rd (v := .int .u32 p.relayOf) rfl (rd_load (j := 0) (v := .int .u32 p.relayOf) Tryd.isAgg22 rfl (by kernel_rfl)) ?_
  refine run_rd (v := .pointer (some ⟨g1, 2, none⟩)) rfl (rd_fieldAddr (o := 2) Tryd.underlying35 rfl Tryd.sizeOf24 rfl rfl) ?_
  refine run_rd (v := .pointer (some ⟨g1, 3, none⟩)) rfl (rd_fieldAddr (o := 3) Tryd.underlying24 rfl Tryd.sizeOf22 rfl rfl) ?_
  refine run_rd (v := .int .u32 p.conf.coord) rfl (rd_load (j := 0) (v := .int .u32 p.conf.coord) Tryd.isAgg22 rfl (by kernel_rfl)) ?_
  refine run_rd (v := .pointer (some ⟨g1, 21, none⟩)) rfl (rd_fieldAddr (o := 21) Tryd.underlying35 rfl Tryd.sizeOf24 rfl rfl) ?_
  refine run_rd (v := .pointer (some ⟨g1, 22, none⟩)) rfl (rd_fieldAddr (o := 22) Tryd.underlying24 rfl Tryd.sizeOf22 rfl rfl) ?_
  refine run_rd (v := .int .u32 p.promise.coord) rfl (rd_load (j := 0) (v := .int .u32 p.promise.coord) Tryd.isAgg22 rfl (by kernel_rfl)) ?_
  refine run_rd (v := .agg #[.int .u32 p.src, .int .u32 p.relayOf, .int .u32 p.conf.coord, .int .u32 p.promise.coord]) rfl ((fun w _ => by kernel_rfl)) ?_
  refine run_mv rfl ?_
  refine run_endops ?_
  refine run_block rfl ?_
  refine run_loop rfl ?_
  refine run_again ?_
  refine run_seq rfl ?_
  refine run_region (todo := [0]) rfl rfl ?_
  refine run_rd (v := .bool true) rfl (rd_cmp rfl rfl) ?_
  refine run_endops ?_
  refine run_seq rfl ?_
  refine run_true rfl rfl ?_
  refine run_skip rfl ?_
  refine run_seq rfl ?_
  refine run_block rfl ?_
  refine run_seq rfl ?_
  refine run_region (todo := [0, 1]) rfl rfl ?_
  refine run_rd (v := .int .u32 p.src) rfl (rd_index1 (m := 0) (v := .int .u32 p.src) Tryd.underlying69 rfl (by decide) Tryd.isAgg22 Tryd.sizeOf22 rfl) ?_
  refine run_mv rfl ?_
  refine run_endops ?_
  refine run_seq rfl ?_
  refine run_region (todo := [0, 1]) rfl rfl ?_
  refine run_mv rfl ?_
  refine run_rd (v := .bool (decide (p.src ≥ 8))) rfl (rd_cmp rfl rfl) ?_
  refine run_endops ?_
  refine run_if rfl rfl (fun hb1 => ?_) (fun hb1 => ?_)
  · have hb1p := of_decide_eq_true hb1
    refine run_seq rfl ?_
    refine run_region (todo := [0]) rfl rfl ?_
    refine run_mv rfl ?_
    refine run_endops ?_
    refine run_ret rfl (v := .int .i64 52) (res1 rfl rfl) ?_
    exact congrArg (Value.int .i64) (pk_no (fun h => by obtain ⟨⟨m0, m1, m2, m3⟩, m4, m5, m6⟩ := Pkt.may_iff.1 h; first | omega | simp_all)).symm
  · have hb1p := of_decide_eq_false hb1
    refine run_skip rfl ?_
    refine run_endblock ?_
    refine run_region (todo := [0, 1]) rfl rfl ?_
    refine run_rd (v := .int .i64 1) rfl (rd_add (r := 1) (by decide)) ?_
    refine run_mv rfl ?_
    refine run_endops ?_
    refine run_again ?_
    refine run_seq rfl ?_
    refine run_region (todo := [0]) rfl rfl ?_
    refine run_rd (v := .bool true) rfl (rd_cmp rfl rfl) ?_
    refine run_endops ?_
    refine run_seq rfl ?_
    refine run_true rfl rfl ?_
    refine run_skip rfl ?_
    refine run_seq rfl ?_
    refine run_block rfl ?_
    refine run_seq rfl ?_
    refine run_region (todo := [0, 1]) rfl rfl ?_
    refine run_rd (v := .int .u32 p.relayOf) rfl (rd_index1 (m := 1) (v := .int .u32 p.relayOf) Tryd.underlying69 rfl (by decide) Tryd.isAgg22 Tryd.sizeOf22 rfl) ?_
    refine run_mv rfl ?_
    refine run_endops ?_
    refine run_seq rfl ?_
    refine run_region (todo := [0, 1]) rfl rfl ?_
    refine run_mv rfl ?_
    refine run_rd (v := .bool (decide (p.relayOf ≥ 8))) rfl (rd_cmp rfl rfl) ?_
    refine run_endops ?_
    refine run_if rfl rfl (fun hb2 => ?_) (fun hb2 => ?_)
    · have hb2p := of_decide_eq_true hb2
      refine run_seq rfl ?_
      refine run_region (todo := [0]) rfl rfl ?_
      refine run_mv rfl ?_
      refine run_endops ?_
      refine run_ret rfl (v := .int .i64 52) (res1 rfl rfl) ?_
      exact congrArg (Value.int .i64) (pk_no (fun h => by obtain ⟨⟨m0, m1, m2, m3⟩, m4, m5, m6⟩ := Pkt.may_iff.1 h; first | omega | simp_all)).symm
    · have hb2p := of_decide_eq_false hb2
      refine run_skip rfl ?_
      refine run_endblock ?_
      refine run_region (todo := [0, 1]) rfl rfl ?_
      refine run_rd (v := .int .i64 2) rfl (rd_add (r := 2) (by decide)) ?_
      refine run_mv rfl ?_
      refine run_endops ?_
      refine run_again ?_
      refine run_seq rfl ?_
      refine run_region (todo := [0]) rfl rfl ?_
      refine run_rd (v := .bool true) rfl (rd_cmp rfl rfl) ?_
      refine run_endops ?_
      refine run_seq rfl ?_
      refine run_true rfl rfl ?_
      refine run_skip rfl ?_
      refine run_seq rfl ?_
      refine run_block rfl ?_
      refine run_seq rfl ?_
      refine run_region (todo := [0, 1]) rfl rfl ?_
      refine run_rd (v := .int .u32 p.conf.coord) rfl (rd_index1 (m := 2) (v := .int .u32 p.conf.coord) Tryd.underlying69 rfl (by decide) Tryd.isAgg22 Tryd.sizeOf22 rfl) ?_
      refine run_mv rfl ?_
      refine run_endops ?_
      refine run_seq rfl ?_
      refine run_region (todo := [0, 1]) rfl rfl ?_
      refine run_mv rfl ?_
      refine run_rd (v := .bool (decide (p.conf.coord ≥ 8))) rfl (rd_cmp rfl rfl) ?_
      refine run_endops ?_
      refine run_if rfl rfl (fun hb3 => ?_) (fun hb3 => ?_)
      · have hb3p := of_decide_eq_true hb3
        refine run_seq rfl ?_
        refine run_region (todo := [0]) rfl rfl ?_
        refine run_mv rfl ?_
        refine run_endops ?_
        refine run_ret rfl (v := .int .i64 52) (res1 rfl rfl) ?_
        exact congrArg (Value.int .i64) (pk_no (fun h => by obtain ⟨⟨m0, m1, m2, m3⟩, m4, m5, m6⟩ := Pkt.may_iff.1 h; first | omega | simp_all)).symm
      · have hb3p := of_decide_eq_false hb3
        refine run_skip rfl ?_
        refine run_endblock ?_
        refine run_region (todo := [0, 1]) rfl rfl ?_
        refine run_rd (v := .int .i64 3) rfl (rd_add (r := 3) (by decide)) ?_
        refine run_mv rfl ?_
        refine run_endops ?_
        refine run_again ?_
        refine run_seq rfl ?_
        refine run_region (todo := [0]) rfl rfl ?_
        refine run_rd (v := .bool true) rfl (rd_cmp rfl rfl) ?_
        refine run_endops ?_
        refine run_seq rfl ?_
        refine run_true rfl rfl ?_
        refine run_skip rfl ?_
        refine run_seq rfl ?_
        refine run_block rfl ?_
        refine run_seq rfl ?_
        refine run_region (todo := [0, 1]) rfl rfl ?_
        refine run_rd (v := .int .u32 p.promise.coord) rfl (rd_index1 (m := 3) (v := .int .u32 p.promise.coord) Tryd.underlying69 rfl (by decide) Tryd.isAgg22 Tryd.sizeOf22 rfl) ?_
        refine run_mv rfl ?_
        refine run_endops ?_
        refine run_seq rfl ?_
        refine run_region (todo := [0, 1]) rfl rfl ?_
        refine run_mv rfl ?_
        refine run_rd (v := .bool (decide (p.promise.coord ≥ 8))) rfl (rd_cmp rfl rfl) ?_
        refine run_endops ?_
        refine run_if rfl rfl (fun hb4 => ?_) (fun hb4 => ?_)
        · have hb4p := of_decide_eq_true hb4
          refine run_seq rfl ?_
          refine run_region (todo := [0]) rfl rfl ?_
          refine run_mv rfl ?_
          refine run_endops ?_
          refine run_ret rfl (v := .int .i64 52) (res1 rfl rfl) ?_
          exact congrArg (Value.int .i64) (pk_no (fun h => by obtain ⟨⟨m0, m1, m2, m3⟩, m4, m5, m6⟩ := Pkt.may_iff.1 h; first | omega | simp_all)).symm
        · have hb4p := of_decide_eq_false hb4
          refine run_skip rfl ?_
          refine run_endblock ?_
          refine run_region (todo := [0, 1]) rfl rfl ?_
          refine run_rd (v := .int .i64 4) rfl (rd_add (r := 4) (by decide)) ?_
          refine run_mv rfl ?_
          refine run_endops ?_
          refine run_again ?_
          refine run_seq rfl ?_
          refine run_region (todo := [0]) rfl rfl ?_
          refine run_rd (v := .bool false) rfl (rd_cmp rfl rfl) ?_
          refine run_endops ?_
          refine run_seq rfl ?_
          refine run_false rfl rfl ?_
          refine run_exit rfl rfl ?_
          refine run_seq rfl ?_
          refine run_seq rfl ?_
          refine run_region (todo := [0, 1, 2, 3, 4, 5, 6, 7]) rfl rfl ?_
          refine run_rd (v := .pointer (some ⟨g1, 35, none⟩)) rfl (rd_fieldAddr (o := 35) Tryd.underlying35 rfl Tryd.sizeOf33 rfl rfl) ?_
          refine run_rd (v := .agg p.newest.arr) rfl (rd_loadA (j := 0) (u := p.newest.arr) Tryd.isAgg33 Tryd.sizeOf33 rfl (by kernel_rfl) (by kernel_rfl)) ?_
          refine run_rd (v := .pointer (some ⟨g1, 71, none⟩)) rfl (rd_fieldAddr (o := 71) Tryd.underlying35 rfl Tryd.sizeOf33 rfl rfl) ?_
          refine run_rd (v := .agg p.older.arr) rfl (rd_loadA (j := 0) (u := p.older.arr) Tryd.isAgg33 Tryd.sizeOf33 rfl (by kernel_rfl) (by kernel_rfl)) ?_
          refine run_rd (v := .pointer (some ⟨g1, 109, none⟩)) rfl (rd_fieldAddr (o := 109) Tryd.underlying35 rfl Tryd.sizeOf33 rfl rfl) ?_
          refine run_rd (v := .agg p.relay.arr) rfl (rd_loadA (j := 0) (u := p.relay.arr) Tryd.isAgg33 Tryd.sizeOf33 rfl (by kernel_rfl) (by kernel_rfl)) ?_
          refine run_rd (v := .agg #[.int .i64 p.newest.a0.kind, .int .i64 p.newest.a0.service, .int .i64 p.newest.a0.group, .int .u64 p.newest.a0.session, .int .u64 p.newest.a0.number, .string p.newest.a0.text, .int .i64 p.newest.a1.kind, .int .i64 p.newest.a1.service, .int .i64 p.newest.a1.group, .int .u64 p.newest.a1.session, .int .u64 p.newest.a1.number, .string p.newest.a1.text, .int .i64 p.newest.b0.kind, .int .i64 p.newest.b0.service, .int .i64 p.newest.b0.group, .int .u64 p.newest.b0.session, .int .u64 p.newest.b0.number, .string p.newest.b0.text, .int .i64 p.newest.b1.kind, .int .i64 p.newest.b1.service, .int .i64 p.newest.b1.group, .int .u64 p.newest.b1.session, .int .u64 p.newest.b1.number, .string p.newest.b1.text, .int .i64 p.newest.c0.kind, .int .i64 p.newest.c0.service, .int .i64 p.newest.c0.group, .int .u64 p.newest.c0.session, .int .u64 p.newest.c0.number, .string p.newest.c0.text, .int .i64 p.newest.c1.kind, .int .i64 p.newest.c1.service, .int .i64 p.newest.c1.group, .int .u64 p.newest.c1.session, .int .u64 p.newest.c1.number, .string p.newest.c1.text, .int .i64 p.older.a0.kind, .int .i64 p.older.a0.service, .int .i64 p.older.a0.group, .int .u64 p.older.a0.session, .int .u64 p.older.a0.number, .string p.older.a0.text, .int .i64 p.older.a1.kind, .int .i64 p.older.a1.service, .int .i64 p.older.a1.group, .int .u64 p.older.a1.session, .int .u64 p.older.a1.number, .string p.older.a1.text, .int .i64 p.older.b0.kind, .int .i64 p.older.b0.service, .int .i64 p.older.b0.group, .int .u64 p.older.b0.session, .int .u64 p.older.b0.number, .string p.older.b0.text, .int .i64 p.older.b1.kind, .int .i64 p.older.b1.service, .int .i64 p.older.b1.group, .int .u64 p.older.b1.session, .int .u64 p.older.b1.number, .string p.older.b1.text, .int .i64 p.older.c0.kind, .int .i64 p.older.c0.service, .int .i64 p.older.c0.group, .int .u64 p.older.c0.session, .int .u64 p.older.c0.number, .string p.older.c0.text, .int .i64 p.older.c1.kind, .int .i64 p.older.c1.service, .int .i64 p.older.c1.group, .int .u64 p.older.c1.session, .int .u64 p.older.c1.number, .string p.older.c1.text, .int .i64 p.relay.a0.kind, .int .i64 p.relay.a0.service, .int .i64 p.relay.a0.group, .int .u64 p.relay.a0.session, .int .u64 p.relay.a0.number, .string p.relay.a0.text, .int .i64 p.relay.a1.kind, .int .i64 p.relay.a1.service, .int .i64 p.relay.a1.group, .int .u64 p.relay.a1.session, .int .u64 p.relay.a1.number, .string p.relay.a1.text, .int .i64 p.relay.b0.kind, .int .i64 p.relay.b0.service, .int .i64 p.relay.b0.group, .int .u64 p.relay.b0.session, .int .u64 p.relay.b0.number, .string p.relay.b0.text, .int .i64 p.relay.b1.kind, .int .i64 p.relay.b1.service, .int .i64 p.relay.b1.group, .int .u64 p.relay.b1.session, .int .u64 p.relay.b1.number, .string p.relay.b1.text, .int .i64 p.relay.c0.kind, .int .i64 p.relay.c0.service, .int .i64 p.relay.c0.group, .int .u64 p.relay.c0.session, .int .u64 p.relay.c0.number, .string p.relay.c0.text, .int .i64 p.relay.c1.kind, .int .i64 p.relay.c1.service, .int .i64 p.relay.c1.group, .int .u64 p.relay.c1.session, .int .u64 p.relay.c1.number, .string p.relay.c1.text]) rfl ((fun w _ => by kernel_rfl)) ?_
          refine run_mv rfl ?_
          refine run_endops ?_
          refine run_block rfl ?_
          refine run_loop rfl ?_
          refine run_again ?_
          refine run_seq rfl ?_
          refine run_region (todo := [0]) rfl rfl ?_
          refine run_rd (v := .bool true) rfl (rd_cmp rfl rfl) ?_
          refine run_endops ?_
          refine run_seq rfl ?_
          refine run_true rfl rfl ?_
          refine run_skip rfl ?_
          refine run_seq rfl ?_
          refine run_block rfl ?_
          refine run_seq rfl ?_
          refine run_region (todo := [0, 1, 2]) rfl rfl ?_
          refine run_rd (v := .agg p.newest.arr) rfl (rd_indexA (m := 0) (u := p.newest.arr) Tryd.underlying70 rfl (by decide) Tryd.isAgg33 Tryd.sizeOf33 (by kernel_rfl)) ?_
          refine run_alloc rfl Tryd.zeroValue33 (fun g2 => ?_)
          refine run_storeW (j := 0) (c' := p.newest.arr) rfl Tryd.sizeOf33 rfl rfl rfl rfl rfl rfl ?_
          refine run_endops ?_
          refine run_seq rfl ?_
          refine run_region (todo := [0, 1, 2]) rfl rfl ?_
          refine run_rd (v := .agg p.newest.arr) rfl (rd_loadW (j := 0) Tryd.isAgg33 Tryd.sizeOf33 rfl rfl) ?_
          refine run_pf0 (v := .int .i64 (okCode p.newest.may)) rfl Tryd.call28 (pf_fcheck p.newest hp.newest) ?_
          refine run_rd (v := .bool ((okCode p.newest.may) != 0)) rfl (rd_cmp rfl rfl) ?_
          refine run_endops ?_
          refine run_if rfl rfl (fun hb5 => ?_) (fun hb5 => ?_)
          · have hb5p := code_bad hb5
            refine run_seq rfl ?_
            refine run_region (todo := [0]) rfl rfl ?_
            refine run_mv rfl ?_
            refine run_endops ?_
            refine run_ret rfl (v := .int .i64 52) (res1 rfl rfl) ?_
            exact congrArg (Value.int .i64) (pk_no (fun h => by obtain ⟨⟨m0, m1, m2, m3⟩, m4, m5, m6⟩ := Pkt.may_iff.1 h; first | omega | simp_all)).symm
          · have hb5p := code_good hb5
            refine run_skip rfl ?_
            refine run_endblock ?_
            refine run_region (todo := [0, 1]) rfl rfl ?_
            refine run_rd (v := .int .i64 1) rfl (rd_add (r := 1) (by decide)) ?_
            refine run_mv rfl ?_
            refine run_endops ?_
            refine run_again ?_
            refine run_seq rfl ?_
            refine run_region (todo := [0]) rfl rfl ?_
            refine run_rd (v := .bool true) rfl (rd_cmp rfl rfl) ?_
            refine run_endops ?_
            refine run_seq rfl ?_
            refine run_true rfl rfl ?_
            refine run_skip rfl ?_
            refine run_seq rfl ?_
            refine run_block rfl ?_
            refine run_seq rfl ?_
            refine run_region (todo := [0, 1, 2]) rfl rfl ?_
            refine run_rd (v := .agg p.older.arr) rfl (rd_indexA (m := 1) (u := p.older.arr) Tryd.underlying70 rfl (by decide) Tryd.isAgg33 Tryd.sizeOf33 (by kernel_rfl)) ?_
            refine run_alloc rfl Tryd.zeroValue33 (fun g3 => ?_)
            refine run_storeW (j := 0) (c' := p.older.arr) rfl Tryd.sizeOf33 rfl rfl rfl rfl rfl rfl ?_
            refine run_endops ?_
            refine run_seq rfl ?_
            refine run_region (todo := [0, 1, 2]) rfl rfl ?_
            refine run_rd (v := .agg p.older.arr) rfl (rd_loadW (j := 0) Tryd.isAgg33 Tryd.sizeOf33 rfl rfl) ?_
            refine run_pf0 (v := .int .i64 (okCode p.older.may)) rfl Tryd.call28 (pf_fcheck p.older hp.older) ?_
            refine run_rd (v := .bool ((okCode p.older.may) != 0)) rfl (rd_cmp rfl rfl) ?_
            refine run_endops ?_
            refine run_if rfl rfl (fun hb6 => ?_) (fun hb6 => ?_)
            · have hb6p := code_bad hb6
              refine run_seq rfl ?_
              refine run_region (todo := [0]) rfl rfl ?_
              refine run_mv rfl ?_
              refine run_endops ?_
              refine run_ret rfl (v := .int .i64 52) (res1 rfl rfl) ?_
              exact congrArg (Value.int .i64) (pk_no (fun h => by obtain ⟨⟨m0, m1, m2, m3⟩, m4, m5, m6⟩ := Pkt.may_iff.1 h; first | omega | simp_all)).symm
            · have hb6p := code_good hb6
              refine run_skip rfl ?_
              refine run_endblock ?_
              refine run_region (todo := [0, 1]) rfl rfl ?_
              refine run_rd (v := .int .i64 2) rfl (rd_add (r := 2) (by decide)) ?_
              refine run_mv rfl ?_
              refine run_endops ?_
              refine run_again ?_
              refine run_seq rfl ?_
              refine run_region (todo := [0]) rfl rfl ?_
              refine run_rd (v := .bool true) rfl (rd_cmp rfl rfl) ?_
              refine run_endops ?_
              refine run_seq rfl ?_
              refine run_true rfl rfl ?_
              refine run_skip rfl ?_
              refine run_seq rfl ?_
              refine run_block rfl ?_
              refine run_seq rfl ?_
              refine run_region (todo := [0, 1, 2]) rfl rfl ?_
              refine run_rd (v := .agg p.relay.arr) rfl (rd_indexA (m := 2) (u := p.relay.arr) Tryd.underlying70 rfl (by decide) Tryd.isAgg33 Tryd.sizeOf33 (by kernel_rfl)) ?_
              refine run_alloc rfl Tryd.zeroValue33 (fun g4 => ?_)
              refine run_storeW (j := 0) (c' := p.relay.arr) rfl Tryd.sizeOf33 rfl rfl rfl rfl rfl rfl ?_
              refine run_endops ?_
              refine run_seq rfl ?_
              refine run_region (todo := [0, 1, 2]) rfl rfl ?_
              refine run_rd (v := .agg p.relay.arr) rfl (rd_loadW (j := 0) Tryd.isAgg33 Tryd.sizeOf33 rfl rfl) ?_
              refine run_pf0 (v := .int .i64 (okCode p.relay.may)) rfl Tryd.call28 (pf_fcheck p.relay hp.relay) ?_
              refine run_rd (v := .bool ((okCode p.relay.may) != 0)) rfl (rd_cmp rfl rfl) ?_
              refine run_endops ?_
              refine run_if rfl rfl (fun hb7 => ?_) (fun hb7 => ?_)
              · have hb7p := code_bad hb7
                refine run_seq rfl ?_
                refine run_region (todo := [0]) rfl rfl ?_
                refine run_mv rfl ?_
                refine run_endops ?_
                refine run_ret rfl (v := .int .i64 52) (res1 rfl rfl) ?_
                exact congrArg (Value.int .i64) (pk_no (fun h => by obtain ⟨⟨m0, m1, m2, m3⟩, m4, m5, m6⟩ := Pkt.may_iff.1 h; first | omega | simp_all)).symm
              · have hb7p := code_good hb7
                refine run_skip rfl ?_
                refine run_endblock ?_
                refine run_region (todo := [0, 1]) rfl rfl ?_
                refine run_rd (v := .int .i64 3) rfl (rd_add (r := 3) (by decide)) ?_
                refine run_mv rfl ?_
                refine run_endops ?_
                refine run_again ?_
                refine run_seq rfl ?_
                refine run_region (todo := [0]) rfl rfl ?_
                refine run_rd (v := .bool false) rfl (rd_cmp rfl rfl) ?_
                refine run_endops ?_
                refine run_seq rfl ?_
                refine run_false rfl rfl ?_
                refine run_exit rfl rfl ?_
                refine run_seq rfl ?_
                refine run_region (todo := [0]) rfl rfl ?_
                refine run_mv rfl ?_
                refine run_endops ?_
                refine run_ret rfl (v := .int .i64 0) (res1 rfl rfl) ?_
                exact congrArg (Value.int .i64) (pk_yes (Pkt.may_iff.2 ⟨⟨by omega, by omega, by omega, by omega⟩, hb5p, hb6p, hb7p⟩)).symm

theorem pf_rpcheck (p : Pkt) (hp : p.Fit) : Pf Tryd.prog 13 #[p.val] (.int .i64 (pkCode p.may)) := by
  refine pf_of_run Tryd.func13 rfl rfl (fun w0 => ?_)
  refine run_seq rfl ?_
  refine run_region (todo := [0, 1]) rfl rfl ?_
  refine run_box rfl (fun g1 => ?_)
  refine run_mv rfl ?_
  refine run_endops ?_
  refine run_seq rfl ?_
  refine run_seq rfl ?_
  rcases Bool.eq_false_or_eq_true (decide (p.src > 7)) with hb1 | hb1
  · have hb1p := of_decide_eq_true hb1
    refine run_region (todo := [0, 1, 2, 3, 4, 5, 6, 7, 8, 9, 10, 11, 12, 13, 14, 15, 16, 17, 18, 19]) rfl rfl ?_
    refine run_rd (v := .pointer (some ⟨g1, 0, none⟩)) rfl (rd_fieldAddr (o := 0) Tryd.underlying35 rfl Tryd.sizeOf22 rfl rfl) ?_
    refine run_rd (v := .int .u32 p.src) rfl (rd_load (j := 0) (v := .int .u32 p.src) Tryd.isAgg22 rfl (by kernel_rfl)) ?_
    refine run_rd (v := .bool true) rfl (rd_cmp rfl hb1) ?_
    refine run_mv rfl ?_
    refine run_skipped rfl ?_
    refine run_skipped rfl ?_
    refine run_skipped rfl ?_
    refine run_pick (v := .bool true) rfl rfl ?_
    refine run_mv rfl ?_
    refine run_skipped rfl ?_
    refine run_skipped rfl ?_
    refine run_skipped rfl ?_
    refine run_skipped rfl ?_
    refine run_pick (v := .bool true) rfl rfl ?_
    refine run_mv rfl ?_
    refine run_skipped rfl ?_
    refine run_skipped rfl ?_
    refine run_skipped rfl ?_
    refine run_skipped rfl ?_
    refine run_pick (v := .bool true) rfl rfl ?_
    refine run_endops ?_
    refine run_true rfl rfl ?_
    refine run_seq rfl ?_
    refine run_region (todo := [0]) rfl rfl ?_
    refine run_mv rfl ?_
    refine run_endops ?_
    refine run_ret rfl (v := .int .i64 52) (res1 rfl rfl) ?_
    exact congrArg (Value.int .i64) (pk_no (fun h => by obtain ⟨⟨m0, m1, m2, m3⟩, m4, m5, m6⟩ := Pkt.may_iff.1 h; first | omega | simp_all)).symm
  · have hb1p := of_decide_eq_false hb1
    rcases Bool.eq_false_or_eq_true (decide (p.relayOf > 7)) with hb2 | hb2
    · have hb2p := of_decide_eq_true hb2
      refine run_region (todo := [0, 1, 2, 3, 4, 5, 6, 7, 8, 9, 10, 11, 12, 13, 14, 15, 16, 17, 18, 19]) rfl rfl ?_
      refine run_rd (v := .pointer (some ⟨g1, 0, none⟩)) rfl (rd_fieldAddr (o := 0) Tryd.underlying35 rfl Tryd.sizeOf22 rfl rfl) ?_
      refine run_rd (v := .int .u32 p.src) rfl (rd_load (j := 0) (v := .int .u32 p.src) Tryd.isAgg22 rfl (by kernel_rfl)) ?_
      refine run_rd (v := .bool false) rfl (rd_cmp rfl hb1) ?_
      refine run_mv rfl ?_
      refine run_rdG (v := .pointer (some ⟨g1, 107, none⟩)) rfl (rd_fieldAddr (o := 107) Tryd.underlying35 rfl Tryd.sizeOf22 rfl rfl) ?_
      refine run_rdG (v := .int .u32 p.relayOf) rfl (rd_load (j := 0) (v := .int .u32 p.relayOf) Tryd.isAgg22 rfl (by kernel_rfl)) ?_
      refine run_rdG (v := .bool true) rfl (rd_cmp rfl hb2) ?_
      refine run_pick (v := .bool true) rfl rfl ?_
      refine run_mv rfl ?_
      refine run_skipped rfl ?_
      refine run_skipped rfl ?_
      refine run_skipped rfl ?_
      refine run_skipped rfl ?_
      refine run_pick (v := .bool true) rfl rfl ?_
      refine run_mv rfl ?_
      refine run_skipped rfl ?_
      refine run_skipped rfl ?_
      refine run_skipped rfl ?_
      refine run_skipped rfl ?_
      refine run_pick (v := .bool true) rfl rfl ?_
      refine run_endops ?_
      refine run_true rfl rfl ?_
      refine run_seq rfl ?_
      refine run_region (todo := [0]) rfl rfl ?_
      refine run_mv rfl ?_
      refine run_endops ?_
      refine run_ret rfl (v := .int .i64 52) (res1 rfl rfl) ?_
      exact congrArg (Value.int .i64) (pk_no (fun h => by obtain ⟨⟨m0, m1, m2, m3⟩, m4, m5, m6⟩ := Pkt.may_iff.1 h; first | omega | simp_all)).symm
    · have hb2p := of_decide_eq_false hb2
      rcases Bool.eq_false_or_eq_true (decide (p.conf.coord > 7)) with hb3 | hb3
      · have hb3p := of_decide_eq_true hb3
        refine run_region (todo := [0, 1, 2, 3, 4, 5, 6, 7, 8, 9, 10, 11, 12, 13, 14, 15, 16, 17, 18, 19]) rfl rfl ?_
        refine run_rd (v := .pointer (some ⟨g1, 0, none⟩)) rfl (rd_fieldAddr (o := 0) Tryd.underlying35 rfl Tryd.sizeOf22 rfl rfl) ?_
        refine run_rd (v := .int .u32 p.src) rfl (rd_load (j := 0) (v := .int .u32 p.src) Tryd.isAgg22 rfl (by kernel_rfl)) ?_
        refine run_rd (v := .bool false) rfl (rd_cmp rfl hb1) ?_
        refine run_mv rfl ?_
        refine run_rdG (v := .pointer (some ⟨g1, 107, none⟩)) rfl (rd_fieldAddr (o := 107) Tryd.underlying35 rfl Tryd.sizeOf22 rfl rfl) ?_
        refine run_rdG (v := .int .u32 p.relayOf) rfl (rd_load (j := 0) (v := .int .u32 p.relayOf) Tryd.isAgg22 rfl (by kernel_rfl)) ?_
        refine run_rdG (v := .bool false) rfl (rd_cmp rfl hb2) ?_
        refine run_pick (v := .bool false) rfl rfl ?_
        refine run_mv rfl ?_
        refine run_rdG (v := .pointer (some ⟨g1, 2, none⟩)) rfl (rd_fieldAddr (o := 2) Tryd.underlying35 rfl Tryd.sizeOf24 rfl rfl) ?_
        refine run_rdG (v := .pointer (some ⟨g1, 3, none⟩)) rfl (rd_fieldAddr (o := 3) Tryd.underlying24 rfl Tryd.sizeOf22 rfl rfl) ?_
        refine run_rdG (v := .int .u32 p.conf.coord) rfl (rd_load (j := 0) (v := .int .u32 p.conf.coord) Tryd.isAgg22 rfl (by kernel_rfl)) ?_
        refine run_rdG (v := .bool true) rfl (rd_cmp rfl hb3) ?_
        refine run_pick (v := .bool true) rfl rfl ?_
        refine run_mv rfl ?_
        refine run_skipped rfl ?_
        refine run_skipped rfl ?_
        refine run_skipped rfl ?_
        refine run_skipped rfl ?_
        refine run_pick (v := .bool true) rfl rfl ?_
        refine run_endops ?_
        refine run_true rfl rfl ?_
        refine run_seq rfl ?_
        refine run_region (todo := [0]) rfl rfl ?_
        refine run_mv rfl ?_
        refine run_endops ?_
        refine run_ret rfl (v := .int .i64 52) (res1 rfl rfl) ?_
        exact congrArg (Value.int .i64) (pk_no (fun h => by obtain ⟨⟨m0, m1, m2, m3⟩, m4, m5, m6⟩ := Pkt.may_iff.1 h; first | omega | simp_all)).symm
      · have hb3p := of_decide_eq_false hb3
        refine run_region (todo := [0, 1, 2, 3, 4, 5, 6, 7, 8, 9, 10, 11, 12, 13, 14, 15, 16, 17, 18, 19]) rfl rfl ?_
        refine run_rd (v := .pointer (some ⟨g1, 0, none⟩)) rfl (rd_fieldAddr (o := 0) Tryd.underlying35 rfl Tryd.sizeOf22 rfl rfl) ?_
        refine run_rd (v := .int .u32 p.src) rfl (rd_load (j := 0) (v := .int .u32 p.src) Tryd.isAgg22 rfl (by kernel_rfl)) ?_
        refine run_rd (v := .bool false) rfl (rd_cmp rfl hb1) ?_
        refine run_mv rfl ?_
        refine run_rdG (v := .pointer (some ⟨g1, 107, none⟩)) rfl (rd_fieldAddr (o := 107) Tryd.underlying35 rfl Tryd.sizeOf22 rfl rfl) ?_
        refine run_rdG (v := .int .u32 p.relayOf) rfl (rd_load (j := 0) (v := .int .u32 p.relayOf) Tryd.isAgg22 rfl (by kernel_rfl)) ?_
        refine run_rdG (v := .bool false) rfl (rd_cmp rfl hb2) ?_
        refine run_pick (v := .bool false) rfl rfl ?_
        refine run_mv rfl ?_
        refine run_rdG (v := .pointer (some ⟨g1, 2, none⟩)) rfl (rd_fieldAddr (o := 2) Tryd.underlying35 rfl Tryd.sizeOf24 rfl rfl) ?_
        refine run_rdG (v := .pointer (some ⟨g1, 3, none⟩)) rfl (rd_fieldAddr (o := 3) Tryd.underlying24 rfl Tryd.sizeOf22 rfl rfl) ?_
        refine run_rdG (v := .int .u32 p.conf.coord) rfl (rd_load (j := 0) (v := .int .u32 p.conf.coord) Tryd.isAgg22 rfl (by kernel_rfl)) ?_
        refine run_rdG (v := .bool false) rfl (rd_cmp rfl hb3) ?_
        refine run_pick (v := .bool false) rfl rfl ?_
        refine run_mv rfl ?_
        refine run_rdG (v := .pointer (some ⟨g1, 21, none⟩)) rfl (rd_fieldAddr (o := 21) Tryd.underlying35 rfl Tryd.sizeOf24 rfl rfl) ?_
        refine run_rdG (v := .pointer (some ⟨g1, 22, none⟩)) rfl (rd_fieldAddr (o := 22) Tryd.underlying24 rfl Tryd.sizeOf22 rfl rfl) ?_
        refine run_rdG (v := .int .u32 p.promise.coord) rfl (rd_load (j := 0) (v := .int .u32 p.promise.coord) Tryd.isAgg22 rfl (by kernel_rfl)) ?_
        refine run_rdG (v := .bool (decide (p.promise.coord > 7))) rfl (rd_cmp rfl rfl) ?_
        refine run_pick (v := .bool (decide (p.promise.coord > 7))) rfl rfl ?_
        refine run_endops ?_
        refine run_if rfl rfl (fun hb4 => ?_) (fun hb4 => ?_)
        · have hb4p := of_decide_eq_true hb4
          refine run_seq rfl ?_
          refine run_region (todo := [0]) rfl rfl ?_
          refine run_mv rfl ?_
          refine run_endops ?_
          refine run_ret rfl (v := .int .i64 52) (res1 rfl rfl) ?_
          exact congrArg (Value.int .i64) (pk_no (fun h => by obtain ⟨⟨m0, m1, m2, m3⟩, m4, m5, m6⟩ := Pkt.may_iff.1 h; first | omega | simp_all)).symm
        · have hb4p := of_decide_eq_false hb4
          refine run_skip rfl ?_
          refine run_seq rfl ?_
          refine run_seq rfl ?_
          rcases Bool.eq_false_or_eq_true ((okCode p.newest.may) != 0) with hb5 | hb5
          · have hb5p := code_bad hb5
            refine run_region (todo := [0, 1, 2, 3, 4, 5, 6, 7, 8, 9, 10, 11, 12, 13, 14, 15]) rfl rfl ?_
            refine run_rd (v := .pointer (some ⟨g1, 35, none⟩)) rfl (rd_fieldAddr (o := 35) Tryd.underlying35 rfl Tryd.sizeOf33 rfl rfl) ?_
            refine run_rd (v := .agg p.newest.arr) rfl (rd_loadA (j := 0) (u := p.newest.arr) Tryd.isAgg33 Tryd.sizeOf33 rfl (by kernel_rfl) (by kernel_rfl)) ?_
            refine run_pf0 (v := .int .i64 (okCode p.newest.may)) rfl Tryd.call29 (pf_rfcheck p.newest hp.newest) ?_
            refine run_rd (v := .bool true) rfl (rd_cmp rfl hb5) ?_
            refine run_mv rfl ?_
            refine run_skipped rfl ?_
            refine run_skipped rfl ?_
            refine run_skipped rfl ?_
            refine run_skipped rfl ?_
            refine run_pick (v := .bool true) rfl rfl ?_
            refine run_mv rfl ?_
            refine run_skipped rfl ?_
            refine run_skipped rfl ?_
            refine run_skipped rfl ?_
            refine run_skipped rfl ?_
            refine run_pick (v := .bool true) rfl rfl ?_
            refine run_endops ?_
            refine run_true rfl rfl ?_
            refine run_seq rfl ?_
            refine run_region (todo := [0]) rfl rfl ?_
            refine run_mv rfl ?_
            refine run_endops ?_
            refine run_ret rfl (v := .int .i64 52) (res1 rfl rfl) ?_
            exact congrArg (Value.int .i64) (pk_no (fun h => by obtain ⟨⟨m0, m1, m2, m3⟩, m4, m5, m6⟩ := Pkt.may_iff.1 h; first | omega | simp_all)).symm
          · have hb5p := code_good hb5
            rcases Bool.eq_false_or_eq_true ((okCode p.older.may) != 0) with hb6 | hb6
            · have hb6p := code_bad hb6
              refine run_region (todo := [0, 1, 2, 3, 4, 5, 6, 7, 8, 9, 10, 11, 12, 13, 14, 15]) rfl rfl ?_
              refine run_rd (v := .pointer (some ⟨g1, 35, none⟩)) rfl (rd_fieldAddr (o := 35) Tryd.underlying35 rfl Tryd.sizeOf33 rfl rfl) ?_
              refine run_rd (v := .agg p.newest.arr) rfl (rd_loadA (j := 0) (u := p.newest.arr) Tryd.isAgg33 Tryd.sizeOf33 rfl (by kernel_rfl) (by kernel_rfl)) ?_
              refine run_pf0 (v := .int .i64 (okCode p.newest.may)) rfl Tryd.call29 (pf_rfcheck p.newest hp.newest) ?_
              refine run_rd (v := .bool false) rfl (rd_cmp rfl hb5) ?_
              refine run_mv rfl ?_
              refine run_rdG (v := .pointer (some ⟨g1, 71, none⟩)) rfl (rd_fieldAddr (o := 71) Tryd.underlying35 rfl Tryd.sizeOf33 rfl rfl) ?_
              refine run_rdG (v := .agg p.older.arr) rfl (rd_loadA (j := 0) (u := p.older.arr) Tryd.isAgg33 Tryd.sizeOf33 rfl (by kernel_rfl) (by kernel_rfl)) ?_
              refine run_pf0G (v := .int .i64 (okCode p.older.may)) rfl Tryd.call29 (pf_rfcheck p.older hp.older) ?_
              refine run_rdG (v := .bool true) rfl (rd_cmp rfl hb6) ?_
              refine run_pick (v := .bool true) rfl rfl ?_
              refine run_mv rfl ?_
              refine run_skipped rfl ?_
              refine run_skipped rfl ?_
              refine run_skipped rfl ?_
              refine run_skipped rfl ?_
              refine run_pick (v := .bool true) rfl rfl ?_
              refine run_endops ?_
              refine run_true rfl rfl ?_
              refine run_seq rfl ?_
              refine run_region (todo := [0]) rfl rfl ?_
              refine run_mv rfl ?_
              refine run_endops ?_
              refine run_ret rfl (v := .int .i64 52) (res1 rfl rfl) ?_
              exact congrArg (Value.int .i64) (pk_no (fun h => by obtain ⟨⟨m0, m1, m2, m3⟩, m4, m5, m6⟩ := Pkt.may_iff.1 h; first | omega | simp_all)).symm
            · have hb6p := code_good hb6
              refine run_region (todo := [0, 1, 2, 3, 4, 5, 6, 7, 8, 9, 10, 11, 12, 13, 14, 15]) rfl rfl ?_
              refine run_rd (v := .pointer (some ⟨g1, 35, none⟩)) rfl (rd_fieldAddr (o := 35) Tryd.underlying35 rfl Tryd.sizeOf33 rfl rfl) ?_
              refine run_rd (v := .agg p.newest.arr) rfl (rd_loadA (j := 0) (u := p.newest.arr) Tryd.isAgg33 Tryd.sizeOf33 rfl (by kernel_rfl) (by kernel_rfl)) ?_
              refine run_pf0 (v := .int .i64 (okCode p.newest.may)) rfl Tryd.call29 (pf_rfcheck p.newest hp.newest) ?_
              refine run_rd (v := .bool false) rfl (rd_cmp rfl hb5) ?_
              refine run_mv rfl ?_
              refine run_rdG (v := .pointer (some ⟨g1, 71, none⟩)) rfl (rd_fieldAddr (o := 71) Tryd.underlying35 rfl Tryd.sizeOf33 rfl rfl) ?_
              refine run_rdG (v := .agg p.older.arr) rfl (rd_loadA (j := 0) (u := p.older.arr) Tryd.isAgg33 Tryd.sizeOf33 rfl (by kernel_rfl) (by kernel_rfl)) ?_
              refine run_pf0G (v := .int .i64 (okCode p.older.may)) rfl Tryd.call29 (pf_rfcheck p.older hp.older) ?_
              refine run_rdG (v := .bool false) rfl (rd_cmp rfl hb6) ?_
              refine run_pick (v := .bool false) rfl rfl ?_
              refine run_mv rfl ?_
              refine run_rdG (v := .pointer (some ⟨g1, 109, none⟩)) rfl (rd_fieldAddr (o := 109) Tryd.underlying35 rfl Tryd.sizeOf33 rfl rfl) ?_
              refine run_rdG (v := .agg p.relay.arr) rfl (rd_loadA (j := 0) (u := p.relay.arr) Tryd.isAgg33 Tryd.sizeOf33 rfl (by kernel_rfl) (by kernel_rfl)) ?_
              refine run_pf0G (v := .int .i64 (okCode p.relay.may)) rfl Tryd.call29 (pf_rfcheck p.relay hp.relay) ?_
              refine run_rdG (v := .bool ((okCode p.relay.may) != 0)) rfl (rd_cmp rfl rfl) ?_
              refine run_pick (v := .bool ((okCode p.relay.may) != 0)) rfl rfl ?_
              refine run_endops ?_
              refine run_if rfl rfl (fun hb7 => ?_) (fun hb7 => ?_)
              · have hb7p := code_bad hb7
                refine run_seq rfl ?_
                refine run_region (todo := [0]) rfl rfl ?_
                refine run_mv rfl ?_
                refine run_endops ?_
                refine run_ret rfl (v := .int .i64 52) (res1 rfl rfl) ?_
                exact congrArg (Value.int .i64) (pk_no (fun h => by obtain ⟨⟨m0, m1, m2, m3⟩, m4, m5, m6⟩ := Pkt.may_iff.1 h; first | omega | simp_all)).symm
              · have hb7p := code_good hb7
                refine run_skip rfl ?_
                refine run_seq rfl ?_
                refine run_region (todo := [0]) rfl rfl ?_
                refine run_mv rfl ?_
                refine run_endops ?_
                refine run_ret rfl (v := .int .i64 0) (res1 rfl rfl) ?_
                exact congrArg (Value.int .i64) (pk_yes (Pkt.may_iff.2 ⟨⟨by omega, by omega, by omega, by omega⟩, hb5p, hb6p, hb7p⟩)).symm

theorem flat_put_le (k : Nat) : ∀ ns : List Int, (ns.flatMap (putI k)).length ≤ k * ns.length
  | [] => by simp
  | n :: ns => by
    have := flat_put_le k ns
    rw [List.flatMap_cons, List.length_append, putI, put_length, List.length_cons, Nat.mul_succ]
    omega
theorem flat_enc_le : ∀ fs : List Fr, (fs.flatMap Fr.enc).length ≤ 168 * fs.length
  | [] => by simp
  | f :: fs => by
    have := flat_enc_le fs
    have h : f.enc.length ≤ 168 := by
      unfold Fr.enc
      split
      · rename_i h; exact Nat.le_of_eq (Fr.bytes_length h)
      · exact Nat.zero_le _
    rw [List.flatMap_cons, List.length_append, List.length_cons, Nat.mul_succ]
    omega
theorem wput {w0 : World} {F : Hp} {g cap : Nat} {A : Option Addr} (p : Option Addr) (hp : p = none ∨ p = some ⟨g, 0, none⟩) (l : List UInt8) (ns : List Int) (hns : ∀ n ∈ ns, U32 n) (hne : ns ≠ []) (A2 : Option Addr) (c k : Nat) (hk1 : 1 ≤ k) (hk8 : k ≤ 8) (hK : Know w0 F A2 ((encI .u32).row ns)) (hb : l.length + k * ns.length ≤ 140737488355000) : FnH Tryd.prog 21 #[.pointer (some ⟨g, 0, none⟩), .int .i64 (k : Int), .slice A2 ns.length c] w0 (wbld g p A cap l.length (Lib.strCells (bs l)) ++ F) (fun v H' => v = .tuple #[] ∧ ∃ A' cap', H' = wbld g (some ⟨g, 0, none⟩) A' cap' (l ++ ns.flatMap (putI k)).length (Lib.strCells (bs (l ++ ns.flatMap (putI k)))) ++ F) := by
  have hnl : ns.length ≤ k * ns.length := Nat.le_mul_of_pos_left _ (by omega)
  refine fnH_of_run Tryd.func21 rfl rfl ?_
  refine run_seq rfl ?_
  refine run_region (todo := [0, 1, 2]) rfl rfl ?_
  refine run_mv rfl ?_
  refine run_rd (v := .int .i64 ((ns.length : Nat) : Int)) rfl (rd_len Tryd.underlying64) ?_
  refine run_mv rfl ?_
  refine run_endops ?_
  refine run_block rfl ?_
  refine run_loop rfl ?_
  refine run_ind5 (fun (j : Nat) (m : List UInt8) (A1 : Option Addr) (c1 : Nat) (q : Option Addr) => ns.length - j) (fun (j : Nat) (m : List UInt8) (A1 : Option Addr) (c1 : Nat) (q : Option Addr) => [(0, .pointer (some ⟨g, 0, none⟩)), (1, .int .i64 (k : Int)), (8, .slice A2 ns.length c), (9, .int .i64 ((ns.length : Nat) : Int)), (10, .int .i64 (j : Int))]) (fun (j : Nat) (m : List UInt8) (A1 : Option Addr) (c1 : Nat) (q : Option Addr) => [.blk g (.cells #[.pointer q, .slice A1 m.length c1] 61), .row A1 c1 5 1 m.length (Lib.strCells (bs m))] ++ F) (fun (j : Nat) (m : List UInt8) (A1 : Option Addr) (c1 : Nat) (q : Option Addr) => j ≤ ns.length ∧ m = l ++ (ns.take j).flatMap (putI k) ∧ (q = none ∨ q = some ⟨g, 0, none⟩) ∧ (0 < j → q = some ⟨g, 0, none⟩)) 0 l A cap p ⟨Nat.zero_le _, by simp, hp, fun h => absurd h (by decide)⟩ (List.range _) ⟨rfl, rfl, rfl, rfl, rfl, trivial⟩ (hpsub_refl _) List.nodup_range (fun j m A1 c1 q hI ih1 => ?_)
  obtain ⟨hj0, hm, hqq, hq0⟩ := hI
  have hml : m.length ≤ l.length + k * ns.length := by rw [hm, List.length_append]; exact Nat.add_le_add_left (Nat.le_trans (flat_put_le k _) (Nat.mul_le_mul_left _ (by rw [List.length_take]; omega))) _
  refine run_again ?_
  refine run_seq rfl ?_
  refine run_region (todo := [0]) rfl rfl ?_
  refine run_rd (v := .bool (decide ((j : Int) < ((ns.length : Nat) : Int)))) rfl (rd_cmp rfl rfl) ?_
  refine run_endops ?_
  refine run_seq rfl ?_
  refine run_if rfl rfl (fun hb1 => ?_) (fun hb1 => ?_)
  · have hj : j < ns.length := by have := of_decide_eq_true hb1; omega
    obtain ⟨n, hn⟩ := item_at hj
    refine run_skip rfl ?_
    refine run_seq rfl ?_
    refine run_block rfl ?_
    refine run_seq rfl ?_
    refine run_region (todo := [0, 1, 2]) rfl rfl ?_
    refine run_rd (v := .pointer (elemAddr A2 (j * 1))) rfl (rd_elem (m := j) (o := j * 1) (know_app hK) Tryd.underlying64 Tryd.sizeOf22 rfl (lt_of_item hn rfl) (Nat.lt_of_lt_of_le (m := j * 1 + 1) (by omega) (row_lt (E := (encI .u32)) hn)) rfl) ?_
    refine run_rd (v := .int .u32 n) rfl (rd_elemLoad (v := .int .u32 n) (know_app hK) Tryd.isAgg22 (row_at (E := (encI .u32)) (j := 0) hn (by decide))) ?_
    refine run_mv rfl ?_
    refine run_endops ?_
    refine run_par' rfl (by kernel_rfl) (.val [] (fun _ => .pointer (some ⟨g, 0, none⟩)) :: .val [] (fun _ => .pointer (some ⟨g, 0, none⟩)) :: .val [] (fun _ => .pointer (some ⟨g, 0, none⟩)) :: .val [] (fun _ => .int .u32 n) :: .val [] (fun _ => .int .u64 ((n.toNat : Nat) : Int)) :: .val [] (fun _ => .int .i64 (k : Int)) :: .val [] (fun _ => .string (bs (put n.toNat k))) :: []) (⟨[], [], []⟩ :: ⟨[0], [], []⟩ :: ⟨[1], [], []⟩ :: ⟨[], [], []⟩ :: ⟨[3], [], []⟩ :: ⟨[], [], []⟩ :: ⟨[4, 5], [], []⟩ :: []) [(0, .pointer (some ⟨g, 0, none⟩)), (1, .int .i64 (k : Int)), (7, .int .u32 n)] (by kernel_rfl) (by kernel_rfl) ⟨rfl, rfl, rfl, trivial⟩ ⟨trivial, trivial, trivial, trivial, trivial, trivial, trivial, trivial⟩ ?_ (fun V hs hq => ?_)
    · refine ⟨fun V hs hB => ob_mv rfl rfl, ?_⟩
      refine ⟨fun V hs hB => ob_mv rfl rfl, ?_⟩
      refine ⟨fun V hs hB => ob_rd rfl rfl (rd_fieldAddr (o := 0) Tryd.underlying61 rfl Tryd.sizeOf59 rfl rfl), ?_⟩
      refine ⟨fun V hs hB => ob_mv rfl rfl, ?_⟩
      refine ⟨fun V hs hB => ob_rd rfl rfl (rd_toInt Tryd.underlying22 Tryd.underlying28 (wrap_u64U (hns n (List.mem_of_getElem? hn)))), ?_⟩
      refine ⟨fun V hs hB => ob_mv rfl rfl, ?_⟩
      refine ⟨fun V hs hB => ob_pf rfl rfl Tryd.call43 (fun w _ => (pf_put (n := n.toNat) hk1 hk8 (u32_n64 (hns n (List.mem_of_getElem? hn)))) w), ?_⟩
      trivial
    rw [show relsOf _ = [] from by kernel_rfl]
    simp only [List.flatMap_nil, List.nil_append]
    refine any_one (i := 7) (by kernel_rfl) ?_
    refine ro_callH rfl Tryd.call42 (wwriteL (F := F) (g := g) (cap := c1) (A := A1) q hqq m (put n.toNat k) (by rw [put_length]; omega)) (fun v H' hq => ?_)
    obtain ⟨rfl, Ag1, cg1, rfl⟩ := hq
    refine any_end (by kernel_rfl) ?_
    refine run_lessE (ρ' := [(0, .pointer (some ⟨g, 0, none⟩)), (1, .int .i64 (k : Int)), (7, .int .u32 n), (8, .slice A2 ns.length c), (9, .int .i64 ((ns.length : Nat) : Int)), (10, .int .i64 (j : Int)), (11, .bool (decide ((j : Int) < ((ns.length : Nat) : Int)))), (12, .pointer (elemAddr A2 (j * 1))), (13, .int .u32 n), (14, .pointer (some ⟨g, 0, none⟩)), (15, .pointer (some ⟨g, 0, none⟩)), (16, .pointer (some ⟨g, 0, none⟩)), (17, .int .u32 n), (18, .int .u64 ((n.toNat : Nat) : Int)), (19, .int .i64 (k : Int)), (20, .string (bs (put n.toNat k)))]) ?_ ⟨rfl, rfl, rfl, rfl, rfl, rfl, rfl, rfl, rfl, rfl, rfl, rfl, rfl, rfl, rfl, rfl, trivial⟩
    refine run_endblock ?_
    refine run_region (todo := [0, 1]) rfl rfl ?_
    refine run_rd (v := .int .i64 ((j : Int) + 1)) rfl (rd_add (r := (j : Int) + 1) (IntWalk.i64_in _ (by omega))) ?_
    refine run_mv rfl ?_
    refine run_endops ?_
    exact run_lessE (ih1 (j + 1) (m ++ (put n.toNat k)) Ag1 cg1 (some ⟨g, 0, none⟩) ⟨hj, by rw [hm, take_oneA hn, List.flatMap_append, List.append_assoc]; simp [putI], .inr rfl, fun _ => rfl⟩ (by omega)) ⟨rfl, rfl, rfl, rfl, rfl, trivial⟩
  · have hje : j = ns.length := by have := of_decide_eq_false hb1; omega
    refine run_exit rfl rfl ?_
    refine run_fall (v := .tuple #[]) (res0 rfl) ?_
    have hqs := hq0 (by rw [hje]; exact List.length_pos_iff.2 hne)
    subst hqs
    rw [hje, List.take_of_length_le (Nat.le_refl _)] at hm
    subst hm
    exact ⟨rfl, A1, c1, rfl⟩

theorem fenc_le (f : Fr) : f.enc.length ≤ 168 := by
  have := flat_enc_le [f]
  simpa using this
theorem wframes {w0 : World} {F : Hp} {g cap : Nat} {A : Option Addr} (p : Option Addr) (hp : p = none ∨ p = some ⟨g, 0, none⟩) (l : List UInt8) (ns : List Fr) (hns : ∀ f ∈ ns, f.Ok) (hne : ns ≠ []) (A2 : Option Addr) (c : Nat) (hK : Know w0 F A2 (encF.row ns)) (hb : l.length + 168 * ns.length ≤ 140737488355000) : FnH Tryd.prog 24 #[.pointer (some ⟨g, 0, none⟩), .slice A2 ns.length c] w0 (wbld g p A cap l.length (Lib.strCells (bs l)) ++ F) (fun v H' => v = .tuple #[] ∧ ∃ A' cap', H' = wbld g (some ⟨g, 0, none⟩) A' cap' (l ++ ns.flatMap Fr.enc).length (Lib.strCells (bs (l ++ ns.flatMap Fr.enc))) ++ F) := by
  refine fnH_of_run Tryd.func24 rfl rfl ?_
  refine run_seq rfl ?_
  refine run_region (todo := [0, 1, 2]) rfl rfl ?_
  refine run_mv rfl ?_
  refine run_rd (v := .int .i64 ((ns.length : Nat) : Int)) rfl (rd_len Tryd.underlying91) ?_
  refine run_mv rfl ?_
  refine run_endops ?_
  refine run_block rfl ?_
  refine run_loop rfl ?_
  refine run_ind5 (fun (j : Nat) (m : List UInt8) (A1 : Option Addr) (c1 : Nat) (q : Option Addr) => ns.length - j) (fun (j : Nat) (m : List UInt8) (A1 : Option Addr) (c1 : Nat) (q : Option Addr) => [(0, .pointer (some ⟨g, 0, none⟩)), (8, .slice A2 ns.length c), (9, .int .i64 ((ns.length : Nat) : Int)), (10, .int .i64 (j : Int))]) (fun (j : Nat) (m : List UInt8) (A1 : Option Addr) (c1 : Nat) (q : Option Addr) => [.blk g (.cells #[.pointer q, .slice A1 m.length c1] 61), .row A1 c1 5 1 m.length (Lib.strCells (bs m))] ++ F) (fun (j : Nat) (m : List UInt8) (A1 : Option Addr) (c1 : Nat) (q : Option Addr) => j ≤ ns.length ∧ m = l ++ (ns.take j).flatMap Fr.enc ∧ (q = none ∨ q = some ⟨g, 0, none⟩) ∧ (0 < j → q = some ⟨g, 0, none⟩)) 0 l A cap p ⟨Nat.zero_le _, by simp, hp, fun h => absurd h (by decide)⟩ (List.range _) ⟨rfl, rfl, rfl, rfl, trivial⟩ (hpsub_refl _) List.nodup_range (fun j m A1 c1 q hI ih1 => ?_)
  obtain ⟨hj0, hm, hqq, hq0⟩ := hI
  have hml : m.length ≤ l.length + 168 * ns.length := by rw [hm, List.length_append]; exact Nat.add_le_add_left (Nat.le_trans (flat_enc_le _) (Nat.mul_le_mul_left _ (by rw [List.length_take]; omega))) _
  refine run_again ?_
  refine run_seq rfl ?_
  refine run_region (todo := [0]) rfl rfl ?_
  refine run_rd (v := .bool (decide ((j : Int) < ((ns.length : Nat) : Int)))) rfl (rd_cmp rfl rfl) ?_
  refine run_endops ?_
  refine run_seq rfl ?_
  refine run_if rfl rfl (fun hb1 => ?_) (fun hb1 => ?_)
  · have hj : j < ns.length := by have := of_decide_eq_true hb1; omega
    obtain ⟨n, hn⟩ := item_at hj
    refine run_skip rfl ?_
    refine run_seq rfl ?_
    refine run_block rfl ?_
    refine run_seq rfl ?_
    refine run_region (todo := [0, 1, 2, 3]) rfl rfl ?_
    refine run_rd (v := .pointer (elemAddr A2 (j * 36))) rfl (rd_elem (m := j) (o := j * 36) (know_app hK) Tryd.underlying91 Tryd.sizeOf33 rfl (lt_of_item hn rfl) (Nat.lt_of_lt_of_le (m := j * 36 + 36) (by omega) (row_lt (E := encF) hn)) rfl) ?_
    refine run_rd (v := .agg n.arr) rfl (rd_elemLoadA (u := n.arr) (know_app hK) Tryd.isAgg33 Tryd.sizeOf33 rfl (row_all (E := encF) hn) (row_lt (E := encF) hn)) ?_
    refine run_alloc rfl Tryd.zeroValue33 (fun g1 => ?_)
    refine run_storeW (j := 0) (c' := n.arr) rfl Tryd.sizeOf33 rfl rfl rfl rfl rfl rfl ?_
    refine run_endops ?_
    refine run_seq rfl ?_
    refine run_region (todo := [0, 1, 2, 3, 4, 5, 6]) rfl rfl ?_
    refine run_rd (v := .agg n.arr) rfl (rd_loadW (j := 0) Tryd.isAgg33 Tryd.sizeOf33 rfl rfl) ?_
    refine run_pf0 (v := .tuple #[.string (bs n.enc), .int .i64 (okCode n.may)]) rfl Tryd.call44 (pf_fencode n (hns n (List.mem_of_getElem? hn))) ?_
    refine run_mv rfl ?_
    refine run_rd (v := .string (bs n.enc)) rfl (rd_extract rfl) ?_
    refine run_rd (v := .int .i64 (okCode n.may)) rfl (rd_extract rfl) ?_
    refine run_mv rfl ?_
    refine run_mv rfl ?_
    refine run_endops ?_
    refine run_region (todo := [0, 1, 2, 3, 4]) rfl rfl ?_
    refine run_mv rfl ?_
    refine run_mv rfl ?_
    refine run_rd (v := .pointer (some ⟨g, 0, none⟩)) rfl (rd_fieldAddr (o := 0) Tryd.underlying61 rfl Tryd.sizeOf59 rfl rfl) ?_
    refine run_mv rfl ?_
    refine run_lessF (ρ' := [(0, .pointer (some ⟨g, 0, none⟩)), (5, .pointer (some ⟨g1, 0, none⟩)), (6, .string (bs n.enc)), (8, .slice A2 ns.length c), (9, .int .i64 ((ns.length : Nat) : Int)), (10, .int .i64 (j : Int)), (11, .bool (decide ((j : Int) < ((ns.length : Nat) : Int)))), (12, .pointer (elemAddr A2 (j * 36))), (13, .agg n.arr), (14, .tuple #[.string (bs n.enc), .int .i64 (okCode n.may)]), (15, .agg n.arr), (16, .tuple #[.string (bs n.enc), .int .i64 (okCode n.may)]), (17, .string (bs n.enc)), (18, .int .i64 (okCode n.may)), (19, .pointer (some ⟨g, 0, none⟩)), (20, .pointer (some ⟨g, 0, none⟩)), (21, .pointer (some ⟨g, 0, none⟩)), (22, .string (bs n.enc))]) (X := [.blk g (.cells #[.pointer q, .slice A1 m.length c1] 61), .row A1 c1 5 1 m.length (Lib.strCells (bs m)), .blk g1 (.cells n.arr 33)]) (Y := [.blk g1 (.cells n.arr 33), .blk g (.cells #[.pointer q, .slice A1 m.length c1] 61), .row A1 c1 5 1 m.length (Lib.strCells (bs m))]) (F := F) [1, 2, 0] ?_ ⟨rfl, rfl, rfl, rfl, rfl, rfl, rfl, rfl, rfl, rfl, rfl, rfl, rfl, rfl, rfl, rfl, rfl, rfl, trivial⟩ ⟨rfl, rfl, rfl, trivial⟩ (by decide) rfl
    refine run_callH rfl Tryd.call42 (wwriteL (F := [.blk g1 (.cells n.arr 33)] ++ F) (g := g) (cap := c1) (A := A1) q hqq m n.enc (by have := fenc_le n; omega)) (fun v H' hq => ?_)
    obtain ⟨rfl, Ag2, cg2, rfl⟩ := hq
    refine run_endops ?_
    refine run_endblock ?_
    refine run_region (todo := [0, 1]) rfl rfl ?_
    refine run_rd (v := .int .i64 ((j : Int) + 1)) rfl (rd_add (r := (j : Int) + 1) (IntWalk.i64_in _ (by omega))) ?_
    refine run_mv rfl ?_
    refine run_endops ?_
    refine run_lessF (ρ' := [(0, .pointer (some ⟨g, 0, none⟩)), (8, .slice A2 ns.length c), (9, .int .i64 ((ns.length : Nat) : Int)), (10, .int .i64 ((j : Int) + 1))]) (X := [.blk g (.cells #[.pointer (some ⟨g, 0, none⟩), .slice Ag2 ((m ++ n.enc).length) cg2] 61), .row Ag2 cg2 5 1 ((m ++ n.enc).length) (Lib.strCells (bs (m ++ n.enc)))]) (Y := [.blk g (.cells #[.pointer (some ⟨g, 0, none⟩), .slice Ag2 ((m ++ n.enc).length) cg2] 61), .row Ag2 cg2 5 1 ((m ++ n.enc).length) (Lib.strCells (bs (m ++ n.enc))), .blk g1 (.cells n.arr 33)]) (F := F) [0, 1] ?_ ⟨rfl, rfl, rfl, rfl, trivial⟩ ⟨rfl, rfl, trivial⟩ (by decide) rfl
    exact run_lessE (ih1 (j + 1) (m ++ n.enc) Ag2 cg2 (some ⟨g, 0, none⟩) ⟨hj, by rw [hm, take_oneA hn, List.flatMap_append, List.append_assoc]; simp, .inr rfl, fun _ => rfl⟩ (by omega)) ⟨rfl, rfl, rfl, rfl, trivial⟩
  · have hje : j = ns.length := by have := of_decide_eq_false hb1; omega
    refine run_exit rfl rfl ?_
    refine run_fall (v := .tuple #[]) (res0 rfl) ?_
    have hqs := hq0 (by rw [hje]; exact List.length_pos_iff.2 hne)
    subst hqs
    rw [hje, List.take_of_length_le (Nat.le_refl _)] at hm
    subst hm
    exact ⟨rfl, A1, c1, rfl⟩

theorem flat_put_len (k : Nat) : ∀ ns : List Int, (ns.flatMap (putI k)).length = k * ns.length
  | [] => by simp
  | n :: ns => by rw [List.flatMap_cons, List.length_append, putI, put_length, flat_put_len k ns, List.length_cons, Nat.mul_succ]; omega
theorem idb_flat (x : Id3) : [x.epoch].flatMap (putI 4) ++ ([x.coord].flatMap (putI 1) ++ [x.inc].flatMap (putI 4)) = idb x := by simp [idb, putI]
theorem wid {w0 : World} {F : Hp} {g cap : Nat} {A : Option Addr} (p : Option Addr) (hp : p = none ∨ p = some ⟨g, 0, none⟩) (l : List UInt8) (x : Id3) (hx : x.Ok) (hb : l.length ≤ 140737488350000) : FnH Tryd.prog 22 #[.pointer (some ⟨g, 0, none⟩), .agg #[.int .u32 x.epoch, .int .u32 x.coord, .int .u32 x.inc]] w0 (wbld g p A cap l.length (Lib.strCells (bs l)) ++ F) (fun v H' => v = .tuple #[] ∧ ∃ A' cap', H' = wbld g (some ⟨g, 0, none⟩) A' cap' (l ++ idb x).length (Lib.strCells (bs (l ++ idb x))) ++ F) := by
  refine fnH_of_run Tryd.func22 rfl rfl ?_
  refine run_seq rfl ?_
  refine run_region (todo := [0]) rfl rfl ?_
  refine run_box rfl (fun g1 => ?_)
  refine run_endops ?_
  refine run_seq rfl ?_
  refine run_region (todo := [0, 1, 2, 3, 4]) rfl rfl ?_
  refine run_mv rfl ?_
  refine run_rd (v := .pointer (some ⟨g1, 0, none⟩)) rfl (rd_fieldAddr (o := 0) Tryd.underlying24 rfl Tryd.sizeOf22 rfl rfl) ?_
  refine run_rd (v := .int .u32 x.epoch) rfl (rd_load (j := 0) (v := .int .u32 x.epoch) Tryd.isAgg22 rfl rfl) ?_
  refine run_lit (c := #[.int .u32 x.epoch]) rfl Tryd.underlying64 Tryd.sizeOf22 Tryd.zeroValue22 rfl rfl (by kernel_rfl) (fun g2 => ?_)
  refine run_lessF (ρ' := [(0, .pointer (some ⟨g, 0, none⟩)), (1, .agg #[.int .u32 x.epoch, .int .u32 x.coord, .int .u32 x.inc]), (3, .pointer (some ⟨g1, 0, none⟩)), (4, .pointer (some ⟨g, 0, none⟩)), (5, .pointer (some ⟨g1, 0, none⟩)), (6, .int .u32 x.epoch), (7, .slice (some ⟨g2, 0, none⟩) 1 1)]) (X := [.blk g (.cells #[.pointer p, .slice A l.length cap] 61), .row A cap 5 1 l.length (Lib.strCells (bs l)), .blk g2 (.cells #[.int .u32 x.epoch] 22), .blk g1 (.cells #[.int .u32 x.epoch, .int .u32 x.coord, .int .u32 x.inc] 24)]) (Y := [.blk g2 (.cells #[.int .u32 x.epoch] 22), .blk g1 (.cells #[.int .u32 x.epoch, .int .u32 x.coord, .int .u32 x.inc] 24), .blk g (.cells #[.pointer p, .slice A l.length cap] 61), .row A cap 5 1 l.length (Lib.strCells (bs l))]) (F := F) [2, 3, 0, 1] ?_ ⟨rfl, rfl, rfl, rfl, rfl, rfl, rfl, trivial⟩ ⟨rfl, rfl, rfl, rfl, trivial⟩ (by decide) rfl
  refine run_callH rfl Tryd.call21 (wput (F := [.blk g2 (.cells #[.int .u32 x.epoch] 22), .blk g1 (.cells #[.int .u32 x.epoch, .int .u32 x.coord, .int .u32 x.inc] 24)] ++ F) (g := g) (cap := cap) (A := A) p hp l [x.epoch] (one_all hx.1) (by simp) (some ⟨g2, 0, none⟩) 1 4 (by decide) (by decide) (know_blk (j := 0) rfl (fun q hq => by rw [Nat.zero_add, List.getElem?_toArray]; rfl)) (by simp only [List.length_append, flat_put_len, List.length_cons, List.length_nil]; omega)) (fun v H' hq => ?_)
  obtain ⟨rfl, Ag3, cg3, rfl⟩ := hq
  refine run_endops ?_
  refine run_seq rfl ?_
  refine run_region (todo := [0, 1, 2, 3, 4]) rfl rfl ?_
  refine run_mv rfl ?_
  refine run_rd (v := .pointer (some ⟨g1, 1, none⟩)) rfl (rd_fieldAddr (o := 1) Tryd.underlying24 rfl Tryd.sizeOf22 rfl rfl) ?_
  refine run_rd (v := .int .u32 x.coord) rfl (rd_load (j := 3) (v := .int .u32 x.coord) Tryd.isAgg22 rfl rfl) ?_
  refine run_lit (c := #[.int .u32 x.coord]) rfl Tryd.underlying64 Tryd.sizeOf22 Tryd.zeroValue22 rfl rfl (by kernel_rfl) (fun g4 => ?_)
  refine run_lessF (ρ' := [(0, .pointer (some ⟨g, 0, none⟩)), (1, .agg #[.int .u32 x.epoch, .int .u32 x.coord, .int .u32 x.inc]), (3, .pointer (some ⟨g1, 0, none⟩)), (4, .pointer (some ⟨g, 0, none⟩)), (5, .pointer (some ⟨g1, 0, none⟩)), (6, .int .u32 x.epoch), (7, .slice (some ⟨g2, 0, none⟩) 1 1), (9, .pointer (some ⟨g, 0, none⟩)), (10, .pointer (some ⟨g1, 1, none⟩)), (11, .int .u32 x.coord), (12, .slice (some ⟨g4, 0, none⟩) 1 1)]) (X := [.blk g (.cells #[.pointer (some ⟨g, 0, none⟩), .slice Ag3 ((l ++ [x.epoch].flatMap (putI 4)).length) cg3] 61), .row Ag3 cg3 5 1 ((l ++ [x.epoch].flatMap (putI 4)).length) (Lib.strCells (bs (l ++ [x.epoch].flatMap (putI 4)))), .blk g4 (.cells #[.int .u32 x.coord] 22), .blk g2 (.cells #[.int .u32 x.epoch] 22), .blk g1 (.cells #[.int .u32 x.epoch, .int .u32 x.coord, .int .u32 x.inc] 24)]) (Y := [.blk g4 (.cells #[.int .u32 x.coord] 22), .blk g (.cells #[.pointer (some ⟨g, 0, none⟩), .slice Ag3 ((l ++ [x.epoch].flatMap (putI 4)).length) cg3] 61), .row Ag3 cg3 5 1 ((l ++ [x.epoch].flatMap (putI 4)).length) (Lib.strCells (bs (l ++ [x.epoch].flatMap (putI 4)))), .blk g2 (.cells #[.int .u32 x.epoch] 22), .blk g1 (.cells #[.int .u32 x.epoch, .int .u32 x.coord, .int .u32 x.inc] 24)]) (F := F) [1, 2, 0, 3, 4] ?_ ⟨rfl, rfl, rfl, rfl, rfl, rfl, rfl, rfl, rfl, rfl, rfl, trivial⟩ ⟨rfl, rfl, rfl, rfl, rfl, trivial⟩ (by decide) rfl
  refine run_callH rfl Tryd.call21 (wput (F := [.blk g4 (.cells #[.int .u32 x.coord] 22), .blk g2 (.cells #[.int .u32 x.epoch] 22), .blk g1 (.cells #[.int .u32 x.epoch, .int .u32 x.coord, .int .u32 x.inc] 24)] ++ F) (g := g) (cap := cg3) (A := Ag3) (some ⟨g, 0, none⟩) (.inr rfl) (l ++ [x.epoch].flatMap (putI 4)) [x.coord] (one_all hx.2.1) (by simp) (some ⟨g4, 0, none⟩) 1 1 (by decide) (by decide) (know_blk (j := 0) rfl (fun q hq => by rw [Nat.zero_add, List.getElem?_toArray]; rfl)) (by simp only [List.length_append, flat_put_len, List.length_cons, List.length_nil]; omega)) (fun v H' hq => ?_)
  obtain ⟨rfl, Ag5, cg5, rfl⟩ := hq
  refine run_endops ?_
  refine run_region (todo := [0, 1, 2, 3, 4]) rfl rfl ?_
  refine run_mv rfl ?_
  refine run_rd (v := .pointer (some ⟨g1, 2, none⟩)) rfl (rd_fieldAddr (o := 2) Tryd.underlying24 rfl Tryd.sizeOf22 rfl rfl) ?_
  refine run_rd (v := .int .u32 x.inc) rfl (rd_load (j := 4) (v := .int .u32 x.inc) Tryd.isAgg22 rfl rfl) ?_
  refine run_lit (c := #[.int .u32 x.inc]) rfl Tryd.underlying64 Tryd.sizeOf22 Tryd.zeroValue22 rfl rfl (by kernel_rfl) (fun g6 => ?_)
  refine run_lessF (ρ' := [(0, .pointer (some ⟨g, 0, none⟩)), (1, .agg #[.int .u32 x.epoch, .int .u32 x.coord, .int .u32 x.inc]), (3, .pointer (some ⟨g1, 0, none⟩)), (4, .pointer (some ⟨g, 0, none⟩)), (5, .pointer (some ⟨g1, 0, none⟩)), (6, .int .u32 x.epoch), (7, .slice (some ⟨g2, 0, none⟩) 1 1), (9, .pointer (some ⟨g, 0, none⟩)), (10, .pointer (some ⟨g1, 1, none⟩)), (11, .int .u32 x.coord), (12, .slice (some ⟨g4, 0, none⟩) 1 1), (14, .pointer (some ⟨g, 0, none⟩)), (15, .pointer (some ⟨g1, 2, none⟩)), (16, .int .u32 x.inc), (17, .slice (some ⟨g6, 0, none⟩) 1 1)]) (X := [.blk g (.cells #[.pointer (some ⟨g, 0, none⟩), .slice Ag5 (((l ++ [x.epoch].flatMap (putI 4)) ++ [x.coord].flatMap (putI 1)).length) cg5] 61), .row Ag5 cg5 5 1 (((l ++ [x.epoch].flatMap (putI 4)) ++ [x.coord].flatMap (putI 1)).length) (Lib.strCells (bs ((l ++ [x.epoch].flatMap (putI 4)) ++ [x.coord].flatMap (putI 1)))), .blk g6 (.cells #[.int .u32 x.inc] 22), .blk g4 (.cells #[.int .u32 x.coord] 22), .blk g2 (.cells #[.int .u32 x.epoch] 22), .blk g1 (.cells #[.int .u32 x.epoch, .int .u32 x.coord, .int .u32 x.inc] 24)]) (Y := [.blk g6 (.cells #[.int .u32 x.inc] 22), .blk g (.cells #[.pointer (some ⟨g, 0, none⟩), .slice Ag5 (((l ++ [x.epoch].flatMap (putI 4)) ++ [x.coord].flatMap (putI 1)).length) cg5] 61), .row Ag5 cg5 5 1 (((l ++ [x.epoch].flatMap (putI 4)) ++ [x.coord].flatMap (putI 1)).length) (Lib.strCells (bs ((l ++ [x.epoch].flatMap (putI 4)) ++ [x.coord].flatMap (putI 1)))), .blk g4 (.cells #[.int .u32 x.coord] 22), .blk g2 (.cells #[.int .u32 x.epoch] 22), .blk g1 (.cells #[.int .u32 x.epoch, .int .u32 x.coord, .int .u32 x.inc] 24)]) (F := F) [1, 2, 0, 3, 4, 5] ?_ ⟨rfl, rfl, rfl, rfl, rfl, rfl, rfl, rfl, rfl, rfl, rfl, rfl, rfl, rfl, rfl, trivial⟩ ⟨rfl, rfl, rfl, rfl, rfl, rfl, trivial⟩ (by decide) rfl
  refine run_callH rfl Tryd.call21 (wput (F := [.blk g6 (.cells #[.int .u32 x.inc] 22), .blk g4 (.cells #[.int .u32 x.coord] 22), .blk g2 (.cells #[.int .u32 x.epoch] 22), .blk g1 (.cells #[.int .u32 x.epoch, .int .u32 x.coord, .int .u32 x.inc] 24)] ++ F) (g := g) (cap := cg5) (A := Ag5) (some ⟨g, 0, none⟩) (.inr rfl) ((l ++ [x.epoch].flatMap (putI 4)) ++ [x.coord].flatMap (putI 1)) [x.inc] (one_all hx.2.2) (by simp) (some ⟨g6, 0, none⟩) 1 4 (by decide) (by decide) (know_blk (j := 0) rfl (fun q hq => by rw [Nat.zero_add, List.getElem?_toArray]; rfl)) (by simp only [List.length_append, flat_put_len, List.length_cons, List.length_nil]; omega)) (fun v H' hq => ?_)
  obtain ⟨rfl, Ag7, cg7, rfl⟩ := hq
  refine run_endops ?_
  refine run_lessF (ρ' := []) (X := [.blk g (.cells #[.pointer (some ⟨g, 0, none⟩), .slice Ag7 ((((l ++ [x.epoch].flatMap (putI 4)) ++ [x.coord].flatMap (putI 1)) ++ [x.inc].flatMap (putI 4)).length) cg7] 61), .row Ag7 cg7 5 1 ((((l ++ [x.epoch].flatMap (putI 4)) ++ [x.coord].flatMap (putI 1)) ++ [x.inc].flatMap (putI 4)).length) (Lib.strCells (bs (((l ++ [x.epoch].flatMap (putI 4)) ++ [x.coord].flatMap (putI 1)) ++ [x.inc].flatMap (putI 4))))]) (Y := [.blk g (.cells #[.pointer (some ⟨g, 0, none⟩), .slice Ag7 ((((l ++ [x.epoch].flatMap (putI 4)) ++ [x.coord].flatMap (putI 1)) ++ [x.inc].flatMap (putI 4)).length) cg7] 61), .row Ag7 cg7 5 1 ((((l ++ [x.epoch].flatMap (putI 4)) ++ [x.coord].flatMap (putI 1)) ++ [x.inc].flatMap (putI 4)).length) (Lib.strCells (bs (((l ++ [x.epoch].flatMap (putI 4)) ++ [x.coord].flatMap (putI 1)) ++ [x.inc].flatMap (putI 4)))), .blk g6 (.cells #[.int .u32 x.inc] 22), .blk g4 (.cells #[.int .u32 x.coord] 22), .blk g2 (.cells #[.int .u32 x.epoch] 22), .blk g1 (.cells #[.int .u32 x.epoch, .int .u32 x.coord, .int .u32 x.inc] 24)]) (F := F) [0, 1] ?_ trivial ⟨rfl, rfl, trivial⟩ (by decide) rfl
  refine run_fall (v := .tuple #[]) (res0 rfl) ?_
  have e : (((l ++ [x.epoch].flatMap (putI 4)) ++ [x.coord].flatMap (putI 1)) ++ [x.inc].flatMap (putI 4)) = l ++ idb x := by rw [← idb_flat]; simp only [List.append_assoc]
  rw [e]
  exact ⟨rfl, Ag7, cg7, rfl⟩

theorem pf_truth (b : Bool) : Pf Tryd.prog 23 #[.bool b] (.int .u32 ((bit b : Nat) : Int)) := by
  refine pf_of_run Tryd.func23 rfl rfl (fun w0 => ?_)
  refine run_seq rfl ?_
  refine run_region (todo := [0]) rfl rfl ?_
  refine run_mv rfl ?_
  refine run_endops ?_
  refine run_seq rfl ?_
  refine run_seq rfl ?_
  refine run_region (todo := [0]) rfl rfl ?_
  refine run_mv rfl ?_
  refine run_endops ?_
  refine run_if rfl rfl (fun hb1 => ?_) (fun hb1 => ?_)
  · skip
    refine run_seq rfl ?_
    refine run_region (todo := [0]) rfl rfl ?_
    refine run_mv rfl ?_
    refine run_endops ?_
    refine run_ret rfl (v := .int .u32 1) (res1 rfl rfl) ?_
    rw [hb1]
    rfl
  · skip
    refine run_skip rfl ?_
    refine run_seq rfl ?_
    refine run_region (todo := [0]) rfl rfl ?_
    refine run_mv rfl ?_
    refine run_endops ?_
    refine run_ret rfl (v := .int .u32 0) (res1 rfl rfl) ?_
    rw [hb1]
    rfl

theorem fr_all1 {a : Fr} (h : a.Ok) : ∀ f ∈ [a], f.Ok := by intro f hf; rw [List.mem_singleton.1 hf]; exact h
theorem fr_all2 {a b : Fr} (h : a.Ok) (g : b.Ok) : ∀ f ∈ [a, b], f.Ok := by
  intro f hf
  rcases List.mem_cons.1 hf with rfl | hf
  · exact h
  · rw [List.mem_singleton.1 hf]; exact g
theorem enc_of {f : Fr} (h : f.may = true) : f.enc = f.bytes := if_pos h
theorem v8_list_len (v : V8) : v.list.length = 8 := rfl
theorem flat_enc_len1 (a : Fr) : ([a].flatMap Fr.enc).length = a.enc.length := by simp
theorem flat_enc_len2 (a b : Fr) : ([a, b].flatMap Fr.enc).length = a.enc.length + b.enc.length := by simp
theorem v8_flat (v : V8) : v.list.flatMap (putI 4) = v8b v := rfl
theorem pk_crc_le {l : List UInt8} (h : l.length ≤ 140737488355328) : l.length ≤ 9223372036854775800 := Nat.le_trans h (by decide)
theorem bit_u32 (b : Bool) : U32 ((bit b : Nat) : Int) := by cases b <;> exact ⟨by decide, by decide⟩
theorem pencode_yes (p : Pkt) (hp : p.Fit) (hmp : p.may = true) : Pf Tryd.prog 9 #[p.val] (.tuple #[.string (bs p.bytes), .int .i64 0]) := by
  have e1 := fenc_le p.newest
  have e2 := fenc_le p.older
  have e3 := fenc_le p.relay
  refine pf_of_run Tryd.func9 rfl rfl (fun w0 => ?_)
  refine run_seq rfl ?_
  refine run_region (todo := [0, 1, 2]) rfl rfl ?_
  refine run_box rfl (fun g1 => ?_)
  refine run_mv rfl ?_
  refine run_mv rfl ?_
  refine run_endops ?_
  refine run_seq rfl ?_
  refine run_seq rfl ?_
  refine run_region (todo := [0, 1, 2]) rfl rfl ?_
  refine run_rd (v := .agg p.arr) rfl (rd_loadW (j := 0) Tryd.isAgg35 Tryd.sizeOf35 rfl (by kernel_rfl)) ?_
  refine run_pf0 (v := .int .i64 0) rfl Tryd.call12 (by have h := pf_pcheck p hp; rw [hmp] at h; exact h) ?_
  refine run_mv rfl ?_
  refine run_endops ?_
  refine run_seq rfl ?_
  refine run_region (todo := [0, 1]) rfl rfl ?_
  refine run_mv rfl ?_
  refine run_rd (v := .bool false) rfl (rd_cmp rfl rfl) ?_
  refine run_endops ?_
  refine run_false rfl rfl ?_
  refine run_skip rfl ?_
  refine run_seq rfl ?_
  refine run_region (todo := [0, 1, 2]) rfl rfl ?_
  refine run_rd (v := .agg #[.pointer none, .slice none 0 0]) rfl ((fun w _ => by kernel_rfl)) ?_
  refine run_box rfl (fun g2 => ?_)
  refine run_mv rfl ?_
  refine run_endops ?_
  refine run_seq rfl ?_
  refine run_region (todo := [0, 1, 2, 3, 4]) rfl rfl ?_
  refine run_mv rfl ?_
  refine run_rd (v := .pointer (some ⟨g1, 0, none⟩)) rfl (rd_fieldAddr (o := 0) Tryd.underlying35 rfl Tryd.sizeOf22 rfl rfl) ?_
  refine run_rd (v := .int .u32 p.src) rfl (rd_load (j := 1) (v := .int .u32 p.src) Tryd.isAgg22 rfl (by kernel_rfl)) ?_
  refine run_lit (c := #[.int .u32 p.src]) rfl Tryd.underlying64 Tryd.sizeOf22 Tryd.zeroValue22 rfl rfl (by kernel_rfl) (fun g3 => ?_)
  refine run_nilrow (e := 5) (size := 1) ?_
  refine run_less (ρ' := [(0, .agg p.arr), (1, .pointer (some ⟨g1, 0, none⟩)), (2, .string ⟨#[]⟩), (3, .int .i64 0), (4, .int .i64 0), (5, .pointer (some ⟨g2, 0, none⟩)), (6, .agg p.arr), (7, .int .i64 0), (8, .int .i64 0), (9, .bool false), (11, .agg #[.pointer none, .slice none 0 0]), (12, .pointer (some ⟨g2, 0, none⟩)), (13, .pointer (some ⟨g2, 0, none⟩)), (14, .pointer (some ⟨g1, 0, none⟩)), (15, .int .u32 p.src), (16, .slice (some ⟨g3, 0, none⟩) 1 1)]) (H' := [.blk g2 (.cells #[.pointer none, .slice none 0 0] 61), .row none 0 5 1 (([] : List UInt8).length) (Lib.strCells (bs [])), .blk g3 (.cells #[.int .u32 p.src] 22), .blk g1 (.cells p.arr 35)]) [2, 0, 1, 3] ?_ ⟨rfl, rfl, rfl, rfl, rfl, rfl, rfl, rfl, rfl, rfl, rfl, rfl, rfl, rfl, rfl, rfl, trivial⟩ ⟨rfl, rfl, rfl, rfl, trivial⟩ (by decide)
  refine run_callH rfl Tryd.call21 (wput (F := [.blk g3 (.cells #[.int .u32 p.src] 22), .blk g1 (.cells p.arr 35)]) (g := g2) (cap := 0) (A := none) none (.inl rfl) ([] : List UInt8) [p.src] (one_all hp.ok.src) (by simp) (some ⟨g3, 0, none⟩) 1 1 (by decide) (by decide) (know_blk (j := 0) rfl (fun q hq => by rw [Nat.zero_add, List.getElem?_toArray]; rfl)) (by simp only [List.length_append, flat_put_len, idb_length, v8_list_len, flat_enc_len1, flat_enc_len2, List.length_cons, List.length_nil]; omega)) (fun v H' hq => ?_)
  obtain ⟨rfl, Ag4, cg4, rfl⟩ := hq
  refine run_endops ?_
  refine run_seq rfl ?_
  refine run_region (todo := [0, 1, 2, 3, 4]) rfl rfl ?_
  refine run_mv rfl ?_
  refine run_rd (v := .pointer (some ⟨g1, 1, none⟩)) rfl (rd_fieldAddr (o := 1) Tryd.underlying35 rfl Tryd.sizeOf22 rfl rfl) ?_
  refine run_rd (v := .int .u32 p.inc) rfl (rd_load (j := 3) (v := .int .u32 p.inc) Tryd.isAgg22 rfl (by kernel_rfl)) ?_
  refine run_lit (c := #[.int .u32 p.inc]) rfl Tryd.underlying64 Tryd.sizeOf22 Tryd.zeroValue22 rfl rfl (by kernel_rfl) (fun g5 => ?_)
  refine run_less (ρ' := [(0, .agg p.arr), (1, .pointer (some ⟨g1, 0, none⟩)), (2, .string ⟨#[]⟩), (3, .int .i64 0), (4, .int .i64 0), (5, .pointer (some ⟨g2, 0, none⟩)), (6, .agg p.arr), (7, .int .i64 0), (8, .int .i64 0), (9, .bool false), (11, .agg #[.pointer none, .slice none 0 0]), (12, .pointer (some ⟨g2, 0, none⟩)), (13, .pointer (some ⟨g2, 0, none⟩)), (14, .pointer (some ⟨g1, 0, none⟩)), (15, .int .u32 p.src), (16, .slice (some ⟨g3, 0, none⟩) 1 1), (18, .pointer (some ⟨g2, 0, none⟩)), (19, .pointer (some ⟨g1, 1, none⟩)), (20, .int .u32 p.inc), (21, .slice (some ⟨g5, 0, none⟩) 1 1)]) (H' := [.blk g2 (.cells #[.pointer (some ⟨g2, 0, none⟩), .slice Ag4 ((([] : List UInt8) ++ [p.src].flatMap (putI 1)).length) cg4] 61), .row Ag4 cg4 5 1 ((([] : List UInt8) ++ [p.src].flatMap (putI 1)).length) (Lib.strCells (bs (([] : List UInt8) ++ [p.src].flatMap (putI 1)))), .blk g5 (.cells #[.int .u32 p.inc] 22), .blk g3 (.cells #[.int .u32 p.src] 22), .blk g1 (.cells p.arr 35)]) [1, 2, 0, 3, 4] ?_ ⟨rfl, rfl, rfl, rfl, rfl, rfl, rfl, rfl, rfl, rfl, rfl, rfl, rfl, rfl, rfl, rfl, rfl, rfl, rfl, rfl, trivial⟩ ⟨rfl, rfl, rfl, rfl, rfl, trivial⟩ (by decide)
  refine run_callH rfl Tryd.call21 (wput (F := [.blk g5 (.cells #[.int .u32 p.inc] 22), .blk g3 (.cells #[.int .u32 p.src] 22), .blk g1 (.cells p.arr 35)]) (g := g2) (cap := cg4) (A := Ag4) (some ⟨g2, 0, none⟩) (.inr rfl) (([] : List UInt8) ++ [p.src].flatMap (putI 1)) [p.inc] (one_all hp.ok.inc) (by simp) (some ⟨g5, 0, none⟩) 1 4 (by decide) (by decide) (know_blk (j := 0) rfl (fun q hq => by rw [Nat.zero_add, List.getElem?_toArray]; rfl)) (by simp only [List.length_append, flat_put_len, idb_length, v8_list_len, flat_enc_len1, flat_enc_len2, List.length_cons, List.length_nil]; omega)) (fun v H' hq => ?_)
  obtain ⟨rfl, Ag6, cg6, rfl⟩ := hq
  refine run_endops ?_
  refine run_seq rfl ?_
  refine run_region (todo := [0, 1, 2, 3]) rfl rfl ?_
  refine run_mv rfl ?_
  refine run_rd (v := .pointer (some ⟨g1, 2, none⟩)) rfl (rd_fieldAddr (o := 2) Tryd.underlying35 rfl Tryd.sizeOf24 rfl rfl) ?_
  refine run_rd (v := .agg #[.int .u32 p.conf.epoch, .int .u32 p.conf.coord, .int .u32 p.conf.inc]) rfl (rd_loadA (j := 4) (u := #[.int .u32 p.conf.epoch, .int .u32 p.conf.coord, .int .u32 p.conf.inc]) Tryd.isAgg24 Tryd.sizeOf24 rfl (by kernel_rfl) (by kernel_rfl)) ?_
  refine run_callH rfl Tryd.call22 (wid (F := [.blk g5 (.cells #[.int .u32 p.inc] 22), .blk g3 (.cells #[.int .u32 p.src] 22), .blk g1 (.cells p.arr 35)]) (g := g2) (cap := cg6) (A := Ag6) (some ⟨g2, 0, none⟩) (.inr rfl) ((([] : List UInt8) ++ [p.src].flatMap (putI 1)) ++ [p.inc].flatMap (putI 4)) p.conf hp.ok.conf (by simp only [List.length_append, flat_put_len, idb_length, v8_list_len, flat_enc_len1, flat_enc_len2, List.length_cons, List.length_nil]; omega)) (fun v H' hq => ?_)
  obtain ⟨rfl, Ag7, cg7, rfl⟩ := hq
  refine run_endops ?_
  refine run_seq rfl ?_
  refine run_region (todo := [0, 1, 2, 3]) rfl rfl ?_
  refine run_mv rfl ?_
  refine run_rd (v := .pointer (some ⟨g1, 5, none⟩)) rfl (rd_fieldAddr (o := 5) Tryd.underlying35 rfl Tryd.sizeOf26 rfl rfl) ?_
  refine run_rd (v := .slice (some ⟨g1, 5, none⟩) 8 8) rfl (rd_arrSlice Tryd.underlying26 Tryd.sizeOf22) ?_
  refine run_callH rfl Tryd.call21 (wput (F := [.blk g5 (.cells #[.int .u32 p.inc] 22), .blk g3 (.cells #[.int .u32 p.src] 22), .blk g1 (.cells p.arr 35)]) (g := g2) (cap := cg7) (A := Ag7) (some ⟨g2, 0, none⟩) (.inr rfl) (((([] : List UInt8) ++ [p.src].flatMap (putI 1)) ++ [p.inc].flatMap (putI 4)) ++ idb p.conf) p.members.list (V8.Ok.all hp.ok.members) (by simp [V8.list]) (some ⟨g1, 5, none⟩) 8 4 (by decide) (by decide) (know_blk (j := 2) rfl (pk_members p)) (by simp only [List.length_append, flat_put_len, idb_length, v8_list_len, flat_enc_len1, flat_enc_len2, List.length_cons, List.length_nil]; omega)) (fun v H' hq => ?_)
  obtain ⟨rfl, Ag8, cg8, rfl⟩ := hq
  refine run_endops ?_
  refine run_seq rfl ?_
  refine run_region (todo := [0, 1, 2, 3]) rfl rfl ?_
  refine run_mv rfl ?_
  refine run_rd (v := .pointer (some ⟨g1, 13, none⟩)) rfl (rd_fieldAddr (o := 13) Tryd.underlying35 rfl Tryd.sizeOf27 rfl rfl) ?_
  refine run_rd (v := .slice (some ⟨g1, 13, none⟩) 8 8) rfl (rd_arrSlice Tryd.underlying27 Tryd.sizeOf22) ?_
  refine run_callH rfl Tryd.call21 (wput (F := [.blk g5 (.cells #[.int .u32 p.inc] 22), .blk g3 (.cells #[.int .u32 p.src] 22), .blk g1 (.cells p.arr 35)]) (g := g2) (cap := cg8) (A := Ag8) (some ⟨g2, 0, none⟩) (.inr rfl) ((((([] : List UInt8) ++ [p.src].flatMap (putI 1)) ++ [p.inc].flatMap (putI 4)) ++ idb p.conf) ++ p.members.list.flatMap (putI 4)) p.count.list (V8.Ok.all hp.ok.count) (by simp [V8.list]) (some ⟨g1, 13, none⟩) 8 4 (by decide) (by decide) (know_blk (j := 2) rfl (pk_count p)) (by simp only [List.length_append, flat_put_len, idb_length, v8_list_len, flat_enc_len1, flat_enc_len2, List.length_cons, List.length_nil]; omega)) (fun v H' hq => ?_)
  obtain ⟨rfl, Ag9, cg9, rfl⟩ := hq
  refine run_endops ?_
  refine run_seq rfl ?_
  refine run_region (todo := [0, 1, 2, 3]) rfl rfl ?_
  refine run_mv rfl ?_
  refine run_rd (v := .pointer (some ⟨g1, 21, none⟩)) rfl (rd_fieldAddr (o := 21) Tryd.underlying35 rfl Tryd.sizeOf24 rfl rfl) ?_
  refine run_rd (v := .agg #[.int .u32 p.promise.epoch, .int .u32 p.promise.coord, .int .u32 p.promise.inc]) rfl (rd_loadA (j := 4) (u := #[.int .u32 p.promise.epoch, .int .u32 p.promise.coord, .int .u32 p.promise.inc]) Tryd.isAgg24 Tryd.sizeOf24 rfl (by kernel_rfl) (by kernel_rfl)) ?_
  refine run_callH rfl Tryd.call22 (wid (F := [.blk g5 (.cells #[.int .u32 p.inc] 22), .blk g3 (.cells #[.int .u32 p.src] 22), .blk g1 (.cells p.arr 35)]) (g := g2) (cap := cg9) (A := Ag9) (some ⟨g2, 0, none⟩) (.inr rfl) (((((([] : List UInt8) ++ [p.src].flatMap (putI 1)) ++ [p.inc].flatMap (putI 4)) ++ idb p.conf) ++ p.members.list.flatMap (putI 4)) ++ p.count.list.flatMap (putI 4)) p.promise hp.ok.promise (by simp only [List.length_append, flat_put_len, idb_length, v8_list_len, flat_enc_len1, flat_enc_len2, List.length_cons, List.length_nil]; omega)) (fun v H' hq => ?_)
  obtain ⟨rfl, Ag10, cg10, rfl⟩ := hq
  refine run_endops ?_
  refine run_seq rfl ?_
  refine run_region (todo := [0, 1, 2, 3]) rfl rfl ?_
  refine run_mv rfl ?_
  refine run_rd (v := .pointer (some ⟨g1, 24, none⟩)) rfl (rd_fieldAddr (o := 24) Tryd.underlying35 rfl Tryd.sizeOf26 rfl rfl) ?_
  refine run_rd (v := .slice (some ⟨g1, 24, none⟩) 8 8) rfl (rd_arrSlice Tryd.underlying26 Tryd.sizeOf22) ?_
  refine run_callH rfl Tryd.call21 (wput (F := [.blk g5 (.cells #[.int .u32 p.inc] 22), .blk g3 (.cells #[.int .u32 p.src] 22), .blk g1 (.cells p.arr 35)]) (g := g2) (cap := cg10) (A := Ag10) (some ⟨g2, 0, none⟩) (.inr rfl) ((((((([] : List UInt8) ++ [p.src].flatMap (putI 1)) ++ [p.inc].flatMap (putI 4)) ++ idb p.conf) ++ p.members.list.flatMap (putI 4)) ++ p.count.list.flatMap (putI 4)) ++ idb p.promise) p.wanted.list (V8.Ok.all hp.ok.wanted) (by simp [V8.list]) (some ⟨g1, 24, none⟩) 8 4 (by decide) (by decide) (know_blk (j := 2) rfl (pk_wanted p)) (by simp only [List.length_append, flat_put_len, idb_length, v8_list_len, flat_enc_len1, flat_enc_len2, List.length_cons, List.length_nil]; omega)) (fun v H' hq => ?_)
  obtain ⟨rfl, Ag11, cg11, rfl⟩ := hq
  refine run_endops ?_
  refine run_seq rfl ?_
  refine run_region (todo := [0, 1, 2, 3, 4, 5]) rfl rfl ?_
  refine run_mv rfl ?_
  refine run_rd (v := .pointer (some ⟨g1, 32, none⟩)) rfl (rd_fieldAddr (o := 32) Tryd.underlying35 rfl Tryd.sizeOf4 rfl rfl) ?_
  refine run_rd (v := .bool p.ready) rfl (rd_load (j := 4) (v := .bool p.ready) Tryd.isAgg4 rfl (by kernel_rfl)) ?_
  refine run_pf0 (v := .int .u32 ((bit p.ready : Nat) : Int)) rfl Tryd.call23 (pf_truth p.ready) ?_
  refine run_lit (c := #[.int .u32 ((bit p.ready : Nat) : Int)]) rfl Tryd.underlying64 Tryd.sizeOf22 Tryd.zeroValue22 rfl rfl (by kernel_rfl) (fun g12 => ?_)
  refine run_less (ρ' := [(0, .agg p.arr), (1, .pointer (some ⟨g1, 0, none⟩)), (2, .string ⟨#[]⟩), (3, .int .i64 0), (4, .int .i64 0), (5, .pointer (some ⟨g2, 0, none⟩)), (6, .agg p.arr), (7, .int .i64 0), (8, .int .i64 0), (9, .bool false), (11, .agg #[.pointer none, .slice none 0 0]), (12, .pointer (some ⟨g2, 0, none⟩)), (13, .pointer (some ⟨g2, 0, none⟩)), (14, .pointer (some ⟨g1, 0, none⟩)), (15, .int .u32 p.src), (16, .slice (some ⟨g3, 0, none⟩) 1 1), (18, .pointer (some ⟨g2, 0, none⟩)), (19, .pointer (some ⟨g1, 1, none⟩)), (20, .int .u32 p.inc), (21, .slice (some ⟨g5, 0, none⟩) 1 1), (23, .pointer (some ⟨g2, 0, none⟩)), (24, .pointer (some ⟨g1, 2, none⟩)), (25, .agg #[.int .u32 p.conf.epoch, .int .u32 p.conf.coord, .int .u32 p.conf.inc]), (27, .pointer (some ⟨g2, 0, none⟩)), (28, .pointer (some ⟨g1, 5, none⟩)), (29, .slice (some ⟨g1, 5, none⟩) 8 8), (31, .pointer (some ⟨g2, 0, none⟩)), (32, .pointer (some ⟨g1, 13, none⟩)), (33, .slice (some ⟨g1, 13, none⟩) 8 8), (35, .pointer (some ⟨g2, 0, none⟩)), (36, .pointer (some ⟨g1, 21, none⟩)), (37, .agg #[.int .u32 p.promise.epoch, .int .u32 p.promise.coord, .int .u32 p.promise.inc]), (39, .pointer (some ⟨g2, 0, none⟩)), (40, .pointer (some ⟨g1, 24, none⟩)), (41, .slice (some ⟨g1, 24, none⟩) 8 8), (43, .pointer (some ⟨g2, 0, none⟩)), (44, .pointer (some ⟨g1, 32, none⟩)), (45, .bool p.ready), (46, .int .u32 ((bit p.ready : Nat) : Int)), (47, .slice (some ⟨g12, 0, none⟩) 1 1)]) (H' := [.blk g2 (.cells #[.pointer (some ⟨g2, 0, none⟩), .slice Ag11 ((((((((([] : List UInt8) ++ [p.src].flatMap (putI 1)) ++ [p.inc].flatMap (putI 4)) ++ idb p.conf) ++ p.members.list.flatMap (putI 4)) ++ p.count.list.flatMap (putI 4)) ++ idb p.promise) ++ p.wanted.list.flatMap (putI 4)).length) cg11] 61), .row Ag11 cg11 5 1 ((((((((([] : List UInt8) ++ [p.src].flatMap (putI 1)) ++ [p.inc].flatMap (putI 4)) ++ idb p.conf) ++ p.members.list.flatMap (putI 4)) ++ p.count.list.flatMap (putI 4)) ++ idb p.promise) ++ p.wanted.list.flatMap (putI 4)).length) (Lib.strCells (bs (((((((([] : List UInt8) ++ [p.src].flatMap (putI 1)) ++ [p.inc].flatMap (putI 4)) ++ idb p.conf) ++ p.members.list.flatMap (putI 4)) ++ p.count.list.flatMap (putI 4)) ++ idb p.promise) ++ p.wanted.list.flatMap (putI 4)))), .blk g12 (.cells #[.int .u32 ((bit p.ready : Nat) : Int)] 22), .blk g5 (.cells #[.int .u32 p.inc] 22), .blk g3 (.cells #[.int .u32 p.src] 22), .blk g1 (.cells p.arr 35)]) [1, 2, 0, 3, 4, 5] ?_ ⟨rfl, rfl, rfl, rfl, rfl, rfl, rfl, rfl, rfl, rfl, rfl, rfl, rfl, rfl, rfl, rfl, rfl, rfl, rfl, rfl, rfl, rfl, rfl, rfl, rfl, rfl, rfl, rfl, rfl, rfl, rfl, rfl, rfl, rfl, rfl, rfl, rfl, rfl, rfl, rfl, trivial⟩ ⟨rfl, rfl, rfl, rfl, rfl, rfl, trivial⟩ (by decide)
  refine run_callH rfl Tryd.call21 (wput (F := [.blk g12 (.cells #[.int .u32 ((bit p.ready : Nat) : Int)] 22), .blk g5 (.cells #[.int .u32 p.inc] 22), .blk g3 (.cells #[.int .u32 p.src] 22), .blk g1 (.cells p.arr 35)]) (g := g2) (cap := cg11) (A := Ag11) (some ⟨g2, 0, none⟩) (.inr rfl) (((((((([] : List UInt8) ++ [p.src].flatMap (putI 1)) ++ [p.inc].flatMap (putI 4)) ++ idb p.conf) ++ p.members.list.flatMap (putI 4)) ++ p.count.list.flatMap (putI 4)) ++ idb p.promise) ++ p.wanted.list.flatMap (putI 4)) [((bit p.ready : Nat) : Int)] (one_all (bit_u32 _)) (by simp) (some ⟨g12, 0, none⟩) 1 1 (by decide) (by decide) (know_blk (j := 0) rfl (fun q hq => by rw [Nat.zero_add, List.getElem?_toArray]; rfl)) (by simp only [List.length_append, flat_put_len, idb_length, v8_list_len, flat_enc_len1, flat_enc_len2, List.length_cons, List.length_nil]; omega)) (fun v H' hq => ?_)
  obtain ⟨rfl, Ag13, cg13, rfl⟩ := hq
  refine run_endops ?_
  refine run_seq rfl ?_
  refine run_region (todo := [0, 1, 2, 3, 4, 5, 6]) rfl rfl ?_
  refine run_mv rfl ?_
  refine run_rd (v := .pointer (some ⟨g1, 33, none⟩)) rfl (rd_fieldAddr (o := 33) Tryd.underlying35 rfl Tryd.sizeOf22 rfl rfl) ?_
  refine run_rd (v := .int .u32 p.epoch) rfl (rd_load (j := 5) (v := .int .u32 p.epoch) Tryd.isAgg22 rfl (by kernel_rfl)) ?_
  refine run_rd (v := .pointer (some ⟨g1, 34, none⟩)) rfl (rd_fieldAddr (o := 34) Tryd.underlying35 rfl Tryd.sizeOf22 rfl rfl) ?_
  refine run_rd (v := .int .u32 p.round) rfl (rd_load (j := 5) (v := .int .u32 p.round) Tryd.isAgg22 rfl (by kernel_rfl)) ?_
  refine run_lit (c := #[.int .u32 p.epoch, .int .u32 p.round]) rfl Tryd.underlying64 Tryd.sizeOf22 Tryd.zeroValue22 rfl rfl (by kernel_rfl) (fun g14 => ?_)
  refine run_less (ρ' := [(0, .agg p.arr), (1, .pointer (some ⟨g1, 0, none⟩)), (2, .string ⟨#[]⟩), (3, .int .i64 0), (4, .int .i64 0), (5, .pointer (some ⟨g2, 0, none⟩)), (6, .agg p.arr), (7, .int .i64 0), (8, .int .i64 0), (9, .bool false), (11, .agg #[.pointer none, .slice none 0 0]), (12, .pointer (some ⟨g2, 0, none⟩)), (13, .pointer (some ⟨g2, 0, none⟩)), (14, .pointer (some ⟨g1, 0, none⟩)), (15, .int .u32 p.src), (16, .slice (some ⟨g3, 0, none⟩) 1 1), (18, .pointer (some ⟨g2, 0, none⟩)), (19, .pointer (some ⟨g1, 1, none⟩)), (20, .int .u32 p.inc), (21, .slice (some ⟨g5, 0, none⟩) 1 1), (23, .pointer (some ⟨g2, 0, none⟩)), (24, .pointer (some ⟨g1, 2, none⟩)), (25, .agg #[.int .u32 p.conf.epoch, .int .u32 p.conf.coord, .int .u32 p.conf.inc]), (27, .pointer (some ⟨g2, 0, none⟩)), (28, .pointer (some ⟨g1, 5, none⟩)), (29, .slice (some ⟨g1, 5, none⟩) 8 8), (31, .pointer (some ⟨g2, 0, none⟩)), (32, .pointer (some ⟨g1, 13, none⟩)), (33, .slice (some ⟨g1, 13, none⟩) 8 8), (35, .pointer (some ⟨g2, 0, none⟩)), (36, .pointer (some ⟨g1, 21, none⟩)), (37, .agg #[.int .u32 p.promise.epoch, .int .u32 p.promise.coord, .int .u32 p.promise.inc]), (39, .pointer (some ⟨g2, 0, none⟩)), (40, .pointer (some ⟨g1, 24, none⟩)), (41, .slice (some ⟨g1, 24, none⟩) 8 8), (43, .pointer (some ⟨g2, 0, none⟩)), (44, .pointer (some ⟨g1, 32, none⟩)), (45, .bool p.ready), (46, .int .u32 ((bit p.ready : Nat) : Int)), (47, .slice (some ⟨g12, 0, none⟩) 1 1), (49, .pointer (some ⟨g2, 0, none⟩)), (50, .pointer (some ⟨g1, 33, none⟩)), (51, .int .u32 p.epoch), (52, .pointer (some ⟨g1, 34, none⟩)), (53, .int .u32 p.round), (54, .slice (some ⟨g14, 0, none⟩) 2 2)]) (H' := [.blk g2 (.cells #[.pointer (some ⟨g2, 0, none⟩), .slice Ag13 (((((((((([] : List UInt8) ++ [p.src].flatMap (putI 1)) ++ [p.inc].flatMap (putI 4)) ++ idb p.conf) ++ p.members.list.flatMap (putI 4)) ++ p.count.list.flatMap (putI 4)) ++ idb p.promise) ++ p.wanted.list.flatMap (putI 4)) ++ [((bit p.ready : Nat) : Int)].flatMap (putI 1)).length) cg13] 61), .row Ag13 cg13 5 1 (((((((((([] : List UInt8) ++ [p.src].flatMap (putI 1)) ++ [p.inc].flatMap (putI 4)) ++ idb p.conf) ++ p.members.list.flatMap (putI 4)) ++ p.count.list.flatMap (putI 4)) ++ idb p.promise) ++ p.wanted.list.flatMap (putI 4)) ++ [((bit p.ready : Nat) : Int)].flatMap (putI 1)).length) (Lib.strCells (bs ((((((((([] : List UInt8) ++ [p.src].flatMap (putI 1)) ++ [p.inc].flatMap (putI 4)) ++ idb p.conf) ++ p.members.list.flatMap (putI 4)) ++ p.count.list.flatMap (putI 4)) ++ idb p.promise) ++ p.wanted.list.flatMap (putI 4)) ++ [((bit p.ready : Nat) : Int)].flatMap (putI 1)))), .blk g14 (.cells #[.int .u32 p.epoch, .int .u32 p.round] 22), .blk g12 (.cells #[.int .u32 ((bit p.ready : Nat) : Int)] 22), .blk g5 (.cells #[.int .u32 p.inc] 22), .blk g3 (.cells #[.int .u32 p.src] 22), .blk g1 (.cells p.arr 35)]) [1, 2, 0, 3, 4, 5, 6] ?_ ⟨rfl, rfl, rfl, rfl, rfl, rfl, rfl, rfl, rfl, rfl, rfl, rfl, rfl, rfl, rfl, rfl, rfl, rfl, rfl, rfl, rfl, rfl, rfl, rfl, rfl, rfl, rfl, rfl, rfl, rfl, rfl, rfl, rfl, rfl, rfl, rfl, rfl, rfl, rfl, rfl, rfl, rfl, rfl, rfl, rfl, rfl, trivial⟩ ⟨rfl, rfl, rfl, rfl, rfl, rfl, rfl, trivial⟩ (by decide)
  refine run_callH rfl Tryd.call21 (wput (F := [.blk g14 (.cells #[.int .u32 p.epoch, .int .u32 p.round] 22), .blk g12 (.cells #[.int .u32 ((bit p.ready : Nat) : Int)] 22), .blk g5 (.cells #[.int .u32 p.inc] 22), .blk g3 (.cells #[.int .u32 p.src] 22), .blk g1 (.cells p.arr 35)]) (g := g2) (cap := cg13) (A := Ag13) (some ⟨g2, 0, none⟩) (.inr rfl) ((((((((([] : List UInt8) ++ [p.src].flatMap (putI 1)) ++ [p.inc].flatMap (putI 4)) ++ idb p.conf) ++ p.members.list.flatMap (putI 4)) ++ p.count.list.flatMap (putI 4)) ++ idb p.promise) ++ p.wanted.list.flatMap (putI 4)) ++ [((bit p.ready : Nat) : Int)].flatMap (putI 1)) [p.epoch, p.round] (two_all hp.ok.epoch hp.ok.round) (by simp) (some ⟨g14, 0, none⟩) 2 4 (by decide) (by decide) (know_blk (j := 0) rfl (fun q hq => by rw [Nat.zero_add, List.getElem?_toArray]; rfl)) (by simp only [List.length_append, flat_put_len, idb_length, v8_list_len, flat_enc_len1, flat_enc_len2, List.length_cons, List.length_nil]; omega)) (fun v H' hq => ?_)
  obtain ⟨rfl, Ag15, cg15, rfl⟩ := hq
  refine run_endops ?_
  refine run_seq rfl ?_
  refine run_region (todo := [0, 1, 2, 3, 4, 5, 6]) rfl rfl ?_
  refine run_mv rfl ?_
  refine run_rd (v := .pointer (some ⟨g1, 35, none⟩)) rfl (rd_fieldAddr (o := 35) Tryd.underlying35 rfl Tryd.sizeOf33 rfl rfl) ?_
  refine run_rd (v := .agg p.newest.arr) rfl (rd_loadA (j := 6) (u := p.newest.arr) Tryd.isAgg33 Tryd.sizeOf33 rfl (by kernel_rfl) (by kernel_rfl)) ?_
  refine run_rd (v := .pointer (some ⟨g1, 71, none⟩)) rfl (rd_fieldAddr (o := 71) Tryd.underlying35 rfl Tryd.sizeOf33 rfl rfl) ?_
  refine run_rd (v := .agg p.older.arr) rfl (rd_loadA (j := 6) (u := p.older.arr) Tryd.isAgg33 Tryd.sizeOf33 rfl (by kernel_rfl) (by kernel_rfl)) ?_
  refine run_lit (c := (encF.row [p.newest, p.older]).toArray) rfl Tryd.underlying91 Tryd.sizeOf33 Tryd.zeroValue33 (by kernel_rfl) rfl (by kernel_rfl) (fun g16 => ?_)
  refine run_less (ρ' := [(0, .agg p.arr), (1, .pointer (some ⟨g1, 0, none⟩)), (2, .string ⟨#[]⟩), (3, .int .i64 0), (4, .int .i64 0), (5, .pointer (some ⟨g2, 0, none⟩)), (6, .agg p.arr), (7, .int .i64 0), (8, .int .i64 0), (9, .bool false), (11, .agg #[.pointer none, .slice none 0 0]), (12, .pointer (some ⟨g2, 0, none⟩)), (13, .pointer (some ⟨g2, 0, none⟩)), (14, .pointer (some ⟨g1, 0, none⟩)), (15, .int .u32 p.src), (16, .slice (some ⟨g3, 0, none⟩) 1 1), (18, .pointer (some ⟨g2, 0, none⟩)), (19, .pointer (some ⟨g1, 1, none⟩)), (20, .int .u32 p.inc), (21, .slice (some ⟨g5, 0, none⟩) 1 1), (23, .pointer (some ⟨g2, 0, none⟩)), (24, .pointer (some ⟨g1, 2, none⟩)), (25, .agg #[.int .u32 p.conf.epoch, .int .u32 p.conf.coord, .int .u32 p.conf.inc]), (27, .pointer (some ⟨g2, 0, none⟩)), (28, .pointer (some ⟨g1, 5, none⟩)), (29, .slice (some ⟨g1, 5, none⟩) 8 8), (31, .pointer (some ⟨g2, 0, none⟩)), (32, .pointer (some ⟨g1, 13, none⟩)), (33, .slice (some ⟨g1, 13, none⟩) 8 8), (35, .pointer (some ⟨g2, 0, none⟩)), (36, .pointer (some ⟨g1, 21, none⟩)), (37, .agg #[.int .u32 p.promise.epoch, .int .u32 p.promise.coord, .int .u32 p.promise.inc]), (39, .pointer (some ⟨g2, 0, none⟩)), (40, .pointer (some ⟨g1, 24, none⟩)), (41, .slice (some ⟨g1, 24, none⟩) 8 8), (43, .pointer (some ⟨g2, 0, none⟩)), (44, .pointer (some ⟨g1, 32, none⟩)), (45, .bool p.ready), (46, .int .u32 ((bit p.ready : Nat) : Int)), (47, .slice (some ⟨g12, 0, none⟩) 1 1), (49, .pointer (some ⟨g2, 0, none⟩)), (50, .pointer (some ⟨g1, 33, none⟩)), (51, .int .u32 p.epoch), (52, .pointer (some ⟨g1, 34, none⟩)), (53, .int .u32 p.round), (54, .slice (some ⟨g14, 0, none⟩) 2 2), (56, .pointer (some ⟨g2, 0, none⟩)), (57, .pointer (some ⟨g1, 35, none⟩)), (58, .agg p.newest.arr), (59, .pointer (some ⟨g1, 71, none⟩)), (60, .agg p.older.arr), (61, .slice (some ⟨g16, 0, none⟩) 2 2)]) (H' := [.blk g2 (.cells #[.pointer (some ⟨g2, 0, none⟩), .slice Ag15 ((((((((((([] : List UInt8) ++ [p.src].flatMap (putI 1)) ++ [p.inc].flatMap (putI 4)) ++ idb p.conf) ++ p.members.list.flatMap (putI 4)) ++ p.count.list.flatMap (putI 4)) ++ idb p.promise) ++ p.wanted.list.flatMap (putI 4)) ++ [((bit p.ready : Nat) : Int)].flatMap (putI 1)) ++ [p.epoch, p.round].flatMap (putI 4)).length) cg15] 61), .row Ag15 cg15 5 1 ((((((((((([] : List UInt8) ++ [p.src].flatMap (putI 1)) ++ [p.inc].flatMap (putI 4)) ++ idb p.conf) ++ p.members.list.flatMap (putI 4)) ++ p.count.list.flatMap (putI 4)) ++ idb p.promise) ++ p.wanted.list.flatMap (putI 4)) ++ [((bit p.ready : Nat) : Int)].flatMap (putI 1)) ++ [p.epoch, p.round].flatMap (putI 4)).length) (Lib.strCells (bs (((((((((([] : List UInt8) ++ [p.src].flatMap (putI 1)) ++ [p.inc].flatMap (putI 4)) ++ idb p.conf) ++ p.members.list.flatMap (putI 4)) ++ p.count.list.flatMap (putI 4)) ++ idb p.promise) ++ p.wanted.list.flatMap (putI 4)) ++ [((bit p.ready : Nat) : Int)].flatMap (putI 1)) ++ [p.epoch, p.round].flatMap (putI 4)))), .blk g16 (.cells ((encF.row [p.newest, p.older]).toArray) 33), .blk g14 (.cells #[.int .u32 p.epoch, .int .u32 p.round] 22), .blk g12 (.cells #[.int .u32 ((bit p.ready : Nat) : Int)] 22), .blk g5 (.cells #[.int .u32 p.inc] 22), .blk g3 (.cells #[.int .u32 p.src] 22), .blk g1 (.cells p.arr 35)]) [1, 2, 0, 3, 4, 5, 6, 7] ?_ ⟨rfl, rfl, rfl, rfl, rfl, rfl, rfl, rfl, rfl, rfl, rfl, rfl, rfl, rfl, rfl, rfl, rfl, rfl, rfl, rfl, rfl, rfl, rfl, rfl, rfl, rfl, rfl, rfl, rfl, rfl, rfl, rfl, rfl, rfl, rfl, rfl, rfl, rfl, rfl, rfl, rfl, rfl, rfl, rfl, rfl, rfl, rfl, rfl, rfl, rfl, rfl, rfl, trivial⟩ ⟨rfl, rfl, rfl, rfl, rfl, rfl, rfl, rfl, trivial⟩ (by decide)
  refine run_callH rfl Tryd.call24 (wframes (F := [.blk g16 (.cells ((encF.row [p.newest, p.older]).toArray) 33), .blk g14 (.cells #[.int .u32 p.epoch, .int .u32 p.round] 22), .blk g12 (.cells #[.int .u32 ((bit p.ready : Nat) : Int)] 22), .blk g5 (.cells #[.int .u32 p.inc] 22), .blk g3 (.cells #[.int .u32 p.src] 22), .blk g1 (.cells p.arr 35)]) (g := g2) (cap := cg15) (A := Ag15) (some ⟨g2, 0, none⟩) (.inr rfl) (((((((((([] : List UInt8) ++ [p.src].flatMap (putI 1)) ++ [p.inc].flatMap (putI 4)) ++ idb p.conf) ++ p.members.list.flatMap (putI 4)) ++ p.count.list.flatMap (putI 4)) ++ idb p.promise) ++ p.wanted.list.flatMap (putI 4)) ++ [((bit p.ready : Nat) : Int)].flatMap (putI 1)) ++ [p.epoch, p.round].flatMap (putI 4)) [p.newest, p.older] (fr_all2 hp.newest hp.older) (by simp) (some ⟨g16, 0, none⟩) 2 (know_blk (j := 0) rfl (fun q hq => by rw [Nat.zero_add, List.getElem?_toArray])) (by simp only [List.length_append, flat_put_len, idb_length, v8_list_len, flat_enc_len1, flat_enc_len2, List.length_cons, List.length_nil]; omega)) (fun v H' hq => ?_)
  obtain ⟨rfl, Ag17, cg17, rfl⟩ := hq
  refine run_endops ?_
  refine run_seq rfl ?_
  refine run_region (todo := [0, 1, 2, 3, 4]) rfl rfl ?_
  refine run_mv rfl ?_
  refine run_rd (v := .pointer (some ⟨g1, 107, none⟩)) rfl (rd_fieldAddr (o := 107) Tryd.underlying35 rfl Tryd.sizeOf22 rfl rfl) ?_
  refine run_rd (v := .int .u32 p.relayOf) rfl (rd_load (j := 7) (v := .int .u32 p.relayOf) Tryd.isAgg22 rfl (by kernel_rfl)) ?_
  refine run_lit (c := #[.int .u32 p.relayOf]) rfl Tryd.underlying64 Tryd.sizeOf22 Tryd.zeroValue22 rfl rfl (by kernel_rfl) (fun g18 => ?_)
  refine run_less (ρ' := [(0, .agg p.arr), (1, .pointer (some ⟨g1, 0, none⟩)), (2, .string ⟨#[]⟩), (3, .int .i64 0), (4, .int .i64 0), (5, .pointer (some ⟨g2, 0, none⟩)), (6, .agg p.arr), (7, .int .i64 0), (8, .int .i64 0), (9, .bool false), (11, .agg #[.pointer none, .slice none 0 0]), (12, .pointer (some ⟨g2, 0, none⟩)), (13, .pointer (some ⟨g2, 0, none⟩)), (14, .pointer (some ⟨g1, 0, none⟩)), (15, .int .u32 p.src), (16, .slice (some ⟨g3, 0, none⟩) 1 1), (18, .pointer (some ⟨g2, 0, none⟩)), (19, .pointer (some ⟨g1, 1, none⟩)), (20, .int .u32 p.inc), (21, .slice (some ⟨g5, 0, none⟩) 1 1), (23, .pointer (some ⟨g2, 0, none⟩)), (24, .pointer (some ⟨g1, 2, none⟩)), (25, .agg #[.int .u32 p.conf.epoch, .int .u32 p.conf.coord, .int .u32 p.conf.inc]), (27, .pointer (some ⟨g2, 0, none⟩)), (28, .pointer (some ⟨g1, 5, none⟩)), (29, .slice (some ⟨g1, 5, none⟩) 8 8), (31, .pointer (some ⟨g2, 0, none⟩)), (32, .pointer (some ⟨g1, 13, none⟩)), (33, .slice (some ⟨g1, 13, none⟩) 8 8), (35, .pointer (some ⟨g2, 0, none⟩)), (36, .pointer (some ⟨g1, 21, none⟩)), (37, .agg #[.int .u32 p.promise.epoch, .int .u32 p.promise.coord, .int .u32 p.promise.inc]), (39, .pointer (some ⟨g2, 0, none⟩)), (40, .pointer (some ⟨g1, 24, none⟩)), (41, .slice (some ⟨g1, 24, none⟩) 8 8), (43, .pointer (some ⟨g2, 0, none⟩)), (44, .pointer (some ⟨g1, 32, none⟩)), (45, .bool p.ready), (46, .int .u32 ((bit p.ready : Nat) : Int)), (47, .slice (some ⟨g12, 0, none⟩) 1 1), (49, .pointer (some ⟨g2, 0, none⟩)), (50, .pointer (some ⟨g1, 33, none⟩)), (51, .int .u32 p.epoch), (52, .pointer (some ⟨g1, 34, none⟩)), (53, .int .u32 p.round), (54, .slice (some ⟨g14, 0, none⟩) 2 2), (56, .pointer (some ⟨g2, 0, none⟩)), (57, .pointer (some ⟨g1, 35, none⟩)), (58, .agg p.newest.arr), (59, .pointer (some ⟨g1, 71, none⟩)), (60, .agg p.older.arr), (61, .slice (some ⟨g16, 0, none⟩) 2 2), (63, .pointer (some ⟨g2, 0, none⟩)), (64, .pointer (some ⟨g1, 107, none⟩)), (65, .int .u32 p.relayOf), (66, .slice (some ⟨g18, 0, none⟩) 1 1)]) (H' := [.blk g2 (.cells #[.pointer (some ⟨g2, 0, none⟩), .slice Ag17 (((((((((((([] : List UInt8) ++ [p.src].flatMap (putI 1)) ++ [p.inc].flatMap (putI 4)) ++ idb p.conf) ++ p.members.list.flatMap (putI 4)) ++ p.count.list.flatMap (putI 4)) ++ idb p.promise) ++ p.wanted.list.flatMap (putI 4)) ++ [((bit p.ready : Nat) : Int)].flatMap (putI 1)) ++ [p.epoch, p.round].flatMap (putI 4)) ++ [p.newest, p.older].flatMap Fr.enc).length) cg17] 61), .row Ag17 cg17 5 1 (((((((((((([] : List UInt8) ++ [p.src].flatMap (putI 1)) ++ [p.inc].flatMap (putI 4)) ++ idb p.conf) ++ p.members.list.flatMap (putI 4)) ++ p.count.list.flatMap (putI 4)) ++ idb p.promise) ++ p.wanted.list.flatMap (putI 4)) ++ [((bit p.ready : Nat) : Int)].flatMap (putI 1)) ++ [p.epoch, p.round].flatMap (putI 4)) ++ [p.newest, p.older].flatMap Fr.enc).length) (Lib.strCells (bs ((((((((((([] : List UInt8) ++ [p.src].flatMap (putI 1)) ++ [p.inc].flatMap (putI 4)) ++ idb p.conf) ++ p.members.list.flatMap (putI 4)) ++ p.count.list.flatMap (putI 4)) ++ idb p.promise) ++ p.wanted.list.flatMap (putI 4)) ++ [((bit p.ready : Nat) : Int)].flatMap (putI 1)) ++ [p.epoch, p.round].flatMap (putI 4)) ++ [p.newest, p.older].flatMap Fr.enc))), .blk g18 (.cells #[.int .u32 p.relayOf] 22), .blk g16 (.cells ((encF.row [p.newest, p.older]).toArray) 33), .blk g14 (.cells #[.int .u32 p.epoch, .int .u32 p.round] 22), .blk g12 (.cells #[.int .u32 ((bit p.ready : Nat) : Int)] 22), .blk g5 (.cells #[.int .u32 p.inc] 22), .blk g3 (.cells #[.int .u32 p.src] 22), .blk g1 (.cells p.arr 35)]) [1, 2, 0, 3, 4, 5, 6, 7, 8] ?_ ⟨rfl, rfl, rfl, rfl, rfl, rfl, rfl, rfl, rfl, rfl, rfl, rfl, rfl, rfl, rfl, rfl, rfl, rfl, rfl, rfl, rfl, rfl, rfl, rfl, rfl, rfl, rfl, rfl, rfl, rfl, rfl, rfl, rfl, rfl, rfl, rfl, rfl, rfl, rfl, rfl, rfl, rfl, rfl, rfl, rfl, rfl, rfl, rfl, rfl, rfl, rfl, rfl, rfl, rfl, rfl, rfl, trivial⟩ ⟨rfl, rfl, rfl, rfl, rfl, rfl, rfl, rfl, rfl, trivial⟩ (by decide)
  refine run_callH rfl Tryd.call21 (wput (F := [.blk g18 (.cells #[.int .u32 p.relayOf] 22), .blk g16 (.cells ((encF.row [p.newest, p.older]).toArray) 33), .blk g14 (.cells #[.int .u32 p.epoch, .int .u32 p.round] 22), .blk g12 (.cells #[.int .u32 ((bit p.ready : Nat) : Int)] 22), .blk g5 (.cells #[.int .u32 p.inc] 22), .blk g3 (.cells #[.int .u32 p.src] 22), .blk g1 (.cells p.arr 35)]) (g := g2) (cap := cg17) (A := Ag17) (some ⟨g2, 0, none⟩) (.inr rfl) ((((((((((([] : List UInt8) ++ [p.src].flatMap (putI 1)) ++ [p.inc].flatMap (putI 4)) ++ idb p.conf) ++ p.members.list.flatMap (putI 4)) ++ p.count.list.flatMap (putI 4)) ++ idb p.promise) ++ p.wanted.list.flatMap (putI 4)) ++ [((bit p.ready : Nat) : Int)].flatMap (putI 1)) ++ [p.epoch, p.round].flatMap (putI 4)) ++ [p.newest, p.older].flatMap Fr.enc) [p.relayOf] (one_all hp.ok.relayOf) (by simp) (some ⟨g18, 0, none⟩) 1 1 (by decide) (by decide) (know_blk (j := 0) rfl (fun q hq => by rw [Nat.zero_add, List.getElem?_toArray]; rfl)) (by simp only [List.length_append, flat_put_len, idb_length, v8_list_len, flat_enc_len1, flat_enc_len2, List.length_cons, List.length_nil]; omega)) (fun v H' hq => ?_)
  obtain ⟨rfl, Ag19, cg19, rfl⟩ := hq
  refine run_endops ?_
  refine run_seq rfl ?_
  refine run_region (todo := [0, 1, 2, 3, 4]) rfl rfl ?_
  refine run_mv rfl ?_
  refine run_rd (v := .pointer (some ⟨g1, 108, none⟩)) rfl (rd_fieldAddr (o := 108) Tryd.underlying35 rfl Tryd.sizeOf22 rfl rfl) ?_
  refine run_rd (v := .int .u32 p.relayRound) rfl (rd_load (j := 8) (v := .int .u32 p.relayRound) Tryd.isAgg22 rfl (by kernel_rfl)) ?_
  refine run_lit (c := #[.int .u32 p.relayRound]) rfl Tryd.underlying64 Tryd.sizeOf22 Tryd.zeroValue22 rfl rfl (by kernel_rfl) (fun g20 => ?_)
  refine run_less (ρ' := [(0, .agg p.arr), (1, .pointer (some ⟨g1, 0, none⟩)), (2, .string ⟨#[]⟩), (3, .int .i64 0), (4, .int .i64 0), (5, .pointer (some ⟨g2, 0, none⟩)), (6, .agg p.arr), (7, .int .i64 0), (8, .int .i64 0), (9, .bool false), (11, .agg #[.pointer none, .slice none 0 0]), (12, .pointer (some ⟨g2, 0, none⟩)), (13, .pointer (some ⟨g2, 0, none⟩)), (14, .pointer (some ⟨g1, 0, none⟩)), (15, .int .u32 p.src), (16, .slice (some ⟨g3, 0, none⟩) 1 1), (18, .pointer (some ⟨g2, 0, none⟩)), (19, .pointer (some ⟨g1, 1, none⟩)), (20, .int .u32 p.inc), (21, .slice (some ⟨g5, 0, none⟩) 1 1), (23, .pointer (some ⟨g2, 0, none⟩)), (24, .pointer (some ⟨g1, 2, none⟩)), (25, .agg #[.int .u32 p.conf.epoch, .int .u32 p.conf.coord, .int .u32 p.conf.inc]), (27, .pointer (some ⟨g2, 0, none⟩)), (28, .pointer (some ⟨g1, 5, none⟩)), (29, .slice (some ⟨g1, 5, none⟩) 8 8), (31, .pointer (some ⟨g2, 0, none⟩)), (32, .pointer (some ⟨g1, 13, none⟩)), (33, .slice (some ⟨g1, 13, none⟩) 8 8), (35, .pointer (some ⟨g2, 0, none⟩)), (36, .pointer (some ⟨g1, 21, none⟩)), (37, .agg #[.int .u32 p.promise.epoch, .int .u32 p.promise.coord, .int .u32 p.promise.inc]), (39, .pointer (some ⟨g2, 0, none⟩)), (40, .pointer (some ⟨g1, 24, none⟩)), (41, .slice (some ⟨g1, 24, none⟩) 8 8), (43, .pointer (some ⟨g2, 0, none⟩)), (44, .pointer (some ⟨g1, 32, none⟩)), (45, .bool p.ready), (46, .int .u32 ((bit p.ready : Nat) : Int)), (47, .slice (some ⟨g12, 0, none⟩) 1 1), (49, .pointer (some ⟨g2, 0, none⟩)), (50, .pointer (some ⟨g1, 33, none⟩)), (51, .int .u32 p.epoch), (52, .pointer (some ⟨g1, 34, none⟩)), (53, .int .u32 p.round), (54, .slice (some ⟨g14, 0, none⟩) 2 2), (56, .pointer (some ⟨g2, 0, none⟩)), (57, .pointer (some ⟨g1, 35, none⟩)), (58, .agg p.newest.arr), (59, .pointer (some ⟨g1, 71, none⟩)), (60, .agg p.older.arr), (61, .slice (some ⟨g16, 0, none⟩) 2 2), (63, .pointer (some ⟨g2, 0, none⟩)), (64, .pointer (some ⟨g1, 107, none⟩)), (65, .int .u32 p.relayOf), (66, .slice (some ⟨g18, 0, none⟩) 1 1), (68, .pointer (some ⟨g2, 0, none⟩)), (69, .pointer (some ⟨g1, 108, none⟩)), (70, .int .u32 p.relayRound), (71, .slice (some ⟨g20, 0, none⟩) 1 1)]) (H' := [.blk g2 (.cells #[.pointer (some ⟨g2, 0, none⟩), .slice Ag19 ((((((((((((([] : List UInt8) ++ [p.src].flatMap (putI 1)) ++ [p.inc].flatMap (putI 4)) ++ idb p.conf) ++ p.members.list.flatMap (putI 4)) ++ p.count.list.flatMap (putI 4)) ++ idb p.promise) ++ p.wanted.list.flatMap (putI 4)) ++ [((bit p.ready : Nat) : Int)].flatMap (putI 1)) ++ [p.epoch, p.round].flatMap (putI 4)) ++ [p.newest, p.older].flatMap Fr.enc) ++ [p.relayOf].flatMap (putI 1)).length) cg19] 61), .row Ag19 cg19 5 1 ((((((((((((([] : List UInt8) ++ [p.src].flatMap (putI 1)) ++ [p.inc].flatMap (putI 4)) ++ idb p.conf) ++ p.members.list.flatMap (putI 4)) ++ p.count.list.flatMap (putI 4)) ++ idb p.promise) ++ p.wanted.list.flatMap (putI 4)) ++ [((bit p.ready : Nat) : Int)].flatMap (putI 1)) ++ [p.epoch, p.round].flatMap (putI 4)) ++ [p.newest, p.older].flatMap Fr.enc) ++ [p.relayOf].flatMap (putI 1)).length) (Lib.strCells (bs (((((((((((([] : List UInt8) ++ [p.src].flatMap (putI 1)) ++ [p.inc].flatMap (putI 4)) ++ idb p.conf) ++ p.members.list.flatMap (putI 4)) ++ p.count.list.flatMap (putI 4)) ++ idb p.promise) ++ p.wanted.list.flatMap (putI 4)) ++ [((bit p.ready : Nat) : Int)].flatMap (putI 1)) ++ [p.epoch, p.round].flatMap (putI 4)) ++ [p.newest, p.older].flatMap Fr.enc) ++ [p.relayOf].flatMap (putI 1)))), .blk g20 (.cells #[.int .u32 p.relayRound] 22), .blk g18 (.cells #[.int .u32 p.relayOf] 22), .blk g16 (.cells ((encF.row [p.newest, p.older]).toArray) 33), .blk g14 (.cells #[.int .u32 p.epoch, .int .u32 p.round] 22), .blk g12 (.cells #[.int .u32 ((bit p.ready : Nat) : Int)] 22), .blk g5 (.cells #[.int .u32 p.inc] 22), .blk g3 (.cells #[.int .u32 p.src] 22), .blk g1 (.cells p.arr 35)]) [1, 2, 0, 3, 4, 5, 6, 7, 8, 9] ?_ ⟨rfl, rfl, rfl, rfl, rfl, rfl, rfl, rfl, rfl, rfl, rfl, rfl, rfl, rfl, rfl, rfl, rfl, rfl, rfl, rfl, rfl, rfl, rfl, rfl, rfl, rfl, rfl, rfl, rfl, rfl, rfl, rfl, rfl, rfl, rfl, rfl, rfl, rfl, rfl, rfl, rfl, rfl, rfl, rfl, rfl, rfl, rfl, rfl, rfl, rfl, rfl, rfl, rfl, rfl, rfl, rfl, rfl, rfl, rfl, rfl, trivial⟩ ⟨rfl, rfl, rfl, rfl, rfl, rfl, rfl, rfl, rfl, rfl, trivial⟩ (by decide)
  refine run_callH rfl Tryd.call21 (wput (F := [.blk g20 (.cells #[.int .u32 p.relayRound] 22), .blk g18 (.cells #[.int .u32 p.relayOf] 22), .blk g16 (.cells ((encF.row [p.newest, p.older]).toArray) 33), .blk g14 (.cells #[.int .u32 p.epoch, .int .u32 p.round] 22), .blk g12 (.cells #[.int .u32 ((bit p.ready : Nat) : Int)] 22), .blk g5 (.cells #[.int .u32 p.inc] 22), .blk g3 (.cells #[.int .u32 p.src] 22), .blk g1 (.cells p.arr 35)]) (g := g2) (cap := cg19) (A := Ag19) (some ⟨g2, 0, none⟩) (.inr rfl) (((((((((((([] : List UInt8) ++ [p.src].flatMap (putI 1)) ++ [p.inc].flatMap (putI 4)) ++ idb p.conf) ++ p.members.list.flatMap (putI 4)) ++ p.count.list.flatMap (putI 4)) ++ idb p.promise) ++ p.wanted.list.flatMap (putI 4)) ++ [((bit p.ready : Nat) : Int)].flatMap (putI 1)) ++ [p.epoch, p.round].flatMap (putI 4)) ++ [p.newest, p.older].flatMap Fr.enc) ++ [p.relayOf].flatMap (putI 1)) [p.relayRound] (one_all hp.ok.relayRound) (by simp) (some ⟨g20, 0, none⟩) 1 4 (by decide) (by decide) (know_blk (j := 0) rfl (fun q hq => by rw [Nat.zero_add, List.getElem?_toArray]; rfl)) (by simp only [List.length_append, flat_put_len, idb_length, v8_list_len, flat_enc_len1, flat_enc_len2, List.length_cons, List.length_nil]; omega)) (fun v H' hq => ?_)
  obtain ⟨rfl, Ag21, cg21, rfl⟩ := hq
  refine run_endops ?_
  refine run_seq rfl ?_
  refine run_region (todo := [0, 1, 2, 3, 4]) rfl rfl ?_
  refine run_mv rfl ?_
  refine run_rd (v := .pointer (some ⟨g1, 109, none⟩)) rfl (rd_fieldAddr (o := 109) Tryd.underlying35 rfl Tryd.sizeOf33 rfl rfl) ?_
  refine run_rd (v := .agg p.relay.arr) rfl (rd_loadA (j := 9) (u := p.relay.arr) Tryd.isAgg33 Tryd.sizeOf33 rfl (by kernel_rfl) (by kernel_rfl)) ?_
  refine run_lit (c := (encF.row [p.relay]).toArray) rfl Tryd.underlying91 Tryd.sizeOf33 Tryd.zeroValue33 (by kernel_rfl) rfl (by kernel_rfl) (fun g22 => ?_)
  refine run_less (ρ' := [(0, .agg p.arr), (1, .pointer (some ⟨g1, 0, none⟩)), (2, .string ⟨#[]⟩), (3, .int .i64 0), (4, .int .i64 0), (5, .pointer (some ⟨g2, 0, none⟩)), (6, .agg p.arr), (7, .int .i64 0), (8, .int .i64 0), (9, .bool false), (11, .agg #[.pointer none, .slice none 0 0]), (12, .pointer (some ⟨g2, 0, none⟩)), (13, .pointer (some ⟨g2, 0, none⟩)), (14, .pointer (some ⟨g1, 0, none⟩)), (15, .int .u32 p.src), (16, .slice (some ⟨g3, 0, none⟩) 1 1), (18, .pointer (some ⟨g2, 0, none⟩)), (19, .pointer (some ⟨g1, 1, none⟩)), (20, .int .u32 p.inc), (21, .slice (some ⟨g5, 0, none⟩) 1 1), (23, .pointer (some ⟨g2, 0, none⟩)), (24, .pointer (some ⟨g1, 2, none⟩)), (25, .agg #[.int .u32 p.conf.epoch, .int .u32 p.conf.coord, .int .u32 p.conf.inc]), (27, .pointer (some ⟨g2, 0, none⟩)), (28, .pointer (some ⟨g1, 5, none⟩)), (29, .slice (some ⟨g1, 5, none⟩) 8 8), (31, .pointer (some ⟨g2, 0, none⟩)), (32, .pointer (some ⟨g1, 13, none⟩)), (33, .slice (some ⟨g1, 13, none⟩) 8 8), (35, .pointer (some ⟨g2, 0, none⟩)), (36, .pointer (some ⟨g1, 21, none⟩)), (37, .agg #[.int .u32 p.promise.epoch, .int .u32 p.promise.coord, .int .u32 p.promise.inc]), (39, .pointer (some ⟨g2, 0, none⟩)), (40, .pointer (some ⟨g1, 24, none⟩)), (41, .slice (some ⟨g1, 24, none⟩) 8 8), (43, .pointer (some ⟨g2, 0, none⟩)), (44, .pointer (some ⟨g1, 32, none⟩)), (45, .bool p.ready), (46, .int .u32 ((bit p.ready : Nat) : Int)), (47, .slice (some ⟨g12, 0, none⟩) 1 1), (49, .pointer (some ⟨g2, 0, none⟩)), (50, .pointer (some ⟨g1, 33, none⟩)), (51, .int .u32 p.epoch), (52, .pointer (some ⟨g1, 34, none⟩)), (53, .int .u32 p.round), (54, .slice (some ⟨g14, 0, none⟩) 2 2), (56, .pointer (some ⟨g2, 0, none⟩)), (57, .pointer (some ⟨g1, 35, none⟩)), (58, .agg p.newest.arr), (59, .pointer (some ⟨g1, 71, none⟩)), (60, .agg p.older.arr), (61, .slice (some ⟨g16, 0, none⟩) 2 2), (63, .pointer (some ⟨g2, 0, none⟩)), (64, .pointer (some ⟨g1, 107, none⟩)), (65, .int .u32 p.relayOf), (66, .slice (some ⟨g18, 0, none⟩) 1 1), (68, .pointer (some ⟨g2, 0, none⟩)), (69, .pointer (some ⟨g1, 108, none⟩)), (70, .int .u32 p.relayRound), (71, .slice (some ⟨g20, 0, none⟩) 1 1), (73, .pointer (some ⟨g2, 0, none⟩)), (74, .pointer (some ⟨g1, 109, none⟩)), (75, .agg p.relay.arr), (76, .slice (some ⟨g22, 0, none⟩) 1 1)]) (H' := [.blk g2 (.cells #[.pointer (some ⟨g2, 0, none⟩), .slice Ag21 (((((((((((((([] : List UInt8) ++ [p.src].flatMap (putI 1)) ++ [p.inc].flatMap (putI 4)) ++ idb p.conf) ++ p.members.list.flatMap (putI 4)) ++ p.count.list.flatMap (putI 4)) ++ idb p.promise) ++ p.wanted.list.flatMap (putI 4)) ++ [((bit p.ready : Nat) : Int)].flatMap (putI 1)) ++ [p.epoch, p.round].flatMap (putI 4)) ++ [p.newest, p.older].flatMap Fr.enc) ++ [p.relayOf].flatMap (putI 1)) ++ [p.relayRound].flatMap (putI 4)).length) cg21] 61), .row Ag21 cg21 5 1 (((((((((((((([] : List UInt8) ++ [p.src].flatMap (putI 1)) ++ [p.inc].flatMap (putI 4)) ++ idb p.conf) ++ p.members.list.flatMap (putI 4)) ++ p.count.list.flatMap (putI 4)) ++ idb p.promise) ++ p.wanted.list.flatMap (putI 4)) ++ [((bit p.ready : Nat) : Int)].flatMap (putI 1)) ++ [p.epoch, p.round].flatMap (putI 4)) ++ [p.newest, p.older].flatMap Fr.enc) ++ [p.relayOf].flatMap (putI 1)) ++ [p.relayRound].flatMap (putI 4)).length) (Lib.strCells (bs ((((((((((((([] : List UInt8) ++ [p.src].flatMap (putI 1)) ++ [p.inc].flatMap (putI 4)) ++ idb p.conf) ++ p.members.list.flatMap (putI 4)) ++ p.count.list.flatMap (putI 4)) ++ idb p.promise) ++ p.wanted.list.flatMap (putI 4)) ++ [((bit p.ready : Nat) : Int)].flatMap (putI 1)) ++ [p.epoch, p.round].flatMap (putI 4)) ++ [p.newest, p.older].flatMap Fr.enc) ++ [p.relayOf].flatMap (putI 1)) ++ [p.relayRound].flatMap (putI 4)))), .blk g22 (.cells ((encF.row [p.relay]).toArray) 33), .blk g20 (.cells #[.int .u32 p.relayRound] 22), .blk g18 (.cells #[.int .u32 p.relayOf] 22), .blk g16 (.cells ((encF.row [p.newest, p.older]).toArray) 33), .blk g14 (.cells #[.int .u32 p.epoch, .int .u32 p.round] 22), .blk g12 (.cells #[.int .u32 ((bit p.ready : Nat) : Int)] 22), .blk g5 (.cells #[.int .u32 p.inc] 22), .blk g3 (.cells #[.int .u32 p.src] 22), .blk g1 (.cells p.arr 35)]) [1, 2, 0, 3, 4, 5, 6, 7, 8, 9, 10] ?_ ⟨rfl, rfl, rfl, rfl, rfl, rfl, rfl, rfl, rfl, rfl, rfl, rfl, rfl, rfl, rfl, rfl, rfl, rfl, rfl, rfl, rfl, rfl, rfl, rfl, rfl, rfl, rfl, rfl, rfl, rfl, rfl, rfl, rfl, rfl, rfl, rfl, rfl, rfl, rfl, rfl, rfl, rfl, rfl, rfl, rfl, rfl, rfl, rfl, rfl, rfl, rfl, rfl, rfl, rfl, rfl, rfl, rfl, rfl, rfl, rfl, rfl, rfl, rfl, rfl, trivial⟩ ⟨rfl, rfl, rfl, rfl, rfl, rfl, rfl, rfl, rfl, rfl, rfl, trivial⟩ (by decide)
  refine run_callH rfl Tryd.call24 (wframes (F := [.blk g22 (.cells ((encF.row [p.relay]).toArray) 33), .blk g20 (.cells #[.int .u32 p.relayRound] 22), .blk g18 (.cells #[.int .u32 p.relayOf] 22), .blk g16 (.cells ((encF.row [p.newest, p.older]).toArray) 33), .blk g14 (.cells #[.int .u32 p.epoch, .int .u32 p.round] 22), .blk g12 (.cells #[.int .u32 ((bit p.ready : Nat) : Int)] 22), .blk g5 (.cells #[.int .u32 p.inc] 22), .blk g3 (.cells #[.int .u32 p.src] 22), .blk g1 (.cells p.arr 35)]) (g := g2) (cap := cg21) (A := Ag21) (some ⟨g2, 0, none⟩) (.inr rfl) ((((((((((((([] : List UInt8) ++ [p.src].flatMap (putI 1)) ++ [p.inc].flatMap (putI 4)) ++ idb p.conf) ++ p.members.list.flatMap (putI 4)) ++ p.count.list.flatMap (putI 4)) ++ idb p.promise) ++ p.wanted.list.flatMap (putI 4)) ++ [((bit p.ready : Nat) : Int)].flatMap (putI 1)) ++ [p.epoch, p.round].flatMap (putI 4)) ++ [p.newest, p.older].flatMap Fr.enc) ++ [p.relayOf].flatMap (putI 1)) ++ [p.relayRound].flatMap (putI 4)) [p.relay] (fr_all1 hp.relay) (by simp) (some ⟨g22, 0, none⟩) 1 (know_blk (j := 0) rfl (fun q hq => by rw [Nat.zero_add, List.getElem?_toArray])) (by simp only [List.length_append, flat_put_len, idb_length, v8_list_len, flat_enc_len1, flat_enc_len2, List.length_cons, List.length_nil]; omega)) (fun v H' hq => ?_)
  obtain ⟨rfl, Ag23, cg23, rfl⟩ := hq
  refine run_endops ?_
  refine run_seq rfl ?_
  refine run_region (todo := [0, 1, 2, 3, 4, 5, 6]) rfl rfl ?_
  refine run_mv rfl ?_
  refine run_mv rfl ?_
  refine run_rd (v := .pointer (some ⟨g2, 0, none⟩)) rfl (rd_fieldAddr (o := 0) Tryd.underlying61 rfl Tryd.sizeOf59 rfl rfl) ?_
  refine run_callH rfl Tryd.call26 (wbldString (F := [.blk g22 (.cells ((encF.row [p.relay]).toArray) 33), .blk g20 (.cells #[.int .u32 p.relayRound] 22), .blk g18 (.cells #[.int .u32 p.relayOf] 22), .blk g16 (.cells ((encF.row [p.newest, p.older]).toArray) 33), .blk g14 (.cells #[.int .u32 p.epoch, .int .u32 p.round] 22), .blk g12 (.cells #[.int .u32 ((bit p.ready : Nat) : Int)] 22), .blk g5 (.cells #[.int .u32 p.inc] 22), .blk g3 (.cells #[.int .u32 p.src] 22), .blk g1 (.cells p.arr 35)]) (g := g2) (cap := cg23) (A := Ag23) (some ⟨g2, 0, none⟩) (((((((((((((([] : List UInt8) ++ [p.src].flatMap (putI 1)) ++ [p.inc].flatMap (putI 4)) ++ idb p.conf) ++ p.members.list.flatMap (putI 4)) ++ p.count.list.flatMap (putI 4)) ++ idb p.promise) ++ p.wanted.list.flatMap (putI 4)) ++ [((bit p.ready : Nat) : Int)].flatMap (putI 1)) ++ [p.epoch, p.round].flatMap (putI 4)) ++ [p.newest, p.older].flatMap Fr.enc) ++ [p.relayOf].flatMap (putI 1)) ++ [p.relayRound].flatMap (putI 4)) ++ [p.relay].flatMap Fr.enc) (by intro h; have h := congrArg List.length h; simp only [List.length_append, List.length_nil, idb_length] at h; omega)) (fun v H' hq => ?_)
  obtain ⟨rfl, rfl⟩ := hq
  have hbody : (((((((((((((([] : List UInt8) ++ [p.src].flatMap (putI 1)) ++ [p.inc].flatMap (putI 4)) ++ idb p.conf) ++ p.members.list.flatMap (putI 4)) ++ p.count.list.flatMap (putI 4)) ++ idb p.promise) ++ p.wanted.list.flatMap (putI 4)) ++ [((bit p.ready : Nat) : Int)].flatMap (putI 1)) ++ [p.epoch, p.round].flatMap (putI 4)) ++ [p.newest, p.older].flatMap Fr.enc) ++ [p.relayOf].flatMap (putI 1)) ++ [p.relayRound].flatMap (putI 4)) ++ [p.relay].flatMap Fr.enc) = p.body := by
    obtain ⟨-, m1, m2, m3⟩ := Pkt.may_iff.1 hmp
    simp only [List.flatMap_cons, List.flatMap_nil, List.append_nil, List.nil_append, enc_of m1, enc_of m2, enc_of m3, v8_flat, putI, Pkt.body, List.append_assoc, Int.toNat_natCast]
  rw [hbody]
  refine run_pf0 (v := .string (bs (seal4 p.body))) rfl Tryd.call25 (pf_crcSeal p.body (by rw [Pkt.body_length hmp]; decide)) ?_
  refine run_mv rfl ?_
  refine run_mv rfl ?_
  refine run_endops ?_
  refine run_ret rfl (v := .tuple #[.string (bs (seal4 p.body)), .int .i64 0]) (res2 rfl rfl rfl) ?_
  rfl

theorem pencode_no (p : Pkt) (hp : p.Fit) (hmp : p.may = false) : Pf Tryd.prog 9 #[p.val] (.tuple #[.string ⟨#[]⟩, .int .i64 52]) := by
  refine pf_of_run Tryd.func9 rfl rfl (fun w0 => ?_)
  refine run_seq rfl ?_
  refine run_region (todo := [0, 1, 2]) rfl rfl ?_
  refine run_box rfl (fun g1 => ?_)
  refine run_mv rfl ?_
  refine run_mv rfl ?_
  refine run_endops ?_
  refine run_seq rfl ?_
  refine run_seq rfl ?_
  refine run_region (todo := [0, 1, 2]) rfl rfl ?_
  refine run_rd (v := .agg p.arr) rfl (rd_loadW (j := 0) Tryd.isAgg35 Tryd.sizeOf35 rfl (by kernel_rfl)) ?_
  refine run_pf0 (v := .int .i64 52) rfl Tryd.call12 (by have h := pf_pcheck p hp; rw [hmp] at h; exact h) ?_
  refine run_mv rfl ?_
  refine run_endops ?_
  refine run_seq rfl ?_
  refine run_region (todo := [0, 1]) rfl rfl ?_
  refine run_mv rfl ?_
  refine run_rd (v := .bool true) rfl (rd_cmp rfl rfl) ?_
  refine run_endops ?_
  refine run_true rfl rfl ?_
  refine run_seq rfl ?_
  refine run_region (todo := [0, 1, 2]) rfl rfl ?_
  refine run_mv rfl ?_
  refine run_mv rfl ?_
  refine run_mv rfl ?_
  refine run_endops ?_
  refine run_ret rfl (v := .tuple #[.string ⟨#[]⟩, .int .i64 52]) (res2 rfl rfl rfl) ?_
  rfl

theorem pf_pencode (p : Pkt) (hp : p.Fit) : Pf Tryd.prog 9 #[p.val] (.tuple #[.string (bs p.enc), .int .i64 (pkCode p.may)]) := by
  cases h : p.may with
  | true => unfold Pkt.enc; rw [if_pos h]; exact pencode_yes p hp h
  | false => unfold Pkt.enc; rw [if_neg (by rw [h]; decide)]; exact pencode_no p hp h

end Go.Proofs.YthapghhmeicbnaaDoor
