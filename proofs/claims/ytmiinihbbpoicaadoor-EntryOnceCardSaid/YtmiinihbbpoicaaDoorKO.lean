/- EntryOnce: the walk. Printed by wip/k/genO.py. -/
import Derived.Test.YtmiinihbbpoicaaDoorKD
import Derived.Test.YtmiinihbbpoicaaDoorW03h
set_option linter.unusedVariables false
set_option linter.unusedSimpArgs false
namespace Go.Proofs.YtmiinihbbpoicaaDoor
open Go.RowKit

theorem out_some {l : List UInt8} (h : outC l = 0) : entDec l = some (outE l) := by
  unfold outC at h
  unfold outE
  cases hd : entDec l with
  | none => rw [hd] at h; simp at h
  | some e => rfl
theorem pf_put8 : Pf Tryd.prog 17 #[.int .u64 0, .int .i64 8] (.string (bs [0, 0, 0, 0, 0, 0, 0, 0])) := by
  refine pf_of_below fun w => ?_
  have h := rput_all 0 8 w (by decide)
  rw [show putZ 0 8 = [0, 0, 0, 0, 0, 0, 0, 0] from by decide] at h
  exact h
theorem pf_put4 : Pf Tryd.prog 17 #[.int .u64 0, .int .i64 4] (.string (bs [0, 0, 0, 0])) := by
  refine pf_of_below fun w => ?_
  have h := rput_all 0 4 w (by decide)
  rw [show putZ 0 4 = [0, 0, 0, 0] from by decide] at h
  exact h
theorem pf_dec0 : Pf Tryd.prog 15 #[.string (bs [0, 0, 0, 0, 0, 0, 0, 0, 0, 0, 0, 0, 0, 0, 0, 0, 0, 0, 0, 0, 0, 0, 0, 0, 0, 0, 0, 0])] (.tuple #[Ent.zero.val, .int .i64 0]) := by
  have h := pf_decode [0, 0, 0, 0, 0, 0, 0, 0, 0, 0, 0, 0, 0, 0, 0, 0, 0, 0, 0, 0, 0, 0, 0, 0, 0, 0, 0, 0]
  rw [show outE [0, 0, 0, 0, 0, 0, 0, 0, 0, 0, 0, 0, 0, 0, 0, 0, 0, 0, 0, 0, 0, 0, 0, 0, 0, 0, 0, 0] = Ent.zero from by decide, show outC [0, 0, 0, 0, 0, 0, 0, 0, 0, 0, 0, 0, 0, 0, 0, 0, 0, 0, 0, 0, 0, 0, 0, 0, 0, 0, 0, 0] = 0 from by decide] at h
  exact h
theorem entryOnce_pf (l : List UInt8) (a : Int) (y : UInt8) : Pf Tryd.prog 6 #[.string (bs l), .int .i64 a, .int .u8 ((y.toNat : Nat) : Int)] (.bool true) := by
  refine pf_of_run Tryd.func6 rfl rfl (fun w0 => ?_)
  refine run_seq rfl ?_
  refine run_region (todo := [0]) rfl rfl ?_
  refine run_mv rfl ?_
  refine run_endops ?_
  refine run_seq rfl ?_
  refine run_region (todo := [0, 1, 2, 3, 4, 5, 6, 7]) rfl rfl ?_
  refine run_mv rfl ?_
  refine run_pf0 (v := .tuple #[.agg ((outE l).arr), .int .i64 (outC l)]) rfl Tryd.call15 (pf_decode l) ?_
  refine run_mv rfl ?_
  refine run_rd (v := .agg ((outE l).arr)) rfl (rd_extract rfl) ?_
  refine run_rd (v := .int .i64 (outC l)) rfl (rd_extract rfl) ?_
  refine run_alloc rfl Tryd.zeroValue24 (fun g1 => ?_)
  refine run_storeW (j := 0) (c' := (outE l).arr) rfl Tryd.sizeOf24 rfl rfl rfl rfl rfl rfl ?_
  refine run_mv rfl ?_
  refine run_endops ?_
  refine run_seq rfl ?_
  refine run_region (todo := [0, 1, 2, 3, 4, 5, 6, 7, 8, 9, 10, 11, 12, 13]) rfl rfl ?_
  refine run_pf0 (v := .string (bs [0, 0, 0, 0, 0, 0, 0, 0])) rfl Tryd.call17 (pf_put8) ?_
  refine run_pf0 (v := .string (bs [0, 0, 0, 0, 0, 0, 0, 0])) rfl Tryd.call17 (pf_put8) ?_
  refine run_rd (v := .string (bs [0, 0, 0, 0, 0, 0, 0, 0, 0, 0, 0, 0, 0, 0, 0, 0])) rfl (rd_cat (l := [0, 0, 0, 0, 0, 0, 0, 0]) (m := [0, 0, 0, 0, 0, 0, 0, 0]) (by decide) rfl) ?_
  refine run_pf0 (v := .string (bs [0, 0, 0, 0, 0, 0, 0, 0])) rfl Tryd.call17 (pf_put8) ?_
  refine run_rd (v := .string (bs [0, 0, 0, 0, 0, 0, 0, 0, 0, 0, 0, 0, 0, 0, 0, 0, 0, 0, 0, 0, 0, 0, 0, 0])) rfl (rd_cat (l := [0, 0, 0, 0, 0, 0, 0, 0, 0, 0, 0, 0, 0, 0, 0, 0]) (m := [0, 0, 0, 0, 0, 0, 0, 0]) (by decide) rfl) ?_
  refine run_pf0 (v := .string (bs [0, 0, 0, 0])) rfl Tryd.call17 (pf_put4) ?_
  refine run_rd (v := .string (bs [0, 0, 0, 0, 0, 0, 0, 0, 0, 0, 0, 0, 0, 0, 0, 0, 0, 0, 0, 0, 0, 0, 0, 0, 0, 0, 0, 0])) rfl (rd_cat (l := [0, 0, 0, 0, 0, 0, 0, 0, 0, 0, 0, 0, 0, 0, 0, 0, 0, 0, 0, 0, 0, 0, 0, 0]) (m := [0, 0, 0, 0]) (by decide) rfl) ?_
  refine run_pf0 (v := .tuple #[.agg Ent.zero.arr, .int .i64 0]) rfl Tryd.call15 (pf_dec0) ?_
  refine run_mv rfl ?_
  refine run_rd (v := .agg Ent.zero.arr) rfl (rd_extract rfl) ?_
  refine run_rd (v := .int .i64 0) rfl (rd_extract rfl) ?_
  refine run_alloc rfl Tryd.zeroValue24 (fun g2 => ?_)
  refine run_storeW (j := 0) (c' := Ent.zero.arr) rfl Tryd.sizeOf24 rfl rfl rfl rfl rfl rfl ?_
  refine run_mv rfl ?_
  refine run_endops ?_
  refine run_seq rfl ?_
  refine run_seq rfl ?_
  refine run_region (todo := [0, 1, 2, 3, 4, 5, 6, 7, 8, 9, 10]) rfl rfl ?_
  refine run_pf0 (v := .bool true) rfl Tryd.call10 (pf_of_below fixed03) ?_
  refine run_rd (v := .bool false) rfl (rd_not) ?_
  refine run_mv rfl ?_
  refine run_rdG (v := .agg Ent.zero.arr) rfl (rd_loadW (j := 0) Tryd.isAgg24 Tryd.sizeOf24 rfl rfl) ?_
  refine run_rdG (v := .agg #[.int .i64 0, .int .i64 0, .int .i64 0, .int .u64 0, .int .u64 0, .string ⟨#[]⟩]) rfl ((fun w _ => by kernel_rfl)) ?_
  refine run_rdG (v := .bool false) rfl (rd_ent_neqD zero_ok' zero_ok' (ne_self _)) ?_
  refine run_pick (v := .bool false) rfl rfl ?_
  refine run_mv rfl ?_
  refine run_mvG rfl ?_
  refine run_rdG (v := .bool false) rfl (rd_cmp rfl rfl) ?_
  refine run_pick (v := .bool false) rfl rfl ?_
  refine run_endops ?_
  refine run_false rfl rfl ?_
  refine run_skip rfl ?_
  refine run_seq rfl ?_
  refine run_seq rfl ?_
  rcases Bool.eq_false_or_eq_true ((outC l) != 0) with hb1 | hb1
  · skip
    refine run_region (todo := [0, 1, 2, 3, 4, 5, 6, 7, 8, 9, 10, 11, 12, 13, 14, 15]) rfl rfl ?_
    refine run_mv rfl ?_
    refine run_rd (v := .bool true) rfl (rd_cmp rfl hb1) ?_
    refine run_mv rfl ?_
    refine run_skipped rfl ?_
    refine run_skipped rfl ?_
    refine run_pick (v := .bool true) rfl rfl ?_
    refine run_mv rfl ?_
    refine run_skipped rfl ?_
    refine run_skipped rfl ?_
    refine run_skipped rfl ?_
    refine run_skipped rfl ?_
    refine run_pick (v := .bool true) rfl rfl ?_
    refine run_mv rfl ?_
    refine run_skipped rfl ?_
    refine run_skipped rfl ?_
    refine run_pick (v := .bool true) rfl rfl ?_
    refine run_endops ?_
    refine run_true rfl rfl ?_
    refine run_seq rfl ?_
    refine run_region (todo := [0]) rfl rfl ?_
    refine run_mv rfl ?_
    refine run_endops ?_
    refine run_ret rfl (v := .bool true) (res1 rfl rfl) ?_
    rfl
  · skip
    rcases Bool.eq_false_or_eq_true (decide (a < 0)) with hb2 | hb2
    · skip
      refine run_region (todo := [0, 1, 2, 3, 4, 5, 6, 7, 8, 9, 10, 11, 12, 13, 14, 15]) rfl rfl ?_
      refine run_mv rfl ?_
      refine run_rd (v := .bool false) rfl (rd_cmp rfl hb1) ?_
      refine run_mv rfl ?_
      refine run_mvG rfl ?_
      refine run_rdG (v := .bool true) rfl (rd_cmp rfl hb2) ?_
      refine run_pick (v := .bool true) rfl rfl ?_
      refine run_mv rfl ?_
      refine run_skipped rfl ?_
      refine run_skipped rfl ?_
      refine run_skipped rfl ?_
      refine run_skipped rfl ?_
      refine run_pick (v := .bool true) rfl rfl ?_
      refine run_mv rfl ?_
      refine run_skipped rfl ?_
      refine run_skipped rfl ?_
      refine run_pick (v := .bool true) rfl rfl ?_
      refine run_endops ?_
      refine run_true rfl rfl ?_
      refine run_seq rfl ?_
      refine run_region (todo := [0]) rfl rfl ?_
      refine run_mv rfl ?_
      refine run_endops ?_
      refine run_ret rfl (v := .bool true) (res1 rfl rfl) ?_
      rfl
    · skip
      rcases Bool.eq_false_or_eq_true (decide (a ≥ ((l.length : Nat) : Int))) with hb3 | hb3
      · skip
        refine run_region (todo := [0, 1, 2, 3, 4, 5, 6, 7, 8, 9, 10, 11, 12, 13, 14, 15]) rfl rfl ?_
        refine run_mv rfl ?_
        refine run_rd (v := .bool false) rfl (rd_cmp rfl hb1) ?_
        refine run_mv rfl ?_
        refine run_mvG rfl ?_
        refine run_rdG (v := .bool false) rfl (rd_cmp rfl hb2) ?_
        refine run_pick (v := .bool false) rfl rfl ?_
        refine run_mv rfl ?_
        refine run_mvG rfl ?_
        refine run_mvG rfl ?_
        refine run_rdG (v := .int .i64 ((l.length : Nat) : Int)) rfl (rd_lenStr Tryd.underlying9 rfl) ?_
        refine run_rdG (v := .bool true) rfl (rd_cmp rfl hb3) ?_
        refine run_pick (v := .bool true) rfl rfl ?_
        refine run_mv rfl ?_
        refine run_skipped rfl ?_
        refine run_skipped rfl ?_
        refine run_pick (v := .bool true) rfl rfl ?_
        refine run_endops ?_
        refine run_true rfl rfl ?_
        refine run_seq rfl ?_
        refine run_region (todo := [0]) rfl rfl ?_
        refine run_mv rfl ?_
        refine run_endops ?_
        refine run_ret rfl (v := .bool true) (res1 rfl rfl) ?_
        rfl
      · skip
        refine run_region (todo := [0, 1, 2, 3, 4, 5, 6, 7, 8, 9, 10, 11, 12, 13, 14, 15]) rfl rfl ?_
        refine run_mv rfl ?_
        refine run_rd (v := .bool false) rfl (rd_cmp rfl hb1) ?_
        refine run_mv rfl ?_
        refine run_mvG rfl ?_
        refine run_rdG (v := .bool false) rfl (rd_cmp rfl hb2) ?_
        refine run_pick (v := .bool false) rfl rfl ?_
        refine run_mv rfl ?_
        refine run_mvG rfl ?_
        refine run_mvG rfl ?_
        refine run_rdG (v := .int .i64 ((l.length : Nat) : Int)) rfl (rd_lenStr Tryd.underlying9 rfl) ?_
        refine run_rdG (v := .bool false) rfl (rd_cmp rfl hb3) ?_
        refine run_pick (v := .bool false) rfl rfl ?_
        refine run_mv rfl ?_
        refine run_mvG rfl ?_
        refine run_rdG (v := .bool (((y.toNat : Nat) : Int) == 0)) rfl (rd_cmp rfl rfl) ?_
        refine run_pick (v := .bool (((y.toNat : Nat) : Int) == 0)) rfl rfl ?_
        refine run_endops ?_
        refine run_if rfl rfl (fun hb4 => ?_) (fun hb4 => ?_)
        · skip
          refine run_seq rfl ?_
          refine run_region (todo := [0]) rfl rfl ?_
          refine run_mv rfl ?_
          refine run_endops ?_
          refine run_ret rfl (v := .bool true) (res1 rfl rfl) ?_
          rfl
        · have hc : outC l = 0 := eq_of_bne_f hb1
          have ha0 := of_decide_eq_false hb2
          have ha1 := of_decide_eq_false hb3
          obtain ⟨q, hqa⟩ := Int.eq_ofNat_of_zero_le (show 0 ≤ a by omega)
          have hql : q < l.length := by omega
          obtain ⟨x, hx⟩ := item_at hql
          obtain ⟨qm, qb, -, -, -⟩ := entDec_some (out_some hc)
          have e4 : ((okCode (outE l).may) == 0) = true := by rw [qm]; rfl
          have e5 : decide ((outE l).enc = l) = true := decide_eq_true (by unfold Ent.enc; rw [if_pos qm]; exact qb)
          have hyn : y.toNat ≠ 0 := fun e => by rw [e] at hb4; exact absurd hb4 (by decide)
          refine run_skip rfl ?_
          refine run_seq rfl ?_
          refine run_region (todo := [0, 1, 2, 3, 4, 5, 6]) rfl rfl ?_
          refine run_rd (v := .agg ((outE l).arr)) rfl (rd_loadW (j := 1) Tryd.isAgg24 Tryd.sizeOf24 rfl rfl) ?_
          refine run_pf0 (v := .tuple #[.string (bs (outE l).enc), .int .i64 (okCode (outE l).may)]) rfl Tryd.call8 (pf_encode (outE l) (outE_ok l)) ?_
          refine run_mv rfl ?_
          refine run_rd (v := .string (bs (outE l).enc)) rfl (rd_extract rfl) ?_
          refine run_rd (v := .int .i64 (okCode (outE l).may)) rfl (rd_extract rfl) ?_
          refine run_mv rfl ?_
          refine run_mv rfl ?_
          refine run_endops ?_
          refine run_seq rfl ?_
          refine run_region (todo := [0, 1, 2]) rfl rfl ?_
          refine run_mv rfl ?_
          refine run_strBytes (l := l) rfl Tryd.underlying9 Tryd.underlying38 Tryd.underlying5 (fun g3 cg3 frg3 hfg3 => ?_)
          refine run_mv rfl ?_
          refine run_endops ?_
          refine run_seq rfl ?_
          refine run_region (todo := [0, 1, 2, 3, 4, 5, 6, 7, 8, 9]) rfl rfl ?_
          refine run_mv rfl ?_
          refine run_mv rfl ?_
          refine run_mv rfl ?_
          refine run_mv rfl ?_
          refine run_rd (v := .pointer (some ⟨g3, q, none⟩)) rfl (rd_indexAddrS (m := q) (o := q) Tryd.underlying38 hqa hql Tryd.sizeOf5 (by omega)) ?_
          refine run_rd (v := .int .u8 ((x.toNat : Nat) : Int)) rfl (rd_load (j := 0) (v := .int .u8 ((x.toNat : Nat) : Int)) Tryd.isAgg5 rfl (bytesRow_get hx)) ?_
          refine run_mv rfl ?_
          refine run_rd (v := .int .u8 (((x ^^^ y).toNat : Nat) : Int)) rfl (rd_xor8) ?_
          refine run_rd (v := .pointer (some ⟨g3, q, none⟩)) rfl (rd_indexAddrS (m := q) (o := q) Tryd.underlying38 hqa hql Tryd.sizeOf5 (by omega)) ?_
          refine run_storeFr (j := 0) rfl Tryd.sizeOf5 rfl rfl rfl (Nat.lt_of_lt_of_le hql (bytesRow_ge _ _)) (Nat.lt_of_lt_of_le hql hfg3) (bytesRow_set hql) rfl ?_
          refine run_endops ?_
          refine run_seq rfl ?_
          refine run_region (todo := [0, 1, 2, 3, 4, 5, 6, 7, 8]) rfl rfl ?_
          refine run_mv rfl ?_
          refine run_rd (v := .string (bs (l.set q (x ^^^ y)))) rfl (rd_bytesStr (j := 0) (l := (l.set q (x ^^^ y))) Tryd.underlying38 Tryd.underlying5 Tryd.underlying9 rfl (by simp)) ?_
          refine run_pf0 (v := .tuple #[.agg ((outE (l.set q (x ^^^ y))).arr), .int .i64 (outC (l.set q (x ^^^ y)))]) rfl Tryd.call15 (pf_decode (l.set q (x ^^^ y))) ?_
          refine run_mv rfl ?_
          refine run_rd (v := .agg ((outE (l.set q (x ^^^ y))).arr)) rfl (rd_extract rfl) ?_
          refine run_rd (v := .int .i64 (outC (l.set q (x ^^^ y)))) rfl (rd_extract rfl) ?_
          refine run_alloc rfl Tryd.zeroValue24 (fun g4 => ?_)
          refine run_storeW (j := 0) (c' := (outE (l.set q (x ^^^ y))).arr) rfl Tryd.sizeOf24 rfl rfl rfl rfl rfl rfl ?_
          refine run_mv rfl ?_
          refine run_endops ?_
          refine run_seq rfl ?_
          rcases Bool.eq_false_or_eq_true ((outC (l.set q (x ^^^ y))) != 0) with hb5 | hb5
          · skip
            refine run_region (todo := [0, 1, 2, 3, 4, 5, 6, 7, 8, 9, 10, 11, 12, 13, 14, 15, 16]) rfl rfl ?_
            refine run_mv rfl ?_
            refine run_rd (v := .bool true) rfl (rd_cmp rfl e4) ?_
            refine run_mv rfl ?_
            refine run_mvG rfl ?_
            refine run_mvG rfl ?_
            refine run_rdG (v := .bool true) rfl (rd_bseqD e5) ?_
            refine run_pick (v := .bool true) rfl rfl ?_
            refine run_mv rfl ?_
            refine run_mvG rfl ?_
            refine run_rdG (v := .bool true) rfl (rd_cmp rfl hb5) ?_
            refine run_mvG rfl ?_
            refine run_skipped rfl ?_
            refine run_skipped rfl ?_
            refine run_skipped rfl ?_
            refine run_pick (v := .bool true) rfl rfl ?_
            refine run_pick (v := .bool true) rfl rfl ?_
            refine run_mv rfl ?_
            refine run_endops ?_
            refine run_ret rfl (v := .bool true) (res1 rfl rfl) ?_
            rfl
          · have hc2 : outC (l.set q (x ^^^ y)) = 0 := eq_of_bne_f hb5
            obtain ⟨-, qb2, -, -, -⟩ := entDec_some (out_some hc2)
            have e6 : decide ((outE (l.set q (x ^^^ y))) ≠ (outE l)) = true := decide_eq_true (fun e => set_ne hx hyn (by rw [← qb2, e, qb]))
            refine run_region (todo := [0, 1, 2, 3, 4, 5, 6, 7, 8, 9, 10, 11, 12, 13, 14, 15, 16]) rfl rfl ?_
            refine run_mv rfl ?_
            refine run_rd (v := .bool true) rfl (rd_cmp rfl e4) ?_
            refine run_mv rfl ?_
            refine run_mvG rfl ?_
            refine run_mvG rfl ?_
            refine run_rdG (v := .bool true) rfl (rd_bseqD e5) ?_
            refine run_pick (v := .bool true) rfl rfl ?_
            refine run_mv rfl ?_
            refine run_mvG rfl ?_
            refine run_rdG (v := .bool false) rfl (rd_cmp rfl hb5) ?_
            refine run_mvG rfl ?_
            refine run_rdG (v := .agg ((outE (l.set q (x ^^^ y))).arr)) rfl (rd_loadW (j := 0) Tryd.isAgg24 Tryd.sizeOf24 rfl rfl) ?_
            refine run_rdG (v := .agg ((outE l).arr)) rfl (rd_loadW (j := 3) Tryd.isAgg24 Tryd.sizeOf24 rfl rfl) ?_
            refine run_rdG (v := .bool true) rfl (rd_ent_neqD (outE_ok _) (outE_ok l) e6) ?_
            refine run_pick (v := .bool true) rfl rfl ?_
            refine run_pick (v := .bool true) rfl rfl ?_
            refine run_mv rfl ?_
            refine run_endops ?_
            refine run_ret rfl (v := .bool true) (res1 rfl rfl) ?_
            rfl
theorem entryOnce_walk (s : ByteArray) (a : Int) (y : Nat) (hy : y < 256) : Pf Tryd.prog 6 #[.string s, .int .i64 a, .int .u8 (y : Int)] (.bool true) := by
  have h := entryOnce_pf s.data.toList a (UInt8.ofNat y)
  rw [bs_data, show (UInt8.ofNat y).toNat = y from by simp; omega] at h
  exact h
end Go.Proofs.YtmiinihbbpoicaaDoor
