/- Packets: the laws of layer 5. Printed by wip/k/genS.py. -/
import Derived.Test.YthapghhmeicbnaaDoorKR
import Derived.Test.YthapghhmeicbnaaDoorKPL
set_option linter.unusedVariables false
set_option linter.unusedSimpArgs false
namespace Go.Proofs.YthapghhmeicbnaaDoor
open Go.RowKit
set_option maxRecDepth 20000

theorem v8_formed (v : V8) : (Value.agg v.vals.toArray).formed Tryd.prog 27 = true := by kernel_rfl
section
variable {w0 : World} {H : Hp} {x y : Operand}
theorem rd_v8_eql {e f : V8} (he : e.Ok) (hf : f.Ok) : Rdo Tryd.prog w0 H (eqN .eql 27 x y (.agg e.vals.toArray) (.agg f.vals.toArray)) (.bool (decide (e = f))) :=
  rd_flat_eql (m := 4) (by kernel_rfl) (by kernel_rfl) (by decide) (show flat Tryd.prog 3 27 = some k8 by kernel_rfl) (v8_formed e) (v8_formed f) (V8.fit he) (V8.fit hf) (by rw [decide_eq_true_iff, l8_inj])
end
theorem zero_may : Pkt.zero.may = true := by decide
theorem zero_head : Pkt.zero.enc.take 8 = [0, 0, 0, 0, 0, 0, 0, 0] := by
  rw [enc_ready zero_may]
  rfl
theorem zero_turned : (turnTo Pkt.zero.enc 0 (four 1) 4) ≠ Pkt.zero.enc := by
  intro e
  have h1 : Pkt.zero.enc[0]? = some 0 := by rw [enc_ready zero_may]; rfl
  have hl := penc_len zero_may
  have h2 : (turnTo Pkt.zero.enc 0 (four 1) 1)[0]? = some 1 := by
    rw [turnTo, if_pos (by omega)]
    simp only [turnTo, h1]
    rw [show (0 : Int).toNat + 0 = 0 from rfl, h1, List.getElem?_set_self (by omega)]
    rfl
  have h3 : (turnTo Pkt.zero.enc 0 (four 1) 4)[0]? = some 1 := by
    have go : ∀ j, 1 ≤ j → (turnTo Pkt.zero.enc 0 (four 1) (j + 1))[0]? = (turnTo Pkt.zero.enc 0 (four 1) j)[0]? := fun j hj => by
      rw [turnTo]
      split
      · rw [List.getElem?_set_ne (by omega)]
      · rfl
    rw [go 3 (by decide), go 2 (by decide), go 1 (by decide), h2]
  rw [e, h1] at h3
  exact absurd h3 (by decide)
theorem pf_fixed  : Pf Tryd.prog 11 #[] (.bool true) := by
  have lg := penc_len zero_may
  have t0 := turned Pkt.zero_fit zero_may 0 1 zero_turned
  have o0 := outP_enc Pkt.zero_fit zero_may
  have d1 : ((pkCode Pkt.zero.may) == 0) = true := by rw [zero_may]; rfl
  have d2 : (((Pkt.zero.enc.length : Nat) : Int) == 641) = true := by rw [lg]; rfl
  have d3 : (decide ((Pkt.zero.enc.take 8) = [0, 0, 0, 0, 0, 0, 0, 0])) = true := decide_eq_true zero_head
  have d4 : ((outPC Pkt.zero.enc) == 0) = true := by rw [o0.1]; rfl
  have d5 : (decide ((outP Pkt.zero.enc) = Pkt.zero)) = true := decide_eq_true o0.2
  have d6 : ((outPC []) == 50) = true := by decide
  have d7 : ((outPC (turnTo Pkt.zero.enc 0 (four 1) 4)) == 51) = true := by rw [t0.1]; rfl
  refine pf_of_run Tryd.func11 rfl rfl (fun w0 => ?_)
  refine run_seq rfl ?_
  refine run_region (todo := [0]) rfl rfl ?_
  refine run_mv rfl ?_
  refine run_endops ?_
  refine run_seq rfl ?_
  refine run_region (todo := [0, 1, 2, 3, 4, 5, 6]) rfl rfl ?_
  refine run_rd (v := .agg Pkt.zero.arr) rfl ((fun w _ => by kernel_rfl)) ?_
  refine run_pf0 (v := .tuple #[.string (bs Pkt.zero.enc), .int .i64 (pkCode Pkt.zero.may)]) rfl Tryd.call9 (pf_pencode Pkt.zero Pkt.zero_fit) ?_
  refine run_mv rfl ?_
  refine run_rd (v := .string (bs Pkt.zero.enc)) rfl (rd_extract rfl) ?_
  refine run_rd (v := .int .i64 (pkCode Pkt.zero.may)) rfl (rd_extract rfl) ?_
  refine run_mv rfl ?_
  refine run_mv rfl ?_
  refine run_endops ?_
  refine run_seq rfl ?_
  refine run_region (todo := [0, 1, 2, 3, 4, 5, 6, 7]) rfl rfl ?_
  refine run_mv rfl ?_
  refine run_pf0 (v := .tuple #[.agg ((outP Pkt.zero.enc).arr), .int .i64 (outPC Pkt.zero.enc)]) rfl Tryd.call14 (pf_pdecode Pkt.zero.enc (Nat.le_trans (penc_le _) (by decide))) ?_
  refine run_mv rfl ?_
  refine run_rd (v := .agg ((outP Pkt.zero.enc).arr)) rfl (rd_extract rfl) ?_
  refine run_rd (v := .int .i64 (outPC Pkt.zero.enc)) rfl (rd_extract rfl) ?_
  refine run_alloc rfl Tryd.zeroValue35 (fun g1 => ?_)
  refine run_storeW (j := 0) (c' := (outP Pkt.zero.enc).arr) rfl Tryd.sizeOf35 (by kernel_rfl) (by kernel_rfl) rfl (by kernel_rfl) rfl rfl ?_
  refine run_mv rfl ?_
  refine run_endops ?_
  refine run_seq rfl ?_
  refine run_region (todo := [0, 1, 2, 3, 4, 5, 6]) rfl rfl ?_
  refine run_pf0 (v := .tuple #[.agg ((outP []).arr), .int .i64 (outPC [])]) rfl Tryd.call14 (pf_pdecode [] (by decide)) ?_
  refine run_mv rfl ?_
  refine run_rd (v := .agg ((outP []).arr)) rfl (rd_extract rfl) ?_
  refine run_rd (v := .int .i64 (outPC [])) rfl (rd_extract rfl) ?_
  refine run_alloc rfl Tryd.zeroValue35 (fun g2 => ?_)
  refine run_storeW (j := 0) (c' := (outP []).arr) rfl Tryd.sizeOf35 (by kernel_rfl) (by kernel_rfl) rfl (by kernel_rfl) rfl rfl ?_
  refine run_mv rfl ?_
  refine run_endops ?_
  refine run_seq rfl ?_
  refine run_region (todo := [0, 1, 2, 3, 4, 5, 6, 7, 8]) rfl rfl ?_
  refine run_mv rfl ?_
  refine run_pf0 (v := .string (bs (turnTo Pkt.zero.enc 0 (four 1) 4))) rfl Tryd.call17 (pf_turn Pkt.zero.enc 0 1 (by decide) (Nat.le_trans (penc_le _) (by decide))) ?_
  refine run_pf0 (v := .tuple #[.agg ((outP (turnTo Pkt.zero.enc 0 (four 1) 4)).arr), .int .i64 (outPC (turnTo Pkt.zero.enc 0 (four 1) 4))]) rfl Tryd.call14 (pf_pdecode (turnTo Pkt.zero.enc 0 (four 1) 4) (by rw [turnTo_length]; exact Nat.le_trans (penc_le _) (by decide))) ?_
  refine run_mv rfl ?_
  refine run_rd (v := .agg ((outP (turnTo Pkt.zero.enc 0 (four 1) 4)).arr)) rfl (rd_extract rfl) ?_
  refine run_rd (v := .int .i64 (outPC (turnTo Pkt.zero.enc 0 (four 1) 4))) rfl (rd_extract rfl) ?_
  refine run_alloc rfl Tryd.zeroValue35 (fun g3 => ?_)
  refine run_storeW (j := 0) (c' := (outP (turnTo Pkt.zero.enc 0 (four 1) 4)).arr) rfl Tryd.sizeOf35 (by kernel_rfl) (by kernel_rfl) rfl (by kernel_rfl) rfl rfl ?_
  refine run_mv rfl ?_
  refine run_endops ?_
  refine run_seq rfl ?_
  refine run_region (todo := [0, 1, 2, 3, 4, 5, 6, 7, 8, 9, 10, 11, 12, 13, 14, 15, 16, 17, 18, 19, 20, 21, 22, 23, 24, 25, 26, 27, 28, 29]) rfl rfl ?_
  refine run_mv rfl ?_
  refine run_rd (v := .bool true) rfl (rd_cmp rfl d1) ?_
  refine run_mv rfl ?_
  refine run_mvG rfl ?_
  refine run_rdG (v := .int .i64 ((Pkt.zero.enc.length : Nat) : Int)) rfl (rd_lenStr Tryd.underlying9 rfl) ?_
  refine run_rdG (v := .bool true) rfl (rd_cmp rfl d2) ?_
  refine run_pick (v := .bool true) rfl rfl ?_
  refine run_mv rfl ?_
  refine run_mvG rfl ?_
  refine run_rdG (v := .string (bs (Pkt.zero.enc.take 8))) rfl (rd_substr (l := 0) (h := 8) Tryd.underlying9 (.inr ⟨rfl, rfl⟩) (.inl rfl) (by omega) (by rw [bs_size]; omega) (by rw [bs_extract]; rfl)) ?_
  refine run_rdG (v := .bool true) rfl (rd_bseqD d3) ?_
  refine run_pick (v := .bool true) rfl rfl ?_
  refine run_mv rfl ?_
  refine run_mvG rfl ?_
  refine run_rdG (v := .bool true) rfl (rd_cmp rfl d4) ?_
  refine run_pick (v := .bool true) rfl rfl ?_
  refine run_mv rfl ?_
  refine run_rdG (v := .agg ((outP Pkt.zero.enc).arr)) rfl (rd_loadW (j := 2) Tryd.isAgg35 Tryd.sizeOf35 rfl (by kernel_rfl)) ?_
  refine run_rdG (v := .agg Pkt.zero.arr) rfl ((fun w _ => by kernel_rfl)) ?_
  refine run_rdG (v := .bool true) rfl (rd_pk_eqlD (outP_fit _) Pkt.zero_fit d5) ?_
  refine run_pick (v := .bool true) rfl rfl ?_
  refine run_mv rfl ?_
  refine run_mvG rfl ?_
  refine run_rdG (v := .bool true) rfl (rd_cmp rfl d6) ?_
  refine run_pick (v := .bool true) rfl rfl ?_
  refine run_mv rfl ?_
  refine run_mvG rfl ?_
  refine run_rdG (v := .bool true) rfl (rd_cmp rfl d7) ?_
  refine run_pick (v := .bool true) rfl rfl ?_
  refine run_mv rfl ?_
  refine run_endops ?_
  refine run_ret rfl (v := .bool true) (res1 rfl rfl) ?_
  rfl

end Go.Proofs.YthapghhmeicbnaaDoor
