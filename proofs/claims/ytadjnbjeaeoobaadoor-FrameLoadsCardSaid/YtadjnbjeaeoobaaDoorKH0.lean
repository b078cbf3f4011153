/- Frames: what the laws of layer 4 share. Printed by wip/k/genF.py. -/
import Derived.Test.YtadjnbjeaeoobaaDoorKG
set_option linter.unusedVariables false
set_option linter.unusedSimpArgs false
namespace Go.Proofs.YtadjnbjeaeoobaaDoor
open Go.RowKit

theorem Ent.Ok.pos {e : Ent} (h : e.Ok) : e.pos := by
  have h1 := h.session
  have h2 := h.number
  simp only [Lit.wf, IntKind.min, IntKind.max, IntKind.signed, IntKind.bits] at h1 h2
  simp at h1 h2
  exact ⟨h1.1, h2.1⟩
theorem Fr.Ok.pos {f : Fr} (h : f.Ok) : f.pos := ⟨h.a0.pos, h.a1.pos, h.b0.pos, h.b1.pos, h.c0.pos, h.c1.pos⟩
theorem fenc_len {f : Fr} (h : f.may = true) : f.enc.length = 168 := by unfold Fr.enc; rw [if_pos h]; exact Fr.bytes_length h
theorem fenc_le (f : Fr) : f.enc.length ≤ 168 := by
  unfold Fr.enc
  split
  · rename_i h; exact Nat.le_of_eq (Fr.bytes_length h)
  · exact Nat.zero_le _
def hiE : Ent := ⟨1, 0, 1, 3, 4, bs [104, 105]⟩
theorem hi_ok : hiE.Ok := ⟨by decide, by decide, by decide, by decide, by decide, by decide⟩
def g0 : Fr := ⟨.zero, .zero, hiE, .zero, .zero, .zero⟩
theorem g0_ok : g0.Ok := ⟨zero_ok', zero_ok', hi_ok, zero_ok', zero_ok', zero_ok'⟩
theorem g0_may : g0.may = true := by decide
theorem g0_hi : g0.lane 1 = [hiE] := by decide
theorem g0_no : g0.lane 0 = [] := by decide
theorem rd_bseqD {w0 : World} {H : Hp} {x y : Operand} {t : TypeId} {a b : List UInt8} {r : Bool} (h : decide (a = b) = r) : Rdo Tryd.prog w0 H (eqN .eql t x y (.string (bs a)) (.string (bs b))) (.bool r) := h ▸ rd_bseq
section
variable {w0 : World} {H : Hp} {x y : Operand} {r : Bool}
theorem rd_ent_eqlD {e f : Ent} (he : e.Ok) (hf : f.Ok) (h : decide (e = f) = r) : Rdo Tryd.prog w0 H (eqN .eql 24 x y (.agg e.arr) (.agg f.arr)) (.bool r) := h ▸ rd_ent_eql he hf
theorem rd_ent_neqD {e f : Ent} (he : e.Ok) (hf : f.Ok) (h : decide (e ≠ f) = r) : Rdo Tryd.prog w0 H (eqN .neq 24 x y (.agg e.arr) (.agg f.arr)) (.bool r) := h ▸ rd_ent_neq he hf
theorem rd_fr_eqlD {e f : Fr} (he : e.Ok) (hf : f.Ok) (h : decide (e = f) = r) : Rdo Tryd.prog w0 H (eqN .eql 27 x y (.agg e.arr) (.agg f.arr)) (.bool r) := h ▸ rd_fr_eql he hf
theorem rd_fr_neqD {e f : Fr} (he : e.Ok) (hf : f.Ok) (h : decide (e ≠ f) = r) : Rdo Tryd.prog w0 H (eqN .neq 27 x y (.agg e.arr) (.agg f.arr)) (.bool r) := h ▸ rd_fr_neq he hf
theorem ne_self {α : Type} [DecidableEq α] (a : α) : decide (a ≠ a) = false := by simp
end
theorem may_of {b : Bool} (h : (okCode b == 0) = true) : b = true := by cases b <;> simp_all [okCode]
theorem no_of {b : Bool} (h : (okCode b == 0) = false) : b = false := by cases b <;> simp_all [okCode]
theorem dec_mx {f : Fr} (hf : f.Ok) (h : f.may = true) : frDec f.enc = some f := by unfold Fr.enc; rw [if_pos h]; exact frDec_bytes h hf.pos
theorem outFC_of {l : List UInt8} {f : Fr} (h : frDec l = some f) : outFC l = 0 ∧ outF l = f := by
  by_cases hc : outFC l = 0
  · have := outF_dec hc
    rw [h] at this
    exact ⟨hc, (Option.some.inj this).symm⟩
  · exfalso
    unfold outFC at hc
    unfold frDec at h
    by_cases hl : l.length = 168
    · rw [if_pos hl] at h hc
      by_cases ha : frAll l
      · rw [if_pos ha] at hc; exact hc rfl
      · apply ha
        have key : ∀ i, (∃ e, entDec (seg l (28 * i) 28) = some e) → sC l i = 0 := fun i ⟨e, he⟩ => by
          unfold sC outC
          have : (List.drop (28 * i) l).take 28 = seg l (28 * i) 28 := rfl
          rw [this, he]
        split at h
        · rename_i a b c d e g h0 h1 h2 h3 h4 h5
          exact ⟨key 0 ⟨_, h0⟩, key 1 ⟨_, h1⟩, key 2 ⟨_, h2⟩, key 3 ⟨_, h3⟩, key 4 ⟨_, h4⟩, key 5 ⟨_, h5⟩⟩
        · cases h
    · rw [if_neg hl] at h; cases h


section
variable {w0 : World} {H : Hp} {x y : Operand}
theorem rd_two_ne {e f : Ent} (he : e.Ok) (hf : f.Ok) : Rdo Tryd.prog w0 H (eqN .neq 25 x y (.agg #[.int .i64 e.kind, .int .i64 e.service, .int .i64 e.group, .int .u64 e.session, .int .u64 e.number, .string e.text, .int .i64 f.kind, .int .i64 f.service, .int .i64 f.group, .int .u64 f.session, .int .u64 f.number, .string f.text]) (.agg #[.int .i64 e.kind, .int .i64 e.service, .int .i64 e.group, .int .u64 e.session, .int .u64 e.number, .string e.text, .int .i64 f.kind, .int .i64 f.service, .int .i64 f.group, .int .u64 f.session, .int .u64 f.number, .string f.text])) (.bool false) := by
  have := rd_flat_neq (w0 := w0) (H := H) (x := x) (y := y) (P := Tryd.prog) (t := 25) (b := true) (m := 3) (by kernel_rfl) (by kernel_rfl) (by decide) (show flat Tryd.prog 3 25 = some (entKinds ++ entKinds) by kernel_rfl) (by kernel_rfl) (by kernel_rfl) (fits_append (Ent.fit he) (Ent.fit hf)) (fits_append (Ent.fit he) (Ent.fit hf)) (by simp)
  exact this
end

theorem pf_some  : Pf Tryd.prog 20 #[] hiE.val := by
  refine pf_of_run Tryd.func20 rfl rfl (fun w0 => ?_)
  refine run_seq rfl ?_
  refine run_region (todo := [0]) rfl rfl ?_
  refine run_alloc rfl Tryd.zeroValue24 (fun g1 => ?_)
  refine run_endops ?_
  refine run_seq rfl ?_
  refine run_region (todo := [0, 1]) rfl rfl ?_
  refine run_rd (v := .agg #[.int .i64 1, .int .i64 0, .int .i64 1, .int .u64 3, .int .u64 4, .string ⟨#[104, 105]⟩]) rfl ((fun w _ => by kernel_rfl)) ?_
  refine run_storeW (j := 0) (c' := #[.int .i64 1, .int .i64 0, .int .i64 1, .int .u64 3, .int .u64 4, .string ⟨#[104, 105]⟩]) rfl Tryd.sizeOf24 rfl rfl rfl rfl rfl rfl ?_
  refine run_endops ?_
  refine run_ret rfl (v := .agg #[.int .i64 1, .int .i64 0, .int .i64 1, .int .u64 3, .int .u64 4, .string ⟨#[104, 105]⟩]) (res1 rfl ⟨_, rfl, rdv (rd_loadW (j := 0) Tryd.isAgg24 Tryd.sizeOf24 rfl rfl)⟩) ?_
  rfl

theorem pf_fixed  : Pf Tryd.prog 8 #[] (.bool true) := by
  have lg : g0.enc.length = 168 := fenc_len g0_may
  have d1 : ((okCode g0.may) == 0) = true := by rw [g0_may]; rfl
  have d2 : (((g0.enc.length : Nat) : Int) == 168) = true := by rw [lg]; rfl
  have d3 : decide (((g0.enc.drop 56).take 28) = hiE.bytes) = true := by decide
  have d4 : ((outFC []) == 40) = true := by decide
  refine pf_of_run Tryd.func8 rfl rfl (fun w0 => ?_)
  refine run_seq rfl ?_
  refine run_region (todo := [0]) rfl rfl ?_
  refine run_mv rfl ?_
  refine run_endops ?_
  refine run_seq rfl ?_
  refine run_region (todo := [0, 1, 2, 3, 4, 5]) rfl rfl ?_
  refine run_rd (v := .agg #[.int .i64 0, .int .i64 0, .int .i64 0, .int .u64 0, .int .u64 0, .string ⟨#[]⟩, .int .i64 0, .int .i64 0, .int .i64 0, .int .u64 0, .int .u64 0, .string ⟨#[]⟩, .int .i64 0, .int .i64 0, .int .i64 0, .int .u64 0, .int .u64 0, .string ⟨#[]⟩, .int .i64 0, .int .i64 0, .int .i64 0, .int .u64 0, .int .u64 0, .string ⟨#[]⟩, .int .i64 0, .int .i64 0, .int .i64 0, .int .u64 0, .int .u64 0, .string ⟨#[]⟩, .int .i64 0, .int .i64 0, .int .i64 0, .int .u64 0, .int .u64 0, .string ⟨#[]⟩]) rfl ((fun w _ => by kernel_rfl)) ?_
  refine run_pf0 (v := .agg hiE.arr) rfl Tryd.call20 (pf_some) ?_
  refine run_lit (c := #[.int .i64 hiE.kind, .int .i64 hiE.service, .int .i64 hiE.group, .int .u64 hiE.session, .int .u64 hiE.number, .string hiE.text]) rfl Tryd.underlying28 Tryd.sizeOf24 Tryd.zeroValue24 rfl rfl (by kernel_rfl) (fun g1 => ?_)
  refine run_pfw (v := .agg g0.arr) rfl Tryd.call12 (fun w hw => with_any Fr.zero 1 [hiE] (some ⟨g1, 0, none⟩) 1 w ((know_blk (j := 0) (xs := encE.row [hiE]) rfl (fun q hq => by rw [Nat.zero_add, List.getElem?_toArray]; rfl)) w hw)) ?_
  refine run_alloc rfl Tryd.zeroValue27 (fun g2 => ?_)
  refine run_storeW (j := 0) (c' := g0.arr) rfl Tryd.sizeOf27 rfl rfl rfl rfl rfl rfl ?_
  refine run_endops ?_
  refine run_seq rfl ?_
  refine run_region (todo := [0, 1, 2, 3, 4, 5, 6]) rfl rfl ?_
  refine run_rd (v := .agg g0.arr) rfl (rd_loadW (j := 0) Tryd.isAgg27 Tryd.sizeOf27 rfl rfl) ?_
  refine run_pf0 (v := .tuple #[.string (bs g0.enc), .int .i64 (okCode g0.may)]) rfl Tryd.call14 (pf_fencode g0 g0_ok) ?_
  refine run_mv rfl ?_
  refine run_rd (v := .string (bs g0.enc)) rfl (rd_extract rfl) ?_
  refine run_rd (v := .int .i64 (okCode g0.may)) rfl (rd_extract rfl) ?_
  refine run_mv rfl ?_
  refine run_mv rfl ?_
  refine run_endops ?_
  refine run_seq rfl ?_
  refine run_region (todo := [0, 1, 2, 3, 4, 5, 6]) rfl rfl ?_
  refine run_pf0 (v := .tuple #[.agg ((outF []).arr), .int .i64 (outFC [])]) rfl Tryd.call15 (pf_fdecode [] (by decide)) ?_
  refine run_mv rfl ?_
  refine run_rd (v := .agg ((outF []).arr)) rfl (rd_extract rfl) ?_
  refine run_rd (v := .int .i64 (outFC [])) rfl (rd_extract rfl) ?_
  refine run_alloc rfl Tryd.zeroValue27 (fun g3 => ?_)
  refine run_storeW (j := 0) (c' := (outF []).arr) rfl Tryd.sizeOf27 rfl rfl rfl rfl rfl rfl ?_
  refine run_mv rfl ?_
  refine run_endops ?_
  refine run_seq rfl ?_
  refine run_region (todo := [0, 1, 2]) rfl rfl ?_
  refine run_rd (v := .agg g0.arr) rfl (rd_loadW (j := 1) Tryd.isAgg27 Tryd.sizeOf27 rfl rfl) ?_
  refine run_call0 rfl Tryd.call10 (fun w hw => by have h := lane_any g0 g0_ok 1 w; rw [g0_hi] at h; exact h) (fun v h hq => ?_)
  obtain ⟨Ag4, cg4, rfl, rfl⟩ := hq
  refine run_mv rfl ?_
  refine run_endops ?_
  refine run_seq rfl ?_
  refine run_par' rfl (by kernel_rfl) (.val [] (fun _ => .int .i64 (okCode g0.may)) :: .val [] (fun _ => .bool true) :: .val [] (fun _ => .bool true) :: .val [] (fun _ => .string (bs g0.enc)) :: .val [] (fun _ => .int .i64 ((g0.enc.length : Nat) : Int)) :: .val [] (fun _ => .bool true) :: .val [] (fun _ => .bool true) :: .val [] (fun _ => .bool true) :: .val [] (fun _ => .string (bs g0.enc)) :: .val [] (fun _ => .string (bs ((g0.enc.drop 56).take 28))) :: .val [] (fun _ => .agg hiE.arr) :: .val [] (fun _ => .string (bs hiE.bytes)) :: .val [] (fun _ => .bool true) :: .val [] (fun _ => .bool true) :: .val [] (fun _ => .bool true) :: .val [] (fun _ => .int .i64 (outFC [])) :: .val [] (fun _ => .bool true) :: .val [] (fun _ => .bool true) :: .val [] (fun _ => .bool true) :: .val [] (fun _ => .slice Ag4 1 cg4) :: .val [] (fun _ => .int .i64 1) :: .val [] (fun _ => .bool true) :: .val [] (fun _ => .bool true) :: .val [] (fun _ => .bool true) :: .val [] (fun _ => .slice Ag4 1 cg4) :: .val [] (fun _ => .pointer (elemAddr Ag4 (0 * 6))) :: .val [] (fun _ => .agg hiE.arr) :: .val [] (fun _ => .agg hiE.arr) :: .val [] (fun _ => .bool true) :: .val [] (fun _ => .bool true) :: .val [] (fun _ => .bool true) :: .val [] (fun _ => .agg g0.arr) :: .rel [] (fun _ v h => ∃ Ag5 cg5, v = .slice Ag5 0 cg5 ∧ h = [.row Ag5 cg5 24 6 0 (encE.row ([] : List Ent))]) :: .val [] (fun _ => .int .i64 0) :: .val [] (fun _ => .bool true) :: .val [] (fun _ => .bool true) :: .val [] (fun _ => .bool true) :: []) (⟨[], [], []⟩ :: ⟨[0], [], []⟩ :: ⟨[1], [], []⟩ :: ⟨[2], [], []⟩ :: ⟨[2, 3], [], []⟩ :: ⟨[2, 4], [], []⟩ :: ⟨[2, 5], [], []⟩ :: ⟨[6], [], []⟩ :: ⟨[7], [], []⟩ :: ⟨[7, 8], [], []⟩ :: ⟨[7], [], []⟩ :: ⟨[7, 10], [], []⟩ :: ⟨[7, 9, 11], [], []⟩ :: ⟨[7, 12], [], []⟩ :: ⟨[13], [], []⟩ :: ⟨[14], [], []⟩ :: ⟨[14, 15], [], []⟩ :: ⟨[14, 16], [], []⟩ :: ⟨[17], [], []⟩ :: ⟨[18], [], []⟩ :: ⟨[18, 19], [], []⟩ :: ⟨[18, 20], [], []⟩ :: ⟨[18, 21], [], []⟩ :: ⟨[22], [], []⟩ :: ⟨[23], [], []⟩ :: ⟨[23, 24], [], []⟩ :: ⟨[23, 25], [], []⟩ :: ⟨[23], [], []⟩ :: ⟨[23, 26, 27], [], []⟩ :: ⟨[23, 28], [], []⟩ :: ⟨[29], [], []⟩ :: ⟨[30], [], []⟩ :: ⟨[30, 31], [], []⟩ :: ⟨[30, 32], [32], []⟩ :: ⟨[30, 33], [], []⟩ :: ⟨[30, 34], [], []⟩ :: ⟨[35], [], []⟩ :: []) [(1, .pointer (some ⟨g2, 0, none⟩)), (2, .string (bs g0.enc)), (3, .int .i64 (okCode g0.may)), (5, .int .i64 (outFC [])), (6, .slice Ag4 1 cg4)] (by kernel_rfl) (by kernel_rfl) ⟨rfl, rfl, rfl, rfl, rfl, trivial⟩ ⟨trivial, trivial, trivial, trivial, trivial, trivial, trivial, trivial, trivial, trivial, trivial, trivial, trivial, trivial, trivial, trivial, trivial, trivial, trivial, trivial, trivial, trivial, trivial, trivial, trivial, trivial, trivial, trivial, trivial, trivial, trivial, trivial, trivial, trivial, trivial, trivial, trivial, trivial⟩ ?_ (fun V hs hq => ?_)
  · refine ⟨fun V hs hB => ob_mv rfl rfl, ?_⟩
    refine ⟨fun V hs hB => ob_rd rfl rfl (rd_cmp rfl d1), ?_⟩
    refine ⟨fun V hs hB => ob_mv rfl rfl, ?_⟩
    refine ⟨fun V hs hB => ob_mv rfl rfl, ?_⟩
    refine ⟨fun V hs hB => ob_rd rfl rfl (rd_lenStr Tryd.underlying9 rfl), ?_⟩
    refine ⟨fun V hs hB => ob_rd rfl rfl (rd_cmp rfl d2), ?_⟩
    refine ⟨fun V hs hB => ob_pick rfl rfl rfl, ?_⟩
    refine ⟨fun V hs hB => ob_mv rfl rfl, ?_⟩
    refine ⟨fun V hs hB => ob_mv rfl rfl, ?_⟩
    refine ⟨fun V hs hB => ob_rd rfl rfl (rd_substr (l := 56) (h := 84) Tryd.underlying9 (.inl rfl) (.inl rfl) (by omega) (by rw [bs_size]; omega) (by exact bs_mid)), ?_⟩
    refine ⟨fun V hs hB => ob_pf rfl rfl Tryd.call20 (fun w _ => (pf_some) w), ?_⟩
    refine ⟨fun V hs hB => ob_pf rfl rfl Tryd.call21 (fun w _ => (pf_rbytes hiE hi_ok (by decide)) w), ?_⟩
    refine ⟨fun V hs hB => ob_rd rfl rfl (rd_bseqD d3), ?_⟩
    refine ⟨fun V hs hB => ob_pick rfl rfl rfl, ?_⟩
    refine ⟨fun V hs hB => ob_mv rfl rfl, ?_⟩
    refine ⟨fun V hs hB => ob_mv rfl rfl, ?_⟩
    refine ⟨fun V hs hB => ob_rd rfl rfl (rd_cmp rfl d4), ?_⟩
    refine ⟨fun V hs hB => ob_pick rfl rfl rfl, ?_⟩
    refine ⟨fun V hs hB => ob_mv rfl rfl, ?_⟩
    refine ⟨fun V hs hB => ob_mv rfl rfl, ?_⟩
    refine ⟨fun V hs hB => ob_rd rfl rfl (rd_len Tryd.underlying28), ?_⟩
    refine ⟨fun V hs hB => ob_rd rfl rfl (rd_cmp rfl rfl), ?_⟩
    refine ⟨fun V hs hB => ob_pick rfl rfl rfl, ?_⟩
    refine ⟨fun V hs hB => ob_mv rfl rfl, ?_⟩
    refine ⟨fun V hs hB => ob_mv rfl rfl, ?_⟩
    refine ⟨fun V hs hB => ob_rd rfl rfl (rd_elem (m := 0) (o := 0 * 6) (know_row (j := 0) rfl) Tryd.underlying28 Tryd.sizeOf24 rfl (lt_of_item (rfl : ([hiE] : List Ent)[0]? = some hiE) rfl) (Nat.lt_of_lt_of_le (m := 0 * 6 + 6) (by omega) (row_lt (E := encE) (rfl : ([hiE] : List Ent)[0]? = some hiE))) rfl), ?_⟩
    refine ⟨fun V hs hB => ob_rd rfl rfl (rd_elemLoadA (u := hiE.arr) (know_row (j := 0) rfl) Tryd.isAgg24 Tryd.sizeOf24 rfl (row_all (E := encE) (rfl : ([hiE] : List Ent)[0]? = some hiE)) (row_lt (E := encE) (rfl : ([hiE] : List Ent)[0]? = some hiE))), ?_⟩
    refine ⟨fun V hs hB => ob_pf rfl rfl Tryd.call20 (fun w _ => (pf_some) w), ?_⟩
    refine ⟨fun V hs hB => ob_rd rfl rfl (rd_ent_eqlD hi_ok hi_ok (decide_eq_true rfl)), ?_⟩
    refine ⟨fun V hs hB => ob_pick rfl rfl rfl, ?_⟩
    refine ⟨fun V hs hB => ob_mv rfl rfl, ?_⟩
    refine ⟨fun V hs hB => ob_rd rfl rfl (rd_loadW (j := 2) Tryd.isAgg27 Tryd.sizeOf27 rfl rfl), ?_⟩
    refine ⟨fun V hs hB => ob_call rfl rfl Tryd.call10 (fun w hw => by have h := lane_any g0 g0_ok 0 w; rw [g0_no] at h; exact h), ?_⟩
    refine ⟨fun V hs hB => ?_, ?_⟩
    · obtain ⟨Ag5, cg5, hV32, hh32⟩ := hB 32 (by simp)
      refine ob_set (j := 32) hV32 hh32 ?_
      exact ob_rd rfl rfl (rd_len Tryd.underlying28)
    refine ⟨fun V hs hB => ob_rd rfl rfl (rd_cmp rfl rfl), ?_⟩
    refine ⟨fun V hs hB => ob_pick rfl rfl rfl, ?_⟩
    refine ⟨fun V hs hB => ob_mv rfl rfl, ?_⟩
    trivial
  obtain ⟨Ag5, cg5, hV32, hh32⟩ := hq 32 (of_decide_eq_true (by kernel_rfl))
  rw [show relsOf _ = [32] from by kernel_rfl]
  simp only [List.flatMap_cons, List.flatMap_nil, List.append_nil, hh32]
  refine any_end (by kernel_rfl) ?_
  refine run_less (ρ' := [(0, .bool true)]) (H' := [.row Ag5 cg5 24 6 0 (encE.row ([] : List Ent)), .row Ag4 cg4 24 6 1 (encE.row ([hiE] : List Ent)), .blk g3 (.cells ((outF []).arr) 27), .blk g2 (.cells g0.arr 27), .blk g1 (.cells #[.int .i64 hiE.kind, .int .i64 hiE.service, .int .i64 hiE.group, .int .u64 hiE.session, .int .u64 hiE.number, .string hiE.text] 24)]) [0, 1, 2, 3, 4] ?_ ⟨rfl, trivial⟩ ⟨rfl, rfl, rfl, rfl, rfl, trivial⟩ (by decide)
  refine run_ret rfl (v := .bool true) (res1 rfl rfl) ?_
  rfl

end Go.Proofs.YtadjnbjeaeoobaaDoor
