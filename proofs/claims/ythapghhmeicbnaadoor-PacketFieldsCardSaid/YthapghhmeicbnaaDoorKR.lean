/- Packets: the readers, and the reference. Printed by wip/k/genR.py. -/
import Derived.Test.YthapghhmeicbnaaDoorKQ
set_option linter.unusedVariables false
set_option linter.unusedSimpArgs false
namespace Go.Proofs.YthapghhmeicbnaaDoor
open Go.RowKit
set_option maxRecDepth 20000

theorem pf_take {s : List UInt8} {a k : Nat} (h1 : 1 ≤ k) (h8 : k ≤ 8) (ha : a + k ≤ s.length) (hm : s.length ≤ 9223372036854775807) : Pf Tryd.prog 52 #[.string (bs (s.drop a)), .int .i64 (k : Int)] (.tuple #[.int .u64 ((val (seg s a k) : Nat) : Int), .string (bs (s.drop (a + k))), .bool true]) := by
  refine pf_of_below fun w => ?_
  have h := take_yes (bs (s.drop a)) k w h1 h8 (by rw [bs_size, List.length_drop]; omega) (by rw [bs_size, List.length_drop]; omega)
  rw [bs_list, List.drop_drop] at h
  exact h.mono fun e w' ⟨he, hd⟩ => ⟨he, hd.below _⟩
theorem pf_rtake {s : List UInt8} {a k : Nat} (h1 : 1 ≤ k) (h8 : k ≤ 8) (ha : a + k ≤ s.length) (hm : s.length ≤ 9223372036854775807) : Pf Tryd.prog 54 #[.string (bs (s.drop a)), .int .i64 (k : Int)] (.tuple #[.int .u64 ((val (seg s a k) : Nat) : Int), .string (bs (s.drop (a + k))), .bool true]) := by
  refine pf_of_below fun w => ?_
  have h := rtake_yes (bs (s.drop a)) k w h1 h8 (by rw [bs_size, List.length_drop]; omega) (by rw [bs_size, List.length_drop]; omega)
  rw [bs_list, List.drop_drop] at h
  exact h.mono fun e w' ⟨he, hd⟩ => ⟨he, hd.below _⟩
theorem pf_rput {n k : Nat} (h1 : 1 ≤ k) (h8 : k ≤ 8) (hn : n < 18446744073709551616) : Pf Tryd.prog 47 #[.int .u64 (n : Int), .int .i64 (k : Int)] (.string (bs (put n k))) := pf_of_below fun w => rput_yes n k w h1 h8 hn
theorem wrap_num (s : List UInt8) (a : Nat) {k : Nat} (hk : k ≤ 4) : IntKind.u32.wrap ((val (seg s a k) : Nat) : Int) = num s a k := by
  obtain ⟨h1, h2⟩ := u32_num s a hk
  unfold num at h1 h2 ⊢
  exact wrap_u32N (by omega)
def errOf (e c : Int) : Int := if c = 0 then e else c
theorem errOf_no {e c : Int} (h : (c != 0) = true) : errOf e c = c := if_neg (ne_of_bne_t h)
theorem errOf_yes {e c : Int} (h : (c != 0) = false) : errOf e c = e := if_pos (eq_of_bne_f h)
theorem err_bad {a b c : Int} (h : (errOf (errOf (errOf 0 a) b) c != 0) = true) : ¬ (a = 0 ∧ b = 0 ∧ c = 0) := by
  rintro ⟨rfl, rfl, rfl⟩
  exact absurd h (by decide)
theorem err_good {a b c : Int} (h : (errOf (errOf (errOf 0 a) b) c != 0) = false) : a = 0 ∧ b = 0 ∧ c = 0 := by
  have h := eq_of_bne_f h
  unfold errOf at h
  by_cases hc : c = 0
  · rw [if_pos hc] at h
    by_cases hb : b = 0
    · rw [if_pos hb] at h
      by_cases ha : a = 0
      · exact ⟨ha, hb, hc⟩
      · rw [if_neg ha] at h; exact absurd h ha
    · rw [if_neg hb] at h; exact absurd h hb
  · rw [if_neg hc] at h; exact absurd h hc

theorem rd_take1 {w0 : World} {F : Hp} {g : Nat} (s : List UInt8) (a : Nat) (e : Int) (hm : s.length ≤ 9223372036854775807) (ha : a + 1 ≤ s.length) : FnH Tryd.prog 31 #[.pointer (some ⟨g, 0, none⟩), .int .i64 1] w0 ([.blk g (.cells #[.string (bs (s.drop a)), .int .i64 e] 74)] ++ F) (fun v H' => v = .int .u32 (num s a 1) ∧ H' = [.blk g (.cells #[.string (bs (s.drop (a + 1))), .int .i64 e] 74)] ++ F) := by
  refine fnH_of_run Tryd.func31 rfl rfl ?_
  refine run_seq rfl ?_
  refine run_region (todo := [0]) rfl rfl ?_
  refine run_mv rfl ?_
  refine run_endops ?_
  refine run_seq rfl ?_
  refine run_region (todo := [0, 1, 2, 3, 4, 5, 6, 7, 8, 9, 10, 11, 12]) rfl rfl ?_
  refine run_mv rfl ?_
  refine run_mv rfl ?_
  refine run_rd (v := .pointer (some ⟨g, 0, none⟩)) rfl (rd_fieldAddr (o := 0) Tryd.underlying74 rfl Tryd.sizeOf9 rfl rfl) ?_
  refine run_rd (v := .string (bs (s.drop a))) rfl (rd_load (j := 0) (v := .string (bs (s.drop a))) Tryd.isAgg9 rfl rfl) ?_
  refine run_mv rfl ?_
  refine run_pf0 (v := .tuple #[.int .u64 ((val (seg s a 1) : Nat) : Int), .string (bs (s.drop (a + 1))), .bool true]) rfl Tryd.call52 (pf_take (s := s) (a := a) (k := 1) (by decide) (by decide) (by omega) (by omega)) ?_
  refine run_mv rfl ?_
  refine run_rd (v := .int .u64 ((val (seg s a 1) : Nat) : Int)) rfl (rd_extract rfl) ?_
  refine run_rd (v := .string (bs (s.drop (a + 1)))) rfl (rd_extract rfl) ?_
  refine run_rd (v := .bool true) rfl (rd_extract rfl) ?_
  refine run_mv rfl ?_
  refine run_mv rfl ?_
  refine run_mv rfl ?_
  refine run_endops ?_
  refine run_seq rfl ?_
  refine run_region (todo := [0, 1, 2, 3, 4]) rfl rfl ?_
  refine run_mv rfl ?_
  refine run_mv rfl ?_
  refine run_mv rfl ?_
  refine run_rd (v := .pointer (some ⟨g, 0, none⟩)) rfl (rd_fieldAddr (o := 0) Tryd.underlying74 rfl Tryd.sizeOf9 rfl rfl) ?_
  refine run_store (j := 0) (c' := #[.string (bs (s.drop (a + 1))), .int .i64 e]) rfl Tryd.sizeOf9 rfl rfl rfl rfl (by kernel_rfl) rfl ?_
  refine run_endops ?_
  refine run_seq rfl ?_
  refine run_region (todo := [0, 1, 2]) rfl rfl ?_
  refine run_mv rfl ?_
  refine run_rd (v := .int .u32 (num s a 1)) rfl (rd_toInt Tryd.underlying28 Tryd.underlying22 (wrap_num s _ (by decide))) ?_
  refine run_mv rfl ?_
  refine run_endops ?_
  refine run_retF (v := .int .u32 (num s a 1)) (X := [.blk g (.cells #[.string (bs (s.drop (a + 1))), .int .i64 e] 74)]) (Y := [.blk g (.cells #[.string (bs (s.drop (a + 1))), .int .i64 e] 74)]) (F := F) [0] rfl (res1 rfl rfl) ⟨rfl, trivial⟩ (by decide) rfl ?_
  exact ⟨rfl, rfl⟩

theorem rd_take4 {w0 : World} {F : Hp} {g : Nat} (s : List UInt8) (a : Nat) (e : Int) (hm : s.length ≤ 9223372036854775807) (ha : a + 4 ≤ s.length) : FnH Tryd.prog 31 #[.pointer (some ⟨g, 0, none⟩), .int .i64 4] w0 ([.blk g (.cells #[.string (bs (s.drop a)), .int .i64 e] 74)] ++ F) (fun v H' => v = .int .u32 (num s a 4) ∧ H' = [.blk g (.cells #[.string (bs (s.drop (a + 4))), .int .i64 e] 74)] ++ F) := by
  refine fnH_of_run Tryd.func31 rfl rfl ?_
  refine run_seq rfl ?_
  refine run_region (todo := [0]) rfl rfl ?_
  refine run_mv rfl ?_
  refine run_endops ?_
  refine run_seq rfl ?_
  refine run_region (todo := [0, 1, 2, 3, 4, 5, 6, 7, 8, 9, 10, 11, 12]) rfl rfl ?_
  refine run_mv rfl ?_
  refine run_mv rfl ?_
  refine run_rd (v := .pointer (some ⟨g, 0, none⟩)) rfl (rd_fieldAddr (o := 0) Tryd.underlying74 rfl Tryd.sizeOf9 rfl rfl) ?_
  refine run_rd (v := .string (bs (s.drop a))) rfl (rd_load (j := 0) (v := .string (bs (s.drop a))) Tryd.isAgg9 rfl rfl) ?_
  refine run_mv rfl ?_
  refine run_pf0 (v := .tuple #[.int .u64 ((val (seg s a 4) : Nat) : Int), .string (bs (s.drop (a + 4))), .bool true]) rfl Tryd.call52 (pf_take (s := s) (a := a) (k := 4) (by decide) (by decide) (by omega) (by omega)) ?_
  refine run_mv rfl ?_
  refine run_rd (v := .int .u64 ((val (seg s a 4) : Nat) : Int)) rfl (rd_extract rfl) ?_
  refine run_rd (v := .string (bs (s.drop (a + 4)))) rfl (rd_extract rfl) ?_
  refine run_rd (v := .bool true) rfl (rd_extract rfl) ?_
  refine run_mv rfl ?_
  refine run_mv rfl ?_
  refine run_mv rfl ?_
  refine run_endops ?_
  refine run_seq rfl ?_
  refine run_region (todo := [0, 1, 2, 3, 4]) rfl rfl ?_
  refine run_mv rfl ?_
  refine run_mv rfl ?_
  refine run_mv rfl ?_
  refine run_rd (v := .pointer (some ⟨g, 0, none⟩)) rfl (rd_fieldAddr (o := 0) Tryd.underlying74 rfl Tryd.sizeOf9 rfl rfl) ?_
  refine run_store (j := 0) (c' := #[.string (bs (s.drop (a + 4))), .int .i64 e]) rfl Tryd.sizeOf9 rfl rfl rfl rfl (by kernel_rfl) rfl ?_
  refine run_endops ?_
  refine run_seq rfl ?_
  refine run_region (todo := [0, 1, 2]) rfl rfl ?_
  refine run_mv rfl ?_
  refine run_rd (v := .int .u32 (num s a 4)) rfl (rd_toInt Tryd.underlying28 Tryd.underlying22 (wrap_num s _ (by decide))) ?_
  refine run_mv rfl ?_
  refine run_endops ?_
  refine run_retF (v := .int .u32 (num s a 4)) (X := [.blk g (.cells #[.string (bs (s.drop (a + 4))), .int .i64 e] 74)]) (Y := [.blk g (.cells #[.string (bs (s.drop (a + 4))), .int .i64 e] 74)]) (F := F) [0] rfl (res1 rfl rfl) ⟨rfl, trivial⟩ (by decide) rfl ?_
  exact ⟨rfl, rfl⟩

theorem rd_id {w0 : World} {F : Hp} {g : Nat} (s : List UInt8) (a : Nat) (e : Int) (hm : s.length ≤ 9223372036854775807) (ha : a + 9 ≤ s.length) : FnH Tryd.prog 32 #[.pointer (some ⟨g, 0, none⟩)] w0 ([.blk g (.cells #[.string (bs (s.drop a)), .int .i64 e] 74)] ++ F) (fun v H' => v = .agg (idAt s a).list.toArray ∧ H' = [.blk g (.cells #[.string (bs (s.drop (a + 9))), .int .i64 e] 74)] ++ F) := by
  refine fnH_of_run Tryd.func32 rfl rfl ?_
  refine run_seq rfl ?_
  refine run_region (todo := [0]) rfl rfl ?_
  refine run_alloc rfl Tryd.zeroValue24 (fun g1 => ?_)
  refine run_endops ?_
  refine run_seq rfl ?_
  refine run_region (todo := [0, 1, 2, 3, 4]) rfl rfl ?_
  refine run_mv rfl ?_
  refine run_lessF (ρ' := [(0, .pointer (some ⟨g, 0, none⟩)), (2, .pointer (some ⟨g1, 0, none⟩)), (4, .pointer (some ⟨g, 0, none⟩))]) (X := [.blk g (.cells #[.string (bs (s.drop a)), .int .i64 e] 74), .blk g1 (.cells #[.int .u32 0, .int .u32 0, .int .u32 0] 24)]) (Y := [.blk g1 (.cells #[.int .u32 0, .int .u32 0, .int .u32 0] 24), .blk g (.cells #[.string (bs (s.drop a)), .int .i64 e] 74)]) (F := F) [1, 0] ?_ ⟨rfl, rfl, rfl, trivial⟩ ⟨rfl, rfl, trivial⟩ (by decide) rfl
  refine run_callH rfl Tryd.call31 (rd_take4 (F := [.blk g1 (.cells #[.int .u32 0, .int .u32 0, .int .u32 0] 24)] ++ F) (g := g) s a e (by omega) (by omega)) (fun v H' hq => ?_)
  obtain ⟨rfl, rfl⟩ := hq
  refine run_rd (v := .agg #[.int .u32 (num s a 4), .int .u32 0, .int .u32 0]) rfl ((fun w _ => by kernel_rfl)) ?_
  refine run_alloc rfl Tryd.zeroValue24 (fun g2 => ?_)
  refine run_storeW (j := 0) (c' := #[.int .u32 (num s a 4), .int .u32 0, .int .u32 0]) rfl Tryd.sizeOf24 rfl rfl rfl rfl rfl rfl ?_
  refine run_endops ?_
  refine run_seq rfl ?_
  refine run_region (todo := [0, 1, 2, 3]) rfl rfl ?_
  refine run_mv rfl ?_
  refine run_lessF (ρ' := [(0, .pointer (some ⟨g, 0, none⟩)), (2, .pointer (some ⟨g1, 0, none⟩)), (3, .pointer (some ⟨g2, 0, none⟩)), (4, .pointer (some ⟨g, 0, none⟩)), (5, .int .u32 (num s a 4)), (6, .agg #[.int .u32 (num s a 4), .int .u32 0, .int .u32 0]), (7, .pointer (some ⟨g, 0, none⟩))]) (X := [.blk g (.cells #[.string (bs (s.drop (a + 4))), .int .i64 e] 74), .blk g2 (.cells #[.int .u32 (num s a 4), .int .u32 0, .int .u32 0] 24), .blk g1 (.cells #[.int .u32 0, .int .u32 0, .int .u32 0] 24)]) (Y := [.blk g2 (.cells #[.int .u32 (num s a 4), .int .u32 0, .int .u32 0] 24), .blk g (.cells #[.string (bs (s.drop (a + 4))), .int .i64 e] 74), .blk g1 (.cells #[.int .u32 0, .int .u32 0, .int .u32 0] 24)]) (F := F) [1, 0, 2] ?_ ⟨rfl, rfl, rfl, rfl, rfl, rfl, rfl, trivial⟩ ⟨rfl, rfl, rfl, trivial⟩ (by decide) rfl
  refine run_callH rfl Tryd.call31 (rd_take1 (F := [.blk g2 (.cells #[.int .u32 (num s a 4), .int .u32 0, .int .u32 0] 24), .blk g1 (.cells #[.int .u32 0, .int .u32 0, .int .u32 0] 24)] ++ F) (g := g) s (a + 4) e (by omega) (by omega)) (fun v H' hq => ?_)
  obtain ⟨rfl, rfl⟩ := hq
  refine run_rd (v := .pointer (some ⟨g2, 1, none⟩)) rfl (rd_fieldAddr (o := 1) Tryd.underlying24 rfl Tryd.sizeOf22 rfl rfl) ?_
  refine run_store (j := 1) (c' := #[.int .u32 (num s a 4), .int .u32 (num s (a + 4) 1), .int .u32 0]) rfl Tryd.sizeOf22 rfl rfl rfl rfl (by kernel_rfl) rfl ?_
  refine run_endops ?_
  refine run_seq rfl ?_
  refine run_region (todo := [0, 1, 2, 3]) rfl rfl ?_
  refine run_mv rfl ?_
  refine run_callH rfl Tryd.call31 (rd_take4 (F := [.blk g2 (.cells #[.int .u32 (num s a 4), .int .u32 (num s (a + 4) 1), .int .u32 0] 24), .blk g1 (.cells #[.int .u32 0, .int .u32 0, .int .u32 0] 24)] ++ F) (g := g) s ((a + 4) + 1) e (by omega) (by omega)) (fun v H' hq => ?_)
  obtain ⟨rfl, rfl⟩ := hq
  refine run_rd (v := .pointer (some ⟨g2, 2, none⟩)) rfl (rd_fieldAddr (o := 2) Tryd.underlying24 rfl Tryd.sizeOf22 rfl rfl) ?_
  refine run_store (j := 1) (c' := #[.int .u32 (num s a 4), .int .u32 (num s (a + 4) 1), .int .u32 (num s ((a + 4) + 1) 4)]) rfl Tryd.sizeOf22 rfl rfl rfl rfl (by kernel_rfl) rfl ?_
  refine run_endops ?_
  refine run_seq rfl ?_
  refine run_region (todo := [0, 1]) rfl rfl ?_
  refine run_rd (v := .agg #[.int .u32 (num s a 4), .int .u32 (num s (a + 4) 1), .int .u32 (num s ((a + 4) + 1) 4)]) rfl (rd_loadW (j := 1) Tryd.isAgg24 Tryd.sizeOf24 rfl rfl) ?_
  refine run_storeW (j := 2) (c' := #[.int .u32 (num s a 4), .int .u32 (num s (a + 4) 1), .int .u32 (num s ((a + 4) + 1) 4)]) rfl Tryd.sizeOf24 rfl rfl rfl rfl rfl rfl ?_
  refine run_endops ?_
  refine run_retF (v := .agg #[.int .u32 (num s a 4), .int .u32 (num s (a + 4) 1), .int .u32 (num s ((a + 4) + 1) 4)]) (X := [.blk g (.cells #[.string (bs (s.drop (((a + 4) + 1) + 4))), .int .i64 e] 74)]) (Y := [.blk g (.cells #[.string (bs (s.drop (((a + 4) + 1) + 4))), .int .i64 e] 74), .blk g2 (.cells #[.int .u32 (num s a 4), .int .u32 (num s (a + 4) 1), .int .u32 (num s ((a + 4) + 1) 4)] 24), .blk g1 (.cells #[.int .u32 (num s a 4), .int .u32 (num s (a + 4) 1), .int .u32 (num s ((a + 4) + 1) 4)] 24)]) (F := F) [0] rfl (res1 rfl ⟨_, rfl, rdv (rd_loadW (j := 2) Tryd.isAgg24 Tryd.sizeOf24 rfl rfl)⟩) ⟨rfl, trivial⟩ (by decide) rfl ?_
  exact ⟨rfl, rfl⟩

theorem rd_eight {w0 : World} {F : Hp} {g : Nat} (s : List UInt8) (a : Nat) (e : Int) (hm : s.length ≤ 9223372036854775807) (ha : a + 32 ≤ s.length) : FnH Tryd.prog 33 #[.pointer (some ⟨g, 0, none⟩)] w0 ([.blk g (.cells #[.string (bs (s.drop a)), .int .i64 e] 74)] ++ F) (fun v H' => v = .agg (v8At s a).vals.toArray ∧ H' = [.blk g (.cells #[.string (bs (s.drop (a + 32))), .int .i64 e] 74)] ++ F) := by
  refine fnH_of_run Tryd.func33 rfl rfl ?_
  refine run_seq rfl ?_
  refine run_region (todo := [0]) rfl rfl ?_
  refine run_alloc rfl Tryd.zeroValue25 (fun g1 => ?_)
  refine run_endops ?_
  refine run_seq rfl ?_
  refine run_region (todo := [0]) rfl rfl ?_
  refine run_alloc rfl Tryd.zeroValue25 (fun g2 => ?_)
  refine run_endops ?_
  refine run_seq rfl ?_
  refine run_seq rfl ?_
  refine run_region (todo := [0]) rfl rfl ?_
  refine run_mv rfl ?_
  refine run_endops ?_
  refine run_block rfl ?_
  refine run_loop rfl ?_
  refine run_again ?_
  refine run_seq rfl ?_
  refine run_region (todo := [0]) rfl rfl ?_
  refine run_rd (v := .bool true) rfl (rd_cmp rfl rfl) ?_
  refine run_endops ?_
  refine run_seq rfl ?_
  refine run_true rfl rfl ?_
  refine run_skip rfl ?_
  refine run_seq rfl ?_
  refine run_block rfl ?_
  refine run_seq rfl ?_
  refine run_region (todo := [0, 1]) rfl rfl ?_
  refine run_mv rfl ?_
  refine run_mv rfl ?_
  refine run_endops ?_
  refine run_region (todo := [0, 1, 2, 3, 4]) rfl rfl ?_
  refine run_mv rfl ?_
  refine run_mv rfl ?_
  refine run_lessF (ρ' := [(0, .pointer (some ⟨g, 0, none⟩)), (2, .pointer (some ⟨g1, 0, none⟩)), (3, .pointer (some ⟨g2, 0, none⟩)), (4, .int .i64 0), (5, .int .i64 0), (6, .bool true), (7, .int .i64 0), (8, .int .i64 0), (9, .pointer (some ⟨g, 0, none⟩))]) (X := [.blk g (.cells #[.string (bs (s.drop a)), .int .i64 e] 74), .blk g2 (.cells #[.int .u32 0, .int .u32 0, .int .u32 0, .int .u32 0, .int .u32 0, .int .u32 0, .int .u32 0, .int .u32 0] 25), .blk g1 (.cells #[.int .u32 0, .int .u32 0, .int .u32 0, .int .u32 0, .int .u32 0, .int .u32 0, .int .u32 0, .int .u32 0] 25)]) (Y := [.blk g2 (.cells #[.int .u32 0, .int .u32 0, .int .u32 0, .int .u32 0, .int .u32 0, .int .u32 0, .int .u32 0, .int .u32 0] 25), .blk g1 (.cells #[.int .u32 0, .int .u32 0, .int .u32 0, .int .u32 0, .int .u32 0, .int .u32 0, .int .u32 0, .int .u32 0] 25), .blk g (.cells #[.string (bs (s.drop a)), .int .i64 e] 74)]) (F := F) [2, 0, 1] ?_ ⟨rfl, rfl, rfl, rfl, rfl, rfl, rfl, rfl, rfl, trivial⟩ ⟨rfl, rfl, rfl, trivial⟩ (by decide) rfl
  refine run_callH rfl Tryd.call31 (rd_take4 (F := [.blk g2 (.cells #[.int .u32 0, .int .u32 0, .int .u32 0, .int .u32 0, .int .u32 0, .int .u32 0, .int .u32 0, .int .u32 0] 25), .blk g1 (.cells #[.int .u32 0, .int .u32 0, .int .u32 0, .int .u32 0, .int .u32 0, .int .u32 0, .int .u32 0, .int .u32 0] 25)] ++ F) (g := g) s a e (by omega) (by omega)) (fun v H' hq => ?_)
  obtain ⟨rfl, rfl⟩ := hq
  refine run_rd (v := .pointer (some ⟨g2, 0, none⟩)) rfl (rd_indexAddrA (m := 0) (o := 0) Tryd.underlying25 rfl (by decide) Tryd.sizeOf22 rfl) ?_
  refine run_store (j := 1) (c' := #[.int .u32 (num s a 4), .int .u32 0, .int .u32 0, .int .u32 0, .int .u32 0, .int .u32 0, .int .u32 0, .int .u32 0]) rfl Tryd.sizeOf22 rfl rfl rfl rfl (by kernel_rfl) rfl ?_
  refine run_endops ?_
  refine run_endblock ?_
  refine run_region (todo := [0, 1]) rfl rfl ?_
  refine run_rd (v := .int .i64 1) rfl (rd_add (r := 1) (by decide)) ?_
  refine run_mv rfl ?_
  refine run_endops ?_
  refine run_again ?_
  refine run_seq rfl ?_
  refine run_region (todo := [0]) rfl rfl ?_
  refine run_rd (v := .bool true) rfl (rd_cmp rfl rfl) ?_
  refine run_endops ?_
  refine run_seq rfl ?_
  refine run_true rfl rfl ?_
  refine run_skip rfl ?_
  refine run_seq rfl ?_
  refine run_block rfl ?_
  refine run_seq rfl ?_
  refine run_region (todo := [0, 1]) rfl rfl ?_
  refine run_mv rfl ?_
  refine run_mv rfl ?_
  refine run_endops ?_
  refine run_region (todo := [0, 1, 2, 3, 4]) rfl rfl ?_
  refine run_mv rfl ?_
  refine run_mv rfl ?_
  refine run_callH rfl Tryd.call31 (rd_take4 (F := [.blk g2 (.cells #[.int .u32 (num s a 4), .int .u32 0, .int .u32 0, .int .u32 0, .int .u32 0, .int .u32 0, .int .u32 0, .int .u32 0] 25), .blk g1 (.cells #[.int .u32 0, .int .u32 0, .int .u32 0, .int .u32 0, .int .u32 0, .int .u32 0, .int .u32 0, .int .u32 0] 25)] ++ F) (g := g) s (a + 4) e (by omega) (by omega)) (fun v H' hq => ?_)
  obtain ⟨rfl, rfl⟩ := hq
  refine run_rd (v := .pointer (some ⟨g2, 1, none⟩)) rfl (rd_indexAddrA (m := 1) (o := 1) Tryd.underlying25 rfl (by decide) Tryd.sizeOf22 rfl) ?_
  refine run_store (j := 1) (c' := #[.int .u32 (num s a 4), .int .u32 (num s (a + 4) 4), .int .u32 0, .int .u32 0, .int .u32 0, .int .u32 0, .int .u32 0, .int .u32 0]) rfl Tryd.sizeOf22 rfl rfl rfl rfl (by kernel_rfl) rfl ?_
  refine run_endops ?_
  refine run_endblock ?_
  refine run_region (todo := [0, 1]) rfl rfl ?_
  refine run_rd (v := .int .i64 2) rfl (rd_add (r := 2) (by decide)) ?_
  refine run_mv rfl ?_
  refine run_endops ?_
  refine run_again ?_
  refine run_seq rfl ?_
  refine run_region (todo := [0]) rfl rfl ?_
  refine run_rd (v := .bool true) rfl (rd_cmp rfl rfl) ?_
  refine run_endops ?_
  refine run_seq rfl ?_
  refine run_true rfl rfl ?_
  refine run_skip rfl ?_
  refine run_seq rfl ?_
  refine run_block rfl ?_
  refine run_seq rfl ?_
  refine run_region (todo := [0, 1]) rfl rfl ?_
  refine run_mv rfl ?_
  refine run_mv rfl ?_
  refine run_endops ?_
  refine run_region (todo := [0, 1, 2, 3, 4]) rfl rfl ?_
  refine run_mv rfl ?_
  refine run_mv rfl ?_
  refine run_callH rfl Tryd.call31 (rd_take4 (F := [.blk g2 (.cells #[.int .u32 (num s a 4), .int .u32 (num s (a + 4) 4), .int .u32 0, .int .u32 0, .int .u32 0, .int .u32 0, .int .u32 0, .int .u32 0] 25), .blk g1 (.cells #[.int .u32 0, .int .u32 0, .int .u32 0, .int .u32 0, .int .u32 0, .int .u32 0, .int .u32 0, .int .u32 0] 25)] ++ F) (g := g) s ((a + 4) + 4) e (by omega) (by omega)) (fun v H' hq => ?_)
  obtain ⟨rfl, rfl⟩ := hq
  refine run_rd (v := .pointer (some ⟨g2, 2, none⟩)) rfl (rd_indexAddrA (m := 2) (o := 2) Tryd.underlying25 rfl (by decide) Tryd.sizeOf22 rfl) ?_
  refine run_store (j := 1) (c' := #[.int .u32 (num s a 4), .int .u32 (num s (a + 4) 4), .int .u32 (num s ((a + 4) + 4) 4), .int .u32 0, .int .u32 0, .int .u32 0, .int .u32 0, .int .u32 0]) rfl Tryd.sizeOf22 rfl rfl rfl rfl (by kernel_rfl) rfl ?_
  refine run_endops ?_
  refine run_endblock ?_
  refine run_region (todo := [0, 1]) rfl rfl ?_
  refine run_rd (v := .int .i64 3) rfl (rd_add (r := 3) (by decide)) ?_
  refine run_mv rfl ?_
  refine run_endops ?_
  refine run_again ?_
  refine run_seq rfl ?_
  refine run_region (todo := [0]) rfl rfl ?_
  refine run_rd (v := .bool true) rfl (rd_cmp rfl rfl) ?_
  refine run_endops ?_
  refine run_seq rfl ?_
  refine run_true rfl rfl ?_
  refine run_skip rfl ?_
  refine run_seq rfl ?_
  refine run_block rfl ?_
  refine run_seq rfl ?_
  refine run_region (todo := [0, 1]) rfl rfl ?_
  refine run_mv rfl ?_
  refine run_mv rfl ?_
  refine run_endops ?_
  refine run_region (todo := [0, 1, 2, 3, 4]) rfl rfl ?_
  refine run_mv rfl ?_
  refine run_mv rfl ?_
  refine run_callH rfl Tryd.call31 (rd_take4 (F := [.blk g2 (.cells #[.int .u32 (num s a 4), .int .u32 (num s (a + 4) 4), .int .u32 (num s ((a + 4) + 4) 4), .int .u32 0, .int .u32 0, .int .u32 0, .int .u32 0, .int .u32 0] 25), .blk g1 (.cells #[.int .u32 0, .int .u32 0, .int .u32 0, .int .u32 0, .int .u32 0, .int .u32 0, .int .u32 0, .int .u32 0] 25)] ++ F) (g := g) s (((a + 4) + 4) + 4) e (by omega) (by omega)) (fun v H' hq => ?_)
  obtain ⟨rfl, rfl⟩ := hq
  refine run_rd (v := .pointer (some ⟨g2, 3, none⟩)) rfl (rd_indexAddrA (m := 3) (o := 3) Tryd.underlying25 rfl (by decide) Tryd.sizeOf22 rfl) ?_
  refine run_store (j := 1) (c' := #[.int .u32 (num s a 4), .int .u32 (num s (a + 4) 4), .int .u32 (num s ((a + 4) + 4) 4), .int .u32 (num s (((a + 4) + 4) + 4) 4), .int .u32 0, .int .u32 0, .int .u32 0, .int .u32 0]) rfl Tryd.sizeOf22 rfl rfl rfl rfl (by kernel_rfl) rfl ?_
  refine run_endops ?_
  refine run_endblock ?_
  refine run_region (todo := [0, 1]) rfl rfl ?_
  refine run_rd (v := .int .i64 4) rfl (rd_add (r := 4) (by decide)) ?_
  refine run_mv rfl ?_
  refine run_endops ?_
  refine run_again ?_
  refine run_seq rfl ?_
  refine run_region (todo := [0]) rfl rfl ?_
  refine run_rd (v := .bool true) rfl (rd_cmp rfl rfl) ?_
  refine run_endops ?_
  refine run_seq rfl ?_
  refine run_true rfl rfl ?_
  refine run_skip rfl ?_
  refine run_seq rfl ?_
  refine run_block rfl ?_
  refine run_seq rfl ?_
  refine run_region (todo := [0, 1]) rfl rfl ?_
  refine run_mv rfl ?_
  refine run_mv rfl ?_
  refine run_endops ?_
  refine run_region (todo := [0, 1, 2, 3, 4]) rfl rfl ?_
  refine run_mv rfl ?_
  refine run_mv rfl ?_
  refine run_callH rfl Tryd.call31 (rd_take4 (F := [.blk g2 (.cells #[.int .u32 (num s a 4), .int .u32 (num s (a + 4) 4), .int .u32 (num s ((a + 4) + 4) 4), .int .u32 (num s (((a + 4) + 4) + 4) 4), .int .u32 0, .int .u32 0, .int .u32 0, .int .u32 0] 25), .blk g1 (.cells #[.int .u32 0, .int .u32 0, .int .u32 0, .int .u32 0, .int .u32 0, .int .u32 0, .int .u32 0, .int .u32 0] 25)] ++ F) (g := g) s ((((a + 4) + 4) + 4) + 4) e (by omega) (by omega)) (fun v H' hq => ?_)
  obtain ⟨rfl, rfl⟩ := hq
  refine run_rd (v := .pointer (some ⟨g2, 4, none⟩)) rfl (rd_indexAddrA (m := 4) (o := 4) Tryd.underlying25 rfl (by decide) Tryd.sizeOf22 rfl) ?_
  refine run_store (j := 1) (c' := #[.int .u32 (num s a 4), .int .u32 (num s (a + 4) 4), .int .u32 (num s ((a + 4) + 4) 4), .int .u32 (num s (((a + 4) + 4) + 4) 4), .int .u32 (num s ((((a + 4) + 4) + 4) + 4) 4), .int .u32 0, .int .u32 0, .int .u32 0]) rfl Tryd.sizeOf22 rfl rfl rfl rfl (by kernel_rfl) rfl ?_
  refine run_endops ?_
  refine run_endblock ?_
  refine run_region (todo := [0, 1]) rfl rfl ?_
  refine run_rd (v := .int .i64 5) rfl (rd_add (r := 5) (by decide)) ?_
  refine run_mv rfl ?_
  refine run_endops ?_
  refine run_again ?_
  refine run_seq rfl ?_
  refine run_region (todo := [0]) rfl rfl ?_
  refine run_rd (v := .bool true) rfl (rd_cmp rfl rfl) ?_
  refine run_endops ?_
  refine run_seq rfl ?_
  refine run_true rfl rfl ?_
  refine run_skip rfl ?_
  refine run_seq rfl ?_
  refine run_block rfl ?_
  refine run_seq rfl ?_
  refine run_region (todo := [0, 1]) rfl rfl ?_
  refine run_mv rfl ?_
  refine run_mv rfl ?_
  refine run_endops ?_
  refine run_region (todo := [0, 1, 2, 3, 4]) rfl rfl ?_
  refine run_mv rfl ?_
  refine run_mv rfl ?_
  refine run_callH rfl Tryd.call31 (rd_take4 (F := [.blk g2 (.cells #[.int .u32 (num s a 4), .int .u32 (num s (a + 4) 4), .int .u32 (num s ((a + 4) + 4) 4), .int .u32 (num s (((a + 4) + 4) + 4) 4), .int .u32 (num s ((((a + 4) + 4) + 4) + 4) 4), .int .u32 0, .int .u32 0, .int .u32 0] 25), .blk g1 (.cells #[.int .u32 0, .int .u32 0, .int .u32 0, .int .u32 0, .int .u32 0, .int .u32 0, .int .u32 0, .int .u32 0] 25)] ++ F) (g := g) s (((((a + 4) + 4) + 4) + 4) + 4) e (by omega) (by omega)) (fun v H' hq => ?_)
  obtain ⟨rfl, rfl⟩ := hq
  refine run_rd (v := .pointer (some ⟨g2, 5, none⟩)) rfl (rd_indexAddrA (m := 5) (o := 5) Tryd.underlying25 rfl (by decide) Tryd.sizeOf22 rfl) ?_
  refine run_store (j := 1) (c' := #[.int .u32 (num s a 4), .int .u32 (num s (a + 4) 4), .int .u32 (num s ((a + 4) + 4) 4), .int .u32 (num s (((a + 4) + 4) + 4) 4), .int .u32 (num s ((((a + 4) + 4) + 4) + 4) 4), .int .u32 (num s (((((a + 4) + 4) + 4) + 4) + 4) 4), .int .u32 0, .int .u32 0]) rfl Tryd.sizeOf22 rfl rfl rfl rfl (by kernel_rfl) rfl ?_
  refine run_endops ?_
  refine run_endblock ?_
  refine run_region (todo := [0, 1]) rfl rfl ?_
  refine run_rd (v := .int .i64 6) rfl (rd_add (r := 6) (by decide)) ?_
  refine run_mv rfl ?_
  refine run_endops ?_
  refine run_again ?_
  refine run_seq rfl ?_
  refine run_region (todo := [0]) rfl rfl ?_
  refine run_rd (v := .bool true) rfl (rd_cmp rfl rfl) ?_
  refine run_endops ?_
  refine run_seq rfl ?_
  refine run_true rfl rfl ?_
  refine run_skip rfl ?_
  refine run_seq rfl ?_
  refine run_block rfl ?_
  refine run_seq rfl ?_
  refine run_region (todo := [0, 1]) rfl rfl ?_
  refine run_mv rfl ?_
  refine run_mv rfl ?_
  refine run_endops ?_
  refine run_region (todo := [0, 1, 2, 3, 4]) rfl rfl ?_
  refine run_mv rfl ?_
  refine run_mv rfl ?_
  refine run_callH rfl Tryd.call31 (rd_take4 (F := [.blk g2 (.cells #[.int .u32 (num s a 4), .int .u32 (num s (a + 4) 4), .int .u32 (num s ((a + 4) + 4) 4), .int .u32 (num s (((a + 4) + 4) + 4) 4), .int .u32 (num s ((((a + 4) + 4) + 4) + 4) 4), .int .u32 (num s (((((a + 4) + 4) + 4) + 4) + 4) 4), .int .u32 0, .int .u32 0] 25), .blk g1 (.cells #[.int .u32 0, .int .u32 0, .int .u32 0, .int .u32 0, .int .u32 0, .int .u32 0, .int .u32 0, .int .u32 0] 25)] ++ F) (g := g) s ((((((a + 4) + 4) + 4) + 4) + 4) + 4) e (by omega) (by omega)) (fun v H' hq => ?_)
  obtain ⟨rfl, rfl⟩ := hq
  refine run_rd (v := .pointer (some ⟨g2, 6, none⟩)) rfl (rd_indexAddrA (m := 6) (o := 6) Tryd.underlying25 rfl (by decide) Tryd.sizeOf22 rfl) ?_
  refine run_store (j := 1) (c' := #[.int .u32 (num s a 4), .int .u32 (num s (a + 4) 4), .int .u32 (num s ((a + 4) + 4) 4), .int .u32 (num s (((a + 4) + 4) + 4) 4), .int .u32 (num s ((((a + 4) + 4) + 4) + 4) 4), .int .u32 (num s (((((a + 4) + 4) + 4) + 4) + 4) 4), .int .u32 (num s ((((((a + 4) + 4) + 4) + 4) + 4) + 4) 4), .int .u32 0]) rfl Tryd.sizeOf22 rfl rfl rfl rfl (by kernel_rfl) rfl ?_
  refine run_endops ?_
  refine run_endblock ?_
  refine run_region (todo := [0, 1]) rfl rfl ?_
  refine run_rd (v := .int .i64 7) rfl (rd_add (r := 7) (by decide)) ?_
  refine run_mv rfl ?_
  refine run_endops ?_
  refine run_again ?_
  refine run_seq rfl ?_
  refine run_region (todo := [0]) rfl rfl ?_
  refine run_rd (v := .bool true) rfl (rd_cmp rfl rfl) ?_
  refine run_endops ?_
  refine run_seq rfl ?_
  refine run_true rfl rfl ?_
  refine run_skip rfl ?_
  refine run_seq rfl ?_
  refine run_block rfl ?_
  refine run_seq rfl ?_
  refine run_region (todo := [0, 1]) rfl rfl ?_
  refine run_mv rfl ?_
  refine run_mv rfl ?_
  refine run_endops ?_
  refine run_region (todo := [0, 1, 2, 3, 4]) rfl rfl ?_
  refine run_mv rfl ?_
  refine run_mv rfl ?_
  refine run_callH rfl Tryd.call31 (rd_take4 (F := [.blk g2 (.cells #[.int .u32 (num s a 4), .int .u32 (num s (a + 4) 4), .int .u32 (num s ((a + 4) + 4) 4), .int .u32 (num s (((a + 4) + 4) + 4) 4), .int .u32 (num s ((((a + 4) + 4) + 4) + 4) 4), .int .u32 (num s (((((a + 4) + 4) + 4) + 4) + 4) 4), .int .u32 (num s ((((((a + 4) + 4) + 4) + 4) + 4) + 4) 4), .int .u32 0] 25), .blk g1 (.cells #[.int .u32 0, .int .u32 0, .int .u32 0, .int .u32 0, .int .u32 0, .int .u32 0, .int .u32 0, .int .u32 0] 25)] ++ F) (g := g) s (((((((a + 4) + 4) + 4) + 4) + 4) + 4) + 4) e (by omega) (by omega)) (fun v H' hq => ?_)
  obtain ⟨rfl, rfl⟩ := hq
  refine run_rd (v := .pointer (some ⟨g2, 7, none⟩)) rfl (rd_indexAddrA (m := 7) (o := 7) Tryd.underlying25 rfl (by decide) Tryd.sizeOf22 rfl) ?_
  refine run_store (j := 1) (c' := #[.int .u32 (num s a 4), .int .u32 (num s (a + 4) 4), .int .u32 (num s ((a + 4) + 4) 4), .int .u32 (num s (((a + 4) + 4) + 4) 4), .int .u32 (num s ((((a + 4) + 4) + 4) + 4) 4), .int .u32 (num s (((((a + 4) + 4) + 4) + 4) + 4) 4), .int .u32 (num s ((((((a + 4) + 4) + 4) + 4) + 4) + 4) 4), .int .u32 (num s (((((((a + 4) + 4) + 4) + 4) + 4) + 4) + 4) 4)]) rfl Tryd.sizeOf22 rfl rfl rfl rfl (by kernel_rfl) rfl ?_
  refine run_endops ?_
  refine run_endblock ?_
  refine run_region (todo := [0, 1]) rfl rfl ?_
  refine run_rd (v := .int .i64 8) rfl (rd_add (r := 8) (by decide)) ?_
  refine run_mv rfl ?_
  refine run_endops ?_
  refine run_again ?_
  refine run_seq rfl ?_
  refine run_region (todo := [0]) rfl rfl ?_
  refine run_rd (v := .bool false) rfl (rd_cmp rfl rfl) ?_
  refine run_endops ?_
  refine run_seq rfl ?_
  refine run_false rfl rfl ?_
  refine run_exit rfl rfl ?_
  refine run_seq rfl ?_
  refine run_region (todo := [0, 1]) rfl rfl ?_
  refine run_rd (v := .agg #[.int .u32 (num s a 4), .int .u32 (num s (a + 4) 4), .int .u32 (num s ((a + 4) + 4) 4), .int .u32 (num s (((a + 4) + 4) + 4) 4), .int .u32 (num s ((((a + 4) + 4) + 4) + 4) 4), .int .u32 (num s (((((a + 4) + 4) + 4) + 4) + 4) 4), .int .u32 (num s ((((((a + 4) + 4) + 4) + 4) + 4) + 4) 4), .int .u32 (num s (((((((a + 4) + 4) + 4) + 4) + 4) + 4) + 4) 4)]) rfl (rd_loadW (j := 1) Tryd.isAgg25 Tryd.sizeOf25 rfl rfl) ?_
  refine run_storeW (j := 2) (c' := #[.int .u32 (num s a 4), .int .u32 (num s (a + 4) 4), .int .u32 (num s ((a + 4) + 4) 4), .int .u32 (num s (((a + 4) + 4) + 4) 4), .int .u32 (num s ((((a + 4) + 4) + 4) + 4) 4), .int .u32 (num s (((((a + 4) + 4) + 4) + 4) + 4) 4), .int .u32 (num s ((((((a + 4) + 4) + 4) + 4) + 4) + 4) 4), .int .u32 (num s (((((((a + 4) + 4) + 4) + 4) + 4) + 4) + 4) 4)]) rfl Tryd.sizeOf25 rfl rfl rfl rfl rfl rfl ?_
  refine run_endops ?_
  refine run_retF (v := .agg #[.int .u32 (num s a 4), .int .u32 (num s (a + 4) 4), .int .u32 (num s ((a + 4) + 4) 4), .int .u32 (num s (((a + 4) + 4) + 4) 4), .int .u32 (num s ((((a + 4) + 4) + 4) + 4) 4), .int .u32 (num s (((((a + 4) + 4) + 4) + 4) + 4) 4), .int .u32 (num s ((((((a + 4) + 4) + 4) + 4) + 4) + 4) 4), .int .u32 (num s (((((((a + 4) + 4) + 4) + 4) + 4) + 4) + 4) 4)]) (X := [.blk g (.cells #[.string (bs (s.drop ((((((((a + 4) + 4) + 4) + 4) + 4) + 4) + 4) + 4))), .int .i64 e] 74)]) (Y := [.blk g (.cells #[.string (bs (s.drop ((((((((a + 4) + 4) + 4) + 4) + 4) + 4) + 4) + 4))), .int .i64 e] 74), .blk g2 (.cells #[.int .u32 (num s a 4), .int .u32 (num s (a + 4) 4), .int .u32 (num s ((a + 4) + 4) 4), .int .u32 (num s (((a + 4) + 4) + 4) 4), .int .u32 (num s ((((a + 4) + 4) + 4) + 4) 4), .int .u32 (num s (((((a + 4) + 4) + 4) + 4) + 4) 4), .int .u32 (num s ((((((a + 4) + 4) + 4) + 4) + 4) + 4) 4), .int .u32 (num s (((((((a + 4) + 4) + 4) + 4) + 4) + 4) + 4) 4)] 25), .blk g1 (.cells #[.int .u32 (num s a 4), .int .u32 (num s (a + 4) 4), .int .u32 (num s ((a + 4) + 4) 4), .int .u32 (num s (((a + 4) + 4) + 4) 4), .int .u32 (num s ((((a + 4) + 4) + 4) + 4) 4), .int .u32 (num s (((((a + 4) + 4) + 4) + 4) + 4) 4), .int .u32 (num s ((((((a + 4) + 4) + 4) + 4) + 4) + 4) 4), .int .u32 (num s (((((((a + 4) + 4) + 4) + 4) + 4) + 4) + 4) 4)] 25)]) (F := F) [0] rfl (res1 rfl ⟨_, rfl, rdv (rd_loadW (j := 2) Tryd.isAgg25 Tryd.sizeOf25 rfl rfl)⟩) ⟨rfl, trivial⟩ (by decide) rfl ?_
  exact ⟨rfl, rfl⟩

theorem seg_le (s : List UInt8) (a n : Nat) : (seg s a n).length ≤ n := by unfold seg; rw [List.length_take]; omega
theorem rd_frame {w0 : World} {F : Hp} {g : Nat} (s : List UInt8) (a : Nat) (e : Int) (hm : s.length ≤ 9223372036854775807) (ha : a + 168 ≤ s.length) : FnH Tryd.prog 34 #[.pointer (some ⟨g, 0, none⟩)] w0 ([.blk g (.cells #[.string (bs (s.drop a)), .int .i64 e] 74)] ++ F) (fun v H' => v = (outF (seg s a 168)).val ∧ H' = [.blk g (.cells #[.string (bs (s.drop (a + 168))), .int .i64 (errOf e (outFC (seg s a 168)))] 74)] ++ F) := by
  refine fnH_of_run Tryd.func34 rfl rfl ?_
  refine run_seq rfl ?_
  refine run_region (todo := [0]) rfl rfl ?_
  refine run_alloc rfl Tryd.zeroValue33 (fun g1 => ?_)
  refine run_endops ?_
  refine run_seq rfl ?_
  refine run_region (todo := [0, 1, 2, 3, 4, 5, 6, 7, 8, 9, 10, 11]) rfl rfl ?_
  refine run_mv rfl ?_
  refine run_mv rfl ?_
  refine run_rd (v := .pointer (some ⟨g, 0, none⟩)) rfl (rd_fieldAddr (o := 0) Tryd.underlying74 rfl Tryd.sizeOf9 rfl rfl) ?_
  refine run_rd (v := .string (bs (s.drop a))) rfl (rd_load (j := 1) (v := .string (bs (s.drop a))) Tryd.isAgg9 rfl rfl) ?_
  refine run_rd (v := .string (bs (seg s a 168))) rfl (rd_substr (l := 0) (h := 168) Tryd.underlying9 (.inr ⟨rfl, rfl⟩) (.inl rfl) (by omega) (by rw [bs_size, List.length_drop]; omega) (by exact bs_pre)) ?_
  refine run_pf0 (v := .tuple #[.agg ((outF (seg s a 168)).arr), .int .i64 (outFC (seg s a 168))]) rfl Tryd.call53 (pf_fdecode (seg s a 168) (Nat.le_trans (seg_le _ _ _) (by decide))) ?_
  refine run_mv rfl ?_
  refine run_rd (v := .agg ((outF (seg s a 168)).arr)) rfl (rd_extract rfl) ?_
  refine run_rd (v := .int .i64 (outFC (seg s a 168))) rfl (rd_extract rfl) ?_
  refine run_alloc rfl Tryd.zeroValue33 (fun g2 => ?_)
  refine run_storeW (j := 0) (c' := (outF (seg s a 168)).arr) rfl Tryd.sizeOf33 rfl rfl rfl rfl rfl rfl ?_
  refine run_mv rfl ?_
  refine run_endops ?_
  refine run_seq rfl ?_
  refine run_region (todo := [0, 1, 2, 3, 4, 5, 6, 7, 8]) rfl rfl ?_
  refine run_mv rfl ?_
  refine run_mv rfl ?_
  refine run_mv rfl ?_
  refine run_rd (v := .pointer (some ⟨g, 0, none⟩)) rfl (rd_fieldAddr (o := 0) Tryd.underlying74 rfl Tryd.sizeOf9 rfl rfl) ?_
  refine run_rd (v := .string (bs (s.drop a))) rfl (rd_load (j := 2) (v := .string (bs (s.drop a))) Tryd.isAgg9 rfl rfl) ?_
  refine run_rd (v := .string (bs (s.drop (a + 168)))) rfl (rd_substr (l := 168) (h := s.length - a) Tryd.underlying9 (.inl rfl) (.inr ⟨rfl, by rw [bs_size, List.length_drop]⟩) (by omega) (by rw [bs_size, List.length_drop]; exact Nat.le_refl _) (bs_suf rfl rfl)) ?_
  refine run_mv rfl ?_
  refine run_rd (v := .pointer (some ⟨g, 0, none⟩)) rfl (rd_fieldAddr (o := 0) Tryd.underlying74 rfl Tryd.sizeOf9 rfl rfl) ?_
  refine run_store (j := 2) (c' := #[.string (bs (s.drop (a + 168))), .int .i64 e]) rfl Tryd.sizeOf9 rfl rfl rfl rfl (by kernel_rfl) rfl ?_
  refine run_endops ?_
  refine run_seq rfl ?_
  refine run_seq rfl ?_
  refine run_region (todo := [0, 1]) rfl rfl ?_
  refine run_mv rfl ?_
  refine run_rd (v := .bool ((outFC (seg s a 168)) != 0)) rfl (rd_cmp rfl rfl) ?_
  refine run_endops ?_
  refine run_if rfl rfl (fun hb1 => ?_) (fun hb1 => ?_)
  · have hb1p := ne_of_bne_t hb1
    refine run_region (todo := [0, 1, 2, 3, 4]) rfl rfl ?_
    refine run_mv rfl ?_
    refine run_mv rfl ?_
    refine run_mv rfl ?_
    refine run_rd (v := .pointer (some ⟨g, 1, none⟩)) rfl (rd_fieldAddr (o := 1) Tryd.underlying74 rfl Tryd.sizeOf36 rfl rfl) ?_
    refine run_store (j := 2) (c' := #[.string (bs (s.drop (a + 168))), .int .i64 (outFC (seg s a 168))]) rfl Tryd.sizeOf36 rfl rfl rfl rfl (by kernel_rfl) rfl ?_
    refine run_endops ?_
    refine run_seq rfl ?_
    refine run_region (todo := [0, 1]) rfl rfl ?_
    refine run_rd (v := .agg ((outF (seg s a 168)).arr)) rfl (rd_loadW (j := 0) Tryd.isAgg33 Tryd.sizeOf33 rfl rfl) ?_
    refine run_storeW (j := 1) (c' := (outF (seg s a 168)).arr) rfl Tryd.sizeOf33 rfl rfl rfl rfl rfl rfl ?_
    refine run_endops ?_
    refine run_retF (v := .agg ((outF (seg s a 168)).arr)) (X := [.blk g (.cells #[.string (bs (s.drop (a + 168))), .int .i64 (outFC (seg s a 168))] 74)]) (Y := [.blk g2 (.cells ((outF (seg s a 168)).arr) 33), .blk g1 (.cells ((outF (seg s a 168)).arr) 33), .blk g (.cells #[.string (bs (s.drop (a + 168))), .int .i64 (outFC (seg s a 168))] 74)]) (F := F) [2] rfl (res1 rfl ⟨_, rfl, rdv (rd_loadW (j := 1) Tryd.isAgg33 Tryd.sizeOf33 rfl rfl)⟩) ⟨rfl, trivial⟩ (by decide) rfl ?_
    rw [errOf_no hb1]
    exact ⟨rfl, rfl⟩
  · have hb1p := eq_of_bne_f hb1
    refine run_skip rfl ?_
    refine run_seq rfl ?_
    refine run_region (todo := [0, 1]) rfl rfl ?_
    refine run_rd (v := .agg ((outF (seg s a 168)).arr)) rfl (rd_loadW (j := 0) Tryd.isAgg33 Tryd.sizeOf33 rfl rfl) ?_
    refine run_storeW (j := 1) (c' := (outF (seg s a 168)).arr) rfl Tryd.sizeOf33 rfl rfl rfl rfl rfl rfl ?_
    refine run_endops ?_
    refine run_retF (v := .agg ((outF (seg s a 168)).arr)) (X := [.blk g (.cells #[.string (bs (s.drop (a + 168))), .int .i64 e] 74)]) (Y := [.blk g2 (.cells ((outF (seg s a 168)).arr) 33), .blk g1 (.cells ((outF (seg s a 168)).arr) 33), .blk g (.cells #[.string (bs (s.drop (a + 168))), .int .i64 e] 74)]) (F := F) [2] rfl (res1 rfl ⟨_, rfl, rdv (rd_loadW (j := 1) Tryd.isAgg33 Tryd.sizeOf33 rfl rfl)⟩) ⟨rfl, trivial⟩ (by decide) rfl ?_
    rw [errOf_yes hb1]
    exact ⟨rfl, rfl⟩

theorem pf_pdecode (s : List UInt8) (hm : s.length ≤ 9223372036854775800) : Pf Tryd.prog 14 #[.string (bs s)] (.tuple #[(outP s).val, .int .i64 (outPC s)]) := by
  refine pf_of_run Tryd.func14 rfl rfl (fun w0 => ?_)
  refine run_seq rfl ?_
  refine run_region (todo := [0, 1]) rfl rfl ?_
  refine run_alloc rfl Tryd.zeroValue35 (fun g1 => ?_)
  refine run_mv rfl ?_
  refine run_endops ?_
  refine run_seq rfl ?_
  refine run_seq rfl ?_
  refine run_region (todo := [0, 1, 2]) rfl rfl ?_
  refine run_mv rfl ?_
  refine run_rd (v := .int .i64 ((s.length : Nat) : Int)) rfl (rd_lenStr Tryd.underlying9 rfl) ?_
  refine run_rd (v := .bool (((s.length : Nat) : Int) != 641)) rfl (rd_cmp rfl rfl) ?_
  refine run_endops ?_
  refine run_if rfl rfl (fun hb1 => ?_) (fun hb1 => ?_)
  · have hl : s.length ≠ 641 := fun e => ne_of_bne_t hb1 (by rw [e]; rfl)
    refine run_seq rfl ?_
    refine run_region (todo := [0, 1, 2]) rfl rfl ?_
    refine run_rd (v := .agg Pkt.zero.arr) rfl ((fun w _ => by kernel_rfl)) ?_
    refine run_storeW (j := 0) (c' := Pkt.zero.arr) rfl Tryd.sizeOf35 (by kernel_rfl) (by kernel_rfl) rfl (by kernel_rfl) rfl rfl ?_
    refine run_mv rfl ?_
    refine run_endops ?_
    refine run_ret rfl (v := .tuple #[.agg Pkt.zero.arr, .int .i64 50]) (res2 rfl ⟨_, rfl, rdv (rd_loadW (j := 0) Tryd.isAgg35 Tryd.sizeOf35 rfl (by kernel_rfl))⟩ rfl) ?_
    exact dec_long hl
  · have hl : s.length = 641 := by have := eq_of_bne_f hb1; omega
    refine run_skip rfl ?_
    refine run_seq rfl ?_
    refine run_seq rfl ?_
    refine run_region (todo := [0, 1, 2]) rfl rfl ?_
    refine run_mv rfl ?_
    refine run_pf0 (v := .bool (crcOk s)) rfl Tryd.call30 (pf_crcOk s (by omega)) ?_
    refine run_rd (v := .bool (!(crcOk s))) rfl (rd_not) ?_
    refine run_endops ?_
    refine run_if rfl rfl (fun hb2 => ?_) (fun hb2 => ?_)
    · have hc : crcOk s = false := (Bool.not_eq_true' _).mp hb2
      refine run_seq rfl ?_
      refine run_region (todo := [0, 1, 2]) rfl rfl ?_
      refine run_rd (v := .agg Pkt.zero.arr) rfl ((fun w _ => by kernel_rfl)) ?_
      refine run_storeW (j := 0) (c' := Pkt.zero.arr) rfl Tryd.sizeOf35 (by kernel_rfl) (by kernel_rfl) rfl (by kernel_rfl) rfl rfl ?_
      refine run_mv rfl ?_
      refine run_endops ?_
      refine run_ret rfl (v := .tuple #[.agg Pkt.zero.arr, .int .i64 51]) (res2 rfl ⟨_, rfl, rdv (rd_loadW (j := 0) Tryd.isAgg35 Tryd.sizeOf35 rfl (by kernel_rfl))⟩ rfl) ?_
      exact dec_sum hl hc
    · have hc : crcOk s = true := (Bool.not_eq_false' _).mp hb2
      refine run_skip rfl ?_
      refine run_seq rfl ?_
      refine run_region (todo := [0, 1, 2, 3]) rfl rfl ?_
      refine run_mv rfl ?_
      refine run_rd (v := .agg #[.string (bs s), .int .i64 0]) rfl ((fun w _ => by kernel_rfl)) ?_
      refine run_box rfl (fun g2 => ?_)
      refine run_mv rfl ?_
      refine run_endops ?_
      refine run_seq rfl ?_
      refine run_region (todo := [0]) rfl rfl ?_
      refine run_alloc rfl Tryd.zeroValue35 (fun g3 => ?_)
      refine run_endops ?_
      refine run_seq rfl ?_
      refine run_region (todo := [0, 1, 2, 3]) rfl rfl ?_
      refine run_mv rfl ?_
      refine run_less (ρ' := [(0, .string (bs s)), (2, .pointer (some ⟨g1, 0, none⟩)), (3, .int .i64 0), (4, .pointer (some ⟨g2, 0, none⟩)), (5, .pointer (some ⟨g3, 0, none⟩)), (7, .string (bs s)), (8, .int .i64 ((s.length : Nat) : Int)), (9, .bool (((s.length : Nat) : Int) != 641)), (11, .string (bs s)), (12, .bool (crcOk s)), (13, .bool (!(crcOk s))), (15, .string (bs s)), (16, .agg #[.string (bs s), .int .i64 0]), (17, .pointer (some ⟨g2, 0, none⟩)), (18, .pointer (some ⟨g2, 0, none⟩))]) (H' := [.blk g2 (.cells #[.string (bs s), .int .i64 0] 74), .blk g3 (.cells Pkt.zero.arr 35), .blk g1 (.cells Pkt.zero.arr 35)]) [1, 0, 2] ?_ ⟨rfl, rfl, rfl, rfl, rfl, rfl, rfl, rfl, rfl, rfl, rfl, rfl, rfl, rfl, rfl, trivial⟩ ⟨rfl, rfl, rfl, trivial⟩ (by decide)
      refine run_callH rfl Tryd.call31 (rd_take1 (F := [.blk g3 (.cells Pkt.zero.arr 35), .blk g1 (.cells Pkt.zero.arr 35)]) (g := g2) s 0 0 (by omega) (by omega)) (fun v H' hq => ?_)
      obtain ⟨rfl, rfl⟩ := hq
      refine run_rd (v := .pointer (some ⟨g3, 0, none⟩)) rfl (rd_fieldAddr (o := 0) Tryd.underlying35 rfl Tryd.sizeOf22 rfl rfl) ?_
      refine run_store (j := 1) (c' := (Pkt.mk (num s 0 1) 0 Id3.zero V8.zero V8.zero Id3.zero V8.zero false 0 0 Fr.zero Fr.zero 0 0 Fr.zero).arr) rfl Tryd.sizeOf22 (by kernel_rfl) (by kernel_rfl) rfl (by kernel_rfl) (by kernel_rfl) rfl ?_
      refine run_endops ?_
      refine run_seq rfl ?_
      refine run_region (todo := [0, 1, 2, 3]) rfl rfl ?_
      refine run_mv rfl ?_
      refine run_callH rfl Tryd.call31 (rd_take4 (F := [.blk g3 (.cells ((Pkt.mk (num s 0 1) 0 Id3.zero V8.zero V8.zero Id3.zero V8.zero false 0 0 Fr.zero Fr.zero 0 0 Fr.zero).arr) 35), .blk g1 (.cells Pkt.zero.arr 35)]) (g := g2) s 1 0 (by omega) (by omega)) (fun v H' hq => ?_)
      obtain ⟨rfl, rfl⟩ := hq
      refine run_rd (v := .pointer (some ⟨g3, 1, none⟩)) rfl (rd_fieldAddr (o := 1) Tryd.underlying35 rfl Tryd.sizeOf22 rfl rfl) ?_
      refine run_store (j := 1) (c' := (Pkt.mk (num s 0 1) (num s 1 4) Id3.zero V8.zero V8.zero Id3.zero V8.zero false 0 0 Fr.zero Fr.zero 0 0 Fr.zero).arr) rfl Tryd.sizeOf22 (by kernel_rfl) (by kernel_rfl) rfl (by kernel_rfl) (by kernel_rfl) rfl ?_
      refine run_endops ?_
      refine run_seq rfl ?_
      refine run_region (todo := [0, 1, 2, 3]) rfl rfl ?_
      refine run_mv rfl ?_
      refine run_callH rfl Tryd.call32 (rd_id (F := [.blk g3 (.cells ((Pkt.mk (num s 0 1) (num s 1 4) Id3.zero V8.zero V8.zero Id3.zero V8.zero false 0 0 Fr.zero Fr.zero 0 0 Fr.zero).arr) 35), .blk g1 (.cells Pkt.zero.arr 35)]) (g := g2) s 5 0 (by omega) (by omega)) (fun v H' hq => ?_)
      obtain ⟨rfl, rfl⟩ := hq
      refine run_rd (v := .pointer (some ⟨g3, 2, none⟩)) rfl (rd_fieldAddr (o := 2) Tryd.underlying35 rfl Tryd.sizeOf24 rfl rfl) ?_
      refine run_store (j := 1) (c' := (Pkt.mk (num s 0 1) (num s 1 4) (idAt s 5) V8.zero V8.zero Id3.zero V8.zero false 0 0 Fr.zero Fr.zero 0 0 Fr.zero).arr) rfl Tryd.sizeOf24 (by kernel_rfl) (by kernel_rfl) rfl (by kernel_rfl) (by kernel_rfl) rfl ?_
      refine run_endops ?_
      refine run_seq rfl ?_
      refine run_region (todo := [0, 1, 2, 3]) rfl rfl ?_
      refine run_mv rfl ?_
      refine run_callH rfl Tryd.call33 (rd_eight (F := [.blk g3 (.cells ((Pkt.mk (num s 0 1) (num s 1 4) (idAt s 5) V8.zero V8.zero Id3.zero V8.zero false 0 0 Fr.zero Fr.zero 0 0 Fr.zero).arr) 35), .blk g1 (.cells Pkt.zero.arr 35)]) (g := g2) s 14 0 (by omega) (by omega)) (fun v H' hq => ?_)
      obtain ⟨rfl, rfl⟩ := hq
      refine run_rd (v := .pointer (some ⟨g3, 5, none⟩)) rfl (rd_fieldAddr (o := 5) Tryd.underlying35 rfl Tryd.sizeOf26 rfl rfl) ?_
      refine run_store (j := 1) (c' := (Pkt.mk (num s 0 1) (num s 1 4) (idAt s 5) (v8At s 14) V8.zero Id3.zero V8.zero false 0 0 Fr.zero Fr.zero 0 0 Fr.zero).arr) rfl Tryd.sizeOf26 (by kernel_rfl) (by kernel_rfl) rfl (by kernel_rfl) (by kernel_rfl) rfl ?_
      refine run_endops ?_
      refine run_seq rfl ?_
      refine run_region (todo := [0, 1, 2, 3]) rfl rfl ?_
      refine run_mv rfl ?_
      refine run_callH rfl Tryd.call33 (rd_eight (F := [.blk g3 (.cells ((Pkt.mk (num s 0 1) (num s 1 4) (idAt s 5) (v8At s 14) V8.zero Id3.zero V8.zero false 0 0 Fr.zero Fr.zero 0 0 Fr.zero).arr) 35), .blk g1 (.cells Pkt.zero.arr 35)]) (g := g2) s 46 0 (by omega) (by omega)) (fun v H' hq => ?_)
      obtain ⟨rfl, rfl⟩ := hq
      refine run_rd (v := .pointer (some ⟨g3, 13, none⟩)) rfl (rd_fieldAddr (o := 13) Tryd.underlying35 rfl Tryd.sizeOf27 rfl rfl) ?_
      refine run_store (j := 1) (c' := (Pkt.mk (num s 0 1) (num s 1 4) (idAt s 5) (v8At s 14) (v8At s 46) Id3.zero V8.zero false 0 0 Fr.zero Fr.zero 0 0 Fr.zero).arr) rfl Tryd.sizeOf27 (by kernel_rfl) (by kernel_rfl) rfl (by kernel_rfl) (by kernel_rfl) rfl ?_
      refine run_endops ?_
      refine run_seq rfl ?_
      refine run_region (todo := [0, 1, 2, 3]) rfl rfl ?_
      refine run_mv rfl ?_
      refine run_callH rfl Tryd.call32 (rd_id (F := [.blk g3 (.cells ((Pkt.mk (num s 0 1) (num s 1 4) (idAt s 5) (v8At s 14) (v8At s 46) Id3.zero V8.zero false 0 0 Fr.zero Fr.zero 0 0 Fr.zero).arr) 35), .blk g1 (.cells Pkt.zero.arr 35)]) (g := g2) s 78 0 (by omega) (by omega)) (fun v H' hq => ?_)
      obtain ⟨rfl, rfl⟩ := hq
      refine run_rd (v := .pointer (some ⟨g3, 21, none⟩)) rfl (rd_fieldAddr (o := 21) Tryd.underlying35 rfl Tryd.sizeOf24 rfl rfl) ?_
      refine run_store (j := 1) (c' := (Pkt.mk (num s 0 1) (num s 1 4) (idAt s 5) (v8At s 14) (v8At s 46) (idAt s 78) V8.zero false 0 0 Fr.zero Fr.zero 0 0 Fr.zero).arr) rfl Tryd.sizeOf24 (by kernel_rfl) (by kernel_rfl) rfl (by kernel_rfl) (by kernel_rfl) rfl ?_
      refine run_endops ?_
      refine run_seq rfl ?_
      refine run_region (todo := [0, 1, 2, 3]) rfl rfl ?_
      refine run_mv rfl ?_
      refine run_callH rfl Tryd.call33 (rd_eight (F := [.blk g3 (.cells ((Pkt.mk (num s 0 1) (num s 1 4) (idAt s 5) (v8At s 14) (v8At s 46) (idAt s 78) V8.zero false 0 0 Fr.zero Fr.zero 0 0 Fr.zero).arr) 35), .blk g1 (.cells Pkt.zero.arr 35)]) (g := g2) s 87 0 (by omega) (by omega)) (fun v H' hq => ?_)
      obtain ⟨rfl, rfl⟩ := hq
      refine run_rd (v := .pointer (some ⟨g3, 24, none⟩)) rfl (rd_fieldAddr (o := 24) Tryd.underlying35 rfl Tryd.sizeOf26 rfl rfl) ?_
      refine run_store (j := 1) (c' := (Pkt.mk (num s 0 1) (num s 1 4) (idAt s 5) (v8At s 14) (v8At s 46) (idAt s 78) (v8At s 87) false 0 0 Fr.zero Fr.zero 0 0 Fr.zero).arr) rfl Tryd.sizeOf26 (by kernel_rfl) (by kernel_rfl) rfl (by kernel_rfl) (by kernel_rfl) rfl ?_
      refine run_endops ?_
      refine run_seq rfl ?_
      refine run_region (todo := [0, 1, 2]) rfl rfl ?_
      refine run_mv rfl ?_
      refine run_callH rfl Tryd.call31 (rd_take1 (F := [.blk g3 (.cells ((Pkt.mk (num s 0 1) (num s 1 4) (idAt s 5) (v8At s 14) (v8At s 46) (idAt s 78) (v8At s 87) false 0 0 Fr.zero Fr.zero 0 0 Fr.zero).arr) 35), .blk g1 (.cells Pkt.zero.arr 35)]) (g := g2) s 119 0 (by omega) (by omega)) (fun v H' hq => ?_)
      obtain ⟨rfl, rfl⟩ := hq
      refine run_mv rfl ?_
      refine run_endops ?_
      refine run_seq rfl ?_
      refine run_region (todo := [0, 1, 2, 3]) rfl rfl ?_
      refine run_mv rfl ?_
      refine run_rd (v := .bool ((num s 119 1) == 1)) rfl (rd_cmp rfl rfl) ?_
      refine run_rd (v := .pointer (some ⟨g3, 32, none⟩)) rfl (rd_fieldAddr (o := 32) Tryd.underlying35 rfl Tryd.sizeOf4 rfl rfl) ?_
      refine run_store (j := 1) (c' := (Pkt.mk (num s 0 1) (num s 1 4) (idAt s 5) (v8At s 14) (v8At s 46) (idAt s 78) (v8At s 87) ((num s 119 1) == 1) 0 0 Fr.zero Fr.zero 0 0 Fr.zero).arr) rfl Tryd.sizeOf4 (by kernel_rfl) (by kernel_rfl) rfl (by kernel_rfl) (by kernel_rfl) rfl ?_
      refine run_endops ?_
      refine run_seq rfl ?_
      refine run_region (todo := [0, 1, 2, 3]) rfl rfl ?_
      refine run_mv rfl ?_
      refine run_callH rfl Tryd.call31 (rd_take4 (F := [.blk g3 (.cells ((Pkt.mk (num s 0 1) (num s 1 4) (idAt s 5) (v8At s 14) (v8At s 46) (idAt s 78) (v8At s 87) ((num s 119 1) == 1) 0 0 Fr.zero Fr.zero 0 0 Fr.zero).arr) 35), .blk g1 (.cells Pkt.zero.arr 35)]) (g := g2) s 120 0 (by omega) (by omega)) (fun v H' hq => ?_)
      obtain ⟨rfl, rfl⟩ := hq
      refine run_rd (v := .pointer (some ⟨g3, 33, none⟩)) rfl (rd_fieldAddr (o := 33) Tryd.underlying35 rfl Tryd.sizeOf22 rfl rfl) ?_
      refine run_store (j := 1) (c' := (Pkt.mk (num s 0 1) (num s 1 4) (idAt s 5) (v8At s 14) (v8At s 46) (idAt s 78) (v8At s 87) ((num s 119 1) == 1) (num s 120 4) 0 Fr.zero Fr.zero 0 0 Fr.zero).arr) rfl Tryd.sizeOf22 (by kernel_rfl) (by kernel_rfl) rfl (by kernel_rfl) (by kernel_rfl) rfl ?_
      refine run_endops ?_
      refine run_seq rfl ?_
      refine run_region (todo := [0, 1, 2, 3]) rfl rfl ?_
      refine run_mv rfl ?_
      refine run_callH rfl Tryd.call31 (rd_take4 (F := [.blk g3 (.cells ((Pkt.mk (num s 0 1) (num s 1 4) (idAt s 5) (v8At s 14) (v8At s 46) (idAt s 78) (v8At s 87) ((num s 119 1) == 1) (num s 120 4) 0 Fr.zero Fr.zero 0 0 Fr.zero).arr) 35), .blk g1 (.cells Pkt.zero.arr 35)]) (g := g2) s 124 0 (by omega) (by omega)) (fun v H' hq => ?_)
      obtain ⟨rfl, rfl⟩ := hq
      refine run_rd (v := .pointer (some ⟨g3, 34, none⟩)) rfl (rd_fieldAddr (o := 34) Tryd.underlying35 rfl Tryd.sizeOf22 rfl rfl) ?_
      refine run_store (j := 1) (c' := (Pkt.mk (num s 0 1) (num s 1 4) (idAt s 5) (v8At s 14) (v8At s 46) (idAt s 78) (v8At s 87) ((num s 119 1) == 1) (num s 120 4) (num s 124 4) Fr.zero Fr.zero 0 0 Fr.zero).arr) rfl Tryd.sizeOf22 (by kernel_rfl) (by kernel_rfl) rfl (by kernel_rfl) (by kernel_rfl) rfl ?_
      refine run_endops ?_
      refine run_seq rfl ?_
      refine run_region (todo := [0, 1, 2, 3]) rfl rfl ?_
      refine run_mv rfl ?_
      refine run_callH rfl Tryd.call34 (rd_frame (F := [.blk g3 (.cells ((Pkt.mk (num s 0 1) (num s 1 4) (idAt s 5) (v8At s 14) (v8At s 46) (idAt s 78) (v8At s 87) ((num s 119 1) == 1) (num s 120 4) (num s 124 4) Fr.zero Fr.zero 0 0 Fr.zero).arr) 35), .blk g1 (.cells Pkt.zero.arr 35)]) (g := g2) s 128 0 (by omega) (by omega)) (fun v H' hq => ?_)
      obtain ⟨rfl, rfl⟩ := hq
      refine run_rd (v := .pointer (some ⟨g3, 35, none⟩)) rfl (rd_fieldAddr (o := 35) Tryd.underlying35 rfl Tryd.sizeOf33 rfl rfl) ?_
      refine run_store (j := 1) (c' := (Pkt.mk (num s 0 1) (num s 1 4) (idAt s 5) (v8At s 14) (v8At s 46) (idAt s 78) (v8At s 87) ((num s 119 1) == 1) (num s 120 4) (num s 124 4) (outF (seg s 128 168)) Fr.zero 0 0 Fr.zero).arr) rfl Tryd.sizeOf33 (by kernel_rfl) (by kernel_rfl) rfl (by kernel_rfl) (by kernel_rfl) rfl ?_
      refine run_endops ?_
      refine run_seq rfl ?_
      refine run_region (todo := [0, 1, 2, 3]) rfl rfl ?_
      refine run_mv rfl ?_
      refine run_callH rfl Tryd.call34 (rd_frame (F := [.blk g3 (.cells ((Pkt.mk (num s 0 1) (num s 1 4) (idAt s 5) (v8At s 14) (v8At s 46) (idAt s 78) (v8At s 87) ((num s 119 1) == 1) (num s 120 4) (num s 124 4) (outF (seg s 128 168)) Fr.zero 0 0 Fr.zero).arr) 35), .blk g1 (.cells Pkt.zero.arr 35)]) (g := g2) s 296 (errOf 0 (outFC (seg s 128 168))) (by omega) (by omega)) (fun v H' hq => ?_)
      obtain ⟨rfl, rfl⟩ := hq
      refine run_rd (v := .pointer (some ⟨g3, 71, none⟩)) rfl (rd_fieldAddr (o := 71) Tryd.underlying35 rfl Tryd.sizeOf33 rfl rfl) ?_
      refine run_store (j := 1) (c' := (Pkt.mk (num s 0 1) (num s 1 4) (idAt s 5) (v8At s 14) (v8At s 46) (idAt s 78) (v8At s 87) ((num s 119 1) == 1) (num s 120 4) (num s 124 4) (outF (seg s 128 168)) (outF (seg s 296 168)) 0 0 Fr.zero).arr) rfl Tryd.sizeOf33 (by kernel_rfl) (by kernel_rfl) rfl (by kernel_rfl) (by kernel_rfl) rfl ?_
      refine run_endops ?_
      refine run_seq rfl ?_
      refine run_region (todo := [0, 1, 2, 3]) rfl rfl ?_
      refine run_mv rfl ?_
      refine run_callH rfl Tryd.call31 (rd_take1 (F := [.blk g3 (.cells ((Pkt.mk (num s 0 1) (num s 1 4) (idAt s 5) (v8At s 14) (v8At s 46) (idAt s 78) (v8At s 87) ((num s 119 1) == 1) (num s 120 4) (num s 124 4) (outF (seg s 128 168)) (outF (seg s 296 168)) 0 0 Fr.zero).arr) 35), .blk g1 (.cells Pkt.zero.arr 35)]) (g := g2) s 464 (errOf (errOf 0 (outFC (seg s 128 168))) (outFC (seg s 296 168))) (by omega) (by omega)) (fun v H' hq => ?_)
      obtain ⟨rfl, rfl⟩ := hq
      refine run_rd (v := .pointer (some ⟨g3, 107, none⟩)) rfl (rd_fieldAddr (o := 107) Tryd.underlying35 rfl Tryd.sizeOf22 rfl rfl) ?_
      refine run_store (j := 1) (c' := (Pkt.mk (num s 0 1) (num s 1 4) (idAt s 5) (v8At s 14) (v8At s 46) (idAt s 78) (v8At s 87) ((num s 119 1) == 1) (num s 120 4) (num s 124 4) (outF (seg s 128 168)) (outF (seg s 296 168)) (num s 464 1) 0 Fr.zero).arr) rfl Tryd.sizeOf22 (by kernel_rfl) (by kernel_rfl) rfl (by kernel_rfl) (by kernel_rfl) rfl ?_
      refine run_endops ?_
      refine run_seq rfl ?_
      refine run_region (todo := [0, 1, 2, 3]) rfl rfl ?_
      refine run_mv rfl ?_
      refine run_callH rfl Tryd.call31 (rd_take4 (F := [.blk g3 (.cells ((Pkt.mk (num s 0 1) (num s 1 4) (idAt s 5) (v8At s 14) (v8At s 46) (idAt s 78) (v8At s 87) ((num s 119 1) == 1) (num s 120 4) (num s 124 4) (outF (seg s 128 168)) (outF (seg s 296 168)) (num s 464 1) 0 Fr.zero).arr) 35), .blk g1 (.cells Pkt.zero.arr 35)]) (g := g2) s 465 (errOf (errOf 0 (outFC (seg s 128 168))) (outFC (seg s 296 168))) (by omega) (by omega)) (fun v H' hq => ?_)
      obtain ⟨rfl, rfl⟩ := hq
      refine run_rd (v := .pointer (some ⟨g3, 108, none⟩)) rfl (rd_fieldAddr (o := 108) Tryd.underlying35 rfl Tryd.sizeOf22 rfl rfl) ?_
      refine run_store (j := 1) (c' := (Pkt.mk (num s 0 1) (num s 1 4) (idAt s 5) (v8At s 14) (v8At s 46) (idAt s 78) (v8At s 87) ((num s 119 1) == 1) (num s 120 4) (num s 124 4) (outF (seg s 128 168)) (outF (seg s 296 168)) (num s 464 1) (num s 465 4) Fr.zero).arr) rfl Tryd.sizeOf22 (by kernel_rfl) (by kernel_rfl) rfl (by kernel_rfl) (by kernel_rfl) rfl ?_
      refine run_endops ?_
      refine run_seq rfl ?_
      refine run_region (todo := [0, 1, 2, 3]) rfl rfl ?_
      refine run_mv rfl ?_
      refine run_callH rfl Tryd.call34 (rd_frame (F := [.blk g3 (.cells ((Pkt.mk (num s 0 1) (num s 1 4) (idAt s 5) (v8At s 14) (v8At s 46) (idAt s 78) (v8At s 87) ((num s 119 1) == 1) (num s 120 4) (num s 124 4) (outF (seg s 128 168)) (outF (seg s 296 168)) (num s 464 1) (num s 465 4) Fr.zero).arr) 35), .blk g1 (.cells Pkt.zero.arr 35)]) (g := g2) s 469 (errOf (errOf 0 (outFC (seg s 128 168))) (outFC (seg s 296 168))) (by omega) (by omega)) (fun v H' hq => ?_)
      obtain ⟨rfl, rfl⟩ := hq
      refine run_rd (v := .pointer (some ⟨g3, 109, none⟩)) rfl (rd_fieldAddr (o := 109) Tryd.underlying35 rfl Tryd.sizeOf33 rfl rfl) ?_
      refine run_store (j := 1) (c' := (Pkt.mk (num s 0 1) (num s 1 4) (idAt s 5) (v8At s 14) (v8At s 46) (idAt s 78) (v8At s 87) ((num s 119 1) == 1) (num s 120 4) (num s 124 4) (outF (seg s 128 168)) (outF (seg s 296 168)) (num s 464 1) (num s 465 4) (outF (seg s 469 168))).arr) rfl Tryd.sizeOf33 (by kernel_rfl) (by kernel_rfl) rfl (by kernel_rfl) (by kernel_rfl) rfl ?_
      refine run_endops ?_
      refine run_seq rfl ?_
      refine run_seq rfl ?_
      rcases Bool.eq_false_or_eq_true ((errOf (errOf (errOf 0 (outFC (seg s 128 168))) (outFC (seg s 296 168))) (outFC (seg s 469 168))) != 0) with hb3 | hb3
      · have he := err_bad hb3
        refine run_region (todo := [0, 1, 2, 3, 4, 5, 6, 7, 8, 9, 10, 11, 12, 13]) rfl rfl ?_
        refine run_mv rfl ?_
        refine run_mv rfl ?_
        refine run_rd (v := .pointer (some ⟨g2, 1, none⟩)) rfl (rd_fieldAddr (o := 1) Tryd.underlying74 rfl Tryd.sizeOf36 rfl rfl) ?_
        refine run_rd (v := .int .i64 (errOf (errOf (errOf 0 (outFC (seg s 128 168))) (outFC (seg s 296 168))) (outFC (seg s 469 168)))) rfl (rd_load (j := 0) (v := .int .i64 (errOf (errOf (errOf 0 (outFC (seg s 128 168))) (outFC (seg s 296 168))) (outFC (seg s 469 168)))) Tryd.isAgg36 rfl rfl) ?_
        refine run_rd (v := .bool true) rfl (rd_cmp rfl hb3) ?_
        refine run_mv rfl ?_
        refine run_skipped rfl ?_
        refine run_skipped rfl ?_
        refine run_pick (v := .bool true) rfl rfl ?_
        refine run_mv rfl ?_
        refine run_skipped rfl ?_
        refine run_skipped rfl ?_
        refine run_skipped rfl ?_
        refine run_pick (v := .bool true) rfl rfl ?_
        refine run_endops ?_
        refine run_true rfl rfl ?_
        refine run_seq rfl ?_
        refine run_region (todo := [0, 1, 2]) rfl rfl ?_
        refine run_rd (v := .agg Pkt.zero.arr) rfl ((fun w _ => by kernel_rfl)) ?_
        refine run_storeW (j := 2) (c' := Pkt.zero.arr) rfl Tryd.sizeOf35 (by kernel_rfl) (by kernel_rfl) rfl (by kernel_rfl) rfl rfl ?_
        refine run_mv rfl ?_
        refine run_endops ?_
        refine run_ret rfl (v := .tuple #[.agg Pkt.zero.arr, .int .i64 52]) (res2 rfl ⟨_, rfl, rdv (rd_loadW (j := 2) Tryd.isAgg35 Tryd.sizeOf35 rfl (by kernel_rfl))⟩ rfl) ?_
        exact dec_form hl hc (fun h => he ⟨h.1, h.2.1, h.2.2.1⟩)
      · have he := err_good hb3
        rcases Bool.eq_false_or_eq_true (decide ((num s 119 1) > 1)) with hb4 | hb4
        · have hr := of_decide_eq_true hb4
          refine run_region (todo := [0, 1, 2, 3, 4, 5, 6, 7, 8, 9, 10, 11, 12, 13]) rfl rfl ?_
          refine run_mv rfl ?_
          refine run_mv rfl ?_
          refine run_rd (v := .pointer (some ⟨g2, 1, none⟩)) rfl (rd_fieldAddr (o := 1) Tryd.underlying74 rfl Tryd.sizeOf36 rfl rfl) ?_
          refine run_rd (v := .int .i64 (errOf (errOf (errOf 0 (outFC (seg s 128 168))) (outFC (seg s 296 168))) (outFC (seg s 469 168)))) rfl (rd_load (j := 0) (v := .int .i64 (errOf (errOf (errOf 0 (outFC (seg s 128 168))) (outFC (seg s 296 168))) (outFC (seg s 469 168)))) Tryd.isAgg36 rfl rfl) ?_
          refine run_rd (v := .bool false) rfl (rd_cmp rfl hb3) ?_
          refine run_mv rfl ?_
          refine run_mvG rfl ?_
          refine run_rdG (v := .bool true) rfl (rd_cmp rfl hb4) ?_
          refine run_pick (v := .bool true) rfl rfl ?_
          refine run_mv rfl ?_
          refine run_skipped rfl ?_
          refine run_skipped rfl ?_
          refine run_skipped rfl ?_
          refine run_pick (v := .bool true) rfl rfl ?_
          refine run_endops ?_
          refine run_true rfl rfl ?_
          refine run_seq rfl ?_
          refine run_region (todo := [0, 1, 2]) rfl rfl ?_
          refine run_rd (v := .agg Pkt.zero.arr) rfl ((fun w _ => by kernel_rfl)) ?_
          refine run_storeW (j := 2) (c' := Pkt.zero.arr) rfl Tryd.sizeOf35 (by kernel_rfl) (by kernel_rfl) rfl (by kernel_rfl) rfl rfl ?_
          refine run_mv rfl ?_
          refine run_endops ?_
          refine run_ret rfl (v := .tuple #[.agg Pkt.zero.arr, .int .i64 52]) (res2 rfl ⟨_, rfl, rdv (rd_loadW (j := 2) Tryd.isAgg35 Tryd.sizeOf35 rfl (by kernel_rfl))⟩ rfl) ?_
          exact dec_form hl hc (fun h => by have h4 := h.2.2.2.1; omega)
        · have hr := of_decide_eq_false hb4
          refine run_region (todo := [0, 1, 2, 3, 4, 5, 6, 7, 8, 9, 10, 11, 12, 13]) rfl rfl ?_
          refine run_mv rfl ?_
          refine run_mv rfl ?_
          refine run_rd (v := .pointer (some ⟨g2, 1, none⟩)) rfl (rd_fieldAddr (o := 1) Tryd.underlying74 rfl Tryd.sizeOf36 rfl rfl) ?_
          refine run_rd (v := .int .i64 (errOf (errOf (errOf 0 (outFC (seg s 128 168))) (outFC (seg s 296 168))) (outFC (seg s 469 168)))) rfl (rd_load (j := 0) (v := .int .i64 (errOf (errOf (errOf 0 (outFC (seg s 128 168))) (outFC (seg s 296 168))) (outFC (seg s 469 168)))) Tryd.isAgg36 rfl rfl) ?_
          refine run_rd (v := .bool false) rfl (rd_cmp rfl hb3) ?_
          refine run_mv rfl ?_
          refine run_mvG rfl ?_
          refine run_rdG (v := .bool false) rfl (rd_cmp rfl hb4) ?_
          refine run_pick (v := .bool false) rfl rfl ?_
          refine run_mv rfl ?_
          refine run_rdG (v := .agg ((Pkt.mk (num s 0 1) (num s 1 4) (idAt s 5) (v8At s 14) (v8At s 46) (idAt s 78) (v8At s 87) ((num s 119 1) == 1) (num s 120 4) (num s 124 4) (outF (seg s 128 168)) (outF (seg s 296 168)) (num s 464 1) (num s 465 4) (outF (seg s 469 168))).arr)) rfl (rd_loadW (j := 1) Tryd.isAgg35 Tryd.sizeOf35 rfl (by kernel_rfl)) ?_
          refine run_pf0G (v := .int .i64 (pkCode (rawP s).may)) rfl Tryd.call12 (pf_pcheck (rawP s) (rawP_fit s)) ?_
          refine run_rdG (v := .bool ((pkCode (rawP s).may) != 0)) rfl (rd_cmp rfl rfl) ?_
          refine run_pick (v := .bool ((pkCode (rawP s).may) != 0)) rfl rfl ?_
          refine run_endops ?_
          refine run_if rfl rfl (fun hb5 => ?_) (fun hb5 => ?_)
          · have hmy := pk_bad hb5
            refine run_seq rfl ?_
            refine run_region (todo := [0, 1, 2]) rfl rfl ?_
            refine run_rd (v := .agg Pkt.zero.arr) rfl ((fun w _ => by kernel_rfl)) ?_
            refine run_storeW (j := 2) (c' := Pkt.zero.arr) rfl Tryd.sizeOf35 (by kernel_rfl) (by kernel_rfl) rfl (by kernel_rfl) rfl rfl ?_
            refine run_mv rfl ?_
            refine run_endops ?_
            refine run_ret rfl (v := .tuple #[.agg Pkt.zero.arr, .int .i64 52]) (res2 rfl ⟨_, rfl, rdv (rd_loadW (j := 2) Tryd.isAgg35 Tryd.sizeOf35 rfl (by kernel_rfl))⟩ rfl) ?_
            exact dec_form hl hc (fun h => by have h5 := h.2.2.2.2; rw [hmy] at h5; cases h5)
          · have hmy := pk_good hb5
            refine run_skip rfl ?_
            refine run_seq rfl ?_
            refine run_region (todo := [0, 1, 2]) rfl rfl ?_
            refine run_rd (v := .agg ((Pkt.mk (num s 0 1) (num s 1 4) (idAt s 5) (v8At s 14) (v8At s 46) (idAt s 78) (v8At s 87) ((num s 119 1) == 1) (num s 120 4) (num s 124 4) (outF (seg s 128 168)) (outF (seg s 296 168)) (num s 464 1) (num s 465 4) (outF (seg s 469 168))).arr)) rfl (rd_loadW (j := 1) Tryd.isAgg35 Tryd.sizeOf35 rfl (by kernel_rfl)) ?_
            refine run_storeW (j := 2) (c' := (Pkt.mk (num s 0 1) (num s 1 4) (idAt s 5) (v8At s 14) (v8At s 46) (idAt s 78) (v8At s 87) ((num s 119 1) == 1) (num s 120 4) (num s 124 4) (outF (seg s 128 168)) (outF (seg s 296 168)) (num s 464 1) (num s 465 4) (outF (seg s 469 168))).arr) rfl Tryd.sizeOf35 (by kernel_rfl) (by kernel_rfl) rfl (by kernel_rfl) rfl rfl ?_
            refine run_mv rfl ?_
            refine run_endops ?_
            refine run_ret rfl (v := .tuple #[.agg ((Pkt.mk (num s 0 1) (num s 1 4) (idAt s 5) (v8At s 14) (v8At s 46) (idAt s 78) (v8At s 87) ((num s 119 1) == 1) (num s 120 4) (num s 124 4) (outF (seg s 128 168)) (outF (seg s 296 168)) (num s 464 1) (num s 465 4) (outF (seg s 469 168))).arr), .int .i64 0]) (res2 rfl ⟨_, rfl, rdv (rd_loadW (j := 2) Tryd.isAgg35 Tryd.sizeOf35 rfl (by kernel_rfl))⟩ rfl) ?_
            exact dec_ok hl hc he.1 he.2.1 he.2.2 (by omega) hmy

theorem pf_at (s : List UInt8) (a k : Nat) (h1 : 1 ≤ k) (h4 : k ≤ 4) (ha : a + k ≤ s.length) (hm : s.length ≤ 9223372036854775807) : Pf Tryd.prog 36 #[.string (bs s), .int .i64 ((a : Nat) : Int), .int .i64 ((k : Nat) : Int)] (.int .u32 (num s a k)) := by
  refine pf_of_run Tryd.func36 rfl rfl (fun w0 => ?_)
  refine run_seq rfl ?_
  refine run_region (todo := [0]) rfl rfl ?_
  refine run_mv rfl ?_
  refine run_endops ?_
  refine run_seq rfl ?_
  refine run_region (todo := [0, 1, 2, 3, 4, 5, 6, 7, 8, 9, 10, 11]) rfl rfl ?_
  refine run_mv rfl ?_
  refine run_mv rfl ?_
  refine run_rd (v := .string (bs (s.drop a))) rfl (rd_substr (l := a) (h := s.length) Tryd.underlying9 (.inl rfl) (.inr ⟨rfl, by rw [bs_size]⟩) (by omega) (by rw [bs_size]; exact Nat.le_refl _) (by rw [bs_extract, List.take_of_length_le (by rw [List.length_drop]; exact Nat.le_refl _)])) ?_
  refine run_mv rfl ?_
  refine run_pf0 (v := .tuple #[.int .u64 ((val (seg s a k) : Nat) : Int), .string (bs (s.drop (a + k))), .bool true]) rfl Tryd.call54 (pf_rtake (s := s) (a := a) (k := k) h1 (by omega) ha (by omega)) ?_
  refine run_mv rfl ?_
  refine run_rd (v := .int .u64 ((val (seg s a k) : Nat) : Int)) rfl (rd_extract rfl) ?_
  refine run_rd (v := .string (bs (s.drop (a + k)))) rfl (rd_extract rfl) ?_
  refine run_rd (v := .bool true) rfl (rd_extract rfl) ?_
  refine run_mv rfl ?_
  refine run_mv rfl ?_
  refine run_mv rfl ?_
  refine run_endops ?_
  refine run_seq rfl ?_
  refine run_region (todo := [0, 1, 2]) rfl rfl ?_
  refine run_mv rfl ?_
  refine run_rd (v := .int .u32 (num s a k)) rfl (rd_toInt Tryd.underlying28 Tryd.underlying22 (wrap_num s _ h4)) ?_
  refine run_mv rfl ?_
  refine run_endops ?_
  refine run_ret rfl (v := .int .u32 (num s a k)) (res1 rfl rfl) ?_
  rfl

theorem pf_idAt (s : List UInt8) (a : Nat) (ha : a + 9 ≤ s.length) (hm : s.length ≤ 9223372036854775700) : Pf Tryd.prog 37 #[.string (bs s), .int .i64 ((a : Nat) : Int)] (.agg (idAt s a).list.toArray) := by
  refine pf_of_run Tryd.func37 rfl rfl (fun w0 => ?_)
  refine run_seq rfl ?_
  refine run_region (todo := [0]) rfl rfl ?_
  refine run_alloc rfl Tryd.zeroValue24 (fun g1 => ?_)
  refine run_endops ?_
  refine run_seq rfl ?_
  refine run_region (todo := [0, 1, 2, 3, 4, 5, 6, 7, 8, 9, 10, 11, 12]) rfl rfl ?_
  refine run_mv rfl ?_
  refine run_mv rfl ?_
  refine run_pf0 (v := .int .u32 (num s a 4)) rfl Tryd.call36 (pf_at s a 4 (by decide) (by decide) (by omega) (by omega)) ?_
  refine run_mv rfl ?_
  refine run_mv rfl ?_
  refine run_rd (v := .int .i64 (((a : Nat) : Int) + 4)) rfl (rd_add (r := ((a : Nat) : Int) + 4) (IntWalk.i64_in _ (by omega))) ?_
  refine run_pf0 (v := .int .u32 (num s (a + 4) 1)) rfl Tryd.call36 (pf_at s (a + 4) 1 (by decide) (by decide) (by omega) (by omega)) ?_
  refine run_mv rfl ?_
  refine run_mv rfl ?_
  refine run_rd (v := .int .i64 (((a : Nat) : Int) + 5)) rfl (rd_add (r := ((a : Nat) : Int) + 5) (IntWalk.i64_in _ (by omega))) ?_
  refine run_pf0 (v := .int .u32 (num s (a + 5) 4)) rfl Tryd.call36 (pf_at s (a + 5) 4 (by decide) (by decide) (by omega) (by omega)) ?_
  refine run_rd (v := .agg #[.int .u32 (num s a 4), .int .u32 (num s (a + 4) 1), .int .u32 (num s (a + 5) 4)]) rfl ((fun w _ => by kernel_rfl)) ?_
  refine run_storeW (j := 0) (c' := #[.int .u32 (num s a 4), .int .u32 (num s (a + 4) 1), .int .u32 (num s (a + 5) 4)]) rfl Tryd.sizeOf24 rfl rfl rfl rfl rfl rfl ?_
  refine run_endops ?_
  refine run_ret rfl (v := .agg #[.int .u32 (num s a 4), .int .u32 (num s (a + 4) 1), .int .u32 (num s (a + 5) 4)]) (res1 rfl ⟨_, rfl, rdv (rd_loadW (j := 0) Tryd.isAgg24 Tryd.sizeOf24 rfl rfl)⟩) ?_
  rfl

theorem pf_eightAt (s : List UInt8) (a : Nat) (ha : a + 32 ≤ s.length) (hm : s.length ≤ 9223372036854775700) : Pf Tryd.prog 38 #[.string (bs s), .int .i64 ((a : Nat) : Int)] (.agg (v8At s a).vals.toArray) := by
  refine pf_of_run Tryd.func38 rfl rfl (fun w0 => ?_)
  refine run_seq rfl ?_
  refine run_region (todo := [0]) rfl rfl ?_
  refine run_alloc rfl Tryd.zeroValue25 (fun g1 => ?_)
  refine run_endops ?_
  refine run_seq rfl ?_
  refine run_region (todo := [0, 1, 2]) rfl rfl ?_
  refine run_rd (v := .agg #[.int .u32 0, .int .u32 0, .int .u32 0, .int .u32 0, .int .u32 0, .int .u32 0, .int .u32 0, .int .u32 0]) rfl ((fun w _ => by kernel_rfl)) ?_
  refine run_alloc rfl Tryd.zeroValue25 (fun g2 => ?_)
  refine run_storeW (j := 0) (c' := #[.int .u32 0, .int .u32 0, .int .u32 0, .int .u32 0, .int .u32 0, .int .u32 0, .int .u32 0, .int .u32 0]) rfl Tryd.sizeOf25 rfl rfl rfl rfl rfl rfl ?_
  refine run_endops ?_
  refine run_seq rfl ?_
  refine run_seq rfl ?_
  refine run_region (todo := [0]) rfl rfl ?_
  refine run_mv rfl ?_
  refine run_endops ?_
  refine run_block rfl ?_
  refine run_loop rfl ?_
  refine run_again ?_
  refine run_seq rfl ?_
  refine run_seq rfl ?_
  refine run_region (todo := [0, 1]) rfl rfl ?_
  refine run_mv rfl ?_
  refine run_rd (v := .bool true) rfl (rd_cmp rfl rfl) ?_
  refine run_endops ?_
  refine run_true rfl rfl ?_
  refine run_skip rfl ?_
  refine run_seq rfl ?_
  refine run_block rfl ?_
  refine run_region (todo := [0, 1, 2, 3, 4, 5, 6, 7, 8]) rfl rfl ?_
  refine run_mv rfl ?_
  refine run_mv rfl ?_
  refine run_mv rfl ?_
  refine run_mv rfl ?_
  refine run_rd (v := .int .i64 0) rfl (rd_mul (r := 0) (by decide)) ?_
  refine run_rd (v := .int .i64 (((a : Nat) : Int) + 0)) rfl (rd_add (r := ((a : Nat) : Int) + 0) (IntWalk.i64_in _ (by omega))) ?_
  refine run_pf0 (v := .int .u32 (num s (a + 0) 4)) rfl Tryd.call36 (pf_at s (a + 0) 4 (by decide) (by decide) (by omega) (by omega)) ?_
  refine run_rd (v := .pointer (some ⟨g2, 0, none⟩)) rfl (rd_indexAddrA (m := 0) (o := 0) Tryd.underlying25 rfl (by decide) Tryd.sizeOf22 rfl) ?_
  refine run_store (j := 0) (c' := #[.int .u32 (num s (a + 0) 4), .int .u32 0, .int .u32 0, .int .u32 0, .int .u32 0, .int .u32 0, .int .u32 0, .int .u32 0]) rfl Tryd.sizeOf22 rfl rfl rfl rfl (by kernel_rfl) rfl ?_
  refine run_endops ?_
  refine run_endblock ?_
  refine run_region (todo := [0, 1, 2]) rfl rfl ?_
  refine run_mv rfl ?_
  refine run_rd (v := .int .i64 1) rfl (rd_add (r := 1) (by decide)) ?_
  refine run_mv rfl ?_
  refine run_endops ?_
  refine run_again ?_
  refine run_seq rfl ?_
  refine run_seq rfl ?_
  refine run_region (todo := [0, 1]) rfl rfl ?_
  refine run_mv rfl ?_
  refine run_rd (v := .bool true) rfl (rd_cmp rfl rfl) ?_
  refine run_endops ?_
  refine run_true rfl rfl ?_
  refine run_skip rfl ?_
  refine run_seq rfl ?_
  refine run_block rfl ?_
  refine run_region (todo := [0, 1, 2, 3, 4, 5, 6, 7, 8]) rfl rfl ?_
  refine run_mv rfl ?_
  refine run_mv rfl ?_
  refine run_mv rfl ?_
  refine run_mv rfl ?_
  refine run_rd (v := .int .i64 4) rfl (rd_mul (r := 4) (by decide)) ?_
  refine run_rd (v := .int .i64 (((a : Nat) : Int) + 4)) rfl (rd_add (r := ((a : Nat) : Int) + 4) (IntWalk.i64_in _ (by omega))) ?_
  refine run_pf0 (v := .int .u32 (num s (a + 4) 4)) rfl Tryd.call36 (pf_at s (a + 4) 4 (by decide) (by decide) (by omega) (by omega)) ?_
  refine run_rd (v := .pointer (some ⟨g2, 1, none⟩)) rfl (rd_indexAddrA (m := 1) (o := 1) Tryd.underlying25 rfl (by decide) Tryd.sizeOf22 rfl) ?_
  refine run_store (j := 0) (c' := #[.int .u32 (num s (a + 0) 4), .int .u32 (num s (a + 4) 4), .int .u32 0, .int .u32 0, .int .u32 0, .int .u32 0, .int .u32 0, .int .u32 0]) rfl Tryd.sizeOf22 rfl rfl rfl rfl (by kernel_rfl) rfl ?_
  refine run_endops ?_
  refine run_endblock ?_
  refine run_region (todo := [0, 1, 2]) rfl rfl ?_
  refine run_mv rfl ?_
  refine run_rd (v := .int .i64 2) rfl (rd_add (r := 2) (by decide)) ?_
  refine run_mv rfl ?_
  refine run_endops ?_
  refine run_again ?_
  refine run_seq rfl ?_
  refine run_seq rfl ?_
  refine run_region (todo := [0, 1]) rfl rfl ?_
  refine run_mv rfl ?_
  refine run_rd (v := .bool true) rfl (rd_cmp rfl rfl) ?_
  refine run_endops ?_
  refine run_true rfl rfl ?_
  refine run_skip rfl ?_
  refine run_seq rfl ?_
  refine run_block rfl ?_
  refine run_region (todo := [0, 1, 2, 3, 4, 5, 6, 7, 8]) rfl rfl ?_
  refine run_mv rfl ?_
  refine run_mv rfl ?_
  refine run_mv rfl ?_
  refine run_mv rfl ?_
  refine run_rd (v := .int .i64 8) rfl (rd_mul (r := 8) (by decide)) ?_
  refine run_rd (v := .int .i64 (((a : Nat) : Int) + 8)) rfl (rd_add (r := ((a : Nat) : Int) + 8) (IntWalk.i64_in _ (by omega))) ?_
  refine run_pf0 (v := .int .u32 (num s (a + 8) 4)) rfl Tryd.call36 (pf_at s (a + 8) 4 (by decide) (by decide) (by omega) (by omega)) ?_
  refine run_rd (v := .pointer (some ⟨g2, 2, none⟩)) rfl (rd_indexAddrA (m := 2) (o := 2) Tryd.underlying25 rfl (by decide) Tryd.sizeOf22 rfl) ?_
  refine run_store (j := 0) (c' := #[.int .u32 (num s (a + 0) 4), .int .u32 (num s (a + 4) 4), .int .u32 (num s (a + 8) 4), .int .u32 0, .int .u32 0, .int .u32 0, .int .u32 0, .int .u32 0]) rfl Tryd.sizeOf22 rfl rfl rfl rfl (by kernel_rfl) rfl ?_
  refine run_endops ?_
  refine run_endblock ?_
  refine run_region (todo := [0, 1, 2]) rfl rfl ?_
  refine run_mv rfl ?_
  refine run_rd (v := .int .i64 3) rfl (rd_add (r := 3) (by decide)) ?_
  refine run_mv rfl ?_
  refine run_endops ?_
  refine run_again ?_
  refine run_seq rfl ?_
  refine run_seq rfl ?_
  refine run_region (todo := [0, 1]) rfl rfl ?_
  refine run_mv rfl ?_
  refine run_rd (v := .bool true) rfl (rd_cmp rfl rfl) ?_
  refine run_endops ?_
  refine run_true rfl rfl ?_
  refine run_skip rfl ?_
  refine run_seq rfl ?_
  refine run_block rfl ?_
  refine run_region (todo := [0, 1, 2, 3, 4, 5, 6, 7, 8]) rfl rfl ?_
  refine run_mv rfl ?_
  refine run_mv rfl ?_
  refine run_mv rfl ?_
  refine run_mv rfl ?_
  refine run_rd (v := .int .i64 12) rfl (rd_mul (r := 12) (by decide)) ?_
  refine run_rd (v := .int .i64 (((a : Nat) : Int) + 12)) rfl (rd_add (r := ((a : Nat) : Int) + 12) (IntWalk.i64_in _ (by omega))) ?_
  refine run_pf0 (v := .int .u32 (num s (a + 12) 4)) rfl Tryd.call36 (pf_at s (a + 12) 4 (by decide) (by decide) (by omega) (by omega)) ?_
  refine run_rd (v := .pointer (some ⟨g2, 3, none⟩)) rfl (rd_indexAddrA (m := 3) (o := 3) Tryd.underlying25 rfl (by decide) Tryd.sizeOf22 rfl) ?_
  refine run_store (j := 0) (c' := #[.int .u32 (num s (a + 0) 4), .int .u32 (num s (a + 4) 4), .int .u32 (num s (a + 8) 4), .int .u32 (num s (a + 12) 4), .int .u32 0, .int .u32 0, .int .u32 0, .int .u32 0]) rfl Tryd.sizeOf22 rfl rfl rfl rfl (by kernel_rfl) rfl ?_
  refine run_endops ?_
  refine run_endblock ?_
  refine run_region (todo := [0, 1, 2]) rfl rfl ?_
  refine run_mv rfl ?_
  refine run_rd (v := .int .i64 4) rfl (rd_add (r := 4) (by decide)) ?_
  refine run_mv rfl ?_
  refine run_endops ?_
  refine run_again ?_
  refine run_seq rfl ?_
  refine run_seq rfl ?_
  refine run_region (todo := [0, 1]) rfl rfl ?_
  refine run_mv rfl ?_
  refine run_rd (v := .bool true) rfl (rd_cmp rfl rfl) ?_
  refine run_endops ?_
  refine run_true rfl rfl ?_
  refine run_skip rfl ?_
  refine run_seq rfl ?_
  refine run_block rfl ?_
  refine run_region (todo := [0, 1, 2, 3, 4, 5, 6, 7, 8]) rfl rfl ?_
  refine run_mv rfl ?_
  refine run_mv rfl ?_
  refine run_mv rfl ?_
  refine run_mv rfl ?_
  refine run_rd (v := .int .i64 16) rfl (rd_mul (r := 16) (by decide)) ?_
  refine run_rd (v := .int .i64 (((a : Nat) : Int) + 16)) rfl (rd_add (r := ((a : Nat) : Int) + 16) (IntWalk.i64_in _ (by omega))) ?_
  refine run_pf0 (v := .int .u32 (num s (a + 16) 4)) rfl Tryd.call36 (pf_at s (a + 16) 4 (by decide) (by decide) (by omega) (by omega)) ?_
  refine run_rd (v := .pointer (some ⟨g2, 4, none⟩)) rfl (rd_indexAddrA (m := 4) (o := 4) Tryd.underlying25 rfl (by decide) Tryd.sizeOf22 rfl) ?_
  refine run_store (j := 0) (c' := #[.int .u32 (num s (a + 0) 4), .int .u32 (num s (a + 4) 4), .int .u32 (num s (a + 8) 4), .int .u32 (num s (a + 12) 4), .int .u32 (num s (a + 16) 4), .int .u32 0, .int .u32 0, .int .u32 0]) rfl Tryd.sizeOf22 rfl rfl rfl rfl (by kernel_rfl) rfl ?_
  refine run_endops ?_
  refine run_endblock ?_
  refine run_region (todo := [0, 1, 2]) rfl rfl ?_
  refine run_mv rfl ?_
  refine run_rd (v := .int .i64 5) rfl (rd_add (r := 5) (by decide)) ?_
  refine run_mv rfl ?_
  refine run_endops ?_
  refine run_again ?_
  refine run_seq rfl ?_
  refine run_seq rfl ?_
  refine run_region (todo := [0, 1]) rfl rfl ?_
  refine run_mv rfl ?_
  refine run_rd (v := .bool true) rfl (rd_cmp rfl rfl) ?_
  refine run_endops ?_
  refine run_true rfl rfl ?_
  refine run_skip rfl ?_
  refine run_seq rfl ?_
  refine run_block rfl ?_
  refine run_region (todo := [0, 1, 2, 3, 4, 5, 6, 7, 8]) rfl rfl ?_
  refine run_mv rfl ?_
  refine run_mv rfl ?_
  refine run_mv rfl ?_
  refine run_mv rfl ?_
  refine run_rd (v := .int .i64 20) rfl (rd_mul (r := 20) (by decide)) ?_
  refine run_rd (v := .int .i64 (((a : Nat) : Int) + 20)) rfl (rd_add (r := ((a : Nat) : Int) + 20) (IntWalk.i64_in _ (by omega))) ?_
  refine run_pf0 (v := .int .u32 (num s (a + 20) 4)) rfl Tryd.call36 (pf_at s (a + 20) 4 (by decide) (by decide) (by omega) (by omega)) ?_
  refine run_rd (v := .pointer (some ⟨g2, 5, none⟩)) rfl (rd_indexAddrA (m := 5) (o := 5) Tryd.underlying25 rfl (by decide) Tryd.sizeOf22 rfl) ?_
  refine run_store (j := 0) (c' := #[.int .u32 (num s (a + 0) 4), .int .u32 (num s (a + 4) 4), .int .u32 (num s (a + 8) 4), .int .u32 (num s (a + 12) 4), .int .u32 (num s (a + 16) 4), .int .u32 (num s (a + 20) 4), .int .u32 0, .int .u32 0]) rfl Tryd.sizeOf22 rfl rfl rfl rfl (by kernel_rfl) rfl ?_
  refine run_endops ?_
  refine run_endblock ?_
  refine run_region (todo := [0, 1, 2]) rfl rfl ?_
  refine run_mv rfl ?_
  refine run_rd (v := .int .i64 6) rfl (rd_add (r := 6) (by decide)) ?_
  refine run_mv rfl ?_
  refine run_endops ?_
  refine run_again ?_
  refine run_seq rfl ?_
  refine run_seq rfl ?_
  refine run_region (todo := [0, 1]) rfl rfl ?_
  refine run_mv rfl ?_
  refine run_rd (v := .bool true) rfl (rd_cmp rfl rfl) ?_
  refine run_endops ?_
  refine run_true rfl rfl ?_
  refine run_skip rfl ?_
  refine run_seq rfl ?_
  refine run_block rfl ?_
  refine run_region (todo := [0, 1, 2, 3, 4, 5, 6, 7, 8]) rfl rfl ?_
  refine run_mv rfl ?_
  refine run_mv rfl ?_
  refine run_mv rfl ?_
  refine run_mv rfl ?_
  refine run_rd (v := .int .i64 24) rfl (rd_mul (r := 24) (by decide)) ?_
  refine run_rd (v := .int .i64 (((a : Nat) : Int) + 24)) rfl (rd_add (r := ((a : Nat) : Int) + 24) (IntWalk.i64_in _ (by omega))) ?_
  refine run_pf0 (v := .int .u32 (num s (a + 24) 4)) rfl Tryd.call36 (pf_at s (a + 24) 4 (by decide) (by decide) (by omega) (by omega)) ?_
  refine run_rd (v := .pointer (some ⟨g2, 6, none⟩)) rfl (rd_indexAddrA (m := 6) (o := 6) Tryd.underlying25 rfl (by decide) Tryd.sizeOf22 rfl) ?_
  refine run_store (j := 0) (c' := #[.int .u32 (num s (a + 0) 4), .int .u32 (num s (a + 4) 4), .int .u32 (num s (a + 8) 4), .int .u32 (num s (a + 12) 4), .int .u32 (num s (a + 16) 4), .int .u32 (num s (a + 20) 4), .int .u32 (num s (a + 24) 4), .int .u32 0]) rfl Tryd.sizeOf22 rfl rfl rfl rfl (by kernel_rfl) rfl ?_
  refine run_endops ?_
  refine run_endblock ?_
  refine run_region (todo := [0, 1, 2]) rfl rfl ?_
  refine run_mv rfl ?_
  refine run_rd (v := .int .i64 7) rfl (rd_add (r := 7) (by decide)) ?_
  refine run_mv rfl ?_
  refine run_endops ?_
  refine run_again ?_
  refine run_seq rfl ?_
  refine run_seq rfl ?_
  refine run_region (todo := [0, 1]) rfl rfl ?_
  refine run_mv rfl ?_
  refine run_rd (v := .bool true) rfl (rd_cmp rfl rfl) ?_
  refine run_endops ?_
  refine run_true rfl rfl ?_
  refine run_skip rfl ?_
  refine run_seq rfl ?_
  refine run_block rfl ?_
  refine run_region (todo := [0, 1, 2, 3, 4, 5, 6, 7, 8]) rfl rfl ?_
  refine run_mv rfl ?_
  refine run_mv rfl ?_
  refine run_mv rfl ?_
  refine run_mv rfl ?_
  refine run_rd (v := .int .i64 28) rfl (rd_mul (r := 28) (by decide)) ?_
  refine run_rd (v := .int .i64 (((a : Nat) : Int) + 28)) rfl (rd_add (r := ((a : Nat) : Int) + 28) (IntWalk.i64_in _ (by omega))) ?_
  refine run_pf0 (v := .int .u32 (num s (a + 28) 4)) rfl Tryd.call36 (pf_at s (a + 28) 4 (by decide) (by decide) (by omega) (by omega)) ?_
  refine run_rd (v := .pointer (some ⟨g2, 7, none⟩)) rfl (rd_indexAddrA (m := 7) (o := 7) Tryd.underlying25 rfl (by decide) Tryd.sizeOf22 rfl) ?_
  refine run_store (j := 0) (c' := #[.int .u32 (num s (a + 0) 4), .int .u32 (num s (a + 4) 4), .int .u32 (num s (a + 8) 4), .int .u32 (num s (a + 12) 4), .int .u32 (num s (a + 16) 4), .int .u32 (num s (a + 20) 4), .int .u32 (num s (a + 24) 4), .int .u32 (num s (a + 28) 4)]) rfl Tryd.sizeOf22 rfl rfl rfl rfl (by kernel_rfl) rfl ?_
  refine run_endops ?_
  refine run_endblock ?_
  refine run_region (todo := [0, 1, 2]) rfl rfl ?_
  refine run_mv rfl ?_
  refine run_rd (v := .int .i64 8) rfl (rd_add (r := 8) (by decide)) ?_
  refine run_mv rfl ?_
  refine run_endops ?_
  refine run_again ?_
  refine run_seq rfl ?_
  refine run_seq rfl ?_
  refine run_region (todo := [0, 1]) rfl rfl ?_
  refine run_mv rfl ?_
  refine run_rd (v := .bool false) rfl (rd_cmp rfl rfl) ?_
  refine run_endops ?_
  refine run_false rfl rfl ?_
  refine run_exit rfl rfl ?_
  refine run_seq rfl ?_
  refine run_region (todo := [0, 1]) rfl rfl ?_
  refine run_rd (v := .agg #[.int .u32 (num s (a + 0) 4), .int .u32 (num s (a + 4) 4), .int .u32 (num s (a + 8) 4), .int .u32 (num s (a + 12) 4), .int .u32 (num s (a + 16) 4), .int .u32 (num s (a + 20) 4), .int .u32 (num s (a + 24) 4), .int .u32 (num s (a + 28) 4)]) rfl (rd_loadW (j := 0) Tryd.isAgg25 Tryd.sizeOf25 rfl rfl) ?_
  refine run_storeW (j := 1) (c' := #[.int .u32 (num s (a + 0) 4), .int .u32 (num s (a + 4) 4), .int .u32 (num s (a + 8) 4), .int .u32 (num s (a + 12) 4), .int .u32 (num s (a + 16) 4), .int .u32 (num s (a + 20) 4), .int .u32 (num s (a + 24) 4), .int .u32 (num s (a + 28) 4)]) rfl Tryd.sizeOf25 rfl rfl rfl rfl rfl rfl ?_
  refine run_endops ?_
  refine run_ret rfl (v := .agg #[.int .u32 (num s (a + 0) 4), .int .u32 (num s (a + 4) 4), .int .u32 (num s (a + 8) 4), .int .u32 (num s (a + 12) 4), .int .u32 (num s (a + 16) 4), .int .u32 (num s (a + 20) 4), .int .u32 (num s (a + 24) 4), .int .u32 (num s (a + 28) 4)]) (res1 rfl ⟨_, rfl, rdv (rd_loadW (j := 1) Tryd.isAgg25 Tryd.sizeOf25 rfl rfl)⟩) ?_
  rfl

theorem num_one {s : List UInt8} {x : UInt8} (h : s[119]? = some x) : num s 119 1 = ((x.toNat : Nat) : Int) := by
  have hd : seg s 119 1 = [x] := by
    obtain ⟨hq, rfl⟩ := List.getElem?_eq_some_iff.1 h
    unfold seg
    rw [List.drop_eq_getElem_cons hq]
    rfl
  unfold num
  rw [hd]
  simp [val]
theorem num_eq {s : List UInt8} {x : UInt8} (h : s[119]? = some x) : (((x.toNat : Nat) : Int) == 1) = decide (num s 119 1 = 1) := by rw [num_one h]; rfl
theorem num_gt {s : List UInt8} {x : UInt8} (h : s[119]? = some x) : decide (((x.toNat : Nat) : Int) > 1) = decide (num s 119 1 > 1) := by rw [num_one h]
theorem pf_rpdecode (s : List UInt8) (hm : s.length ≤ 9223372036854775700) : Pf Tryd.prog 15 #[.string (bs s)] (.tuple #[(outP s).val, .int .i64 (outPC s)]) := by
  refine pf_of_run Tryd.func15 rfl rfl (fun w0 => ?_)
  refine run_seq rfl ?_
  refine run_region (todo := [0, 1]) rfl rfl ?_
  refine run_alloc rfl Tryd.zeroValue35 (fun g1 => ?_)
  refine run_mv rfl ?_
  refine run_endops ?_
  refine run_seq rfl ?_
  refine run_region (todo := [0, 1, 2]) rfl rfl ?_
  refine run_rd (v := .agg Pkt.zero.arr) rfl ((fun w _ => by kernel_rfl)) ?_
  refine run_alloc rfl Tryd.zeroValue35 (fun g2 => ?_)
  refine run_storeW (j := 0) (c' := Pkt.zero.arr) rfl Tryd.sizeOf35 (by kernel_rfl) (by kernel_rfl) rfl (by kernel_rfl) rfl rfl ?_
  refine run_endops ?_
  refine run_seq rfl ?_
  refine run_seq rfl ?_
  refine run_region (todo := [0, 1, 2]) rfl rfl ?_
  refine run_mv rfl ?_
  refine run_rd (v := .int .i64 ((s.length : Nat) : Int)) rfl (rd_lenStr Tryd.underlying9 rfl) ?_
  refine run_rd (v := .bool (((s.length : Nat) : Int) != 641)) rfl (rd_cmp rfl rfl) ?_
  refine run_endops ?_
  refine run_if rfl rfl (fun hb1 => ?_) (fun hb1 => ?_)
  · have hl : s.length ≠ 641 := fun e => ne_of_bne_t hb1 (by rw [e]; rfl)
    refine run_seq rfl ?_
    refine run_region (todo := [0, 1, 2]) rfl rfl ?_
    refine run_rd (v := .agg Pkt.zero.arr) rfl (rd_loadW (j := 0) Tryd.isAgg35 Tryd.sizeOf35 rfl (by kernel_rfl)) ?_
    refine run_storeW (j := 1) (c' := Pkt.zero.arr) rfl Tryd.sizeOf35 (by kernel_rfl) (by kernel_rfl) rfl (by kernel_rfl) rfl rfl ?_
    refine run_mv rfl ?_
    refine run_endops ?_
    refine run_ret rfl (v := .tuple #[.agg Pkt.zero.arr, .int .i64 50]) (res2 rfl ⟨_, rfl, rdv (rd_loadW (j := 1) Tryd.isAgg35 Tryd.sizeOf35 rfl (by kernel_rfl))⟩ rfl) ?_
    exact dec_long hl
  · have hl : s.length = 641 := by have := eq_of_bne_f hb1; omega
    refine run_skip rfl ?_
    refine run_seq rfl ?_
    refine run_seq rfl ?_
    refine run_region (todo := [0, 1, 2]) rfl rfl ?_
    refine run_mv rfl ?_
    refine run_pf0 (v := .bool (crcOk s)) rfl Tryd.call35 (pf_rOk s (by omega)) ?_
    refine run_rd (v := .bool (!(crcOk s))) rfl (rd_not) ?_
    refine run_endops ?_
    refine run_if rfl rfl (fun hb2 => ?_) (fun hb2 => ?_)
    · have hc : crcOk s = false := (Bool.not_eq_true' _).mp hb2
      refine run_seq rfl ?_
      refine run_region (todo := [0, 1, 2]) rfl rfl ?_
      refine run_rd (v := .agg Pkt.zero.arr) rfl (rd_loadW (j := 0) Tryd.isAgg35 Tryd.sizeOf35 rfl (by kernel_rfl)) ?_
      refine run_storeW (j := 1) (c' := Pkt.zero.arr) rfl Tryd.sizeOf35 (by kernel_rfl) (by kernel_rfl) rfl (by kernel_rfl) rfl rfl ?_
      refine run_mv rfl ?_
      refine run_endops ?_
      refine run_ret rfl (v := .tuple #[.agg Pkt.zero.arr, .int .i64 51]) (res2 rfl ⟨_, rfl, rdv (rd_loadW (j := 1) Tryd.isAgg35 Tryd.sizeOf35 rfl (by kernel_rfl))⟩ rfl) ?_
      exact dec_sum hl hc
    · have hc : crcOk s = true := (Bool.not_eq_false' _).mp hb2
      obtain ⟨b119, h119⟩ := item_at (l := s) (q := 119) (by omega)
      refine run_skip rfl ?_
      refine run_seq rfl ?_
      refine run_par' rfl (by kernel_rfl) (.val [] (fun _ => .string (bs s)) :: .val [] (fun _ => .int .u32 (num s 0 1)) :: .val [] (fun _ => .string (bs s)) :: .val [] (fun _ => .int .u32 (num s 1 4)) :: .val [] (fun _ => .string (bs s)) :: .val [] (fun _ => .agg #[.int .u32 ((idAt s 5).epoch), .int .u32 ((idAt s 5).coord), .int .u32 ((idAt s 5).inc)]) :: .val [] (fun _ => .string (bs s)) :: .val [] (fun _ => .agg #[.int .u32 ((v8At s 14).n0), .int .u32 ((v8At s 14).n1), .int .u32 ((v8At s 14).n2), .int .u32 ((v8At s 14).n3), .int .u32 ((v8At s 14).n4), .int .u32 ((v8At s 14).n5), .int .u32 ((v8At s 14).n6), .int .u32 ((v8At s 14).n7)]) :: .val [] (fun _ => .string (bs s)) :: .val [] (fun _ => .agg #[.int .u32 ((v8At s 46).n0), .int .u32 ((v8At s 46).n1), .int .u32 ((v8At s 46).n2), .int .u32 ((v8At s 46).n3), .int .u32 ((v8At s 46).n4), .int .u32 ((v8At s 46).n5), .int .u32 ((v8At s 46).n6), .int .u32 ((v8At s 46).n7)]) :: .val [] (fun _ => .string (bs s)) :: .val [] (fun _ => .agg #[.int .u32 ((idAt s 78).epoch), .int .u32 ((idAt s 78).coord), .int .u32 ((idAt s 78).inc)]) :: .val [] (fun _ => .string (bs s)) :: .val [] (fun _ => .agg #[.int .u32 ((v8At s 87).n0), .int .u32 ((v8At s 87).n1), .int .u32 ((v8At s 87).n2), .int .u32 ((v8At s 87).n3), .int .u32 ((v8At s 87).n4), .int .u32 ((v8At s 87).n5), .int .u32 ((v8At s 87).n6), .int .u32 ((v8At s 87).n7)]) :: .val [] (fun _ => .string (bs s)) :: .val [] (fun _ => .int .u8 ((b119.toNat : Nat) : Int)) :: .val [] (fun _ => .bool (decide (num s 119 1 = 1))) :: .val [] (fun _ => .string (bs s)) :: .val [] (fun _ => .int .u32 (num s 120 4)) :: .val [] (fun _ => .string (bs s)) :: .val [] (fun _ => .int .u32 (num s 124 4)) :: .val [] (fun _ => .agg ((Pkt.mk (num s 0 1) (num s 1 4) (idAt s 5) (v8At s 14) (v8At s 46) (idAt s 78) (v8At s 87) (decide (num s 119 1 = 1)) (num s 120 4) (num s 124 4) Fr.zero Fr.zero 0 0 Fr.zero).arr)) :: .rel [] (fun _ v h => ∃ g, v = .pointer (some ⟨g, 0, none⟩) ∧ h = [.blk g (.cells Pkt.zero.arr 35)]) :: []) (⟨[], [], []⟩ :: ⟨[0], [], []⟩ :: ⟨[], [], []⟩ :: ⟨[2], [], []⟩ :: ⟨[], [], []⟩ :: ⟨[4], [], []⟩ :: ⟨[], [], []⟩ :: ⟨[6], [], []⟩ :: ⟨[], [], []⟩ :: ⟨[8], [], []⟩ :: ⟨[], [], []⟩ :: ⟨[10], [], []⟩ :: ⟨[], [], []⟩ :: ⟨[12], [], []⟩ :: ⟨[], [], []⟩ :: ⟨[14], [], []⟩ :: ⟨[15], [], []⟩ :: ⟨[], [], []⟩ :: ⟨[17], [], []⟩ :: ⟨[], [], []⟩ :: ⟨[19], [], []⟩ :: ⟨[1, 3, 5, 7, 9, 11, 13, 16, 18, 20], [], []⟩ :: ⟨[], [], []⟩ :: []) [(0, .string (bs s))] (by kernel_rfl) (by kernel_rfl) ⟨rfl, trivial⟩ ⟨trivial, trivial, trivial, trivial, trivial, trivial, trivial, trivial, trivial, trivial, trivial, trivial, trivial, trivial, trivial, trivial, trivial, trivial, trivial, trivial, trivial, trivial, trivial, trivial⟩ ?_ (fun V hs hq => ?_)
      · refine ⟨fun V hs hB => ob_mv rfl rfl, ?_⟩
        refine ⟨fun V hs hB => ob_pf rfl rfl Tryd.call36 (fun w _ => (pf_at s 0 1 (by decide) (by decide) (by omega) (by omega)) w), ?_⟩
        refine ⟨fun V hs hB => ob_mv rfl rfl, ?_⟩
        refine ⟨fun V hs hB => ob_pf rfl rfl Tryd.call36 (fun w _ => (pf_at s 1 4 (by decide) (by decide) (by omega) (by omega)) w), ?_⟩
        refine ⟨fun V hs hB => ob_mv rfl rfl, ?_⟩
        refine ⟨fun V hs hB => ob_pf rfl rfl Tryd.call37 (fun w _ => (pf_idAt s 5 (by omega) (by omega)) w), ?_⟩
        refine ⟨fun V hs hB => ob_mv rfl rfl, ?_⟩
        refine ⟨fun V hs hB => ob_pf rfl rfl Tryd.call38 (fun w _ => (pf_eightAt s 14 (by omega) (by omega)) w), ?_⟩
        refine ⟨fun V hs hB => ob_mv rfl rfl, ?_⟩
        refine ⟨fun V hs hB => ob_pf rfl rfl Tryd.call38 (fun w _ => (pf_eightAt s 46 (by omega) (by omega)) w), ?_⟩
        refine ⟨fun V hs hB => ob_mv rfl rfl, ?_⟩
        refine ⟨fun V hs hB => ob_pf rfl rfl Tryd.call37 (fun w _ => (pf_idAt s 78 (by omega) (by omega)) w), ?_⟩
        refine ⟨fun V hs hB => ob_mv rfl rfl, ?_⟩
        refine ⟨fun V hs hB => ob_pf rfl rfl Tryd.call38 (fun w _ => (pf_eightAt s 87 (by omega) (by omega)) w), ?_⟩
        refine ⟨fun V hs hB => ob_mv rfl rfl, ?_⟩
        refine ⟨fun V hs hB => ob_rd rfl rfl (rd_byteL Tryd.underlying9 h119 rfl), ?_⟩
        refine ⟨fun V hs hB => ob_rd rfl rfl (rd_cmp rfl (num_eq h119)), ?_⟩
        refine ⟨fun V hs hB => ob_mv rfl rfl, ?_⟩
        refine ⟨fun V hs hB => ob_pf rfl rfl Tryd.call36 (fun w _ => (pf_at s 120 4 (by decide) (by decide) (by omega) (by omega)) w), ?_⟩
        refine ⟨fun V hs hB => ob_mv rfl rfl, ?_⟩
        refine ⟨fun V hs hB => ob_pf rfl rfl Tryd.call36 (fun w _ => (pf_at s 124 4 (by decide) (by decide) (by omega) (by omega)) w), ?_⟩
        refine ⟨fun V hs hB => ob_rd rfl rfl ((fun w _ => by kernel_rfl)), ?_⟩
        refine ⟨fun V hs hB => ob_alloc rfl rfl Tryd.zeroValue35 (fun g => ⟨g, rfl, rfl⟩), ?_⟩
        trivial
      obtain ⟨g3, hV22, hh22⟩ := hq 22 (of_decide_eq_true (by kernel_rfl))
      rw [show relsOf _ = [22] from by kernel_rfl]
      simp only [List.flatMap_cons, List.flatMap_nil, List.append_nil, hh22]
      rw [← setV_same hV22]
      refine any_one (i := 23) (by kernel_rfl) ?_
      refine ro_storeW (j := 0) (c' := (Pkt.mk (num s 0 1) (num s 1 4) (idAt s 5) (v8At s 14) (v8At s 46) (idAt s 78) (v8At s 87) (decide (num s 119 1 = 1)) (num s 120 4) (num s 124 4) Fr.zero Fr.zero 0 0 Fr.zero).arr) rfl Tryd.sizeOf35 (by kernel_rfl) (by kernel_rfl) rfl (by kernel_rfl) rfl rfl ?_
      refine any_end (by kernel_rfl) ?_
      refine run_less (ρ' := [(0, .string (bs s)), (2, .pointer (some ⟨g1, 0, none⟩)), (3, .int .i64 0), (4, .pointer (some ⟨g2, 0, none⟩)), (5, .pointer (some ⟨g3, 0, none⟩))]) (H' := [.blk g3 (.cells ((Pkt.mk (num s 0 1) (num s 1 4) (idAt s 5) (v8At s 14) (v8At s 46) (idAt s 78) (v8At s 87) (decide (num s 119 1 = 1)) (num s 120 4) (num s 124 4) Fr.zero Fr.zero 0 0 Fr.zero).arr) 35), .blk g2 (.cells Pkt.zero.arr 35), .blk g1 (.cells Pkt.zero.arr 35)]) [0, 1, 2] ?_ ⟨rfl, rfl, rfl, rfl, rfl, trivial⟩ ⟨rfl, rfl, rfl, trivial⟩ (by decide)
      refine run_seq rfl ?_
      refine run_region (todo := [0, 1, 2, 3, 4, 5, 6, 7, 8]) rfl rfl ?_
      refine run_mv rfl ?_
      refine run_rd (v := .string (bs (seg s 128 168))) rfl (rd_substr (l := 128) (h := 296) Tryd.underlying9 (.inl rfl) (.inl rfl) (by omega) (by rw [bs_size]; omega) (by exact bs_mid)) ?_
      refine run_pf0 (v := .tuple #[.agg ((outF (seg s 128 168)).arr), .int .i64 (outFC (seg s 128 168))]) rfl Tryd.call39 (pf_rfdecode (seg s 128 168) (Nat.le_trans (seg_le _ _ _) (by decide))) ?_
      refine run_mv rfl ?_
      refine run_rd (v := .agg ((outF (seg s 128 168)).arr)) rfl (rd_extract rfl) ?_
      refine run_rd (v := .int .i64 (outFC (seg s 128 168))) rfl (rd_extract rfl) ?_
      refine run_alloc rfl Tryd.zeroValue33 (fun g4 => ?_)
      refine run_storeW (j := 0) (c' := (outF (seg s 128 168)).arr) rfl Tryd.sizeOf33 rfl rfl rfl rfl rfl rfl ?_
      refine run_mv rfl ?_
      refine run_endops ?_
      refine run_seq rfl ?_
      refine run_region (todo := [0, 1, 2, 3, 4, 5, 6, 7, 8]) rfl rfl ?_
      refine run_mv rfl ?_
      refine run_rd (v := .string (bs (seg s 296 168))) rfl (rd_substr (l := 296) (h := 464) Tryd.underlying9 (.inl rfl) (.inl rfl) (by omega) (by rw [bs_size]; omega) (by exact bs_mid)) ?_
      refine run_pf0 (v := .tuple #[.agg ((outF (seg s 296 168)).arr), .int .i64 (outFC (seg s 296 168))]) rfl Tryd.call39 (pf_rfdecode (seg s 296 168) (Nat.le_trans (seg_le _ _ _) (by decide))) ?_
      refine run_mv rfl ?_
      refine run_rd (v := .agg ((outF (seg s 296 168)).arr)) rfl (rd_extract rfl) ?_
      refine run_rd (v := .int .i64 (outFC (seg s 296 168))) rfl (rd_extract rfl) ?_
      refine run_alloc rfl Tryd.zeroValue33 (fun g5 => ?_)
      refine run_storeW (j := 0) (c' := (outF (seg s 296 168)).arr) rfl Tryd.sizeOf33 rfl rfl rfl rfl rfl rfl ?_
      refine run_mv rfl ?_
      refine run_endops ?_
      refine run_seq rfl ?_
      refine run_region (todo := [0, 1, 2, 3, 4, 5, 6, 7, 8]) rfl rfl ?_
      refine run_mv rfl ?_
      refine run_rd (v := .string (bs (seg s 469 168))) rfl (rd_substr (l := 469) (h := 637) Tryd.underlying9 (.inl rfl) (.inl rfl) (by omega) (by rw [bs_size]; omega) (by exact bs_mid)) ?_
      refine run_pf0 (v := .tuple #[.agg ((outF (seg s 469 168)).arr), .int .i64 (outFC (seg s 469 168))]) rfl Tryd.call39 (pf_rfdecode (seg s 469 168) (Nat.le_trans (seg_le _ _ _) (by decide))) ?_
      refine run_mv rfl ?_
      refine run_rd (v := .agg ((outF (seg s 469 168)).arr)) rfl (rd_extract rfl) ?_
      refine run_rd (v := .int .i64 (outFC (seg s 469 168))) rfl (rd_extract rfl) ?_
      refine run_alloc rfl Tryd.zeroValue33 (fun g6 => ?_)
      refine run_storeW (j := 0) (c' := (outF (seg s 469 168)).arr) rfl Tryd.sizeOf33 rfl rfl rfl rfl rfl rfl ?_
      refine run_mv rfl ?_
      refine run_endops ?_
      refine run_seq rfl ?_
      refine run_region (todo := [0, 1, 2]) rfl rfl ?_
      refine run_rd (v := .agg ((outF (seg s 128 168)).arr)) rfl (rd_loadW (j := 2) Tryd.isAgg33 Tryd.sizeOf33 rfl rfl) ?_
      refine run_rd (v := .pointer (some ⟨g3, 35, none⟩)) rfl (rd_fieldAddr (o := 35) Tryd.underlying35 rfl Tryd.sizeOf33 rfl rfl) ?_
      refine run_store (j := 3) (c' := (Pkt.mk (num s 0 1) (num s 1 4) (idAt s 5) (v8At s 14) (v8At s 46) (idAt s 78) (v8At s 87) (decide (num s 119 1 = 1)) (num s 120 4) (num s 124 4) (outF (seg s 128 168)) Fr.zero 0 0 Fr.zero).arr) rfl Tryd.sizeOf33 (by kernel_rfl) (by kernel_rfl) rfl (by kernel_rfl) (by kernel_rfl) rfl ?_
      refine run_endops ?_
      refine run_seq rfl ?_
      refine run_region (todo := [0, 1, 2]) rfl rfl ?_
      refine run_rd (v := .agg ((outF (seg s 296 168)).arr)) rfl (rd_loadW (j := 1) Tryd.isAgg33 Tryd.sizeOf33 rfl rfl) ?_
      refine run_rd (v := .pointer (some ⟨g3, 71, none⟩)) rfl (rd_fieldAddr (o := 71) Tryd.underlying35 rfl Tryd.sizeOf33 rfl rfl) ?_
      refine run_store (j := 3) (c' := (Pkt.mk (num s 0 1) (num s 1 4) (idAt s 5) (v8At s 14) (v8At s 46) (idAt s 78) (v8At s 87) (decide (num s 119 1 = 1)) (num s 120 4) (num s 124 4) (outF (seg s 128 168)) (outF (seg s 296 168)) 0 0 Fr.zero).arr) rfl Tryd.sizeOf33 (by kernel_rfl) (by kernel_rfl) rfl (by kernel_rfl) (by kernel_rfl) rfl ?_
      refine run_endops ?_
      refine run_seq rfl ?_
      refine run_region (todo := [0, 1, 2]) rfl rfl ?_
      refine run_rd (v := .agg ((outF (seg s 469 168)).arr)) rfl (rd_loadW (j := 0) Tryd.isAgg33 Tryd.sizeOf33 rfl rfl) ?_
      refine run_rd (v := .pointer (some ⟨g3, 109, none⟩)) rfl (rd_fieldAddr (o := 109) Tryd.underlying35 rfl Tryd.sizeOf33 rfl rfl) ?_
      refine run_store (j := 3) (c' := (Pkt.mk (num s 0 1) (num s 1 4) (idAt s 5) (v8At s 14) (v8At s 46) (idAt s 78) (v8At s 87) (decide (num s 119 1 = 1)) (num s 120 4) (num s 124 4) (outF (seg s 128 168)) (outF (seg s 296 168)) 0 0 (outF (seg s 469 168))).arr) rfl Tryd.sizeOf33 (by kernel_rfl) (by kernel_rfl) rfl (by kernel_rfl) (by kernel_rfl) rfl ?_
      refine run_endops ?_
      refine run_seq rfl ?_
      refine run_region (todo := [0, 1, 2, 3]) rfl rfl ?_
      refine run_mv rfl ?_
      refine run_pf0 (v := .int .u32 (num s 464 1)) rfl Tryd.call36 (pf_at s 464 1 (by decide) (by decide) (by omega) (by omega)) ?_
      refine run_rd (v := .pointer (some ⟨g3, 107, none⟩)) rfl (rd_fieldAddr (o := 107) Tryd.underlying35 rfl Tryd.sizeOf22 rfl rfl) ?_
      refine run_store (j := 3) (c' := (Pkt.mk (num s 0 1) (num s 1 4) (idAt s 5) (v8At s 14) (v8At s 46) (idAt s 78) (v8At s 87) (decide (num s 119 1 = 1)) (num s 120 4) (num s 124 4) (outF (seg s 128 168)) (outF (seg s 296 168)) (num s 464 1) 0 (outF (seg s 469 168))).arr) rfl Tryd.sizeOf22 (by kernel_rfl) (by kernel_rfl) rfl (by kernel_rfl) (by kernel_rfl) rfl ?_
      refine run_endops ?_
      refine run_seq rfl ?_
      refine run_region (todo := [0, 1, 2, 3]) rfl rfl ?_
      refine run_mv rfl ?_
      refine run_pf0 (v := .int .u32 (num s 465 4)) rfl Tryd.call36 (pf_at s 465 4 (by decide) (by decide) (by omega) (by omega)) ?_
      refine run_rd (v := .pointer (some ⟨g3, 108, none⟩)) rfl (rd_fieldAddr (o := 108) Tryd.underlying35 rfl Tryd.sizeOf22 rfl rfl) ?_
      refine run_store (j := 3) (c' := (Pkt.mk (num s 0 1) (num s 1 4) (idAt s 5) (v8At s 14) (v8At s 46) (idAt s 78) (v8At s 87) (decide (num s 119 1 = 1)) (num s 120 4) (num s 124 4) (outF (seg s 128 168)) (outF (seg s 296 168)) (num s 464 1) (num s 465 4) (outF (seg s 469 168))).arr) rfl Tryd.sizeOf22 (by kernel_rfl) (by kernel_rfl) rfl (by kernel_rfl) (by kernel_rfl) rfl ?_
      refine run_endops ?_
      refine run_seq rfl ?_
      refine run_seq rfl ?_
      rcases Bool.eq_false_or_eq_true ((outFC (seg s 128 168)) != 0) with hb3 | hb3
      · have f128 := ne_of_bne_t hb3
        refine run_region (todo := [0, 1, 2, 3, 4, 5, 6, 7, 8, 9, 10, 11, 12, 13, 14, 15, 16, 17, 18, 19]) rfl rfl ?_
        refine run_mv rfl ?_
        refine run_rd (v := .bool true) rfl (rd_cmp rfl hb3) ?_
        refine run_mv rfl ?_
        refine run_skipped rfl ?_
        refine run_skipped rfl ?_
        refine run_pick (v := .bool true) rfl rfl ?_
        refine run_mv rfl ?_
        refine run_skipped rfl ?_
        refine run_skipped rfl ?_
        refine run_pick (v := .bool true) rfl rfl ?_
        refine run_mv rfl ?_
        refine run_skipped rfl ?_
        refine run_skipped rfl ?_
        refine run_skipped rfl ?_
        refine run_pick (v := .bool true) rfl rfl ?_
        refine run_mv rfl ?_
        refine run_skipped rfl ?_
        refine run_skipped rfl ?_
        refine run_skipped rfl ?_
        refine run_pick (v := .bool true) rfl rfl ?_
        refine run_endops ?_
        refine run_true rfl rfl ?_
        refine run_seq rfl ?_
        refine run_region (todo := [0, 1, 2]) rfl rfl ?_
        refine run_rd (v := .agg Pkt.zero.arr) rfl (rd_loadW (j := 4) Tryd.isAgg35 Tryd.sizeOf35 rfl (by kernel_rfl)) ?_
        refine run_storeW (j := 5) (c' := Pkt.zero.arr) rfl Tryd.sizeOf35 (by kernel_rfl) (by kernel_rfl) rfl (by kernel_rfl) rfl rfl ?_
        refine run_mv rfl ?_
        refine run_endops ?_
        refine run_ret rfl (v := .tuple #[.agg Pkt.zero.arr, .int .i64 52]) (res2 rfl ⟨_, rfl, rdv (rd_loadW (j := 5) Tryd.isAgg35 Tryd.sizeOf35 rfl (by kernel_rfl))⟩ rfl) ?_
        exact dec_form hl hc (fun h => f128 h.1)
      · have f128 := eq_of_bne_f hb3
        rcases Bool.eq_false_or_eq_true ((outFC (seg s 296 168)) != 0) with hb4 | hb4
        · have f296 := ne_of_bne_t hb4
          refine run_region (todo := [0, 1, 2, 3, 4, 5, 6, 7, 8, 9, 10, 11, 12, 13, 14, 15, 16, 17, 18, 19]) rfl rfl ?_
          refine run_mv rfl ?_
          refine run_rd (v := .bool false) rfl (rd_cmp rfl hb3) ?_
          refine run_mv rfl ?_
          refine run_mvG rfl ?_
          refine run_rdG (v := .bool true) rfl (rd_cmp rfl hb4) ?_
          refine run_pick (v := .bool true) rfl rfl ?_
          refine run_mv rfl ?_
          refine run_skipped rfl ?_
          refine run_skipped rfl ?_
          refine run_pick (v := .bool true) rfl rfl ?_
          refine run_mv rfl ?_
          refine run_skipped rfl ?_
          refine run_skipped rfl ?_
          refine run_skipped rfl ?_
          refine run_pick (v := .bool true) rfl rfl ?_
          refine run_mv rfl ?_
          refine run_skipped rfl ?_
          refine run_skipped rfl ?_
          refine run_skipped rfl ?_
          refine run_pick (v := .bool true) rfl rfl ?_
          refine run_endops ?_
          refine run_true rfl rfl ?_
          refine run_seq rfl ?_
          refine run_region (todo := [0, 1, 2]) rfl rfl ?_
          refine run_rd (v := .agg Pkt.zero.arr) rfl (rd_loadW (j := 4) Tryd.isAgg35 Tryd.sizeOf35 rfl (by kernel_rfl)) ?_
          refine run_storeW (j := 5) (c' := Pkt.zero.arr) rfl Tryd.sizeOf35 (by kernel_rfl) (by kernel_rfl) rfl (by kernel_rfl) rfl rfl ?_
          refine run_mv rfl ?_
          refine run_endops ?_
          refine run_ret rfl (v := .tuple #[.agg Pkt.zero.arr, .int .i64 52]) (res2 rfl ⟨_, rfl, rdv (rd_loadW (j := 5) Tryd.isAgg35 Tryd.sizeOf35 rfl (by kernel_rfl))⟩ rfl) ?_
          exact dec_form hl hc (fun h => f296 h.2.1)
        · have f296 := eq_of_bne_f hb4
          rcases Bool.eq_false_or_eq_true ((outFC (seg s 469 168)) != 0) with hb5 | hb5
          · have f469 := ne_of_bne_t hb5
            refine run_region (todo := [0, 1, 2, 3, 4, 5, 6, 7, 8, 9, 10, 11, 12, 13, 14, 15, 16, 17, 18, 19]) rfl rfl ?_
            refine run_mv rfl ?_
            refine run_rd (v := .bool false) rfl (rd_cmp rfl hb3) ?_
            refine run_mv rfl ?_
            refine run_mvG rfl ?_
            refine run_rdG (v := .bool false) rfl (rd_cmp rfl hb4) ?_
            refine run_pick (v := .bool false) rfl rfl ?_
            refine run_mv rfl ?_
            refine run_mvG rfl ?_
            refine run_rdG (v := .bool true) rfl (rd_cmp rfl hb5) ?_
            refine run_pick (v := .bool true) rfl rfl ?_
            refine run_mv rfl ?_
            refine run_skipped rfl ?_
            refine run_skipped rfl ?_
            refine run_skipped rfl ?_
            refine run_pick (v := .bool true) rfl rfl ?_
            refine run_mv rfl ?_
            refine run_skipped rfl ?_
            refine run_skipped rfl ?_
            refine run_skipped rfl ?_
            refine run_pick (v := .bool true) rfl rfl ?_
            refine run_endops ?_
            refine run_true rfl rfl ?_
            refine run_seq rfl ?_
            refine run_region (todo := [0, 1, 2]) rfl rfl ?_
            refine run_rd (v := .agg Pkt.zero.arr) rfl (rd_loadW (j := 4) Tryd.isAgg35 Tryd.sizeOf35 rfl (by kernel_rfl)) ?_
            refine run_storeW (j := 5) (c' := Pkt.zero.arr) rfl Tryd.sizeOf35 (by kernel_rfl) (by kernel_rfl) rfl (by kernel_rfl) rfl rfl ?_
            refine run_mv rfl ?_
            refine run_endops ?_
            refine run_ret rfl (v := .tuple #[.agg Pkt.zero.arr, .int .i64 52]) (res2 rfl ⟨_, rfl, rdv (rd_loadW (j := 5) Tryd.isAgg35 Tryd.sizeOf35 rfl (by kernel_rfl))⟩ rfl) ?_
            exact dec_form hl hc (fun h => f469 h.2.2.1)
          · have f469 := eq_of_bne_f hb5
            rcases Bool.eq_false_or_eq_true (decide (num s 119 1 > 1)) with hb6 | hb6
            · have hr := of_decide_eq_true hb6
              refine run_region (todo := [0, 1, 2, 3, 4, 5, 6, 7, 8, 9, 10, 11, 12, 13, 14, 15, 16, 17, 18, 19]) rfl rfl ?_
              refine run_mv rfl ?_
              refine run_rd (v := .bool false) rfl (rd_cmp rfl hb3) ?_
              refine run_mv rfl ?_
              refine run_mvG rfl ?_
              refine run_rdG (v := .bool false) rfl (rd_cmp rfl hb4) ?_
              refine run_pick (v := .bool false) rfl rfl ?_
              refine run_mv rfl ?_
              refine run_mvG rfl ?_
              refine run_rdG (v := .bool false) rfl (rd_cmp rfl hb5) ?_
              refine run_pick (v := .bool false) rfl rfl ?_
              refine run_mv rfl ?_
              refine run_mvG rfl ?_
              refine run_rdG (v := .int .u8 ((b119.toNat : Nat) : Int)) rfl (rd_byteL Tryd.underlying9 h119 rfl) ?_
              refine run_rdG (v := .bool true) rfl (rd_cmp rfl ((num_gt h119).trans hb6)) ?_
              refine run_pick (v := .bool true) rfl rfl ?_
              refine run_mv rfl ?_
              refine run_skipped rfl ?_
              refine run_skipped rfl ?_
              refine run_skipped rfl ?_
              refine run_pick (v := .bool true) rfl rfl ?_
              refine run_endops ?_
              refine run_true rfl rfl ?_
              refine run_seq rfl ?_
              refine run_region (todo := [0, 1, 2]) rfl rfl ?_
              refine run_rd (v := .agg Pkt.zero.arr) rfl (rd_loadW (j := 4) Tryd.isAgg35 Tryd.sizeOf35 rfl (by kernel_rfl)) ?_
              refine run_storeW (j := 5) (c' := Pkt.zero.arr) rfl Tryd.sizeOf35 (by kernel_rfl) (by kernel_rfl) rfl (by kernel_rfl) rfl rfl ?_
              refine run_mv rfl ?_
              refine run_endops ?_
              refine run_ret rfl (v := .tuple #[.agg Pkt.zero.arr, .int .i64 52]) (res2 rfl ⟨_, rfl, rdv (rd_loadW (j := 5) Tryd.isAgg35 Tryd.sizeOf35 rfl (by kernel_rfl))⟩ rfl) ?_
              exact dec_form hl hc (fun h => by have h4 := h.2.2.2.1; omega)
            · have hr := of_decide_eq_false hb6
              refine run_region (todo := [0, 1, 2, 3, 4, 5, 6, 7, 8, 9, 10, 11, 12, 13, 14, 15, 16, 17, 18, 19]) rfl rfl ?_
              refine run_mv rfl ?_
              refine run_rd (v := .bool false) rfl (rd_cmp rfl hb3) ?_
              refine run_mv rfl ?_
              refine run_mvG rfl ?_
              refine run_rdG (v := .bool false) rfl (rd_cmp rfl hb4) ?_
              refine run_pick (v := .bool false) rfl rfl ?_
              refine run_mv rfl ?_
              refine run_mvG rfl ?_
              refine run_rdG (v := .bool false) rfl (rd_cmp rfl hb5) ?_
              refine run_pick (v := .bool false) rfl rfl ?_
              refine run_mv rfl ?_
              refine run_mvG rfl ?_
              refine run_rdG (v := .int .u8 ((b119.toNat : Nat) : Int)) rfl (rd_byteL Tryd.underlying9 h119 rfl) ?_
              refine run_rdG (v := .bool false) rfl (rd_cmp rfl ((num_gt h119).trans hb6)) ?_
              refine run_pick (v := .bool false) rfl rfl ?_
              refine run_mv rfl ?_
              refine run_rdG (v := .agg ((Pkt.mk (num s 0 1) (num s 1 4) (idAt s 5) (v8At s 14) (v8At s 46) (idAt s 78) (v8At s 87) (decide (num s 119 1 = 1)) (num s 120 4) (num s 124 4) (outF (seg s 128 168)) (outF (seg s 296 168)) (num s 464 1) (num s 465 4) (outF (seg s 469 168))).arr)) rfl (rd_loadW (j := 3) Tryd.isAgg35 Tryd.sizeOf35 rfl (by kernel_rfl)) ?_
              refine run_pf0G (v := .int .i64 (pkCode (rawP s).may)) rfl Tryd.call13 (pf_rpcheck (rawP s) (rawP_fit s)) ?_
              refine run_rdG (v := .bool ((pkCode (rawP s).may) != 0)) rfl (rd_cmp rfl rfl) ?_
              refine run_pick (v := .bool ((pkCode (rawP s).may) != 0)) rfl rfl ?_
              refine run_endops ?_
              refine run_if rfl rfl (fun hb7 => ?_) (fun hb7 => ?_)
              · have hmy := pk_bad hb7
                refine run_seq rfl ?_
                refine run_region (todo := [0, 1, 2]) rfl rfl ?_
                refine run_rd (v := .agg Pkt.zero.arr) rfl (rd_loadW (j := 4) Tryd.isAgg35 Tryd.sizeOf35 rfl (by kernel_rfl)) ?_
                refine run_storeW (j := 5) (c' := Pkt.zero.arr) rfl Tryd.sizeOf35 (by kernel_rfl) (by kernel_rfl) rfl (by kernel_rfl) rfl rfl ?_
                refine run_mv rfl ?_
                refine run_endops ?_
                refine run_ret rfl (v := .tuple #[.agg Pkt.zero.arr, .int .i64 52]) (res2 rfl ⟨_, rfl, rdv (rd_loadW (j := 5) Tryd.isAgg35 Tryd.sizeOf35 rfl (by kernel_rfl))⟩ rfl) ?_
                exact dec_form hl hc (fun h => by have h5 := h.2.2.2.2; rw [hmy] at h5; cases h5)
              · have hmy := pk_good hb7
                refine run_skip rfl ?_
                refine run_seq rfl ?_
                refine run_region (todo := [0, 1, 2]) rfl rfl ?_
                refine run_rd (v := .agg ((Pkt.mk (num s 0 1) (num s 1 4) (idAt s 5) (v8At s 14) (v8At s 46) (idAt s 78) (v8At s 87) (decide (num s 119 1 = 1)) (num s 120 4) (num s 124 4) (outF (seg s 128 168)) (outF (seg s 296 168)) (num s 464 1) (num s 465 4) (outF (seg s 469 168))).arr)) rfl (rd_loadW (j := 3) Tryd.isAgg35 Tryd.sizeOf35 rfl (by kernel_rfl)) ?_
                refine run_storeW (j := 5) (c' := (Pkt.mk (num s 0 1) (num s 1 4) (idAt s 5) (v8At s 14) (v8At s 46) (idAt s 78) (v8At s 87) (decide (num s 119 1 = 1)) (num s 120 4) (num s 124 4) (outF (seg s 128 168)) (outF (seg s 296 168)) (num s 464 1) (num s 465 4) (outF (seg s 469 168))).arr) rfl Tryd.sizeOf35 (by kernel_rfl) (by kernel_rfl) rfl (by kernel_rfl) rfl rfl ?_
                refine run_mv rfl ?_
                refine run_endops ?_
                refine run_ret rfl (v := .tuple #[.agg ((Pkt.mk (num s 0 1) (num s 1 4) (idAt s 5) (v8At s 14) (v8At s 46) (idAt s 78) (v8At s 87) (decide (num s 119 1 = 1)) (num s 120 4) (num s 124 4) (outF (seg s 128 168)) (outF (seg s 296 168)) (num s 464 1) (num s 465 4) (outF (seg s 469 168))).arr), .int .i64 0]) (res2 rfl ⟨_, rfl, rdv (rd_loadW (j := 5) Tryd.isAgg35 Tryd.sizeOf35 rfl (by kernel_rfl))⟩ rfl) ?_
                exact dec_ok hl hc f128 f296 f469 (by omega) hmy

theorem bit_lt (b : Bool) : bit b < 18446744073709551616 := by cases b <;> decide
theorem pf_rid (x : Id3) (hx : x.Ok) : Pf Tryd.prog 48 #[.agg #[.int .u32 x.epoch, .int .u32 x.coord, .int .u32 x.inc]] (.string (bs (idb x))) := by
  refine pf_of_run Tryd.func48 rfl rfl (fun w0 => ?_)
  refine run_seq rfl ?_
  refine run_region (todo := [0, 1]) rfl rfl ?_
  refine run_box rfl (fun g1 => ?_)
  refine run_mv rfl ?_
  refine run_endops ?_
  refine run_seq rfl ?_
  refine run_draw (l := [0, 1, 2, 3, 4, 5, 6, 7, 8, 9, 10, 11, 12, 13, 14]) rfl rfl (by kernel_rfl) (by kernel_rfl) ?_
  refine q_val (v := .pointer (some ⟨g1, 0, none⟩)) rfl (rd_fieldAddr (o := 0) Tryd.underlying24 rfl Tryd.sizeOf22 rfl rfl) ?_
  refine q_val (v := .int .u32 x.epoch) rfl (rd_load (j := 0) (v := .int .u32 x.epoch) Tryd.isAgg22 rfl rfl) ?_
  refine q_val (v := .int .u64 ((x.epoch.toNat : Nat) : Int)) rfl (rd_toInt Tryd.underlying22 Tryd.underlying28 (wrap_u64U hx.1)) ?_
  refine q_pf0 (v := .string (bs (put x.epoch.toNat 4))) rfl Tryd.call47 (pf_rput (n := x.epoch.toNat) (k := 4) (by decide) (by decide) (u32_n64 hx.1)) ?_
  refine q_val (v := .pointer (some ⟨g1, 1, none⟩)) rfl (rd_fieldAddr (o := 1) Tryd.underlying24 rfl Tryd.sizeOf22 rfl rfl) ?_
  refine q_val (v := .int .u32 x.coord) rfl (rd_load (j := 0) (v := .int .u32 x.coord) Tryd.isAgg22 rfl rfl) ?_
  refine q_val (v := .int .u64 ((x.coord.toNat : Nat) : Int)) rfl (rd_toInt Tryd.underlying22 Tryd.underlying28 (wrap_u64U hx.2.1)) ?_
  refine q_pf0 (v := .string (bs (put x.coord.toNat 1))) rfl Tryd.call47 (pf_rput (n := x.coord.toNat) (k := 1) (by decide) (by decide) (u32_n64 hx.2.1)) ?_
  refine q_val (v := .string (bs ((put x.epoch.toNat 4) ++ (put x.coord.toNat 1)))) rfl (rd_cat (l := (put x.epoch.toNat 4)) (m := (put x.coord.toNat 1)) (by simp only [List.length_append, put_length, idb_length, v8b_length, List.length_nil]; omega) rfl) ?_
  refine q_val (v := .pointer (some ⟨g1, 2, none⟩)) rfl (rd_fieldAddr (o := 2) Tryd.underlying24 rfl Tryd.sizeOf22 rfl rfl) ?_
  refine q_val (v := .int .u32 x.inc) rfl (rd_load (j := 0) (v := .int .u32 x.inc) Tryd.isAgg22 rfl rfl) ?_
  refine q_val (v := .int .u64 ((x.inc.toNat : Nat) : Int)) rfl (rd_toInt Tryd.underlying22 Tryd.underlying28 (wrap_u64U hx.2.2)) ?_
  refine q_pf0 (v := .string (bs (put x.inc.toNat 4))) rfl Tryd.call47 (pf_rput (n := x.inc.toNat) (k := 4) (by decide) (by decide) (u32_n64 hx.2.2)) ?_
  refine q_val (v := .string (bs (((put x.epoch.toNat 4) ++ (put x.coord.toNat 1)) ++ (put x.inc.toNat 4)))) rfl (rd_cat (l := ((put x.epoch.toNat 4) ++ (put x.coord.toNat 1))) (m := (put x.inc.toNat 4)) (by simp only [List.length_append, put_length, idb_length, v8b_length, List.length_nil]; omega) rfl) ?_
  refine q_mv rfl ?_
  refine q_end ?_
  refine run_ret rfl (v := .string (bs (((put x.epoch.toNat 4) ++ (put x.coord.toNat 1)) ++ (put x.inc.toNat 4)))) (res1 rfl rfl) ?_
  rfl

theorem pf_reight (x : V8) (hx : x.Ok) : Pf Tryd.prog 49 #[.agg #[.int .u32 x.n0, .int .u32 x.n1, .int .u32 x.n2, .int .u32 x.n3, .int .u32 x.n4, .int .u32 x.n5, .int .u32 x.n6, .int .u32 x.n7]] (.string (bs (v8b x))) := by
  refine pf_of_run Tryd.func49 rfl rfl (fun w0 => ?_)
  refine run_seq rfl ?_
  refine run_region (todo := [0, 1]) rfl rfl ?_
  refine run_box rfl (fun g1 => ?_)
  refine run_mv rfl ?_
  refine run_endops ?_
  refine run_seq rfl ?_
  refine run_region (todo := [0]) rfl rfl ?_
  refine run_mv rfl ?_
  refine run_endops ?_
  refine run_seq rfl ?_
  refine run_seq rfl ?_
  refine run_region (todo := [0]) rfl rfl ?_
  refine run_mv rfl ?_
  refine run_endops ?_
  refine run_block rfl ?_
  refine run_loop rfl ?_
  refine run_again ?_
  refine run_seq rfl ?_
  refine run_seq rfl ?_
  refine run_region (todo := [0, 1]) rfl rfl ?_
  refine run_mv rfl ?_
  refine run_rd (v := .bool true) rfl (rd_cmp rfl rfl) ?_
  refine run_endops ?_
  refine run_true rfl rfl ?_
  refine run_skip rfl ?_
  refine run_seq rfl ?_
  refine run_block rfl ?_
  refine run_region (todo := [0, 1, 2, 3, 4, 5, 6, 7]) rfl rfl ?_
  refine run_mv rfl ?_
  refine run_mv rfl ?_
  refine run_rd (v := .pointer (some ⟨g1, 0, none⟩)) rfl (rd_indexAddrA (m := 0) (o := 0) Tryd.underlying25 rfl (by decide) Tryd.sizeOf22 rfl) ?_
  refine run_rd (v := .int .u32 x.n0) rfl (rd_load (j := 0) (v := .int .u32 x.n0) Tryd.isAgg22 rfl rfl) ?_
  refine run_rd (v := .int .u64 ((x.n0.toNat : Nat) : Int)) rfl (rd_toInt Tryd.underlying22 Tryd.underlying28 (wrap_u64U hx.1)) ?_
  refine run_pf0 (v := .string (bs (put x.n0.toNat 4))) rfl Tryd.call47 (pf_rput (n := x.n0.toNat) (k := 4) (by decide) (by decide) (u32_n64 hx.1)) ?_
  refine run_rd (v := .string (bs (put x.n0.toNat 4))) rfl (rd_cat (l := []) (m := (put x.n0.toNat 4)) (by simp only [List.length_append, put_length, idb_length, v8b_length, List.length_nil]; omega) rfl) ?_
  refine run_mv rfl ?_
  refine run_endops ?_
  refine run_endblock ?_
  refine run_region (todo := [0, 1, 2]) rfl rfl ?_
  refine run_mv rfl ?_
  refine run_rd (v := .int .i64 1) rfl (rd_add (r := 1) (by decide)) ?_
  refine run_mv rfl ?_
  refine run_endops ?_
  refine run_again ?_
  refine run_seq rfl ?_
  refine run_seq rfl ?_
  refine run_region (todo := [0, 1]) rfl rfl ?_
  refine run_mv rfl ?_
  refine run_rd (v := .bool true) rfl (rd_cmp rfl rfl) ?_
  refine run_endops ?_
  refine run_true rfl rfl ?_
  refine run_skip rfl ?_
  refine run_seq rfl ?_
  refine run_block rfl ?_
  refine run_region (todo := [0, 1, 2, 3, 4, 5, 6, 7]) rfl rfl ?_
  refine run_mv rfl ?_
  refine run_mv rfl ?_
  refine run_rd (v := .pointer (some ⟨g1, 1, none⟩)) rfl (rd_indexAddrA (m := 1) (o := 1) Tryd.underlying25 rfl (by decide) Tryd.sizeOf22 rfl) ?_
  refine run_rd (v := .int .u32 x.n1) rfl (rd_load (j := 0) (v := .int .u32 x.n1) Tryd.isAgg22 rfl rfl) ?_
  refine run_rd (v := .int .u64 ((x.n1.toNat : Nat) : Int)) rfl (rd_toInt Tryd.underlying22 Tryd.underlying28 (wrap_u64U hx.2.1)) ?_
  refine run_pf0 (v := .string (bs (put x.n1.toNat 4))) rfl Tryd.call47 (pf_rput (n := x.n1.toNat) (k := 4) (by decide) (by decide) (u32_n64 hx.2.1)) ?_
  refine run_rd (v := .string (bs ((put x.n0.toNat 4) ++ (put x.n1.toNat 4)))) rfl (rd_cat (l := (put x.n0.toNat 4)) (m := (put x.n1.toNat 4)) (by simp only [List.length_append, put_length, idb_length, v8b_length, List.length_nil]; omega) rfl) ?_
  refine run_mv rfl ?_
  refine run_endops ?_
  refine run_endblock ?_
  refine run_region (todo := [0, 1, 2]) rfl rfl ?_
  refine run_mv rfl ?_
  refine run_rd (v := .int .i64 2) rfl (rd_add (r := 2) (by decide)) ?_
  refine run_mv rfl ?_
  refine run_endops ?_
  refine run_again ?_
  refine run_seq rfl ?_
  refine run_seq rfl ?_
  refine run_region (todo := [0, 1]) rfl rfl ?_
  refine run_mv rfl ?_
  refine run_rd (v := .bool true) rfl (rd_cmp rfl rfl) ?_
  refine run_endops ?_
  refine run_true rfl rfl ?_
  refine run_skip rfl ?_
  refine run_seq rfl ?_
  refine run_block rfl ?_
  refine run_region (todo := [0, 1, 2, 3, 4, 5, 6, 7]) rfl rfl ?_
  refine run_mv rfl ?_
  refine run_mv rfl ?_
  refine run_rd (v := .pointer (some ⟨g1, 2, none⟩)) rfl (rd_indexAddrA (m := 2) (o := 2) Tryd.underlying25 rfl (by decide) Tryd.sizeOf22 rfl) ?_
  refine run_rd (v := .int .u32 x.n2) rfl (rd_load (j := 0) (v := .int .u32 x.n2) Tryd.isAgg22 rfl rfl) ?_
  refine run_rd (v := .int .u64 ((x.n2.toNat : Nat) : Int)) rfl (rd_toInt Tryd.underlying22 Tryd.underlying28 (wrap_u64U hx.2.2.1)) ?_
  refine run_pf0 (v := .string (bs (put x.n2.toNat 4))) rfl Tryd.call47 (pf_rput (n := x.n2.toNat) (k := 4) (by decide) (by decide) (u32_n64 hx.2.2.1)) ?_
  refine run_rd (v := .string (bs (((put x.n0.toNat 4) ++ (put x.n1.toNat 4)) ++ (put x.n2.toNat 4)))) rfl (rd_cat (l := ((put x.n0.toNat 4) ++ (put x.n1.toNat 4))) (m := (put x.n2.toNat 4)) (by simp only [List.length_append, put_length, idb_length, v8b_length, List.length_nil]; omega) rfl) ?_
  refine run_mv rfl ?_
  refine run_endops ?_
  refine run_endblock ?_
  refine run_region (todo := [0, 1, 2]) rfl rfl ?_
  refine run_mv rfl ?_
  refine run_rd (v := .int .i64 3) rfl (rd_add (r := 3) (by decide)) ?_
  refine run_mv rfl ?_
  refine run_endops ?_
  refine run_again ?_
  refine run_seq rfl ?_
  refine run_seq rfl ?_
  refine run_region (todo := [0, 1]) rfl rfl ?_
  refine run_mv rfl ?_
  refine run_rd (v := .bool true) rfl (rd_cmp rfl rfl) ?_
  refine run_endops ?_
  refine run_true rfl rfl ?_
  refine run_skip rfl ?_
  refine run_seq rfl ?_
  refine run_block rfl ?_
  refine run_region (todo := [0, 1, 2, 3, 4, 5, 6, 7]) rfl rfl ?_
  refine run_mv rfl ?_
  refine run_mv rfl ?_
  refine run_rd (v := .pointer (some ⟨g1, 3, none⟩)) rfl (rd_indexAddrA (m := 3) (o := 3) Tryd.underlying25 rfl (by decide) Tryd.sizeOf22 rfl) ?_
  refine run_rd (v := .int .u32 x.n3) rfl (rd_load (j := 0) (v := .int .u32 x.n3) Tryd.isAgg22 rfl rfl) ?_
  refine run_rd (v := .int .u64 ((x.n3.toNat : Nat) : Int)) rfl (rd_toInt Tryd.underlying22 Tryd.underlying28 (wrap_u64U hx.2.2.2.1)) ?_
  refine run_pf0 (v := .string (bs (put x.n3.toNat 4))) rfl Tryd.call47 (pf_rput (n := x.n3.toNat) (k := 4) (by decide) (by decide) (u32_n64 hx.2.2.2.1)) ?_
  refine run_rd (v := .string (bs ((((put x.n0.toNat 4) ++ (put x.n1.toNat 4)) ++ (put x.n2.toNat 4)) ++ (put x.n3.toNat 4)))) rfl (rd_cat (l := (((put x.n0.toNat 4) ++ (put x.n1.toNat 4)) ++ (put x.n2.toNat 4))) (m := (put x.n3.toNat 4)) (by simp only [List.length_append, put_length, idb_length, v8b_length, List.length_nil]; omega) rfl) ?_
  refine run_mv rfl ?_
  refine run_endops ?_
  refine run_endblock ?_
  refine run_region (todo := [0, 1, 2]) rfl rfl ?_
  refine run_mv rfl ?_
  refine run_rd (v := .int .i64 4) rfl (rd_add (r := 4) (by decide)) ?_
  refine run_mv rfl ?_
  refine run_endops ?_
  refine run_again ?_
  refine run_seq rfl ?_
  refine run_seq rfl ?_
  refine run_region (todo := [0, 1]) rfl rfl ?_
  refine run_mv rfl ?_
  refine run_rd (v := .bool true) rfl (rd_cmp rfl rfl) ?_
  refine run_endops ?_
  refine run_true rfl rfl ?_
  refine run_skip rfl ?_
  refine run_seq rfl ?_
  refine run_block rfl ?_
  refine run_region (todo := [0, 1, 2, 3, 4, 5, 6, 7]) rfl rfl ?_
  refine run_mv rfl ?_
  refine run_mv rfl ?_
  refine run_rd (v := .pointer (some ⟨g1, 4, none⟩)) rfl (rd_indexAddrA (m := 4) (o := 4) Tryd.underlying25 rfl (by decide) Tryd.sizeOf22 rfl) ?_
  refine run_rd (v := .int .u32 x.n4) rfl (rd_load (j := 0) (v := .int .u32 x.n4) Tryd.isAgg22 rfl rfl) ?_
  refine run_rd (v := .int .u64 ((x.n4.toNat : Nat) : Int)) rfl (rd_toInt Tryd.underlying22 Tryd.underlying28 (wrap_u64U hx.2.2.2.2.1)) ?_
  refine run_pf0 (v := .string (bs (put x.n4.toNat 4))) rfl Tryd.call47 (pf_rput (n := x.n4.toNat) (k := 4) (by decide) (by decide) (u32_n64 hx.2.2.2.2.1)) ?_
  refine run_rd (v := .string (bs (((((put x.n0.toNat 4) ++ (put x.n1.toNat 4)) ++ (put x.n2.toNat 4)) ++ (put x.n3.toNat 4)) ++ (put x.n4.toNat 4)))) rfl (rd_cat (l := ((((put x.n0.toNat 4) ++ (put x.n1.toNat 4)) ++ (put x.n2.toNat 4)) ++ (put x.n3.toNat 4))) (m := (put x.n4.toNat 4)) (by simp only [List.length_append, put_length, idb_length, v8b_length, List.length_nil]; omega) rfl) ?_
  refine run_mv rfl ?_
  refine run_endops ?_
  refine run_endblock ?_
  refine run_region (todo := [0, 1, 2]) rfl rfl ?_
  refine run_mv rfl ?_
  refine run_rd (v := .int .i64 5) rfl (rd_add (r := 5) (by decide)) ?_
  refine run_mv rfl ?_
  refine run_endops ?_
  refine run_again ?_
  refine run_seq rfl ?_
  refine run_seq rfl ?_
  refine run_region (todo := [0, 1]) rfl rfl ?_
  refine run_mv rfl ?_
  refine run_rd (v := .bool true) rfl (rd_cmp rfl rfl) ?_
  refine run_endops ?_
  refine run_true rfl rfl ?_
  refine run_skip rfl ?_
  refine run_seq rfl ?_
  refine run_block rfl ?_
  refine run_region (todo := [0, 1, 2, 3, 4, 5, 6, 7]) rfl rfl ?_
  refine run_mv rfl ?_
  refine run_mv rfl ?_
  refine run_rd (v := .pointer (some ⟨g1, 5, none⟩)) rfl (rd_indexAddrA (m := 5) (o := 5) Tryd.underlying25 rfl (by decide) Tryd.sizeOf22 rfl) ?_
  refine run_rd (v := .int .u32 x.n5) rfl (rd_load (j := 0) (v := .int .u32 x.n5) Tryd.isAgg22 rfl rfl) ?_
  refine run_rd (v := .int .u64 ((x.n5.toNat : Nat) : Int)) rfl (rd_toInt Tryd.underlying22 Tryd.underlying28 (wrap_u64U hx.2.2.2.2.2.1)) ?_
  refine run_pf0 (v := .string (bs (put x.n5.toNat 4))) rfl Tryd.call47 (pf_rput (n := x.n5.toNat) (k := 4) (by decide) (by decide) (u32_n64 hx.2.2.2.2.2.1)) ?_
  refine run_rd (v := .string (bs ((((((put x.n0.toNat 4) ++ (put x.n1.toNat 4)) ++ (put x.n2.toNat 4)) ++ (put x.n3.toNat 4)) ++ (put x.n4.toNat 4)) ++ (put x.n5.toNat 4)))) rfl (rd_cat (l := (((((put x.n0.toNat 4) ++ (put x.n1.toNat 4)) ++ (put x.n2.toNat 4)) ++ (put x.n3.toNat 4)) ++ (put x.n4.toNat 4))) (m := (put x.n5.toNat 4)) (by simp only [List.length_append, put_length, idb_length, v8b_length, List.length_nil]; omega) rfl) ?_
  refine run_mv rfl ?_
  refine run_endops ?_
  refine run_endblock ?_
  refine run_region (todo := [0, 1, 2]) rfl rfl ?_
  refine run_mv rfl ?_
  refine run_rd (v := .int .i64 6) rfl (rd_add (r := 6) (by decide)) ?_
  refine run_mv rfl ?_
  refine run_endops ?_
  refine run_again ?_
  refine run_seq rfl ?_
  refine run_seq rfl ?_
  refine run_region (todo := [0, 1]) rfl rfl ?_
  refine run_mv rfl ?_
  refine run_rd (v := .bool true) rfl (rd_cmp rfl rfl) ?_
  refine run_endops ?_
  refine run_true rfl rfl ?_
  refine run_skip rfl ?_
  refine run_seq rfl ?_
  refine run_block rfl ?_
  refine run_region (todo := [0, 1, 2, 3, 4, 5, 6, 7]) rfl rfl ?_
  refine run_mv rfl ?_
  refine run_mv rfl ?_
  refine run_rd (v := .pointer (some ⟨g1, 6, none⟩)) rfl (rd_indexAddrA (m := 6) (o := 6) Tryd.underlying25 rfl (by decide) Tryd.sizeOf22 rfl) ?_
  refine run_rd (v := .int .u32 x.n6) rfl (rd_load (j := 0) (v := .int .u32 x.n6) Tryd.isAgg22 rfl rfl) ?_
  refine run_rd (v := .int .u64 ((x.n6.toNat : Nat) : Int)) rfl (rd_toInt Tryd.underlying22 Tryd.underlying28 (wrap_u64U hx.2.2.2.2.2.2.1)) ?_
  refine run_pf0 (v := .string (bs (put x.n6.toNat 4))) rfl Tryd.call47 (pf_rput (n := x.n6.toNat) (k := 4) (by decide) (by decide) (u32_n64 hx.2.2.2.2.2.2.1)) ?_
  refine run_rd (v := .string (bs (((((((put x.n0.toNat 4) ++ (put x.n1.toNat 4)) ++ (put x.n2.toNat 4)) ++ (put x.n3.toNat 4)) ++ (put x.n4.toNat 4)) ++ (put x.n5.toNat 4)) ++ (put x.n6.toNat 4)))) rfl (rd_cat (l := ((((((put x.n0.toNat 4) ++ (put x.n1.toNat 4)) ++ (put x.n2.toNat 4)) ++ (put x.n3.toNat 4)) ++ (put x.n4.toNat 4)) ++ (put x.n5.toNat 4))) (m := (put x.n6.toNat 4)) (by simp only [List.length_append, put_length, idb_length, v8b_length, List.length_nil]; omega) rfl) ?_
  refine run_mv rfl ?_
  refine run_endops ?_
  refine run_endblock ?_
  refine run_region (todo := [0, 1, 2]) rfl rfl ?_
  refine run_mv rfl ?_
  refine run_rd (v := .int .i64 7) rfl (rd_add (r := 7) (by decide)) ?_
  refine run_mv rfl ?_
  refine run_endops ?_
  refine run_again ?_
  refine run_seq rfl ?_
  refine run_seq rfl ?_
  refine run_region (todo := [0, 1]) rfl rfl ?_
  refine run_mv rfl ?_
  refine run_rd (v := .bool true) rfl (rd_cmp rfl rfl) ?_
  refine run_endops ?_
  refine run_true rfl rfl ?_
  refine run_skip rfl ?_
  refine run_seq rfl ?_
  refine run_block rfl ?_
  refine run_region (todo := [0, 1, 2, 3, 4, 5, 6, 7]) rfl rfl ?_
  refine run_mv rfl ?_
  refine run_mv rfl ?_
  refine run_rd (v := .pointer (some ⟨g1, 7, none⟩)) rfl (rd_indexAddrA (m := 7) (o := 7) Tryd.underlying25 rfl (by decide) Tryd.sizeOf22 rfl) ?_
  refine run_rd (v := .int .u32 x.n7) rfl (rd_load (j := 0) (v := .int .u32 x.n7) Tryd.isAgg22 rfl rfl) ?_
  refine run_rd (v := .int .u64 ((x.n7.toNat : Nat) : Int)) rfl (rd_toInt Tryd.underlying22 Tryd.underlying28 (wrap_u64U hx.2.2.2.2.2.2.2)) ?_
  refine run_pf0 (v := .string (bs (put x.n7.toNat 4))) rfl Tryd.call47 (pf_rput (n := x.n7.toNat) (k := 4) (by decide) (by decide) (u32_n64 hx.2.2.2.2.2.2.2)) ?_
  refine run_rd (v := .string (bs ((((((((put x.n0.toNat 4) ++ (put x.n1.toNat 4)) ++ (put x.n2.toNat 4)) ++ (put x.n3.toNat 4)) ++ (put x.n4.toNat 4)) ++ (put x.n5.toNat 4)) ++ (put x.n6.toNat 4)) ++ (put x.n7.toNat 4)))) rfl (rd_cat (l := (((((((put x.n0.toNat 4) ++ (put x.n1.toNat 4)) ++ (put x.n2.toNat 4)) ++ (put x.n3.toNat 4)) ++ (put x.n4.toNat 4)) ++ (put x.n5.toNat 4)) ++ (put x.n6.toNat 4))) (m := (put x.n7.toNat 4)) (by simp only [List.length_append, put_length, idb_length, v8b_length, List.length_nil]; omega) rfl) ?_
  refine run_mv rfl ?_
  refine run_endops ?_
  refine run_endblock ?_
  refine run_region (todo := [0, 1, 2]) rfl rfl ?_
  refine run_mv rfl ?_
  refine run_rd (v := .int .i64 8) rfl (rd_add (r := 8) (by decide)) ?_
  refine run_mv rfl ?_
  refine run_endops ?_
  refine run_again ?_
  refine run_seq rfl ?_
  refine run_seq rfl ?_
  refine run_region (todo := [0, 1]) rfl rfl ?_
  refine run_mv rfl ?_
  refine run_rd (v := .bool false) rfl (rd_cmp rfl rfl) ?_
  refine run_endops ?_
  refine run_false rfl rfl ?_
  refine run_exit rfl rfl ?_
  refine run_seq rfl ?_
  refine run_region (todo := [0, 1]) rfl rfl ?_
  refine run_mv rfl ?_
  refine run_mv rfl ?_
  refine run_endops ?_
  refine run_ret rfl (v := .string (bs ((((((((put x.n0.toNat 4) ++ (put x.n1.toNat 4)) ++ (put x.n2.toNat 4)) ++ (put x.n3.toNat 4)) ++ (put x.n4.toNat 4)) ++ (put x.n5.toNat 4)) ++ (put x.n6.toNat 4)) ++ (put x.n7.toNat 4)))) (res1 rfl rfl) ?_
  exact congrArg (fun z => Value.string (bs z)) (by simp [v8b_eq])

theorem pf_rbody (p : Pkt) (hp : p.Fit) (hmp : p.may = true) : Pf Tryd.prog 27 #[p.val] (.string (bs p.body)) := by
  obtain ⟨-, m1, m2, m3⟩ := Pkt.may_iff.1 hmp
  have e1 := fenc_le p.newest
  have e2 := fenc_le p.older
  have e3 := fenc_le p.relay
  refine pf_of_run Tryd.func27 rfl rfl (fun w0 => ?_)
  refine run_seq rfl ?_
  refine run_region (todo := [0, 1]) rfl rfl ?_
  refine run_box rfl (fun g1 => ?_)
  refine run_mv rfl ?_
  refine run_endops ?_
  refine run_seq rfl ?_
  refine run_region (todo := [0]) rfl rfl ?_
  refine run_mv rfl ?_
  refine run_endops ?_
  refine run_seq rfl ?_
  refine run_seq rfl ?_
  refine run_region (todo := [0, 1]) rfl rfl ?_
  refine run_rd (v := .pointer (some ⟨g1, 32, none⟩)) rfl (rd_fieldAddr (o := 32) Tryd.underlying35 rfl Tryd.sizeOf4 rfl rfl) ?_
  refine run_rd (v := .bool p.ready) rfl (rd_load (j := 0) (v := .bool p.ready) Tryd.isAgg4 rfl (by kernel_rfl)) ?_
  refine run_endops ?_
  refine run_if rfl rfl (fun hb1 => ?_) (fun hb1 => ?_)
  · skip
    refine run_region (todo := [0]) rfl rfl ?_
    refine run_mv rfl ?_
    refine run_endops ?_
    refine run_seq rfl ?_
    refine run_region (todo := [0, 1, 2, 3, 4, 5, 6, 7]) rfl rfl ?_
    refine run_rd (v := .pointer (some ⟨g1, 35, none⟩)) rfl (rd_fieldAddr (o := 35) Tryd.underlying35 rfl Tryd.sizeOf33 rfl rfl) ?_
    refine run_rd (v := .agg p.newest.arr) rfl (rd_loadA (j := 0) (u := p.newest.arr) Tryd.isAgg33 Tryd.sizeOf33 rfl (by kernel_rfl) (by kernel_rfl)) ?_
    refine run_pf0 (v := .tuple #[.string (bs p.newest.enc), .int .i64 (okCode p.newest.may)]) rfl Tryd.call46 (pf_rfencode p.newest hp.newest) ?_
    refine run_mv rfl ?_
    refine run_rd (v := .string (bs p.newest.enc)) rfl (rd_extract rfl) ?_
    refine run_rd (v := .int .i64 (okCode p.newest.may)) rfl (rd_extract rfl) ?_
    refine run_mv rfl ?_
    refine run_mv rfl ?_
    refine run_endops ?_
    refine run_seq rfl ?_
    refine run_region (todo := [0, 1, 2, 3, 4, 5, 6, 7]) rfl rfl ?_
    refine run_rd (v := .pointer (some ⟨g1, 71, none⟩)) rfl (rd_fieldAddr (o := 71) Tryd.underlying35 rfl Tryd.sizeOf33 rfl rfl) ?_
    refine run_rd (v := .agg p.older.arr) rfl (rd_loadA (j := 0) (u := p.older.arr) Tryd.isAgg33 Tryd.sizeOf33 rfl (by kernel_rfl) (by kernel_rfl)) ?_
    refine run_pf0 (v := .tuple #[.string (bs p.older.enc), .int .i64 (okCode p.older.may)]) rfl Tryd.call46 (pf_rfencode p.older hp.older) ?_
    refine run_mv rfl ?_
    refine run_rd (v := .string (bs p.older.enc)) rfl (rd_extract rfl) ?_
    refine run_rd (v := .int .i64 (okCode p.older.may)) rfl (rd_extract rfl) ?_
    refine run_mv rfl ?_
    refine run_mv rfl ?_
    refine run_endops ?_
    refine run_seq rfl ?_
    refine run_region (todo := [0, 1, 2, 3, 4, 5, 6, 7]) rfl rfl ?_
    refine run_rd (v := .pointer (some ⟨g1, 109, none⟩)) rfl (rd_fieldAddr (o := 109) Tryd.underlying35 rfl Tryd.sizeOf33 rfl rfl) ?_
    refine run_rd (v := .agg p.relay.arr) rfl (rd_loadA (j := 0) (u := p.relay.arr) Tryd.isAgg33 Tryd.sizeOf33 rfl (by kernel_rfl) (by kernel_rfl)) ?_
    refine run_pf0 (v := .tuple #[.string (bs p.relay.enc), .int .i64 (okCode p.relay.may)]) rfl Tryd.call46 (pf_rfencode p.relay hp.relay) ?_
    refine run_mv rfl ?_
    refine run_rd (v := .string (bs p.relay.enc)) rfl (rd_extract rfl) ?_
    refine run_rd (v := .int .i64 (okCode p.relay.may)) rfl (rd_extract rfl) ?_
    refine run_mv rfl ?_
    refine run_mv rfl ?_
    refine run_endops ?_
    refine run_seq rfl ?_
    refine run_draw (l := [0, 1, 2, 3, 4, 5, 6, 7, 8, 9, 10, 11, 12, 13, 14, 15, 16, 17, 18, 19, 20, 21, 22, 23, 24, 25, 26, 27, 28, 29]) rfl rfl (by kernel_rfl) (by kernel_rfl) ?_
    refine q_val (v := .pointer (some ⟨g1, 0, none⟩)) rfl (rd_fieldAddr (o := 0) Tryd.underlying35 rfl Tryd.sizeOf22 rfl rfl) ?_
    refine q_val (v := .int .u32 p.src) rfl (rd_load (j := 0) (v := .int .u32 p.src) Tryd.isAgg22 rfl (by kernel_rfl)) ?_
    refine q_val (v := .int .u64 ((p.src.toNat : Nat) : Int)) rfl (rd_toInt Tryd.underlying22 Tryd.underlying28 (wrap_u64U hp.ok.src)) ?_
    refine q_pf0 (v := .string (bs (put p.src.toNat 1))) rfl Tryd.call47 (pf_rput (n := p.src.toNat) (k := 1) (by decide) (by decide) (u32_n64 hp.ok.src)) ?_
    refine q_val (v := .pointer (some ⟨g1, 1, none⟩)) rfl (rd_fieldAddr (o := 1) Tryd.underlying35 rfl Tryd.sizeOf22 rfl rfl) ?_
    refine q_val (v := .int .u32 p.inc) rfl (rd_load (j := 0) (v := .int .u32 p.inc) Tryd.isAgg22 rfl (by kernel_rfl)) ?_
    refine q_val (v := .int .u64 ((p.inc.toNat : Nat) : Int)) rfl (rd_toInt Tryd.underlying22 Tryd.underlying28 (wrap_u64U hp.ok.inc)) ?_
    refine q_pf0 (v := .string (bs (put p.inc.toNat 4))) rfl Tryd.call47 (pf_rput (n := p.inc.toNat) (k := 4) (by decide) (by decide) (u32_n64 hp.ok.inc)) ?_
    refine q_val (v := .string (bs ((put p.src.toNat 1) ++ (put p.inc.toNat 4)))) rfl (rd_cat (l := (put p.src.toNat 1)) (m := (put p.inc.toNat 4)) (by simp only [List.length_append, put_length, idb_length, v8b_length, List.length_nil]; omega) rfl) ?_
    refine q_val (v := .pointer (some ⟨g1, 2, none⟩)) rfl (rd_fieldAddr (o := 2) Tryd.underlying35 rfl Tryd.sizeOf24 rfl rfl) ?_
    refine q_val (v := .agg #[.int .u32 p.conf.epoch, .int .u32 p.conf.coord, .int .u32 p.conf.inc]) rfl (rd_loadA (j := 0) (u := #[.int .u32 p.conf.epoch, .int .u32 p.conf.coord, .int .u32 p.conf.inc]) Tryd.isAgg24 Tryd.sizeOf24 rfl (by kernel_rfl) (by kernel_rfl)) ?_
    refine q_pf0 (v := .string (bs (idb p.conf))) rfl Tryd.call48 (pf_rid p.conf hp.ok.conf) ?_
    refine q_val (v := .string (bs (((put p.src.toNat 1) ++ (put p.inc.toNat 4)) ++ (idb p.conf)))) rfl (rd_cat (l := ((put p.src.toNat 1) ++ (put p.inc.toNat 4))) (m := (idb p.conf)) (by simp only [List.length_append, put_length, idb_length, v8b_length, List.length_nil]; omega) rfl) ?_
    refine q_val (v := .pointer (some ⟨g1, 5, none⟩)) rfl (rd_fieldAddr (o := 5) Tryd.underlying35 rfl Tryd.sizeOf26 rfl rfl) ?_
    refine q_val (v := .agg #[.int .u32 p.members.n0, .int .u32 p.members.n1, .int .u32 p.members.n2, .int .u32 p.members.n3, .int .u32 p.members.n4, .int .u32 p.members.n5, .int .u32 p.members.n6, .int .u32 p.members.n7]) rfl (rd_loadA (j := 0) (u := #[.int .u32 p.members.n0, .int .u32 p.members.n1, .int .u32 p.members.n2, .int .u32 p.members.n3, .int .u32 p.members.n4, .int .u32 p.members.n5, .int .u32 p.members.n6, .int .u32 p.members.n7]) Tryd.isAgg26 Tryd.sizeOf26 rfl (by kernel_rfl) (by kernel_rfl)) ?_
    refine q_pf0 (v := .string (bs (v8b p.members))) rfl Tryd.call49 (pf_reight p.members hp.ok.members) ?_
    refine q_val (v := .string (bs ((((put p.src.toNat 1) ++ (put p.inc.toNat 4)) ++ (idb p.conf)) ++ (v8b p.members)))) rfl (rd_cat (l := (((put p.src.toNat 1) ++ (put p.inc.toNat 4)) ++ (idb p.conf))) (m := (v8b p.members)) (by simp only [List.length_append, put_length, idb_length, v8b_length, List.length_nil]; omega) rfl) ?_
    refine q_val (v := .pointer (some ⟨g1, 13, none⟩)) rfl (rd_fieldAddr (o := 13) Tryd.underlying35 rfl Tryd.sizeOf27 rfl rfl) ?_
    refine q_val (v := .agg #[.int .u32 p.count.n0, .int .u32 p.count.n1, .int .u32 p.count.n2, .int .u32 p.count.n3, .int .u32 p.count.n4, .int .u32 p.count.n5, .int .u32 p.count.n6, .int .u32 p.count.n7]) rfl (rd_loadA (j := 0) (u := #[.int .u32 p.count.n0, .int .u32 p.count.n1, .int .u32 p.count.n2, .int .u32 p.count.n3, .int .u32 p.count.n4, .int .u32 p.count.n5, .int .u32 p.count.n6, .int .u32 p.count.n7]) Tryd.isAgg27 Tryd.sizeOf27 rfl (by kernel_rfl) (by kernel_rfl)) ?_
    refine q_pf0 (v := .string (bs (v8b p.count))) rfl Tryd.call49 (pf_reight p.count hp.ok.count) ?_
    refine q_val (v := .string (bs (((((put p.src.toNat 1) ++ (put p.inc.toNat 4)) ++ (idb p.conf)) ++ (v8b p.members)) ++ (v8b p.count)))) rfl (rd_cat (l := ((((put p.src.toNat 1) ++ (put p.inc.toNat 4)) ++ (idb p.conf)) ++ (v8b p.members))) (m := (v8b p.count)) (by simp only [List.length_append, put_length, idb_length, v8b_length, List.length_nil]; omega) rfl) ?_
    refine q_val (v := .pointer (some ⟨g1, 21, none⟩)) rfl (rd_fieldAddr (o := 21) Tryd.underlying35 rfl Tryd.sizeOf24 rfl rfl) ?_
    refine q_val (v := .agg #[.int .u32 p.promise.epoch, .int .u32 p.promise.coord, .int .u32 p.promise.inc]) rfl (rd_loadA (j := 0) (u := #[.int .u32 p.promise.epoch, .int .u32 p.promise.coord, .int .u32 p.promise.inc]) Tryd.isAgg24 Tryd.sizeOf24 rfl (by kernel_rfl) (by kernel_rfl)) ?_
    refine q_pf0 (v := .string (bs (idb p.promise))) rfl Tryd.call48 (pf_rid p.promise hp.ok.promise) ?_
    refine q_val (v := .string (bs ((((((put p.src.toNat 1) ++ (put p.inc.toNat 4)) ++ (idb p.conf)) ++ (v8b p.members)) ++ (v8b p.count)) ++ (idb p.promise)))) rfl (rd_cat (l := (((((put p.src.toNat 1) ++ (put p.inc.toNat 4)) ++ (idb p.conf)) ++ (v8b p.members)) ++ (v8b p.count))) (m := (idb p.promise)) (by simp only [List.length_append, put_length, idb_length, v8b_length, List.length_nil]; omega) rfl) ?_
    refine q_val (v := .pointer (some ⟨g1, 24, none⟩)) rfl (rd_fieldAddr (o := 24) Tryd.underlying35 rfl Tryd.sizeOf26 rfl rfl) ?_
    refine q_val (v := .agg #[.int .u32 p.wanted.n0, .int .u32 p.wanted.n1, .int .u32 p.wanted.n2, .int .u32 p.wanted.n3, .int .u32 p.wanted.n4, .int .u32 p.wanted.n5, .int .u32 p.wanted.n6, .int .u32 p.wanted.n7]) rfl (rd_loadA (j := 0) (u := #[.int .u32 p.wanted.n0, .int .u32 p.wanted.n1, .int .u32 p.wanted.n2, .int .u32 p.wanted.n3, .int .u32 p.wanted.n4, .int .u32 p.wanted.n5, .int .u32 p.wanted.n6, .int .u32 p.wanted.n7]) Tryd.isAgg26 Tryd.sizeOf26 rfl (by kernel_rfl) (by kernel_rfl)) ?_
    refine q_pf0 (v := .string (bs (v8b p.wanted))) rfl Tryd.call49 (pf_reight p.wanted hp.ok.wanted) ?_
    refine q_val (v := .string (bs (((((((put p.src.toNat 1) ++ (put p.inc.toNat 4)) ++ (idb p.conf)) ++ (v8b p.members)) ++ (v8b p.count)) ++ (idb p.promise)) ++ (v8b p.wanted)))) rfl (rd_cat (l := ((((((put p.src.toNat 1) ++ (put p.inc.toNat 4)) ++ (idb p.conf)) ++ (v8b p.members)) ++ (v8b p.count)) ++ (idb p.promise))) (m := (v8b p.wanted)) (by simp only [List.length_append, put_length, idb_length, v8b_length, List.length_nil]; omega) rfl) ?_
    refine q_mv rfl ?_
    refine q_end ?_
    refine run_seq rfl ?_
    refine run_draw (l := [0, 1, 2, 3, 4, 5, 6, 7, 8, 9, 10, 11, 12, 13, 14, 15, 16, 17, 18]) rfl rfl (by kernel_rfl) (by kernel_rfl) ?_
    refine q_mv rfl ?_
    refine q_mv rfl ?_
    refine q_pf0 (v := .string (bs (put 1 1))) rfl Tryd.call47 (pf_rput (n := 1) (k := 1) (by decide) (by decide) (by decide)) ?_
    refine q_val (v := .pointer (some ⟨g1, 33, none⟩)) rfl (rd_fieldAddr (o := 33) Tryd.underlying35 rfl Tryd.sizeOf22 rfl rfl) ?_
    refine q_val (v := .int .u32 p.epoch) rfl (rd_load (j := 0) (v := .int .u32 p.epoch) Tryd.isAgg22 rfl (by kernel_rfl)) ?_
    refine q_val (v := .int .u64 ((p.epoch.toNat : Nat) : Int)) rfl (rd_toInt Tryd.underlying22 Tryd.underlying28 (wrap_u64U hp.ok.epoch)) ?_
    refine q_pf0 (v := .string (bs (put p.epoch.toNat 4))) rfl Tryd.call47 (pf_rput (n := p.epoch.toNat) (k := 4) (by decide) (by decide) (u32_n64 hp.ok.epoch)) ?_
    refine q_val (v := .string (bs ((put 1 1) ++ (put p.epoch.toNat 4)))) rfl (rd_cat (l := (put 1 1)) (m := (put p.epoch.toNat 4)) (by simp only [List.length_append, put_length, idb_length, v8b_length, List.length_nil]; omega) rfl) ?_
    refine q_val (v := .pointer (some ⟨g1, 34, none⟩)) rfl (rd_fieldAddr (o := 34) Tryd.underlying35 rfl Tryd.sizeOf22 rfl rfl) ?_
    refine q_val (v := .int .u32 p.round) rfl (rd_load (j := 0) (v := .int .u32 p.round) Tryd.isAgg22 rfl (by kernel_rfl)) ?_
    refine q_val (v := .int .u64 ((p.round.toNat : Nat) : Int)) rfl (rd_toInt Tryd.underlying22 Tryd.underlying28 (wrap_u64U hp.ok.round)) ?_
    refine q_pf0 (v := .string (bs (put p.round.toNat 4))) rfl Tryd.call47 (pf_rput (n := p.round.toNat) (k := 4) (by decide) (by decide) (u32_n64 hp.ok.round)) ?_
    refine q_val (v := .string (bs (((put 1 1) ++ (put p.epoch.toNat 4)) ++ (put p.round.toNat 4)))) rfl (rd_cat (l := ((put 1 1) ++ (put p.epoch.toNat 4))) (m := (put p.round.toNat 4)) (by simp only [List.length_append, put_length, idb_length, v8b_length, List.length_nil]; omega) rfl) ?_
    refine q_mv rfl ?_
    refine q_val (v := .string (bs ((((put 1 1) ++ (put p.epoch.toNat 4)) ++ (put p.round.toNat 4)) ++ p.newest.enc))) rfl (rd_cat (l := (((put 1 1) ++ (put p.epoch.toNat 4)) ++ (put p.round.toNat 4))) (m := p.newest.enc) (by simp only [List.length_append, put_length, idb_length, v8b_length, List.length_nil]; omega) rfl) ?_
    refine q_mv rfl ?_
    refine q_val (v := .string (bs (((((put 1 1) ++ (put p.epoch.toNat 4)) ++ (put p.round.toNat 4)) ++ p.newest.enc) ++ p.older.enc))) rfl (rd_cat (l := ((((put 1 1) ++ (put p.epoch.toNat 4)) ++ (put p.round.toNat 4)) ++ p.newest.enc)) (m := p.older.enc) (by simp only [List.length_append, put_length, idb_length, v8b_length, List.length_nil]; omega) rfl) ?_
    refine q_val (v := .string (bs ((((((((put p.src.toNat 1) ++ (put p.inc.toNat 4)) ++ (idb p.conf)) ++ (v8b p.members)) ++ (v8b p.count)) ++ (idb p.promise)) ++ (v8b p.wanted)) ++ (((((put 1 1) ++ (put p.epoch.toNat 4)) ++ (put p.round.toNat 4)) ++ p.newest.enc) ++ p.older.enc)))) rfl (rd_cat (l := (((((((put p.src.toNat 1) ++ (put p.inc.toNat 4)) ++ (idb p.conf)) ++ (v8b p.members)) ++ (v8b p.count)) ++ (idb p.promise)) ++ (v8b p.wanted))) (m := (((((put 1 1) ++ (put p.epoch.toNat 4)) ++ (put p.round.toNat 4)) ++ p.newest.enc) ++ p.older.enc)) (by simp only [List.length_append, put_length, idb_length, v8b_length, List.length_nil]; omega) rfl) ?_
    refine q_mv rfl ?_
    refine q_end ?_
    refine run_seq rfl ?_
    refine run_draw (l := [0, 1, 2, 3, 4, 5, 6, 7, 8, 9, 10, 11, 12, 13]) rfl rfl (by kernel_rfl) (by kernel_rfl) ?_
    refine q_mv rfl ?_
    refine q_val (v := .pointer (some ⟨g1, 107, none⟩)) rfl (rd_fieldAddr (o := 107) Tryd.underlying35 rfl Tryd.sizeOf22 rfl rfl) ?_
    refine q_val (v := .int .u32 p.relayOf) rfl (rd_load (j := 0) (v := .int .u32 p.relayOf) Tryd.isAgg22 rfl (by kernel_rfl)) ?_
    refine q_val (v := .int .u64 ((p.relayOf.toNat : Nat) : Int)) rfl (rd_toInt Tryd.underlying22 Tryd.underlying28 (wrap_u64U hp.ok.relayOf)) ?_
    refine q_pf0 (v := .string (bs (put p.relayOf.toNat 1))) rfl Tryd.call47 (pf_rput (n := p.relayOf.toNat) (k := 1) (by decide) (by decide) (u32_n64 hp.ok.relayOf)) ?_
    refine q_val (v := .string (bs (((((((((put p.src.toNat 1) ++ (put p.inc.toNat 4)) ++ (idb p.conf)) ++ (v8b p.members)) ++ (v8b p.count)) ++ (idb p.promise)) ++ (v8b p.wanted)) ++ (((((put 1 1) ++ (put p.epoch.toNat 4)) ++ (put p.round.toNat 4)) ++ p.newest.enc) ++ p.older.enc)) ++ (put p.relayOf.toNat 1)))) rfl (rd_cat (l := ((((((((put p.src.toNat 1) ++ (put p.inc.toNat 4)) ++ (idb p.conf)) ++ (v8b p.members)) ++ (v8b p.count)) ++ (idb p.promise)) ++ (v8b p.wanted)) ++ (((((put 1 1) ++ (put p.epoch.toNat 4)) ++ (put p.round.toNat 4)) ++ p.newest.enc) ++ p.older.enc))) (m := (put p.relayOf.toNat 1)) (by simp only [List.length_append, put_length, idb_length, v8b_length, List.length_nil]; omega) rfl) ?_
    refine q_val (v := .pointer (some ⟨g1, 108, none⟩)) rfl (rd_fieldAddr (o := 108) Tryd.underlying35 rfl Tryd.sizeOf22 rfl rfl) ?_
    refine q_val (v := .int .u32 p.relayRound) rfl (rd_load (j := 0) (v := .int .u32 p.relayRound) Tryd.isAgg22 rfl (by kernel_rfl)) ?_
    refine q_val (v := .int .u64 ((p.relayRound.toNat : Nat) : Int)) rfl (rd_toInt Tryd.underlying22 Tryd.underlying28 (wrap_u64U hp.ok.relayRound)) ?_
    refine q_pf0 (v := .string (bs (put p.relayRound.toNat 4))) rfl Tryd.call47 (pf_rput (n := p.relayRound.toNat) (k := 4) (by decide) (by decide) (u32_n64 hp.ok.relayRound)) ?_
    refine q_val (v := .string (bs ((((((((((put p.src.toNat 1) ++ (put p.inc.toNat 4)) ++ (idb p.conf)) ++ (v8b p.members)) ++ (v8b p.count)) ++ (idb p.promise)) ++ (v8b p.wanted)) ++ (((((put 1 1) ++ (put p.epoch.toNat 4)) ++ (put p.round.toNat 4)) ++ p.newest.enc) ++ p.older.enc)) ++ (put p.relayOf.toNat 1)) ++ (put p.relayRound.toNat 4)))) rfl (rd_cat (l := (((((((((put p.src.toNat 1) ++ (put p.inc.toNat 4)) ++ (idb p.conf)) ++ (v8b p.members)) ++ (v8b p.count)) ++ (idb p.promise)) ++ (v8b p.wanted)) ++ (((((put 1 1) ++ (put p.epoch.toNat 4)) ++ (put p.round.toNat 4)) ++ p.newest.enc) ++ p.older.enc)) ++ (put p.relayOf.toNat 1))) (m := (put p.relayRound.toNat 4)) (by simp only [List.length_append, put_length, idb_length, v8b_length, List.length_nil]; omega) rfl) ?_
    refine q_mv rfl ?_
    refine q_val (v := .string (bs (((((((((((put p.src.toNat 1) ++ (put p.inc.toNat 4)) ++ (idb p.conf)) ++ (v8b p.members)) ++ (v8b p.count)) ++ (idb p.promise)) ++ (v8b p.wanted)) ++ (((((put 1 1) ++ (put p.epoch.toNat 4)) ++ (put p.round.toNat 4)) ++ p.newest.enc) ++ p.older.enc)) ++ (put p.relayOf.toNat 1)) ++ (put p.relayRound.toNat 4)) ++ p.relay.enc))) rfl (rd_cat (l := ((((((((((put p.src.toNat 1) ++ (put p.inc.toNat 4)) ++ (idb p.conf)) ++ (v8b p.members)) ++ (v8b p.count)) ++ (idb p.promise)) ++ (v8b p.wanted)) ++ (((((put 1 1) ++ (put p.epoch.toNat 4)) ++ (put p.round.toNat 4)) ++ p.newest.enc) ++ p.older.enc)) ++ (put p.relayOf.toNat 1)) ++ (put p.relayRound.toNat 4))) (m := p.relay.enc) (by simp only [List.length_append, put_length, idb_length, v8b_length, List.length_nil]; omega) rfl) ?_
    refine q_mv rfl ?_
    refine q_end ?_
    refine run_ret rfl (v := .string (bs (((((((((((put p.src.toNat 1) ++ (put p.inc.toNat 4)) ++ (idb p.conf)) ++ (v8b p.members)) ++ (v8b p.count)) ++ (idb p.promise)) ++ (v8b p.wanted)) ++ (((((put 1 1) ++ (put p.epoch.toNat 4)) ++ (put p.round.toNat 4)) ++ p.newest.enc) ++ p.older.enc)) ++ (put p.relayOf.toNat 1)) ++ (put p.relayRound.toNat 4)) ++ p.relay.enc))) (res1 rfl rfl) ?_
    exact congrArg (fun z => Value.string (bs z)) (by rw [Pkt.body, hb1, enc_of m1, enc_of m2, enc_of m3]; simp only [bit, List.append_assoc, if_true, Bool.false_eq_true, if_false])
  · skip
    refine run_skip rfl ?_
    refine run_seq rfl ?_
    refine run_region (todo := [0, 1, 2, 3, 4, 5, 6, 7]) rfl rfl ?_
    refine run_rd (v := .pointer (some ⟨g1, 35, none⟩)) rfl (rd_fieldAddr (o := 35) Tryd.underlying35 rfl Tryd.sizeOf33 rfl rfl) ?_
    refine run_rd (v := .agg p.newest.arr) rfl (rd_loadA (j := 0) (u := p.newest.arr) Tryd.isAgg33 Tryd.sizeOf33 rfl (by kernel_rfl) (by kernel_rfl)) ?_
    refine run_pf0 (v := .tuple #[.string (bs p.newest.enc), .int .i64 (okCode p.newest.may)]) rfl Tryd.call46 (pf_rfencode p.newest hp.newest) ?_
    refine run_mv rfl ?_
    refine run_rd (v := .string (bs p.newest.enc)) rfl (rd_extract rfl) ?_
    refine run_rd (v := .int .i64 (okCode p.newest.may)) rfl (rd_extract rfl) ?_
    refine run_mv rfl ?_
    refine run_mv rfl ?_
    refine run_endops ?_
    refine run_seq rfl ?_
    refine run_region (todo := [0, 1, 2, 3, 4, 5, 6, 7]) rfl rfl ?_
    refine run_rd (v := .pointer (some ⟨g1, 71, none⟩)) rfl (rd_fieldAddr (o := 71) Tryd.underlying35 rfl Tryd.sizeOf33 rfl rfl) ?_
    refine run_rd (v := .agg p.older.arr) rfl (rd_loadA (j := 0) (u := p.older.arr) Tryd.isAgg33 Tryd.sizeOf33 rfl (by kernel_rfl) (by kernel_rfl)) ?_
    refine run_pf0 (v := .tuple #[.string (bs p.older.enc), .int .i64 (okCode p.older.may)]) rfl Tryd.call46 (pf_rfencode p.older hp.older) ?_
    refine run_mv rfl ?_
    refine run_rd (v := .string (bs p.older.enc)) rfl (rd_extract rfl) ?_
    refine run_rd (v := .int .i64 (okCode p.older.may)) rfl (rd_extract rfl) ?_
    refine run_mv rfl ?_
    refine run_mv rfl ?_
    refine run_endops ?_
    refine run_seq rfl ?_
    refine run_region (todo := [0, 1, 2, 3, 4, 5, 6, 7]) rfl rfl ?_
    refine run_rd (v := .pointer (some ⟨g1, 109, none⟩)) rfl (rd_fieldAddr (o := 109) Tryd.underlying35 rfl Tryd.sizeOf33 rfl rfl) ?_
    refine run_rd (v := .agg p.relay.arr) rfl (rd_loadA (j := 0) (u := p.relay.arr) Tryd.isAgg33 Tryd.sizeOf33 rfl (by kernel_rfl) (by kernel_rfl)) ?_
    refine run_pf0 (v := .tuple #[.string (bs p.relay.enc), .int .i64 (okCode p.relay.may)]) rfl Tryd.call46 (pf_rfencode p.relay hp.relay) ?_
    refine run_mv rfl ?_
    refine run_rd (v := .string (bs p.relay.enc)) rfl (rd_extract rfl) ?_
    refine run_rd (v := .int .i64 (okCode p.relay.may)) rfl (rd_extract rfl) ?_
    refine run_mv rfl ?_
    refine run_mv rfl ?_
    refine run_endops ?_
    refine run_seq rfl ?_
    refine run_draw (l := [0, 1, 2, 3, 4, 5, 6, 7, 8, 9, 10, 11, 12, 13, 14, 15, 16, 17, 18, 19, 20, 21, 22, 23, 24, 25, 26, 27, 28, 29]) rfl rfl (by kernel_rfl) (by kernel_rfl) ?_
    refine q_val (v := .pointer (some ⟨g1, 0, none⟩)) rfl (rd_fieldAddr (o := 0) Tryd.underlying35 rfl Tryd.sizeOf22 rfl rfl) ?_
    refine q_val (v := .int .u32 p.src) rfl (rd_load (j := 0) (v := .int .u32 p.src) Tryd.isAgg22 rfl (by kernel_rfl)) ?_
    refine q_val (v := .int .u64 ((p.src.toNat : Nat) : Int)) rfl (rd_toInt Tryd.underlying22 Tryd.underlying28 (wrap_u64U hp.ok.src)) ?_
    refine q_pf0 (v := .string (bs (put p.src.toNat 1))) rfl Tryd.call47 (pf_rput (n := p.src.toNat) (k := 1) (by decide) (by decide) (u32_n64 hp.ok.src)) ?_
    refine q_val (v := .pointer (some ⟨g1, 1, none⟩)) rfl (rd_fieldAddr (o := 1) Tryd.underlying35 rfl Tryd.sizeOf22 rfl rfl) ?_
    refine q_val (v := .int .u32 p.inc) rfl (rd_load (j := 0) (v := .int .u32 p.inc) Tryd.isAgg22 rfl (by kernel_rfl)) ?_
    refine q_val (v := .int .u64 ((p.inc.toNat : Nat) : Int)) rfl (rd_toInt Tryd.underlying22 Tryd.underlying28 (wrap_u64U hp.ok.inc)) ?_
    refine q_pf0 (v := .string (bs (put p.inc.toNat 4))) rfl Tryd.call47 (pf_rput (n := p.inc.toNat) (k := 4) (by decide) (by decide) (u32_n64 hp.ok.inc)) ?_
    refine q_val (v := .string (bs ((put p.src.toNat 1) ++ (put p.inc.toNat 4)))) rfl (rd_cat (l := (put p.src.toNat 1)) (m := (put p.inc.toNat 4)) (by simp only [List.length_append, put_length, idb_length, v8b_length, List.length_nil]; omega) rfl) ?_
    refine q_val (v := .pointer (some ⟨g1, 2, none⟩)) rfl (rd_fieldAddr (o := 2) Tryd.underlying35 rfl Tryd.sizeOf24 rfl rfl) ?_
    refine q_val (v := .agg #[.int .u32 p.conf.epoch, .int .u32 p.conf.coord, .int .u32 p.conf.inc]) rfl (rd_loadA (j := 0) (u := #[.int .u32 p.conf.epoch, .int .u32 p.conf.coord, .int .u32 p.conf.inc]) Tryd.isAgg24 Tryd.sizeOf24 rfl (by kernel_rfl) (by kernel_rfl)) ?_
    refine q_pf0 (v := .string (bs (idb p.conf))) rfl Tryd.call48 (pf_rid p.conf hp.ok.conf) ?_
    refine q_val (v := .string (bs (((put p.src.toNat 1) ++ (put p.inc.toNat 4)) ++ (idb p.conf)))) rfl (rd_cat (l := ((put p.src.toNat 1) ++ (put p.inc.toNat 4))) (m := (idb p.conf)) (by simp only [List.length_append, put_length, idb_length, v8b_length, List.length_nil]; omega) rfl) ?_
    refine q_val (v := .pointer (some ⟨g1, 5, none⟩)) rfl (rd_fieldAddr (o := 5) Tryd.underlying35 rfl Tryd.sizeOf26 rfl rfl) ?_
    refine q_val (v := .agg #[.int .u32 p.members.n0, .int .u32 p.members.n1, .int .u32 p.members.n2, .int .u32 p.members.n3, .int .u32 p.members.n4, .int .u32 p.members.n5, .int .u32 p.members.n6, .int .u32 p.members.n7]) rfl (rd_loadA (j := 0) (u := #[.int .u32 p.members.n0, .int .u32 p.members.n1, .int .u32 p.members.n2, .int .u32 p.members.n3, .int .u32 p.members.n4, .int .u32 p.members.n5, .int .u32 p.members.n6, .int .u32 p.members.n7]) Tryd.isAgg26 Tryd.sizeOf26 rfl (by kernel_rfl) (by kernel_rfl)) ?_
    refine q_pf0 (v := .string (bs (v8b p.members))) rfl Tryd.call49 (pf_reight p.members hp.ok.members) ?_
    refine q_val (v := .string (bs ((((put p.src.toNat 1) ++ (put p.inc.toNat 4)) ++ (idb p.conf)) ++ (v8b p.members)))) rfl (rd_cat (l := (((put p.src.toNat 1) ++ (put p.inc.toNat 4)) ++ (idb p.conf))) (m := (v8b p.members)) (by simp only [List.length_append, put_length, idb_length, v8b_length, List.length_nil]; omega) rfl) ?_
    refine q_val (v := .pointer (some ⟨g1, 13, none⟩)) rfl (rd_fieldAddr (o := 13) Tryd.underlying35 rfl Tryd.sizeOf27 rfl rfl) ?_
    refine q_val (v := .agg #[.int .u32 p.count.n0, .int .u32 p.count.n1, .int .u32 p.count.n2, .int .u32 p.count.n3, .int .u32 p.count.n4, .int .u32 p.count.n5, .int .u32 p.count.n6, .int .u32 p.count.n7]) rfl (rd_loadA (j := 0) (u := #[.int .u32 p.count.n0, .int .u32 p.count.n1, .int .u32 p.count.n2, .int .u32 p.count.n3, .int .u32 p.count.n4, .int .u32 p.count.n5, .int .u32 p.count.n6, .int .u32 p.count.n7]) Tryd.isAgg27 Tryd.sizeOf27 rfl (by kernel_rfl) (by kernel_rfl)) ?_
    refine q_pf0 (v := .string (bs (v8b p.count))) rfl Tryd.call49 (pf_reight p.count hp.ok.count) ?_
    refine q_val (v := .string (bs (((((put p.src.toNat 1) ++ (put p.inc.toNat 4)) ++ (idb p.conf)) ++ (v8b p.members)) ++ (v8b p.count)))) rfl (rd_cat (l := ((((put p.src.toNat 1) ++ (put p.inc.toNat 4)) ++ (idb p.conf)) ++ (v8b p.members))) (m := (v8b p.count)) (by simp only [List.length_append, put_length, idb_length, v8b_length, List.length_nil]; omega) rfl) ?_
    refine q_val (v := .pointer (some ⟨g1, 21, none⟩)) rfl (rd_fieldAddr (o := 21) Tryd.underlying35 rfl Tryd.sizeOf24 rfl rfl) ?_
    refine q_val (v := .agg #[.int .u32 p.promise.epoch, .int .u32 p.promise.coord, .int .u32 p.promise.inc]) rfl (rd_loadA (j := 0) (u := #[.int .u32 p.promise.epoch, .int .u32 p.promise.coord, .int .u32 p.promise.inc]) Tryd.isAgg24 Tryd.sizeOf24 rfl (by kernel_rfl) (by kernel_rfl)) ?_
    refine q_pf0 (v := .string (bs (idb p.promise))) rfl Tryd.call48 (pf_rid p.promise hp.ok.promise) ?_
    refine q_val (v := .string (bs ((((((put p.src.toNat 1) ++ (put p.inc.toNat 4)) ++ (idb p.conf)) ++ (v8b p.members)) ++ (v8b p.count)) ++ (idb p.promise)))) rfl (rd_cat (l := (((((put p.src.toNat 1) ++ (put p.inc.toNat 4)) ++ (idb p.conf)) ++ (v8b p.members)) ++ (v8b p.count))) (m := (idb p.promise)) (by simp only [List.length_append, put_length, idb_length, v8b_length, List.length_nil]; omega) rfl) ?_
    refine q_val (v := .pointer (some ⟨g1, 24, none⟩)) rfl (rd_fieldAddr (o := 24) Tryd.underlying35 rfl Tryd.sizeOf26 rfl rfl) ?_
    refine q_val (v := .agg #[.int .u32 p.wanted.n0, .int .u32 p.wanted.n1, .int .u32 p.wanted.n2, .int .u32 p.wanted.n3, .int .u32 p.wanted.n4, .int .u32 p.wanted.n5, .int .u32 p.wanted.n6, .int .u32 p.wanted.n7]) rfl (rd_loadA (j := 0) (u := #[.int .u32 p.wanted.n0, .int .u32 p.wanted.n1, .int .u32 p.wanted.n2, .int .u32 p.wanted.n3, .int .u32 p.wanted.n4, .int .u32 p.wanted.n5, .int .u32 p.wanted.n6, .int .u32 p.wanted.n7]) Tryd.isAgg26 Tryd.sizeOf26 rfl (by kernel_rfl) (by kernel_rfl)) ?_
    refine q_pf0 (v := .string (bs (v8b p.wanted))) rfl Tryd.call49 (pf_reight p.wanted hp.ok.wanted) ?_
    refine q_val (v := .string (bs (((((((put p.src.toNat 1) ++ (put p.inc.toNat 4)) ++ (idb p.conf)) ++ (v8b p.members)) ++ (v8b p.count)) ++ (idb p.promise)) ++ (v8b p.wanted)))) rfl (rd_cat (l := ((((((put p.src.toNat 1) ++ (put p.inc.toNat 4)) ++ (idb p.conf)) ++ (v8b p.members)) ++ (v8b p.count)) ++ (idb p.promise))) (m := (v8b p.wanted)) (by simp only [List.length_append, put_length, idb_length, v8b_length, List.length_nil]; omega) rfl) ?_
    refine q_mv rfl ?_
    refine q_end ?_
    refine run_seq rfl ?_
    refine run_draw (l := [0, 1, 2, 3, 4, 5, 6, 7, 8, 9, 10, 11, 12, 13, 14, 15, 16, 17, 18]) rfl rfl (by kernel_rfl) (by kernel_rfl) ?_
    refine q_mv rfl ?_
    refine q_mv rfl ?_
    refine q_pf0 (v := .string (bs (put 0 1))) rfl Tryd.call47 (pf_rput (n := 0) (k := 1) (by decide) (by decide) (by decide)) ?_
    refine q_val (v := .pointer (some ⟨g1, 33, none⟩)) rfl (rd_fieldAddr (o := 33) Tryd.underlying35 rfl Tryd.sizeOf22 rfl rfl) ?_
    refine q_val (v := .int .u32 p.epoch) rfl (rd_load (j := 0) (v := .int .u32 p.epoch) Tryd.isAgg22 rfl (by kernel_rfl)) ?_
    refine q_val (v := .int .u64 ((p.epoch.toNat : Nat) : Int)) rfl (rd_toInt Tryd.underlying22 Tryd.underlying28 (wrap_u64U hp.ok.epoch)) ?_
    refine q_pf0 (v := .string (bs (put p.epoch.toNat 4))) rfl Tryd.call47 (pf_rput (n := p.epoch.toNat) (k := 4) (by decide) (by decide) (u32_n64 hp.ok.epoch)) ?_
    refine q_val (v := .string (bs ((put 0 1) ++ (put p.epoch.toNat 4)))) rfl (rd_cat (l := (put 0 1)) (m := (put p.epoch.toNat 4)) (by simp only [List.length_append, put_length, idb_length, v8b_length, List.length_nil]; omega) rfl) ?_
    refine q_val (v := .pointer (some ⟨g1, 34, none⟩)) rfl (rd_fieldAddr (o := 34) Tryd.underlying35 rfl Tryd.sizeOf22 rfl rfl) ?_
    refine q_val (v := .int .u32 p.round) rfl (rd_load (j := 0) (v := .int .u32 p.round) Tryd.isAgg22 rfl (by kernel_rfl)) ?_
    refine q_val (v := .int .u64 ((p.round.toNat : Nat) : Int)) rfl (rd_toInt Tryd.underlying22 Tryd.underlying28 (wrap_u64U hp.ok.round)) ?_
    refine q_pf0 (v := .string (bs (put p.round.toNat 4))) rfl Tryd.call47 (pf_rput (n := p.round.toNat) (k := 4) (by decide) (by decide) (u32_n64 hp.ok.round)) ?_
    refine q_val (v := .string (bs (((put 0 1) ++ (put p.epoch.toNat 4)) ++ (put p.round.toNat 4)))) rfl (rd_cat (l := ((put 0 1) ++ (put p.epoch.toNat 4))) (m := (put p.round.toNat 4)) (by simp only [List.length_append, put_length, idb_length, v8b_length, List.length_nil]; omega) rfl) ?_
    refine q_mv rfl ?_
    refine q_val (v := .string (bs ((((put 0 1) ++ (put p.epoch.toNat 4)) ++ (put p.round.toNat 4)) ++ p.newest.enc))) rfl (rd_cat (l := (((put 0 1) ++ (put p.epoch.toNat 4)) ++ (put p.round.toNat 4))) (m := p.newest.enc) (by simp only [List.length_append, put_length, idb_length, v8b_length, List.length_nil]; omega) rfl) ?_
    refine q_mv rfl ?_
    refine q_val (v := .string (bs (((((put 0 1) ++ (put p.epoch.toNat 4)) ++ (put p.round.toNat 4)) ++ p.newest.enc) ++ p.older.enc))) rfl (rd_cat (l := ((((put 0 1) ++ (put p.epoch.toNat 4)) ++ (put p.round.toNat 4)) ++ p.newest.enc)) (m := p.older.enc) (by simp only [List.length_append, put_length, idb_length, v8b_length, List.length_nil]; omega) rfl) ?_
    refine q_val (v := .string (bs ((((((((put p.src.toNat 1) ++ (put p.inc.toNat 4)) ++ (idb p.conf)) ++ (v8b p.members)) ++ (v8b p.count)) ++ (idb p.promise)) ++ (v8b p.wanted)) ++ (((((put 0 1) ++ (put p.epoch.toNat 4)) ++ (put p.round.toNat 4)) ++ p.newest.enc) ++ p.older.enc)))) rfl (rd_cat (l := (((((((put p.src.toNat 1) ++ (put p.inc.toNat 4)) ++ (idb p.conf)) ++ (v8b p.members)) ++ (v8b p.count)) ++ (idb p.promise)) ++ (v8b p.wanted))) (m := (((((put 0 1) ++ (put p.epoch.toNat 4)) ++ (put p.round.toNat 4)) ++ p.newest.enc) ++ p.older.enc)) (by simp only [List.length_append, put_length, idb_length, v8b_length, List.length_nil]; omega) rfl) ?_
    refine q_mv rfl ?_
    refine q_end ?_
    refine run_seq rfl ?_
    refine run_draw (l := [0, 1, 2, 3, 4, 5, 6, 7, 8, 9, 10, 11, 12, 13]) rfl rfl (by kernel_rfl) (by kernel_rfl) ?_
    refine q_mv rfl ?_
    refine q_val (v := .pointer (some ⟨g1, 107, none⟩)) rfl (rd_fieldAddr (o := 107) Tryd.underlying35 rfl Tryd.sizeOf22 rfl rfl) ?_
    refine q_val (v := .int .u32 p.relayOf) rfl (rd_load (j := 0) (v := .int .u32 p.relayOf) Tryd.isAgg22 rfl (by kernel_rfl)) ?_
    refine q_val (v := .int .u64 ((p.relayOf.toNat : Nat) : Int)) rfl (rd_toInt Tryd.underlying22 Tryd.underlying28 (wrap_u64U hp.ok.relayOf)) ?_
    refine q_pf0 (v := .string (bs (put p.relayOf.toNat 1))) rfl Tryd.call47 (pf_rput (n := p.relayOf.toNat) (k := 1) (by decide) (by decide) (u32_n64 hp.ok.relayOf)) ?_
    refine q_val (v := .string (bs (((((((((put p.src.toNat 1) ++ (put p.inc.toNat 4)) ++ (idb p.conf)) ++ (v8b p.members)) ++ (v8b p.count)) ++ (idb p.promise)) ++ (v8b p.wanted)) ++ (((((put 0 1) ++ (put p.epoch.toNat 4)) ++ (put p.round.toNat 4)) ++ p.newest.enc) ++ p.older.enc)) ++ (put p.relayOf.toNat 1)))) rfl (rd_cat (l := ((((((((put p.src.toNat 1) ++ (put p.inc.toNat 4)) ++ (idb p.conf)) ++ (v8b p.members)) ++ (v8b p.count)) ++ (idb p.promise)) ++ (v8b p.wanted)) ++ (((((put 0 1) ++ (put p.epoch.toNat 4)) ++ (put p.round.toNat 4)) ++ p.newest.enc) ++ p.older.enc))) (m := (put p.relayOf.toNat 1)) (by simp only [List.length_append, put_length, idb_length, v8b_length, List.length_nil]; omega) rfl) ?_
    refine q_val (v := .pointer (some ⟨g1, 108, none⟩)) rfl (rd_fieldAddr (o := 108) Tryd.underlying35 rfl Tryd.sizeOf22 rfl rfl) ?_
    refine q_val (v := .int .u32 p.relayRound) rfl (rd_load (j := 0) (v := .int .u32 p.relayRound) Tryd.isAgg22 rfl (by kernel_rfl)) ?_
    refine q_val (v := .int .u64 ((p.relayRound.toNat : Nat) : Int)) rfl (rd_toInt Tryd.underlying22 Tryd.underlying28 (wrap_u64U hp.ok.relayRound)) ?_
    refine q_pf0 (v := .string (bs (put p.relayRound.toNat 4))) rfl Tryd.call47 (pf_rput (n := p.relayRound.toNat) (k := 4) (by decide) (by decide) (u32_n64 hp.ok.relayRound)) ?_
    refine q_val (v := .string (bs ((((((((((put p.src.toNat 1) ++ (put p.inc.toNat 4)) ++ (idb p.conf)) ++ (v8b p.members)) ++ (v8b p.count)) ++ (idb p.promise)) ++ (v8b p.wanted)) ++ (((((put 0 1) ++ (put p.epoch.toNat 4)) ++ (put p.round.toNat 4)) ++ p.newest.enc) ++ p.older.enc)) ++ (put p.relayOf.toNat 1)) ++ (put p.relayRound.toNat 4)))) rfl (rd_cat (l := (((((((((put p.src.toNat 1) ++ (put p.inc.toNat 4)) ++ (idb p.conf)) ++ (v8b p.members)) ++ (v8b p.count)) ++ (idb p.promise)) ++ (v8b p.wanted)) ++ (((((put 0 1) ++ (put p.epoch.toNat 4)) ++ (put p.round.toNat 4)) ++ p.newest.enc) ++ p.older.enc)) ++ (put p.relayOf.toNat 1))) (m := (put p.relayRound.toNat 4)) (by simp only [List.length_append, put_length, idb_length, v8b_length, List.length_nil]; omega) rfl) ?_
    refine q_mv rfl ?_
    refine q_val (v := .string (bs (((((((((((put p.src.toNat 1) ++ (put p.inc.toNat 4)) ++ (idb p.conf)) ++ (v8b p.members)) ++ (v8b p.count)) ++ (idb p.promise)) ++ (v8b p.wanted)) ++ (((((put 0 1) ++ (put p.epoch.toNat 4)) ++ (put p.round.toNat 4)) ++ p.newest.enc) ++ p.older.enc)) ++ (put p.relayOf.toNat 1)) ++ (put p.relayRound.toNat 4)) ++ p.relay.enc))) rfl (rd_cat (l := ((((((((((put p.src.toNat 1) ++ (put p.inc.toNat 4)) ++ (idb p.conf)) ++ (v8b p.members)) ++ (v8b p.count)) ++ (idb p.promise)) ++ (v8b p.wanted)) ++ (((((put 0 1) ++ (put p.epoch.toNat 4)) ++ (put p.round.toNat 4)) ++ p.newest.enc) ++ p.older.enc)) ++ (put p.relayOf.toNat 1)) ++ (put p.relayRound.toNat 4))) (m := p.relay.enc) (by simp only [List.length_append, put_length, idb_length, v8b_length, List.length_nil]; omega) rfl) ?_
    refine q_mv rfl ?_
    refine q_end ?_
    refine run_ret rfl (v := .string (bs (((((((((((put p.src.toNat 1) ++ (put p.inc.toNat 4)) ++ (idb p.conf)) ++ (v8b p.members)) ++ (v8b p.count)) ++ (idb p.promise)) ++ (v8b p.wanted)) ++ (((((put 0 1) ++ (put p.epoch.toNat 4)) ++ (put p.round.toNat 4)) ++ p.newest.enc) ++ p.older.enc)) ++ (put p.relayOf.toNat 1)) ++ (put p.relayRound.toNat 4)) ++ p.relay.enc))) (res1 rfl rfl) ?_
    exact congrArg (fun z => Value.string (bs z)) (by rw [Pkt.body, hb1, enc_of m1, enc_of m2, enc_of m3]; simp only [bit, List.append_assoc, if_true, Bool.false_eq_true, if_false])

theorem rpencode_yes (p : Pkt) (hp : p.Fit) (hmp : p.may = true) : Pf Tryd.prog 10 #[p.val] (.tuple #[.string (bs p.bytes), .int .i64 0]) := by
  refine pf_of_run Tryd.func10 rfl rfl (fun w0 => ?_)
  refine run_seq rfl ?_
  refine run_region (todo := [0, 1, 2]) rfl rfl ?_
  refine run_box rfl (fun g1 => ?_)
  refine run_mv rfl ?_
  refine run_mv rfl ?_
  refine run_endops ?_
  refine run_seq rfl ?_
  refine run_seq rfl ?_
  refine run_region (todo := [0, 1, 2]) rfl rfl ?_
  refine run_rd (v := .agg p.arr) rfl (rd_loadW (j := 0) Tryd.isAgg35 Tryd.sizeOf35 rfl (by kernel_rfl)) ?_
  refine run_pf0 (v := .int .i64 0) rfl Tryd.call13 (by have h := pf_rpcheck p hp; rw [hmp] at h; exact h) ?_
  refine run_rd (v := .bool false) rfl (rd_cmp rfl rfl) ?_
  refine run_endops ?_
  refine run_false rfl rfl ?_
  refine run_skip rfl ?_
  refine run_seq rfl ?_
  refine run_region (todo := [0, 1, 2, 3, 4]) rfl rfl ?_
  refine run_rd (v := .agg p.arr) rfl (rd_loadW (j := 0) Tryd.isAgg35 Tryd.sizeOf35 rfl (by kernel_rfl)) ?_
  refine run_pf0 (v := .string (bs p.body)) rfl Tryd.call27 (pf_rbody p hp hmp) ?_
  refine run_pf0 (v := .string (bs (seal4 p.body))) rfl Tryd.call16 (pf_rSeal p.body (by rw [Pkt.body_length hmp]; decide)) ?_
  refine run_mv rfl ?_
  refine run_mv rfl ?_
  refine run_endops ?_
  refine run_ret rfl (v := .tuple #[.string (bs (seal4 p.body)), .int .i64 0]) (res2 rfl rfl rfl) ?_
  rfl

theorem rpencode_no (p : Pkt) (hp : p.Fit) (hmp : p.may = false) : Pf Tryd.prog 10 #[p.val] (.tuple #[.string ⟨#[]⟩, .int .i64 52]) := by
  refine pf_of_run Tryd.func10 rfl rfl (fun w0 => ?_)
  refine run_seq rfl ?_
  refine run_region (todo := [0, 1, 2]) rfl rfl ?_
  refine run_box rfl (fun g1 => ?_)
  refine run_mv rfl ?_
  refine run_mv rfl ?_
  refine run_endops ?_
  refine run_seq rfl ?_
  refine run_seq rfl ?_
  refine run_region (todo := [0, 1, 2]) rfl rfl ?_
  refine run_rd (v := .agg p.arr) rfl (rd_loadW (j := 0) Tryd.isAgg35 Tryd.sizeOf35 rfl (by kernel_rfl)) ?_
  refine run_pf0 (v := .int .i64 52) rfl Tryd.call13 (by have h := pf_rpcheck p hp; rw [hmp] at h; exact h) ?_
  refine run_rd (v := .bool true) rfl (rd_cmp rfl rfl) ?_
  refine run_endops ?_
  refine run_true rfl rfl ?_
  refine run_seq rfl ?_
  refine run_region (todo := [0, 1]) rfl rfl ?_
  refine run_mv rfl ?_
  refine run_mv rfl ?_
  refine run_endops ?_
  refine run_ret rfl (v := .tuple #[.string ⟨#[]⟩, .int .i64 52]) (res2 rfl rfl rfl) ?_
  rfl

theorem pf_rpencode (p : Pkt) (hp : p.Fit) : Pf Tryd.prog 10 #[p.val] (.tuple #[.string (bs p.enc), .int .i64 (pkCode p.may)]) := by
  cases h : p.may with
  | true => unfold Pkt.enc; rw [if_pos h]; exact rpencode_yes p hp h
  | false => unfold Pkt.enc; rw [if_neg (by rw [h]; decide)]; exact rpencode_no p hp h

end Go.Proofs.YthapghhmeicbnaaDoor
