/- A builder within a writer: its laws (from K9, by a program of mine). -/
import Derived.Test.YthapghhmeicbnaaDoorKA
set_option linter.unusedVariables false
set_option linter.unusedSimpArgs false
namespace Go.Proofs.YthapghhmeicbnaaDoor
open Go.RowKit

section
variable {w0 : World} {F : Hp} {A : Option Addr} {g cap n : Nat} {xs : List Value}
/-- What is known of a builder: its own block, and its bytes. -/
def wbld (g : Nat) (p : Option Addr) (A : Option Addr) (cap n : Nat) (xs : List Value) : Hp := [.blk g (.cells #[.pointer p, .slice A n cap] 61), .row A cap 5 1 n xs]

theorem wcopyCheck_nil : FnH Tryd.prog 57 #[.pointer (some ⟨g, 0, none⟩)] w0 (wbld g none A cap n xs ++ F) (fun v H' => v = .tuple #[] ∧ H' = wbld g (some ⟨g, 0, none⟩) A cap n xs ++ F) := by
  refine fnH_of_run Tryd.func57 rfl rfl ?_
  refine run_seq rfl ?_
  refine run_region (todo := [0, 1, 2, 3, 4]) rfl rfl ?_
  refine run_mv rfl ?_
  refine run_mv rfl ?_
  refine run_rd (v := .pointer (some ⟨g, 0, none⟩)) rfl (rd_fieldAddr (o := 0) Tryd.underlying59 rfl Tryd.sizeOf56 rfl rfl) ?_
  refine run_rd (v := .pointer none) rfl (rd_load (j := 0) Tryd.isAgg56 rfl rfl) ?_
  refine run_rd (v := .bool true) rfl (rd_ptrnil Tryd.underlying56 (.inl ⟨rfl, rfl⟩)) ?_
  refine run_endops ?_
  refine run_true rfl rfl ?_
  refine run_region (todo := [0, 1, 2, 3, 4, 5, 6, 7]) rfl rfl ?_
  refine run_mv rfl ?_
  refine run_mv rfl ?_
  refine run_rd (v := .pointer (some ⟨g, 0, none⟩)) rfl (rd_unsafe (j := 0) Tryd.underlying56 Tryd.underlying114 Tryd.sizeOf59 rfl rfl rfl) ?_
  refine run_val (dst := some 10) rfl (fun w h4 => ⟨_, w, _, noEscape_run g w, h4, ?_⟩)
  refine run_rd (v := .pointer (some ⟨g, 0, none⟩)) rfl (rd_safe (j := 0) Tryd.underlying114 Tryd.underlying56 Tryd.sizeOf59 rfl rfl (by kernel_rfl)) ?_
  refine run_mv rfl ?_
  refine run_rd (v := .pointer (some ⟨g, 0, none⟩)) rfl (rd_fieldAddr (o := 0) Tryd.underlying59 rfl Tryd.sizeOf56 rfl rfl) ?_
  refine run_store (j := 0) (c' := #[.pointer (some ⟨g, 0, none⟩), .slice A n cap]) rfl Tryd.sizeOf56 rfl rfl rfl rfl rfl rfl ?_
  refine run_endops ?_
  refine run_fall (v := .tuple #[]) (res0 rfl) ?_
  exact ⟨rfl, rfl⟩

theorem wcopyCheck_self : FnH Tryd.prog 57 #[.pointer (some ⟨g, 0, none⟩)] w0 (wbld g (some ⟨g, 0, none⟩) A cap n xs ++ F) (fun v H' => v = .tuple #[] ∧ H' = wbld g (some ⟨g, 0, none⟩) A cap n xs ++ F) := by
  refine fnH_of_run Tryd.func57 rfl rfl ?_
  refine run_seq rfl ?_
  refine run_region (todo := [0, 1, 2, 3, 4]) rfl rfl ?_
  refine run_mv rfl ?_
  refine run_mv rfl ?_
  refine run_rd (v := .pointer (some ⟨g, 0, none⟩)) rfl (rd_fieldAddr (o := 0) Tryd.underlying59 rfl Tryd.sizeOf56 rfl rfl) ?_
  refine run_rd (v := .pointer (some ⟨g, 0, none⟩)) rfl (rd_load (j := 0) Tryd.isAgg56 rfl rfl) ?_
  refine run_rd (v := .bool false) rfl (rd_ptrnil Tryd.underlying56 (.inl ⟨rfl, rfl⟩)) ?_
  refine run_endops ?_
  refine run_false rfl rfl ?_
  refine run_seq rfl ?_
  refine run_region (todo := [0, 1, 2, 3, 4, 5]) rfl rfl ?_
  refine run_mv rfl ?_
  refine run_mv rfl ?_
  refine run_rd (v := .pointer (some ⟨g, 0, none⟩)) rfl (rd_fieldAddr (o := 0) Tryd.underlying59 rfl Tryd.sizeOf56 rfl rfl) ?_
  refine run_rd (v := .pointer (some ⟨g, 0, none⟩)) rfl (rd_load (j := 0) Tryd.isAgg56 rfl rfl) ?_
  refine run_mv rfl ?_
  refine run_rd (v := .bool false) rfl (rd_ptrself Tryd.underlying56 Tryd.sizeOf59 rfl) ?_
  refine run_endops ?_
  refine run_false rfl rfl ?_
  refine run_skip rfl ?_
  refine run_fall (v := .tuple #[]) (res0 rfl) ?_
  exact ⟨rfl, rfl⟩

theorem wwriteString (p : Option Addr) (hp : p = none ∨ p = some ⟨g, 0, none⟩) (s : ByteArray) (hb : n + s.size ≤ 140737488355328) : FnH Tryd.prog 42 #[.pointer (some ⟨g, 0, none⟩), .string s] w0 (wbld g p A cap n xs ++ F)
    (fun v H' => v = .tuple #[.int .i64 ((s.size : Nat) : Int), .nilIface] ∧ ∃ A' cap', H' = wbld g (some ⟨g, 0, none⟩) A' cap' (n + s.size) (xs ++ Lib.strCells s) ++ F) := by
  have hcc : FnH Tryd.prog 57 #[.pointer (some ⟨g, 0, none⟩)] w0 (wbld g p A cap n xs ++ F) (fun v H' => v = .tuple #[] ∧ H' = wbld g (some ⟨g, 0, none⟩) A cap n xs ++ F) := by
    rcases hp with rfl | rfl
    · exact wcopyCheck_nil
    · exact wcopyCheck_self
  refine fnH_of_run Tryd.func42 rfl rfl ?_
  refine run_seq rfl ?_
  refine run_region (todo := [0, 1]) rfl rfl ?_
  refine run_mv rfl ?_
  refine run_mv rfl ?_
  refine run_endops ?_
  refine run_seq rfl ?_
  refine run_region (todo := [0, 1]) rfl rfl ?_
  refine run_mv rfl ?_
  refine run_callH rfl Tryd.call57 hcc (fun v H' hq => ?_)
  obtain ⟨rfl, rfl⟩ := hq
  refine run_endops ?_
  refine run_seq rfl ?_
  refine run_region (todo := [0, 1, 2, 3, 4, 5, 6, 7, 8, 9]) rfl rfl ?_
  refine run_mv rfl ?_
  refine run_mv rfl ?_
  refine run_mv rfl ?_
  refine run_rd (v := .pointer (some ⟨g, 1, none⟩)) rfl (rd_fieldAddr (o := 1) Tryd.underlying59 rfl Tryd.sizeOf57 rfl rfl) ?_
  refine run_rd (v := .slice A n cap) rfl (rd_load (j := 0) Tryd.isAgg57 rfl rfl) ?_
  refine run_mv rfl ?_
  refine run_appendStr (j := 1) (ti := Tryd.t5) rfl Tryd.underlying57 Tryd.underlying9 (by kernel_rfl) rfl rfl rfl rfl hb (fun A' cap' => ?_)
  refine run_mv rfl ?_
  refine run_rd (v := .pointer (some ⟨g, 1, none⟩)) rfl (rd_fieldAddr (o := 1) Tryd.underlying59 rfl Tryd.sizeOf57 rfl rfl) ?_
  refine run_store (j := 0) (c' := #[.pointer (some ⟨g, 0, none⟩), .slice A' (n + s.size) cap']) rfl Tryd.sizeOf57 rfl rfl rfl rfl rfl rfl ?_
  refine run_endops ?_
  refine run_seq rfl ?_
  refine run_region (todo := [0, 1, 2, 3]) rfl rfl ?_
  refine run_mv rfl ?_
  refine run_rd (v := .int .i64 ((s.size : Nat) : Int)) rfl (rd_lenStr Tryd.underlying9 rfl) ?_
  refine run_mv rfl ?_
  refine run_mv rfl ?_
  refine run_endops ?_
  refine run_ret rfl (v := .tuple #[.int .i64 ((s.size : Nat) : Int), .nilIface]) (res2 rfl rfl rfl) ?_
  exact ⟨rfl, A', cap', rfl⟩

theorem wbldString (p : Option Addr) (l : List UInt8) (hl : l ≠ []) : FnH Tryd.prog 26 #[.pointer (some ⟨g, 0, none⟩)] w0 (wbld g p A cap l.length (Lib.strCells (bs l)) ++ F) (fun v H' => v = .string (bs l) ∧ H' = F) := by
  have hn : l.length ≠ 0 := fun h => hl (List.eq_nil_of_length_eq_zero h)
  refine fnH_of_run Tryd.func26 rfl rfl ?_
  refine run_know (fun w h4 => row_some (j := 1) h4 rfl hn) (fun hq => ?_)
  obtain ⟨b, rfl, hnc, hcm⟩ := hq
  refine run_seq rfl ?_
  refine run_region (todo := [0]) rfl rfl ?_
  refine run_mv rfl ?_
  refine run_endops ?_
  refine run_seq rfl ?_
  refine run_par' rfl (by kernel_rfl) [.val [] (fun _ => .pointer (some ⟨g, 0, none⟩)), .val [] (fun _ => .pointer (some ⟨g, 0, none⟩)), .val [] (fun _ => .pointer (some ⟨g, 1, none⟩)), .val [] (fun _ => .slice (some ⟨b, 0, none⟩) l.length cap), .val [] (fun _ => .pointer (some ⟨b, 0, none⟩)), .val [] (fun _ => .pointer (some ⟨g, 0, none⟩)), .val [] (fun _ => .pointer (some ⟨g, 0, none⟩)), .val [] (fun _ => .pointer (some ⟨g, 1, none⟩)), .val [] (fun _ => .slice (some ⟨b, 0, none⟩) l.length cap), .val [] (fun _ => .int .i64 ((l.length : Nat) : Int))]
    [⟨[], [], []⟩, ⟨[0], [], []⟩, ⟨[1], [], []⟩, ⟨[2], [], []⟩, ⟨[3], [], []⟩, ⟨[], [], []⟩, ⟨[5], [], []⟩, ⟨[6], [], []⟩, ⟨[7], [], []⟩, ⟨[8], [], []⟩] [(0, .pointer (some ⟨g, 0, none⟩))] (by kernel_rfl) (by kernel_rfl) ⟨rfl, trivial⟩ ⟨trivial, trivial, trivial, trivial, trivial, trivial, trivial, trivial, trivial, trivial, trivial⟩ ?_ (fun V hs hq => ?_)
  · refine ⟨fun V hs hB => ob_mv rfl rfl, ?_⟩
    refine ⟨fun V hs hB => ob_mv rfl rfl, ?_⟩
    refine ⟨fun V hs hB => ob_rd rfl rfl (rd_fieldAddr (o := 1) Tryd.underlying59 rfl Tryd.sizeOf57 rfl rfl), ?_⟩
    refine ⟨fun V hs hB => ob_rd rfl rfl (rd_load (j := 0) Tryd.isAgg57 rfl rfl), ?_⟩
    refine ⟨fun V hs hB => ob_rd rfl rfl (rd_data (by omega)), ?_⟩
    refine ⟨fun V hs hB => ob_mv rfl rfl, ?_⟩
    refine ⟨fun V hs hB => ob_mv rfl rfl, ?_⟩
    refine ⟨fun V hs hB => ob_rd rfl rfl (rd_fieldAddr (o := 1) Tryd.underlying59 rfl Tryd.sizeOf57 rfl rfl), ?_⟩
    refine ⟨fun V hs hB => ob_rd rfl rfl (rd_load (j := 0) Tryd.isAgg57 rfl rfl), ?_⟩
    refine ⟨fun V hs hB => ob_rd rfl rfl (rd_len Tryd.underlying57), ?_⟩
    trivial
  rw [show relsOf _ = [] from by kernel_rfl]
  refine any_one (i := 10) (by kernel_rfl) ?_
  refine ro_val (dst := some 13) rfl (fun w h4 => ⟨.string (bs l), w.freeze ⟨b, 0, none⟩ l.length, _, vN_run ?_, sat_freeze (j := 1) (e := 5) h4 rfl rfl, ?_⟩)
  · obtain ⟨hw1, hw2⟩ := h4.mem 1 _ rfl
    rcases hw2 with ⟨_, h0⟩ | ⟨b', cap', cur, hv, _, hg, hc, hm, hcs, ht⟩
    · exact absurd h0 hn
    · obtain ⟨hb, _, rfl⟩ := Value.slice.inj hv
      obtain rfl : b = b' := by simpa using hb
      refine Lib.run_unsafeString_row w 94 3 9 5 Tryd.underlying94 (by kernel_rfl) b cur.size (by simp [World.shape?, hg]) l hl (by rw [hcs]; omega) (by unfold maxLen at hcm; omega) ?_
      intro j x hx
      have hrow := World.ownsRow.cells (w := w) (h4.mem 1 _ rfl) (g := b) rfl j (.int .u8 x.toNat) (by simp [Lib.strCells, bs, hx])
      exact hrow
  refine any_one (i := 11) (by kernel_rfl) ?_
  refine ro_mv rfl ?_
  refine any_end (by kernel_rfl) ?_
  refine run_less (ρ' := [(2, .string (bs l))]) (H' := F) ((List.range F.length).map (· + 2)) ?_ ⟨rfl, trivial⟩ ?_ ?_
  · refine run_ret rfl (v := .string (bs l)) (res1 rfl rfl) ?_
    exact ⟨rfl, rfl⟩
  · exact hpsub_drop2 _ _ F
  · exact (List.pairwise_map.2 (List.nodup_range.imp fun hne e => hne (by omega)))

theorem wwriteL (p : Option Addr) (hp : p = none ∨ p = some ⟨g, 0, none⟩) (l m : List UInt8) (hb : l.length + m.length ≤ 140737488355328) : FnH Tryd.prog 42 #[.pointer (some ⟨g, 0, none⟩), .string (bs m)] w0 (wbld g p A cap l.length (Lib.strCells (bs l)) ++ F)
    (fun v H' => v = .tuple #[.int .i64 ((m.length : Nat) : Int), .nilIface] ∧ ∃ A' cap', H' = wbld g (some ⟨g, 0, none⟩) A' cap' (l ++ m).length (Lib.strCells (bs (l ++ m))) ++ F) := by
  have := wwriteString (w0 := w0) (F := F) (g := g) (cap := cap) (A := A) (n := l.length) (xs := Lib.strCells (bs l)) p hp (bs m) hb
  rw [strCells_cat, bs_size, ← List.length_append] at this
  exact this
end
end Go.Proofs.YthapghhmeicbnaaDoor
