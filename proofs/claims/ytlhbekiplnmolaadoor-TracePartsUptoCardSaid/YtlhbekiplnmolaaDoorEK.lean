/- strings.Builder as a variable and a row of bytes: copyCheck and String, by hand. -/
import Derived.Test.YtlhbekiplnmolaaDoorEJ
import Derived.Lib.AppendStr
import Derived.Lib.UnsafeStr
import Derived.Shelf.Strings.Builder1
set_option linter.unusedVariables false
set_option linter.unusedSimpArgs false
set_option linter.unusedVariables false
namespace Go.Proofs.YtlhbekiplnmolaaDoor
open Go.Shelf Go.RowKit

theorem equalIn_ptr {P : Program} (D : Nat) {t e : TypeId} (ht : P.underlying t = some (.pointer e)) (p : Option Addr) (w : World) : (Op.equalIn (D + 1) t (.pointer p) (.pointer none)).run P w = .ok p.isNone w := by
  cases p <;> simp [Op.equalIn, run_underlying ht]
theorem equalIn_self {P : Program} (D : Nat) {t e : TypeId} {n : Nat} (ht : P.underlying t = some (.pointer e)) (hn : ∀ w, (sizeOf e).run P w = .ok n w) (h0 : n ≠ 0) (a : Addr) (w : World) : (Op.equalIn (D + 1) t (.pointer (some a)) (.pointer (some a))).run P w = .ok true w := by
  simp [Op.equalIn, run_underlying ht, hn, h0, sameAddr]
theorem equal_ptr {P : Program} {t e : TypeId} (ht : P.underlying t = some (.pointer e)) (p : Option Addr) (w : World) : (Op.equal t (.pointer p) (.pointer none)).run P w = .ok p.isNone w :=
  equalIn_ptr 9999 ht p w
theorem equal_self {P : Program} {t e : TypeId} {n : Nat} (ht : P.underlying t = some (.pointer e)) (hn : ∀ w, (sizeOf e).run P w = .ok n w) (h0 : n ≠ 0) (a : Addr) (w : World) : (Op.equal t (.pointer (some a)) (.pointer (some a))).run P w = .ok true w :=
  equalIn_self 9999 ht hn h0 a w

set_option maxHeartbeats 1000000 in
set_option maxRecDepth 100000 in
theorem copyCheck_used (g : Nat) (w : World) (h0 : w.cell? ⟨g, 0, none⟩ = some (.pointer (some ⟨g, 0, none⟩))) :
    Calls Tryd.prog 35 #[.pointer (some ⟨g, 0, none⟩)] w fun e w' => e = .returned (.tuple #[]) ∧ w' = w := by
  go_enter Tryd.func35, Tryd.ntmps35
  have e1 := equal_ptr (P := Tryd.prog) Tryd.underlying51 (some ⟨g, 0, none⟩) w
  have e2 := equal_self (P := Tryd.prog) Tryd.underlying51 Tryd.sizeOf54 (by decide) ⟨g, 0, none⟩ w
  have e3 : (binOp .neq 51 (.pointer (some ⟨g, 0, none⟩)) (.pointer (some ⟨g, 0, none⟩))).run Tryd.prog w = .ok (.bool false) w := by simp [binOp, e2]
  go_wp2
  go_end0
  exact ⟨rfl, rfl⟩
set_option maxHeartbeats 1000000 in
set_option maxRecDepth 100000 in
theorem copyCheck_fresh (g : Nat) (w : World) (h0 : w.cell? ⟨g, 0, none⟩ = some (.pointer none)) (hsh : w.shape? g = some (54, 2)) (hfz : w.frozen? ⟨g, 0, none⟩ = false) :
    Calls Tryd.prog 35 #[.pointer (some ⟨g, 0, none⟩)] w fun e w' => e = .returned (.tuple #[]) ∧ w' = w.setCell ⟨g, 0, none⟩ (.pointer (some ⟨g, 0, none⟩)) := by
  go_enter Tryd.func35, Tryd.ntmps35
  have e1 := equal_ptr (P := Tryd.prog) Tryd.underlying51 none w
  have hj : Tryd.prog.info? 54 = some Tryd.t54 := by kernel_rfl
  go_wp2
  rw [Lib.run_to_unsafe w ⟨g, 0, none⟩ Tryd.underlying51 Tryd.underlying79 hj (by decide) hsh (Nat.zero_lt_succ 1)]
  simp only [Result.andThen]
  rw [Oper.upon_value]
  go_wp2
  have hne : (callFunc 43 #[.pointer (some ⟨g, 0, none⟩)]).run Tryd.prog w = .ok (.value (.pointer (some ⟨g, 0, none⟩))) w := by kernel_rfl
  rw [hne]
  rw [Oper.upon_value]
  go_wp2
  rw [Lib.run_from_unsafe w ⟨g, 0, none⟩ Tryd.underlying79 Tryd.underlying51 hj hsh (by kernel_rfl)]
  simp only [Result.andThen]
  rw [Oper.upon_value]
  go_wp2
  go_end0
  exact ⟨rfl, rfl⟩

set_option maxHeartbeats 1000000 in
set_option maxRecDepth 100000 in
theorem bldString_row (g g1 cap : Nat) (p : Value) (cur : Array Value) (l : Str) (w : World) (hbk : w.heap[g]? = some (.cells #[p, .slice (some ⟨g1, 0, none⟩) l.length cap] 54 (0, 0))) (h0 : l ≠ []) (hg : w.heap[g1]? = some (.cells cur 5 (0, 0))) (hnc : l.length ≤ cap) (hcm : cap ≤ maxLen) (hcs : cur.size = cap) (ht : cur.toList.take l.length = Lib.byteCells l) :
    Calls Tryd.prog 26 #[.pointer (some ⟨g, 0, none⟩)] w fun e w' => e = .returned (.string (bs l)) ∧ w' = w.drew.freeze ⟨g1, 0, none⟩ l.length := by
  have hl0 : l.length ≠ 0 := by simpa using h0
  have c1 : w.drew.cell? ⟨g, 1, none⟩ = some (.slice (some ⟨g1, 0, none⟩) l.length cap) := by
    have : w.drew.heap[g]? = some (.cells #[p, .slice (some ⟨g1, 0, none⟩) l.length cap] 54 (0, 0)) := hbk
    rw [Lib.cell_of_heap this]; rfl
  have hSD : (Builtin.unsafeSliceData_ #[52] 74 #[.slice (some ⟨g1, 0, none⟩) l.length cap]).run Tryd.prog w.drew = .ok (.pointer (some ⟨g1, 0, none⟩)) w.drew :=
    Lib.run_unsafeSliceData_row _ _ _ _ _ _ (by omega)
  have hUS : (Builtin.unsafeString_ #[74, 3] 9 #[.pointer (some ⟨g1, 0, none⟩), .int .i64 l.length]).run Tryd.prog w.drew = .ok (.string (bs l)) (w.drew.freeze ⟨g1, 0, none⟩ l.length) := by
    refine Lib.run_unsafeString_row w.drew 74 3 9 5 Tryd.underlying74 (by kernel_rfl) g1 cur.size (by have hg' : w.drew.heap[g1]? = some (.cells cur 5 (0, 0)) := hg; simp [World.shape?, hg']) l h0 (by omega) (by unfold maxLen at hcm; omega) ?_
    intro j x hx
    have hg' : w.drew.heap[g1]? = some (.cells cur 5 (0, 0)) := hg
    have hj := (List.getElem?_eq_some_iff.1 hx).1
    have e2 : (Lib.byteCells l)[j]? = some (.int .u8 x.toNat) := by simp [Lib.byteCells, hx]
    rw [← ht, List.getElem?_take_of_lt hj] at e2
    rw [addz, Nat.zero_add]
    simp [World.cell?, hg']
    simpa using e2
  clear hl0
  have mixed : Tryd.prog.follows Departure.mixedOrders = true := by kernel_rfl
  go_enter Tryd.func26, Tryd.ntmps26
  go_wp2
  go_region_o
  all_goals (go_wp2; go_ret; exact ⟨rfl, rfl⟩)
set_option maxHeartbeats 1000000 in
set_option maxRecDepth 100000 in
theorem bldString_nil (g : Nat) (p : Value) (w : World) (hbk : w.heap[g]? = some (.cells #[p, .slice none 0 0] 54 (0, 0))) :
    Calls Tryd.prog 26 #[.pointer (some ⟨g, 0, none⟩)] w fun e w' => e = .returned (.string (bs [])) ∧ w' = w.drew := by
  have hUS : (Builtin.unsafeString_ #[74, 3] 9 #[.pointer none, .int .i64 0]).run Tryd.prog w.drew = .ok (.string (bs [])) w.drew := Lib.run_unsafeString_none _ _ _ _ _
  have c1 : w.drew.cell? ⟨g, 1, none⟩ = some (.slice none 0 0) := by
    have : w.drew.heap[g]? = some (.cells #[p, .slice none 0 0] 54 (0, 0)) := hbk
    rw [Lib.cell_of_heap this]; rfl
  have hSD : (Builtin.unsafeSliceData_ #[52] 74 #[.slice none 0 0]).run Tryd.prog w.drew = .ok (.pointer none) w.drew := rfl
  have mixed : Tryd.prog.follows Departure.mixedOrders = true := by kernel_rfl
  go_enter Tryd.func26, Tryd.ntmps26
  go_wp2
  go_region_o
  all_goals (go_wp2; go_ret; exact ⟨rfl, rfl⟩)
set_option maxHeartbeats 1000000 in
set_option maxRecDepth 100000 in
theorem bldString_room (g g1 cap : Nat) (p : Value) (w : World) (hc0 : cap ≠ 0) (hbk : w.heap[g]? = some (.cells #[p, .slice (some ⟨g1, 0, none⟩) 0 cap] 54 (0, 0))) :
    Calls Tryd.prog 26 #[.pointer (some ⟨g, 0, none⟩)] w fun e w' => e = .returned (.string (bs [])) ∧ w' = w.drew := by
  have hUS : (Builtin.unsafeString_ #[74, 3] 9 #[.pointer (some ⟨g1, 0, none⟩), .int .i64 0]).run Tryd.prog w.drew = .ok (.string (bs [])) w.drew := Lib.run_unsafeString_none _ _ _ _ _
  have c1 : w.drew.cell? ⟨g, 1, none⟩ = some (.slice (some ⟨g1, 0, none⟩) 0 cap) := by
    have : w.drew.heap[g]? = some (.cells #[p, .slice (some ⟨g1, 0, none⟩) 0 cap] 54 (0, 0)) := hbk
    rw [Lib.cell_of_heap this]; rfl
  have hSD : (Builtin.unsafeSliceData_ #[52] 74 #[.slice (some ⟨g1, 0, none⟩) 0 cap]).run Tryd.prog w.drew = .ok (.pointer (some ⟨g1, 0, none⟩)) w.drew :=
    Lib.run_unsafeSliceData_row _ _ _ _ _ _ hc0
  clear hc0
  have mixed : Tryd.prog.follows Departure.mixedOrders = true := by kernel_rfl
  go_enter Tryd.func26, Tryd.ntmps26
  go_wp2
  go_region_o
  all_goals (go_wp2; go_ret; exact ⟨rfl, rfl⟩)
set_option maxHeartbeats 1000000 in
set_option maxRecDepth 100000 in
theorem bldString_noroom (g g1 : Nat) (p : Value) (cur : Array Value) (w : World) (hbk : w.heap[g]? = some (.cells #[p, .slice (some ⟨g1, 0, none⟩) 0 0] 54 (0, 0))) (hg : w.heap[g1]? = some (.cells cur 5 (0, 0))) :
    Calls Tryd.prog 26 #[.pointer (some ⟨g, 0, none⟩)] w fun e w' => e = .returned (.string (bs [])) ∧ w' = w.drew.alloc (.view ⟨g1, 0, none⟩ 5) := by
  have hlt : g < w.heap.size := (Array.getElem?_eq_some_iff.1 hbk).1
  have hUS : ∀ p W, (Builtin.unsafeString_ #[74, 3] 9 #[.pointer p, .int .i64 0]).run Tryd.prog W = .ok (.string (bs [])) W := fun p W => Lib.run_unsafeString_none _ _ _ _ _
  have c1 : w.drew.cell? ⟨g, 1, none⟩ = some (.slice (some ⟨g1, 0, none⟩) 0 0) := by
    have : w.drew.heap[g]? = some (.cells #[p, .slice (some ⟨g1, 0, none⟩) 0 0] 54 (0, 0)) := hbk
    rw [Lib.cell_of_heap this]; rfl
  have hSD : (Builtin.unsafeSliceData_ #[52] 74 #[.slice (some ⟨g1, 0, none⟩) 0 0]).run Tryd.prog w.drew = .ok (.pointer (some ⟨w.drew.heap.size, 0, none⟩)) (w.drew.alloc (.view ⟨g1, 0, none⟩ 5)) :=
    Lib.run_unsafeSliceData_zero w.drew _ _ 5 Tryd.underlying74 ⟨g1, 0, none⟩ 0 (5, cur.size) (by have hg' : w.drew.heap[g1]? = some (.cells cur 5 (0, 0)) := hg; simp [World.shape?, hg'])
  have c2 : (w.drew.alloc (.view ⟨g1, 0, none⟩ 5)).cell? ⟨g, 1, none⟩ = some (.slice (some ⟨g1, 0, none⟩) 0 0) := by
    have : (w.drew.alloc (.view ⟨g1, 0, none⟩ 5)).heap[g]? = _ := (Lib.alloc_old w.drew _ g hlt).trans hbk
    rw [Lib.cell_of_heap this]; rfl
  have c3 : (w.alloc (.view ⟨g1, 0, none⟩ 5)).drew.cell? ⟨g, 1, none⟩ = some (.slice (some ⟨g1, 0, none⟩) 0 0) := c2
  have c0 : w.cell? ⟨g, 1, none⟩ = some (.slice (some ⟨g1, 0, none⟩) 0 0) := c1
  have mixed : Tryd.prog.follows Departure.mixedOrders = true := by kernel_rfl
  go_enter Tryd.func26, Tryd.ntmps26
  go_wp2
  go_region_o
  all_goals (go_wp2; go_ret; exact ⟨rfl, rfl⟩)
end Go.Proofs.YtlhbekiplnmolaaDoor
