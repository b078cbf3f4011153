/- Tests that have been decided. -/
import Derived.Test.YthapghhmeicbnaaDoorKE
import Derived.Test.YthapghhmeicbnaaDoorKB
set_option linter.unusedVariables false
set_option linter.unusedSimpArgs false
namespace Go.Proofs.YthapghhmeicbnaaDoor
open Go.RowKit

section
variable {w0 : World} {H : Hp} {x y : Operand} {r : Bool}
theorem rd_bseqD {t : TypeId} {a b : List UInt8} {r : Bool} (h : decide (a = b) = r) : Rdo Tryd.prog w0 H (eqN .eql t x y (.string (bs a)) (.string (bs b))) (.bool r) := h ▸ rd_bseq
theorem rd_bsne {t : TypeId} {a b : List UInt8} : Rdo Tryd.prog w0 H (eqN .neq t x y (.string (bs a)) (.string (bs b))) (.bool (decide (a ≠ b))) := rd_strne (by rw [bs_toList, bs_toList, Bool.eq_iff_iff]; simp)
theorem rd_bsneD {t : TypeId} {a b : List UInt8} {r : Bool} (h : decide (a ≠ b) = r) : Rdo Tryd.prog w0 H (eqN .neq t x y (.string (bs a)) (.string (bs b))) (.bool r) := h ▸ rd_bsne
theorem rd_ent_eqlD {e f : Ent} (he : e.Ok) (hf : f.Ok) (h : decide (e = f) = r) : Rdo Tryd.prog w0 H (eqN .eql 30 x y (.agg e.arr) (.agg f.arr)) (.bool r) := h ▸ rd_ent_eql he hf
theorem rd_ent_neqD {e f : Ent} (he : e.Ok) (hf : f.Ok) (h : decide (e ≠ f) = r) : Rdo Tryd.prog w0 H (eqN .neq 30 x y (.agg e.arr) (.agg f.arr)) (.bool r) := h ▸ rd_ent_neq he hf
theorem rd_fr_eqlD {e f : Fr} (he : e.Ok) (hf : f.Ok) (h : decide (e = f) = r) : Rdo Tryd.prog w0 H (eqN .eql 33 x y (.agg e.arr) (.agg f.arr)) (.bool r) := h ▸ rd_fr_eql he hf
theorem rd_fr_neqD {e f : Fr} (he : e.Ok) (hf : f.Ok) (h : decide (e ≠ f) = r) : Rdo Tryd.prog w0 H (eqN .neq 33 x y (.agg e.arr) (.agg f.arr)) (.bool r) := h ▸ rd_fr_neq he hf
theorem ne_self {α : Type} [DecidableEq α] (a : α) : decide (a ≠ a) = false := by simp
end
theorem may_of {b : Bool} (h : (okCode b == 0) = true) : b = true := by cases b <;> simp_all [okCode]
theorem no_of {b : Bool} (h : (okCode b == 0) = false) : b = false := by cases b <;> simp_all [okCode]
end Go.Proofs.YthapghhmeicbnaaDoor
