/- Entries and frames: the contracts of layer 3 as callees that only compute; frames as values. Printed in part by wip/k/genE.py. -/
import Derived.Test.YtmiinihbbpoicaaDoorK9
import Derived.Test.YtmiinihbbpoicaaDoorW03g
import Derived.Test.YtmiinihbbpoicaaDoorPlainF
set_option linter.unusedVariables false
set_option linter.unusedSimpArgs false
namespace Go.Proofs.YtmiinihbbpoicaaDoor
open Go.RowKit

theorem pf_check (e : Ent) (he : e.Ok) : Pf Tryd.prog 11 #[e.val] (.int .i64 (okCode e.may)) := pf_of_below fun w => check_any e he w
theorem pf_encode (e : Ent) (he : e.Ok) : Pf Tryd.prog 8 #[e.val] (.tuple #[.string (bs e.enc), .int .i64 (okCode e.may)]) := pf_of_below fun w => encode_any e he w
def sE (l : List UInt8) (i : Nat) : Ent := outE ((l.drop (28 * i)).take 28)
def sC (l : List UInt8) (i : Nat) : Int := outC ((l.drop (28 * i)).take 28)
theorem pf_decode (l : List UInt8) : Pf Tryd.prog 15 #[.string (bs l)] (.tuple #[(outE l).val, .int .i64 (outC l)]) := pf_of_below fun w => decode_any (bs l) w
theorem pf_decodeS (l : List UInt8) (i : Nat) (x : List UInt8) (hx : x = (l.drop (28 * i)).take 28) : Pf Tryd.prog 15 #[.string (bs x)] (.tuple #[(sE l i).val, .int .i64 (sC l i)]) := by
  subst hx; exact pf_decode _
theorem pf_rmay (e : Ent) (he : e.Ok) : Pf Tryd.prog 20 #[e.val] (.bool e.may) := pf_of_below fun w => rmay_any e he w
theorem pf_rbytes (e : Ent) (he : e.Ok) (hm : e.may = true) : Pf Tryd.prog 14 #[e.val] (.string (bs e.bytes)) := pf_of_below fun w => rbytes_ent e he hm w
theorem pf_rdecodeS (l : List UInt8) (i : Nat) (x : List UInt8) (hx : x = (l.drop (28 * i)).take 28) : Pf Tryd.prog 16 #[.string (bs x)] (.tuple #[(sE l i).val, .int .i64 (sC l i)]) := by
  subst hx; exact pf_of_below fun w => rdecode_any (bs _) w

theorem enc_le (e : Ent) : e.enc.length ≤ 28 := by
  unfold Ent.enc
  split
  · rename_i h; rw [Ent.may_length h]; exact Nat.le_refl _
  · exact Nat.zero_le _
theorem bs_pre {l : List UInt8} {a n : Nat} : (bs (l.drop a)).extract 0 n = bs ((l.drop a).take n) := by rw [bs_extract, List.drop_zero, Nat.sub_zero]
theorem bs_suf {l : List UInt8} {a b n m : Nat} (hn : n = l.length - a) (hm : m = a + b) : (bs (l.drop a)).extract b n = bs (l.drop m) := by
  subst hn hm
  rw [bs_extract, List.drop_drop, List.take_of_length_le (by simp; omega)]
theorem bs_mid {l : List UInt8} {a b : Nat} : (bs l).extract a b = bs ((l.drop a).take (b - a)) := bs_extract _ _ _

theorem code_bad {b : Bool} (h : (okCode b != 0) = true) : b = false := by cases b <;> simp_all [okCode]
theorem code_good {b : Bool} (h : (okCode b != 0) = false) : b = true := by cases b <;> simp_all [okCode]
theorem outC_cases (l : List UInt8) : outC l = 0 ∨ outC l = 30 := by unfold outC; split <;> simp
theorem sc_bad {l : List UInt8} {i : Nat} (h : (sC l i != 0) = true) : sC l i = 30 := by
  have := outC_cases ((l.drop (28 * i)).take 28)
  simp only [sC, bne_iff_ne] at h ⊢
  omega
theorem sc_good {l : List UInt8} {i : Nat} (h : (sC l i != 0) = false) : sC l i = 0 := by simpa using h

section
variable {w0 : World} {H : Hp} {x y : Operand}
theorem rd_cat {t : TypeId} {l m r : List UInt8} (h : l.length + m.length ≤ 9223372036854775807) (hr : l ++ m = r) : Rdo Tryd.prog w0 H (eqN .add t x y (.string (bs l)) (.string (bs m))) (.string (bs r)) := by
  subst hr
  have := rd_strcat (P := Tryd.prog) (w0 := w0) (H := H) (t := t) (x := x) (y := y) (a := bs l) (b := bs m) (by rw [bs_size, bs_size]; exact h)
  rwa [bs_append] at this
theorem rd_same {t : TypeId} {a : ByteArray} : Rdo Tryd.prog w0 H (eqN .eql t x y (.string a) (.string a)) (.bool true) := rd_streq (by simp)
theorem rd_bseq {t : TypeId} {a b : List UInt8} : Rdo Tryd.prog w0 H (eqN .eql t x y (.string (bs a)) (.string (bs b))) (.bool (decide (a = b))) := rd_streq (by rw [bs_toList, bs_toList, Bool.eq_iff_iff]; simp)
end

theorem strCells_cat (l m : List UInt8) : Lib.strCells (bs l) ++ Lib.strCells (bs m) = Lib.strCells (bs (l ++ m)) := by simp [Lib.strCells, bs]
theorem writeL {w0 : World} {F : Hp} {g cap : Nat} {A : Option Addr} (p : Option Addr) (hp : p = none ∨ p = some ⟨g, 0, none⟩) (l m : List UInt8) (hb : l.length + m.length ≤ 140737488355328) : FnH Tryd.prog 33 #[.pointer (some ⟨g, 0, none⟩), .string (bs m)] w0 (bld g p A cap l.length (Lib.strCells (bs l)) ++ F)
    (fun v H' => v = .tuple #[.int .i64 ((m.length : Nat) : Int), .nilIface] ∧ ∃ A' cap', H' = bld g (some ⟨g, 0, none⟩) A' cap' (l ++ m).length (Lib.strCells (bs (l ++ m))) ++ F) := by
  have := writeString (w0 := w0) (F := F) (g := g) (cap := cap) (A := A) (n := l.length) (xs := Lib.strCells (bs l)) p hp (bs m) hb
  rw [strCells_cat, bs_size, ← List.length_append] at this
  exact this

end Go.Proofs.YtmiinihbbpoicaaDoor
