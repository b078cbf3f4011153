/- Entries and frames: the contracts of layer 3 as callees that only compute; frames as values. Printed in part by wip/k/genE.py. -/
import Derived.Test.YthapghhmeicbnaaDoorK9
import Derived.Test.YthapghhmeicbnaaDoorW03g
import Derived.Test.YthapghhmeicbnaaDoorPlainF
set_option linter.unusedVariables false
set_option linter.unusedSimpArgs false
namespace Go.Proofs.YthapghhmeicbnaaDoor
open Go.RowKit

theorem pf_check (e : Ent) (he : e.Ok) : Pf Tryd.prog 50 #[e.val] (.int .i64 (okCode e.may)) := pf_of_below fun w => check_any e he w
theorem pf_encode (e : Ent) (he : e.Ok) : Pf Tryd.prog 59 #[e.val] (.tuple #[.string (bs e.enc), .int .i64 (okCode e.may)]) := pf_of_below fun w => encode_any e he w
def sE (l : List UInt8) (i : Nat) : Ent := outE ((l.drop (28 * i)).take 28)
def sC (l : List UInt8) (i : Nat) : Int := outC ((l.drop (28 * i)).take 28)
theorem pf_decode (l : List UInt8) : Pf Tryd.prog 64 #[.string (bs l)] (.tuple #[(outE l).val, .int .i64 (outC l)]) := pf_of_below fun w => decode_any (bs l) w
theorem pf_decodeS (l : List UInt8) (i : Nat) (x : List UInt8) (hx : x = (l.drop (28 * i)).take 28) : Pf Tryd.prog 64 #[.string (bs x)] (.tuple #[(sE l i).val, .int .i64 (sC l i)]) := by
  subst hx; exact pf_decode _
theorem pf_rmay (e : Ent) (he : e.Ok) : Pf Tryd.prog 51 #[e.val] (.bool e.may) := pf_of_below fun w => rmay_any e he w
theorem pf_rbytes (e : Ent) (he : e.Ok) (hm : e.may = true) : Pf Tryd.prog 61 #[e.val] (.string (bs e.bytes)) := pf_of_below fun w => rbytes_ent e he hm w
theorem pf_rdecodeS (l : List UInt8) (i : Nat) (x : List UInt8) (hx : x = (l.drop (28 * i)).take 28) : Pf Tryd.prog 55 #[.string (bs x)] (.tuple #[(sE l i).val, .int .i64 (sC l i)]) := by
  subst hx; exact pf_of_below fun w => rdecode_any (bs _) w

theorem enc_le (e : Ent) : e.enc.length ≤ 28 := by
  unfold Ent.enc
  split
  · rename_i h; rw [Ent.may_length h]; exact Nat.le_refl _
  · exact Nat.zero_le _
theorem bs_pre {l : List UInt8} {a n : Nat} : (bs (l.drop a)).extract 0 n = bs ((l.drop a).take n) := by rw [bs_extract, List.drop_zero, Nat.sub_zero]
theorem bs_suf {l : List UInt8} {a b n m : Nat} (hn : n = l.length - a) (hm : m = a + b) : (bs (l.drop a)).extract b n = bs (l.drop m) := by
  subst hn hm
  rw [bs_extract, List.drop_drop, List.take_of_length_le (by simp; omega)]
theorem bs_mid {l : List UInt8} {a b : Nat} : (bs l).extract a b = bs ((l.drop a).take (b - a)) := bs_extract _ _ _

theorem code_bad {b : Bool} (h : (okCode b != 0) = true) : b = false := by cases b <;> simp_all [okCode]
theorem code_good {b : Bool} (h : (okCode b != 0) = false) : b = true := by cases b <;> simp_all [okCode]
theorem outC_cases (l : List UInt8) : outC l = 0 ∨ outC l = 30 := by unfold outC; split <;> simp
theorem sc_bad {l : List UInt8} {i : Nat} (h : (sC l i != 0) = true) : sC l i = 30 := by
  have := outC_cases ((l.drop (28 * i)).take 28)
  simp only [sC, bne_iff_ne] at h ⊢
  omega
theorem sc_good {l : List UInt8} {i : Nat} (h : (sC l i != 0) = false) : sC l i = 0 := by simpa using h

section
variable {w0 : World} {H : Hp} {x y : Operand}
theorem rd_cat {t : TypeId} {l m r : List UInt8} (h : l.length + m.length ≤ 9223372036854775807) (hr : l ++ m = r) : Rdo Tryd.prog w0 H (eqN .add t x y (.string (bs l)) (.string (bs m))) (.string (bs r)) := by
  subst hr
  have := rd_strcat (P := Tryd.prog) (w0 := w0) (H := H) (t := t) (x := x) (y := y) (a := bs l) (b := bs m) (by rw [bs_size, bs_size]; exact h)
  rwa [bs_append] at this
theorem rd_same {t : TypeId} {a : ByteArray} : Rdo Tryd.prog w0 H (eqN .eql t x y (.string a) (.string a)) (.bool true) := rd_streq (by simp)
theorem rd_bseq {t : TypeId} {a b : List UInt8} : Rdo Tryd.prog w0 H (eqN .eql t x y (.string (bs a)) (.string (bs b))) (.bool (decide (a = b))) := rd_streq (by rw [bs_toList, bs_toList, Bool.eq_iff_iff]; simp)
end

theorem strCells_cat (l m : List UInt8) : Lib.strCells (bs l) ++ Lib.strCells (bs m) = Lib.strCells (bs (l ++ m)) := by simp [Lib.strCells, bs]
theorem writeL {w0 : World} {F : Hp} {g cap : Nat} {A : Option Addr} (p : Option Addr) (hp : p = none ∨ p = some ⟨g, 0, none⟩) (l m : List UInt8) (hb : l.length + m.length ≤ 140737488355328) : FnH Tryd.prog 42 #[.pointer (some ⟨g, 0, none⟩), .string (bs m)] w0 (bld g p A cap l.length (Lib.strCells (bs l)) ++ F)
    (fun v H' => v = .tuple #[.int .i64 ((m.length : Nat) : Int), .nilIface] ∧ ∃ A' cap', H' = bld g (some ⟨g, 0, none⟩) A' cap' (l ++ m).length (Lib.strCells (bs (l ++ m))) ++ F) := by
  have := writeString (w0 := w0) (F := F) (g := g) (cap := cap) (A := A) (n := l.length) (xs := Lib.strCells (bs l)) p hp (bs m) hb
  rw [strCells_cat, bs_size, ← List.length_append] at this
  exact this

structure Fr.Ok (f : Fr) : Prop where
  a0 : f.a0.Ok
  a1 : f.a1.Ok
  b0 : f.b0.Ok
  b1 : f.b1.Ok
  c0 : f.c0.Ok
  c1 : f.c1.Ok
def Fr.arr (f : Fr) : Array Value := #[.int .i64 f.a0.kind, .int .i64 f.a0.service, .int .i64 f.a0.group, .int .u64 f.a0.session, .int .u64 f.a0.number, .string f.a0.text, .int .i64 f.a1.kind, .int .i64 f.a1.service, .int .i64 f.a1.group, .int .u64 f.a1.session, .int .u64 f.a1.number, .string f.a1.text, .int .i64 f.b0.kind, .int .i64 f.b0.service, .int .i64 f.b0.group, .int .u64 f.b0.session, .int .u64 f.b0.number, .string f.b0.text, .int .i64 f.b1.kind, .int .i64 f.b1.service, .int .i64 f.b1.group, .int .u64 f.b1.session, .int .u64 f.b1.number, .string f.b1.text, .int .i64 f.c0.kind, .int .i64 f.c0.service, .int .i64 f.c0.group, .int .u64 f.c0.session, .int .u64 f.c0.number, .string f.c0.text, .int .i64 f.c1.kind, .int .i64 f.c1.service, .int .i64 f.c1.group, .int .u64 f.c1.session, .int .u64 f.c1.number, .string f.c1.text]
def Fr.val (f : Fr) : Value := .agg f.arr
theorem fr_zero_ok : Fr.zero.Ok := ⟨zero_ok', zero_ok', zero_ok', zero_ok', zero_ok', zero_ok'⟩
def Fr.lits (f : Fr) : List Lit := f.a0.lits ++ f.a1.lits ++ f.b0.lits ++ f.b1.lits ++ f.c0.lits ++ f.c1.lits
def frKinds : List Lk := entKinds ++ entKinds ++ entKinds ++ entKinds ++ entKinds ++ entKinds
theorem lits6 {e : Ent} : e.lits.length = 6 := rfl
theorem Fr.lits_inj {f h : Fr} : f.lits = h.lits ↔ f = h := by
  constructor
  · intro e
    unfold Fr.lits at e
    have s : ∀ {a b c d : List Lit}, a ++ b = c ++ d → b.length = d.length → a = c ∧ b = d := fun h hl => List.append_inj' h hl
    obtain ⟨e, h5⟩ := s e rfl
    obtain ⟨e, h4⟩ := s e rfl
    obtain ⟨e, h3⟩ := s e rfl
    obtain ⟨e, h2⟩ := s e rfl
    obtain ⟨h0, h1⟩ := s e rfl
    obtain ⟨a0, a1, b0, b1, c0, c1⟩ := f
    obtain ⟨a0', a1', b0', b1', c0', c1'⟩ := h
    simp only [Ent.lits_inj] at h0 h1 h2 h3 h4 h5
    subst h0 h1 h2 h3 h4 h5
    rfl
  · rintro rfl; rfl
theorem Fr.fit {f : Fr} (h : f.Ok) : fits frKinds f.arr.toList = some f.lits :=
  fits_append (fits_append (fits_append (fits_append (fits_append (Ent.fit h.a0) (Ent.fit h.a1)) (Ent.fit h.b0)) (Ent.fit h.b1)) (Ent.fit h.c0)) (Ent.fit h.c1)
theorem fr_flat : flat Tryd.prog 4 33 = some frKinds := by kernel_rfl
theorem fr_guard : Tryd.prog.eqGuardType Tryd.prog.depth 33 = false := by kernel_rfl
section
variable {w0 : World} {H : Hp} {x y : Operand}
theorem rd_fr_eql {e f : Fr} (he : e.Ok) (hf : f.Ok) : Rdo Tryd.prog w0 H (eqN .eql 33 x y (.agg e.arr) (.agg f.arr)) (.bool (decide (e = f))) :=
  rd_flat_eql (m := 4) fr_guard (by kernel_rfl) (by decide) fr_flat (by kernel_rfl) (by kernel_rfl) (Fr.fit he) (Fr.fit hf) (by rw [decide_eq_true_iff, Fr.lits_inj])
theorem rd_fr_neq {e f : Fr} (he : e.Ok) (hf : f.Ok) : Rdo Tryd.prog w0 H (eqN .neq 33 x y (.agg e.arr) (.agg f.arr)) (.bool (decide (e ≠ f))) := by
  have := rd_flat_neq (w0 := w0) (H := H) (x := x) (y := y) (P := Tryd.prog) (b := decide (e = f)) (m := 4) fr_guard (by kernel_rfl) (by decide) fr_flat (by kernel_rfl) (by kernel_rfl) (Fr.fit he) (Fr.fit hf) (by rw [decide_eq_true_iff, Fr.lits_inj])
  rwa [show (!decide (e = f)) = decide (e ≠ f) by simp] at this
end

theorem item_ok {l : List Ent} (h : ∀ e ∈ l, e.Ok) (i : Nat) : (l[i]?.getD .zero).Ok := by
  cases hi : l[i]? with
  | none => exact zero_ok'
  | some e => exact h e (List.mem_of_getElem? hi)
theorem with_ok {f : Fr} (hf : f.Ok) {l : List Ent} (h : ∀ e ∈ l, e.Ok) (t : Int) : (f.with t l).Ok := by
  unfold Fr.with
  have h0 := item_ok h 0
  have h1 := item_ok h 1
  split
  · exact ⟨h0, h1, hf.b0, hf.b1, hf.c0, hf.c1⟩
  · split
    · exact ⟨hf.a0, hf.a1, h0, h1, hf.c0, hf.c1⟩
    · split
      · exact ⟨hf.a0, hf.a1, hf.b0, hf.b1, h0, h1⟩
      · exact hf
theorem lane_ok {f : Fr} (hf : f.Ok) (t : Int) : ∀ e ∈ f.lane t, e.Ok := by
  intro e he
  unfold Fr.lane Fr.two at he
  have he := (List.mem_filter.1 he).1
  split at he
  · rcases List.mem_cons.1 he with rfl | he
    · exact hf.a0
    · rw [List.mem_singleton.1 he]; exact hf.a1
  · split at he
    · rcases List.mem_cons.1 he with rfl | he
      · exact hf.b0
      · rw [List.mem_singleton.1 he]; exact hf.b1
    · split at he
      · rcases List.mem_cons.1 he with rfl | he
        · exact hf.c0
        · rw [List.mem_singleton.1 he]; exact hf.c1
      · cases he
theorem lane_le (f : Fr) (t : Int) : (f.lane t).length ≤ 2 := by
  refine Nat.le_trans (List.length_filter_le _ _) ?_
  unfold Fr.two
  split
  · exact Nat.le_refl _
  · split
    · exact Nat.le_refl _
    · split
      · exact Nat.le_refl _
      · exact Nat.zero_le _

/-- What a frame's bytes decode to. -/
def frAll (l : List UInt8) : Prop := sC l 0 = 0 ∧ sC l 1 = 0 ∧ sC l 2 = 0 ∧ sC l 3 = 0 ∧ sC l 4 = 0 ∧ sC l 5 = 0
instance (l : List UInt8) : Decidable (frAll l) := by unfold frAll; infer_instance
def outF (l : List UInt8) : Fr := if l.length = 168 ∧ frAll l then ⟨sE l 0, sE l 1, sE l 2, sE l 3, sE l 4, sE l 5⟩ else .zero
def outFC (l : List UInt8) : Int := if l.length = 168 then (if frAll l then 0 else 30) else 40
def Fr.enc (f : Fr) : List UInt8 := if f.may = true then f.bytes else []
theorem sE_ok (l : List UInt8) (i : Nat) : (sE l i).Ok := outE_ok _
theorem outF_ok (l : List UInt8) : (outF l).Ok := by
  unfold outF
  split
  · exact ⟨sE_ok l 0, sE_ok l 1, sE_ok l 2, sE_ok l 3, sE_ok l 4, sE_ok l 5⟩
  · exact fr_zero_ok
theorem out_some {l : List UInt8} (h : outC l = 0) : entDec l = some (outE l) := by
  unfold outC at h
  unfold outE
  cases hd : entDec l with
  | none => rw [hd] at h; simp at h
  | some e => rfl
theorem out_none {l : List UInt8} (h : outC l ≠ 0) : entDec l = none := by
  unfold outC at h
  cases hd : entDec l with
  | none => rfl
  | some e => rw [hd] at h; exact absurd rfl h
theorem outF_dec {l : List UInt8} (h : outFC l = 0) : frDec l = some (outF l) := by
  unfold outFC at h
  split at h
  · rename_i hl
    split at h
    · rename_i ha
      have ha' := ha
      obtain ⟨h0, h1, h2, h3, h4, h5⟩ := ha
      unfold outF frDec
      rw [if_pos hl, if_pos ⟨hl, ha'⟩]
      have e0 := out_some h0
      have e1 := out_some h1
      have e2 := out_some h2
      have e3 := out_some h3
      have e4 := out_some h4
      have e5 := out_some h5
      simp only [Nat.mul_zero, List.drop_zero, Nat.mul_one] at e0 e1
      simp only [seg, List.drop_zero, e0, e1, e2, e3, e4, e5, sE, Nat.mul_zero, Nat.mul_one]
    · cases h
  · cases h
theorem outF_zero {l : List UInt8} (h : outFC l ≠ 0) : outF l = .zero := by
  unfold outF outFC at *
  split
  · rename_i ha
    rw [if_pos ha.1, if_pos ha.2] at h
    exact absurd rfl h
  · rfl
end Go.Proofs.YthapghhmeicbnaaDoor
