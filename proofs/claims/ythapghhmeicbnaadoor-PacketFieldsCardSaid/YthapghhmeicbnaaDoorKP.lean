/- Packets as values. Printed by wip/k/mkKP.py. -/
import Derived.Test.YthapghhmeicbnaaDoorKC05
import Derived.Test.YthapghhmeicbnaaDoorKG05
import Derived.Test.YthapghhmeicbnaaDoorPlainP
set_option linter.unusedVariables false
set_option linter.unusedSimpArgs false
namespace Go.Proofs.YthapghhmeicbnaaDoor
open Go.RowKit
set_option maxRecDepth 20000

def Id3.list (x : Id3) : List Value := [.int .u32 x.epoch, .int .u32 x.coord, .int .u32 x.inc]
def V8.vals (x : V8) : List Value := [.int .u32 x.n0, .int .u32 x.n1, .int .u32 x.n2, .int .u32 x.n3, .int .u32 x.n4, .int .u32 x.n5, .int .u32 x.n6, .int .u32 x.n7]
def Fr.cells (f : Fr) : List Value := f.arr.toList
def Pkt.cells (p : Pkt) : List Value :=
  .int .u32 p.src :: .int .u32 p.inc :: (p.conf.list ++ (p.members.vals ++ (p.count.vals ++ (p.promise.list ++ (p.wanted.vals ++ (.bool p.ready :: .int .u32 p.epoch :: .int .u32 p.round :: (p.newest.cells ++ (p.older.cells ++ (.int .u32 p.relayOf :: .int .u32 p.relayRound :: p.relay.cells)))))))))
def Pkt.arr (p : Pkt) : Array Value := p.cells.toArray
def Pkt.val (p : Pkt) : Value := .agg p.arr
def Id3.zero : Id3 := ⟨0, 0, 0⟩
def V8.zero : V8 := ⟨0, 0, 0, 0, 0, 0, 0, 0⟩
def Pkt.zero : Pkt := ⟨0, 0, .zero, .zero, .zero, .zero, .zero, false, 0, 0, .zero, .zero, 0, 0, .zero⟩

/-- What an argument of the packet's type is: numbers of 32 bits, frames that hold entries. -/
structure Pkt.Fit (p : Pkt) : Prop where
  ok : p.Ok
  newest : p.newest.Ok
  older : p.older.Ok
  relay : p.relay.Ok
theorem zero_u32 : U32 0 := ⟨by decide, by decide⟩
theorem Id3.zero_ok : Id3.zero.Ok := ⟨zero_u32, zero_u32, zero_u32⟩
theorem V8.zero_ok : V8.zero.Ok := ⟨zero_u32, zero_u32, zero_u32, zero_u32, zero_u32, zero_u32, zero_u32, zero_u32⟩
theorem Ent.Ok.pos {e : Ent} (h : e.Ok) : e.pos := by
  have h1 := h.session
  have h2 := h.number
  simp only [Lit.wf, IntKind.min, IntKind.max, IntKind.signed, IntKind.bits] at h1 h2
  simp at h1 h2
  exact ⟨h1.1, h2.1⟩
theorem Fr.Ok.pos {f : Fr} (h : f.Ok) : f.pos := ⟨h.a0.pos, h.a1.pos, h.b0.pos, h.b1.pos, h.c0.pos, h.c1.pos⟩
theorem Pkt.zero_fit : Pkt.zero.Fit := ⟨⟨zero_u32, zero_u32, Id3.zero_ok, V8.zero_ok, V8.zero_ok, Id3.zero_ok, V8.zero_ok, zero_u32, zero_u32, fr_zero_ok.pos, fr_zero_ok.pos, zero_u32, zero_u32, fr_zero_ok.pos⟩, fr_zero_ok, fr_zero_ok, fr_zero_ok⟩
theorem u32_wf {n : Int} : (Lit.int .u32 n).wf = true ↔ U32 n := by simp [Lit.wf, IntKind.min, IntKind.max, IntKind.signed, IntKind.bits, U32]

def k3 : List Lk := [.i .u32, .i .u32, .i .u32]
def k8 : List Lk := [.i .u32, .i .u32, .i .u32, .i .u32, .i .u32, .i .u32, .i .u32, .i .u32]
def pktKinds : List Lk := [.i .u32, .i .u32] ++ (k3 ++ (k8 ++ (k8 ++ (k3 ++ (k8 ++ ([.b, .i .u32, .i .u32] ++ (frKinds ++ (frKinds ++ ([.i .u32, .i .u32] ++ frKinds)))))))))
def l3 (x : Id3) : List Lit := [.int .u32 x.epoch, .int .u32 x.coord, .int .u32 x.inc]
def l8 (x : V8) : List Lit := [.int .u32 x.n0, .int .u32 x.n1, .int .u32 x.n2, .int .u32 x.n3, .int .u32 x.n4, .int .u32 x.n5, .int .u32 x.n6, .int .u32 x.n7]
def Pkt.lits (p : Pkt) : List Lit := [.int .u32 p.src, .int .u32 p.inc] ++ (l3 p.conf ++ (l8 p.members ++ (l8 p.count ++ (l3 p.promise ++ (l8 p.wanted ++ ([.bool p.ready, .int .u32 p.epoch, .int .u32 p.round] ++ (p.newest.lits ++ (p.older.lits ++ ([.int .u32 p.relayOf, .int .u32 p.relayRound] ++ p.relay.lits)))))))))
theorem fits_u32 {n : Int} (h : U32 n) {ks : List Lk} {vs : List Value} {ls : List Lit} (hf : fits ks vs = some ls) : fits (.i .u32 :: ks) (.int .u32 n :: vs) = some (.int .u32 n :: ls) := by
  simp [fits, Lk.lit, u32_wf.2 h, hf]
theorem fits_nil : fits [] [] = some [] := rfl
theorem Id3.fit {x : Id3} (h : x.Ok) : fits k3 x.list = some (l3 x) := fits_u32 h.1 (fits_u32 h.2.1 (fits_u32 h.2.2 fits_nil))
theorem V8.fit {x : V8} (h : x.Ok) : fits k8 x.vals = some (l8 x) :=
  fits_u32 h.1 (fits_u32 h.2.1 (fits_u32 h.2.2.1 (fits_u32 h.2.2.2.1 (fits_u32 h.2.2.2.2.1 (fits_u32 h.2.2.2.2.2.1 (fits_u32 h.2.2.2.2.2.2.1 (fits_u32 h.2.2.2.2.2.2.2 fits_nil)))))))
theorem Pkt.fit {p : Pkt} (h : p.Fit) : fits pktKinds p.arr.toList = some p.lits := by
  have hb : ∀ b : Bool, fits [.b, .i .u32, .i .u32] [.bool b, .int .u32 p.epoch, .int .u32 p.round] = some [.bool b, .int .u32 p.epoch, .int .u32 p.round] := fun b => by
    have := fits_u32 h.ok.epoch (fits_u32 h.ok.round fits_nil)
    simp [fits, Lk.lit] at this ⊢
    simp [u32_wf.2 h.ok.epoch, u32_wf.2 h.ok.round]
  exact fits_append (fits_u32 h.ok.src (fits_u32 h.ok.inc fits_nil)) (fits_append (Id3.fit h.ok.conf) (fits_append (V8.fit h.ok.members) (fits_append (V8.fit h.ok.count) (fits_append (Id3.fit h.ok.promise) (fits_append (V8.fit h.ok.wanted)
    (fits_append (hb p.ready) (fits_append (Fr.fit h.newest) (fits_append (Fr.fit h.older) (fits_append (fits_u32 h.ok.relayOf (fits_u32 h.ok.relayRound fits_nil)) (Fr.fit h.relay))))))))))
theorem l3_inj {x y : Id3} : l3 x = l3 y ↔ x = y := by
  constructor
  · intro h
    obtain ⟨a, b, c⟩ := x
    obtain ⟨d, e, f⟩ := y
    simpa [l3] using h
  · rintro rfl; rfl
theorem l8_inj {x y : V8} : l8 x = l8 y ↔ x = y := by
  constructor
  · intro h
    obtain ⟨⟩ := x
    obtain ⟨⟩ := y
    simpa [l8] using h
  · rintro rfl; rfl
theorem fr_lits_length (f : Fr) : f.lits.length = 36 := rfl
theorem Pkt.lits_inj {p q : Pkt} : p.lits = q.lits ↔ p = q := by
  constructor
  · intro e
    have s : ∀ {a b c d : List Lit}, a ++ b = c ++ d → a.length = c.length → a = c ∧ b = d := fun h hl => List.append_inj h hl
    unfold Pkt.lits at e
    obtain ⟨e0, r0⟩ := s e rfl
    obtain ⟨e1, r1⟩ := s r0 rfl
    obtain ⟨e2, r2⟩ := s r1 rfl
    obtain ⟨e3, r3⟩ := s r2 rfl
    obtain ⟨e4, r4⟩ := s r3 rfl
    obtain ⟨e5, r5⟩ := s r4 rfl
    obtain ⟨e6, r6⟩ := s r5 rfl
    obtain ⟨e7, r7⟩ := s r6 rfl
    obtain ⟨e8, r8⟩ := s r7 rfl
    obtain ⟨e9, r9⟩ := s r8 rfl
    clear e r0 r1 r2 r3 r4 r5 r6 r7 r8
    obtain ⟨p0, p1, p2, p3, p4, p5, p6, p7, p8, p9, p10, p11, p12, p13, p14⟩ := p
    obtain ⟨q0, q1, q2, q3, q4, q5, q6, q7, q8, q9, q10, q11, q12, q13, q14⟩ := q
    simp only [l3_inj, l8_inj, Fr.lits_inj, List.cons.injEq, Lit.int.injEq, Lit.bool.injEq, and_true, true_and] at e0 e1 e2 e3 e4 e5 e6 e7 e8 e9 r9
    obtain ⟨rfl, rfl⟩ := e0
    obtain ⟨rfl, rfl, rfl⟩ := e6
    obtain ⟨rfl, rfl⟩ := e9
    subst e1 e2 e3 e4 e5 e7 e8 r9
    rfl
  · rintro rfl; rfl
theorem pkt_flat : flat Tryd.prog 6 35 = some pktKinds := by kernel_rfl
theorem pkt_guard : Tryd.prog.eqGuardType Tryd.prog.depth 35 = false := by kernel_rfl
theorem pkt_key : Tryd.prog.keyTypeAt 6 35 = true := by kernel_rfl
theorem pkt_formed (p : Pkt) : (Value.agg p.arr).formed Tryd.prog 35 = true := by kernel_rfl
section
variable {w0 : World} {H : Hp} {x y : Operand} {r : Bool}
theorem rd_pk_eql {e f : Pkt} (he : e.Fit) (hf : f.Fit) : Rdo Tryd.prog w0 H (eqN .eql 35 x y (.agg e.arr) (.agg f.arr)) (.bool (decide (e = f))) :=
  rd_flat_eql (m := 6) pkt_guard pkt_key (by decide) pkt_flat (pkt_formed e) (pkt_formed f) (Pkt.fit he) (Pkt.fit hf) (by rw [decide_eq_true_iff, Pkt.lits_inj])
theorem rd_pk_neq {e f : Pkt} (he : e.Fit) (hf : f.Fit) : Rdo Tryd.prog w0 H (eqN .neq 35 x y (.agg e.arr) (.agg f.arr)) (.bool (decide (e ≠ f))) := by
  have := rd_flat_neq (w0 := w0) (H := H) (x := x) (y := y) (P := Tryd.prog) (b := decide (e = f)) (m := 6) pkt_guard pkt_key (by decide) pkt_flat (pkt_formed e) (pkt_formed f) (Pkt.fit he) (Pkt.fit hf) (by rw [decide_eq_true_iff, Pkt.lits_inj])
  rwa [show (!decide (e = f)) = decide (e ≠ f) by simp] at this
theorem rd_pk_eqlD {e f : Pkt} (he : e.Fit) (hf : f.Fit) (h : decide (e = f) = r) : Rdo Tryd.prog w0 H (eqN .eql 35 x y (.agg e.arr) (.agg f.arr)) (.bool r) := h ▸ rd_pk_eql he hf
theorem rd_pk_neqD {e f : Pkt} (he : e.Fit) (hf : f.Fit) (h : decide (e ≠ f) = r) : Rdo Tryd.prog w0 H (eqN .neq 35 x y (.agg e.arr) (.agg f.arr)) (.bool r) := h ▸ rd_pk_neq he hf
end

/-! ### Codes -/
def pkCode (b : Bool) : Int := if b then 0 else 52
theorem pk_bad {b : Bool} (h : (pkCode b != 0) = true) : b = false := by cases b <;> simp_all [pkCode]
theorem pk_good {b : Bool} (h : (pkCode b != 0) = false) : b = true := by cases b <;> simp_all [pkCode]
theorem pk_no {p : Pkt} (h : ¬ (p.may = true)) : pkCode p.may = 52 := if_neg h
theorem pk_yes {p : Pkt} (h : p.may = true) : pkCode p.may = 0 := if_pos h
def Pkt.enc (p : Pkt) : List UInt8 := if p.may = true then p.bytes else []
def outP (s : List UInt8) : Pkt := match pktDec s with | .ok p => p | _ => .zero
def outPC (s : List UInt8) : Int := match pktDec s with | .ok _ => 0 | .long => 50 | .sum => 51 | .form => 52
theorem u32_num (s : List UInt8) (a : Nat) {n : Nat} (h : n ≤ 4) : U32 (num s a n) := by
  have h1 := val_lt (seg s a n)
  have h2 : (seg s a n).length ≤ n := by unfold seg; rw [List.length_take]; omega
  have h3 : 256 ^ (seg s a n).length ≤ 256 ^ 4 := Nat.pow_le_pow_right (by decide) (by omega)
  unfold num U32
  omega
theorem idAt_ok (s : List UInt8) (a : Nat) : (idAt s a).Ok := ⟨u32_num _ _ (by decide), u32_num _ _ (by decide), u32_num _ _ (by decide)⟩
theorem v8At_ok (s : List UInt8) (a : Nat) : (v8At s a).Ok := ⟨u32_num _ _ (by decide), u32_num _ _ (by decide), u32_num _ _ (by decide), u32_num _ _ (by decide), u32_num _ _ (by decide), u32_num _ _ (by decide), u32_num _ _ (by decide), u32_num _ _ (by decide)⟩
theorem pktOf_fit (s : List UInt8) {a b c : Fr} (ha : a.Ok) (hb : b.Ok) (hc : c.Ok) : (pktOf s a b c).Fit :=
  ⟨⟨u32_num _ _ (by decide), u32_num _ _ (by decide), idAt_ok _ _, v8At_ok _ _, v8At_ok _ _, idAt_ok _ _, v8At_ok _ _, u32_num _ _ (by decide), u32_num _ _ (by decide), ha.pos, hb.pos, u32_num _ _ (by decide), u32_num _ _ (by decide), hc.pos⟩, ha, hb, hc⟩
/-- The packet that lies in a text, whatever it holds. -/
def rawP (s : List UInt8) : Pkt := pktOf s (outF (seg s 128 168)) (outF (seg s 296 168)) (outF (seg s 469 168))
theorem rawP_fit (s : List UInt8) : (rawP s).Fit := pktOf_fit s (outF_ok _) (outF_ok _) (outF_ok _)
theorem outFC_none {l : List UInt8} (h : outFC l ≠ 0) : frDec l = none := by
  unfold outFC at h
  unfold frDec
  by_cases hl : l.length = 168
  · rw [if_pos hl] at h ⊢
    by_cases ha : frAll l
    · rw [if_pos ha] at h; exact absurd rfl h
    · have key : ∀ i, sC l i ≠ 0 → entDec (seg l (28 * i) 28) = none := fun i hi => out_none hi
      split
      · rename_i a b c d e g h0 h1 h2 h3 h4 h5
        exfalso
        apply ha
        refine ⟨?_, ?_, ?_, ?_, ?_, ?_⟩
        · exact Classical.byContradiction fun e0 => by have := key 0 e0; rw [h0] at this; cases this
        · exact Classical.byContradiction fun e0 => by have := key 1 e0; rw [h1] at this; cases this
        · exact Classical.byContradiction fun e0 => by have := key 2 e0; rw [h2] at this; cases this
        · exact Classical.byContradiction fun e0 => by have := key 3 e0; rw [h3] at this; cases this
        · exact Classical.byContradiction fun e0 => by have := key 4 e0; rw [h4] at this; cases this
        · exact Classical.byContradiction fun e0 => by have := key 5 e0; rw [h5] at this; cases this
      · rfl
  · rw [if_neg hl]
theorem parts_yes {s : List UInt8} (h1 : outFC (seg s 128 168) = 0) (h2 : outFC (seg s 296 168) = 0) (h3 : outFC (seg s 469 168) = 0) (h4 : num s 119 1 ≤ 1) (h5 : (rawP s).may = true) : pktParts s = some (rawP s) := by
  unfold pktParts
  rw [outF_dec h1, outF_dec h2, outF_dec h3]
  exact if_pos ⟨h4, h5⟩
theorem parts_no {s : List UInt8} (h : ¬ (outFC (seg s 128 168) = 0 ∧ outFC (seg s 296 168) = 0 ∧ outFC (seg s 469 168) = 0 ∧ num s 119 1 ≤ 1 ∧ (rawP s).may = true)) : pktParts s = none := by
  unfold pktParts
  by_cases h1 : outFC (seg s 128 168) = 0
  · by_cases h2 : outFC (seg s 296 168) = 0
    · by_cases h3 : outFC (seg s 469 168) = 0
      · rw [outF_dec h1, outF_dec h2, outF_dec h3]
        exact if_neg fun e => h ⟨h1, h2, h3, e.1, e.2⟩
      · rw [outFC_none h3]; (first | done | (split <;> simp_all))
    · rw [outFC_none h2]; (first | done | (split <;> simp_all))
  · rw [outFC_none h1]; (first | done | (split <;> simp_all))
theorem dec_long {s : List UInt8} (h : s.length ≠ 641) : Value.tuple #[Pkt.zero.val, .int .i64 50] = .tuple #[(outP s).val, .int .i64 (outPC s)] := by
  have e : pktDec s = .long := if_neg h
  simp only [outP, outPC, e]
theorem dec_sum {s : List UInt8} (h : s.length = 641) (hc : crcOk s = false) : Value.tuple #[Pkt.zero.val, .int .i64 51] = .tuple #[(outP s).val, .int .i64 (outPC s)] := by
  have e : pktDec s = .sum := (if_pos h).trans (if_neg (by rw [hc]; decide))
  simp only [outP, outPC, e]
theorem dec_form {s : List UInt8} (h : s.length = 641) (hc : crcOk s = true) (hn : ¬ (outFC (seg s 128 168) = 0 ∧ outFC (seg s 296 168) = 0 ∧ outFC (seg s 469 168) = 0 ∧ num s 119 1 ≤ 1 ∧ (rawP s).may = true)) : Value.tuple #[Pkt.zero.val, .int .i64 52] = .tuple #[(outP s).val, .int .i64 (outPC s)] := by
  have e : pktDec s = .form := by unfold pktDec; rw [if_pos h, if_pos hc, parts_no hn]
  simp only [outP, outPC, e]
theorem dec_ok {s : List UInt8} (h : s.length = 641) (hc : crcOk s = true) (h1 : outFC (seg s 128 168) = 0) (h2 : outFC (seg s 296 168) = 0) (h3 : outFC (seg s 469 168) = 0) (h4 : num s 119 1 ≤ 1) (h5 : (rawP s).may = true) : Value.tuple #[(rawP s).val, .int .i64 0] = .tuple #[(outP s).val, .int .i64 (outPC s)] := by
  have e : pktDec s = .ok (rawP s) := by unfold pktDec; rw [if_pos h, if_pos hc, parts_yes h1 h2 h3 h4 h5]
  simp only [outP, outPC, e]
theorem outP_fit (s : List UInt8) : (outP s).Fit := by
  unfold outP
  cases e : pktDec s with
  | ok p =>
    unfold pktDec at e
    split at e
    · split at e
      · split at e
        · rename_i q hq
          cases e
          by_cases hh : outFC (seg s 128 168) = 0 ∧ outFC (seg s 296 168) = 0 ∧ outFC (seg s 469 168) = 0 ∧ num s 119 1 ≤ 1 ∧ (rawP s).may = true
          · rw [parts_yes hh.1 hh.2.1 hh.2.2.1 hh.2.2.2.1 hh.2.2.2.2] at hq
            cases hq
            exact rawP_fit s
          · rw [parts_no hh] at hq; cases hq
        · cases e
      · cases e
    · cases e
  | long => exact Pkt.zero_fit
  | sum => exact Pkt.zero_fit
  | form => exact Pkt.zero_fit
end Go.Proofs.YthapghhmeicbnaaDoor
