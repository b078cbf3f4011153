/- Numbers of 32 bits; the check sum's table; a row of bytes. -/
import Derived.Test.YthapghhmeicbnaaDoorKD
import Derived.Test.YthapghhmeicbnaaDoorKX
import Derived.Test.YthapghhmeicbnaaDoorPlainC
import Derived.Laws.BitsAllLaws
set_option linter.unusedVariables false
set_option linter.unusedSimpArgs false
namespace Go.Proofs.YthapghhmeicbnaaDoor
open Go.RowKit

section
variable {P : Program} {fn : Func} {w0 : World} {k : List KI} {ρ : Env} {H : Hp} {R : Value → Hp → Prop} {ops : Array Oper} {i : Nat} {todo : List Nat} {d : Tmp} {t : TypeId} {p q : Operand}

theorem rd_xor32 {a b : Nat} (ha : a < 4294967296) (hb : b < 4294967296) : Rdo P w0 H (eqN .xor t p q (.int .u32 (a : Int)) (.int .u32 (b : Int))) (.int .u32 ((a ^^^ b : Nat) : Int)) :=
  rd_int (by simp only [intOp]; rw [u32_xor_nat a b ha hb])
theorem rd_and15 {a : Nat} (ha : a < 4294967296) : Rdo P w0 H (eqN .and t p q (.int .u32 (a : Int)) (.int .u32 15)) (.int .u32 ((a % 16 : Nat) : Int)) := by
  have h := u32_and_nat a 15 ha (by decide)
  rw [Nat.and_two_pow_sub_one_eq_mod a 4] at h
  exact rd_int (by simp only [intOp]; rw [show (15 : Int) = ((15 : Nat) : Int) from rfl, h])
theorem rd_shrL {K J : IntKind} {a b r : Int} (hb : ¬ b < 0) (hr : a.fdiv (2 ^ min b.toNat K.bits) = r) : Rdo P w0 H (eqN .shr t p q (.int K a) (.int J b)) (.int K r) := hr ▸ rd_shr hb
theorem rd_shrN {K J : IntKind} {a s : Nat} {b : Int} {m : Nat} (hb : b = (s : Int)) (hs : Nat.ble s K.bits = true) (hm : 2 ^ s = m) : Rdo P w0 H (eqN .shr t p q (.int K (a : Int)) (.int J b)) (.int K ((a / m : Nat) : Int)) := by
  subst hb hm
  refine rd_shrL (by omega) ?_
  have h1 := Nat.le_of_ble_eq_true hs
  rw [Int.toNat_natCast, Nat.min_eq_left h1]
  have : ((2 : Int) ^ s) = ((2 ^ s : Nat) : Int) := by simp
  rw [this]
  exact (Int.ofNat_fdiv a (2 ^ s)).symm
theorem rd_remU {K : IntKind} {a b : Nat} (hb : b ≠ 0) : Rdo P w0 H (eqN .rem t p q (.int K (a : Int)) (.int K (b : Int))) (.int K ((a % b : Nat) : Int)) :=
  rd_int (by simp only [intOp]; rw [if_neg (by omega)]; rfl)
theorem rd_quoU {a b : Nat} (hb : b ≠ 0) (ha : a < 4294967296) : Rdo P w0 H (eqN .quo t p q (.int .u32 (a : Int)) (.int .u32 (b : Int))) (.int .u32 ((a / b : Nat) : Int)) := by
  refine rd_int ?_
  simp only [intOp]
  rw [if_neg (by omega)]
  have e : (a : Int).tdiv (b : Int) = ((a / b : Nat) : Int) := rfl
  have := Nat.div_le_self a b
  rw [e, IntKind.wrap_u32']
  generalize a / b = c at *
  congr 2
  omega
theorem compl32 {a : Nat} (ha : a < 4294967296) : 4294967295 ^^^ a = 4294967295 - a := by
  have h := xor_ones ha
  have : a ^^^ (a ^^^ (4294967295 - a)) = a ^^^ 4294967295 := by rw [h]
  rw [← Nat.xor_assoc, Nat.xor_self, Nat.zero_xor] at this
  rw [Nat.xor_comm, ← this]
theorem rd_compl32 {a : Nat} (ha : a < 4294967296) : Rdo P w0 H (Op.unary .xor (.int .u32 (a : Int))) (.int .u32 ((4294967295 - a : Nat) : Int)) := by
  intro w _
  have h := u32_xor_nat 4294967295 a (by decide) ha
  rw [compl32 ha] at h
  have e : Op.unary .xor (.int .u32 (a : Int)) = pure (.int .u32 (bits .xor .u32 ((4294967295 : Nat) : Int) (a : Int))) := rfl
  rw [e, h]
  rfl
theorem wrap_u8N (n : Nat) : IntKind.u8.wrap (n : Int) = (((UInt8.ofNat n).toNat : Nat) : Int) := by
  rw [IntKind.wrap_u8']
  simp
theorem wrap_u32N {n : Nat} (h : n < 4294967296) : IntKind.u32.wrap (n : Int) = (n : Int) := by
  rw [IntKind.wrap_u32']
  omega
theorem u8_lt32 (x : UInt8) : x.toNat < 4294967296 := Nat.lt_of_lt_of_le x.toNat_lt (by decide)
theorem rd_sub32 {a : Nat} (ha : a < 4294967296) : Rdo P w0 H (eqN .sub t p q (.int .u32 4294967295) (.int .u32 (a : Int))) (.int .u32 ((4294967295 - a : Nat) : Int)) := by
  refine rd_sub ?_
  rw [IntKind.wrap_u32']
  omega

theorem xor_nib {b x : Nat} (hb : b < 16) : b ^^^ (x * 16) = b + x * 16 := by
  apply Nat.eq_of_testBit_eq
  intro i
  have h : b + x * 16 = 2 ^ 4 * x + b := by omega
  rw [h, Nat.testBit_xor, Nat.testBit_two_pow_mul_add _ hb, show x * 16 = 2 ^ 4 * x by omega, Nat.testBit_two_pow_mul]
  by_cases hi : i < 4
  · simp [hi, show ¬ 4 ≤ i by omega]
  · have : b.testBit i = false := Nat.testBit_lt_two_pow (Nat.lt_of_lt_of_le hb (by have := Nat.pow_le_pow_right (n := 2) (by decide) (show 4 ≤ i by omega); simpa using this))
    simp [hi, this, show 4 ≤ i by omega]
theorem nib_step (r : Nat) : r / 16 ^^^ sbits 4 (r % 16) = sbits 4 r := by
  have h : r = (r % 16) ^^^ (r / 16 * 16) := by rw [xor_nib (by omega)]; omega
  have h2 := sbits_xor 4 (r % 16) (r / 16 * 16)
  rw [← h, sbits_shift 4 (r / 16)] at h2
  rw [h2, Nat.xor_comm]
theorem rd_nib {r : Nat} (h : r < 4294967296) : Rdo P w0 H (eqN .xor t p q (.int .u32 ((r / 16 : Nat) : Int)) (.int .u32 ((sbits 4 (r % 16) : Nat) : Int))) (.int .u32 ((sbits 4 r : Nat) : Int)) := by
  have := rd_xor32 (P := P) (w0 := w0) (H := H) (t := t) (p := p) (q := q) (a := r / 16) (b := sbits 4 (r % 16)) (by omega) (sbits_lt (by omega))
  rwa [nib_step] at this
theorem sbyte_nib (r : Nat) (x : UInt8) : sbits 4 (sbits 4 (r ^^^ x.toNat)) = sbyte r x := (sbits_add 4 4 _).symm
theorem xor32_lt {r : Nat} (h : r < 4294967296) (x : UInt8) : r ^^^ x.toNat < 4294967296 := Nat.xor_lt_two_pow (n := 32) h (u8_lt32 x)
theorem sbits_one {k : Nat} {r : Nat} : sbits (k + 1) r = sbit (sbits k r) := sbits_add k 1 r

/-- 'make([]byte, n)'. -/
theorem run_make {ty e : TypeId} {m : Nat} {c : Array Value} (h : step fn.ntmps ops i ρ = some (some d, vN (Instr.makeSlice ty (.int .i64 (m : Int)) (.int .i64 (m : Int))))) (ht : P.underlying ty = some (.slice e)) (hi : (P.info? e).map (fun i => (i.zero, i.size, i.bytes)) = some (some (.int .u8 0), 1, 1)) (hm : Nat.ble m 281474976710656 = true) (hc : zeroBytes m = c)
    (hk : ∀ g, Run P fn w0 (.ops ops todo :: k) ((d, .slice (some ⟨g, 0, none⟩) m m) :: ρ) (.blk g (.cells c e) :: H) R) : Run P fn w0 (.ops ops (i :: todo) :: k) ρ H R := by
  subst hc
  refine run_val h fun w h4 => ?_
  have hr := make_bytes (P := P) w ht hi m (Nat.le_of_ble_eq_true hm)
  exact ⟨_, _, _, vN_run hr, h4.alloc _, hk _⟩
/-- 'string(b)', of a block's bytes. -/
theorem rd_bytesMap {s u e : TypeId} {j g cap n : Nat} {l : List UInt8} {fr : Nat × Nat} {T : TypeId} (ht : P.underlying s = some (.slice e)) (he : P.underlying e = some (.int .u8)) (hu : P.underlying u = some .string) (hH : H[j]? = some (.blk g (.cells (l.map fun x => Value.int .u8 ((x.toNat : Nat) : Int)).toArray T fr))) (hn : n = l.length) :
    Rdo P w0 H (convert s u (.slice (some ⟨g, 0, none⟩) n cap)) (.string (bs l)) := by
  intro w sx
  subst hn
  refine conv_bytes w ht he hu g 0 cap l fun i hi => ?_
  rw [Nat.zero_add]
  exact sat_cell sx hH (by simp [hi])
end
theorem take_one {l : List UInt8} {k : Nat} {x : UInt8} (h : l[k]? = some x) : l.take (k + 1) = l.take k ++ [x] := by rw [List.take_add_one, h]; rfl
theorem sall_step {l : List UInt8} {k r : Nat} {x : UInt8} (h : l[k]? = some x) : sall r (l.take (k + 1)) = sbyte (sall r (l.take k)) x := by rw [take_one h, sall_append]; rfl
theorem crcOk_seal4 {l : List UInt8} (h : 4 ≤ l.length) : decide (seal4 (l.take (l.length - 4)) = l) = crcOk l := by
  rw [Bool.eq_iff_iff, decide_eq_true_iff, crcOk, decide_eq_true_iff]
  constructor
  · intro e
    refine ⟨h, ?_⟩
    have h1 : l = l.take (l.length - 4) ++ l.drop (l.length - 4) := (List.take_append_drop _ _).symm
    have h2 : l.take (l.length - 4) ++ l.drop (l.length - 4) = l.take (l.length - 4) ++ four (crc (l.take (l.length - 4))) := h1.symm.trans e.symm
    exact List.append_cancel_left h2
  · rintro ⟨_, e⟩
    unfold seal4
    rw [← e, List.take_append_drop]
theorem crcOk_short {l : List UInt8} (h : ¬ 4 ≤ l.length) : crcOk l = false := decide_eq_false (fun e => h e.1)
theorem crcOk_four {l : List UInt8} (h : 4 ≤ l.length) : decide (l.drop (l.length - 4) = four (crc (l.take (l.length - 4)))) = crcOk l := by
  rw [Bool.eq_iff_iff, decide_eq_true_iff, crcOk, decide_eq_true_iff]
  exact ⟨fun e => ⟨h, e⟩, fun e => e.2⟩
theorem crc_lt (l : List UInt8) : crc l < 4294967296 := by unfold crc; omega
theorem four_eq (n : Nat) : [UInt8.ofNat (n % 256), UInt8.ofNat (n / 256 % 256), UInt8.ofNat (n / 256 / 256 % 256), UInt8.ofNat (n / 256 / 256 / 256 % 256)] = four n := by
  have e : ∀ m, UInt8.ofNat (m % 256) = UInt8.ofNat m := fun m => by apply UInt8.toNat_inj.1; simp
  simp only [four, e, Nat.div_div_eq_div_mul]
/-- Four bytes turned, from a place on. -/
def turnTo (l : List UInt8) (a : Int) (f : List UInt8) : Nat → List UInt8
  | 0 => l
  | j + 1 => if 0 ≤ a ∧ a < (l.length : Int) - (j : Int) then (turnTo l a f j).set (a.toNat + j) (((turnTo l a f j)[a.toNat + j]?.getD 0) ^^^ (f[j]?.getD 0)) else turnTo l a f j
theorem turnTo_length (l : List UInt8) (a : Int) (f : List UInt8) (j : Nat) : (turnTo l a f j).length = l.length := by
  induction j with
  | zero => rfl
  | succ j ih => rw [turnTo]; split <;> simp [ih]
theorem turn_cells {l f : List UInt8} {a : Int} {j c : Nat} {x y : UInt8} (h : 0 ≤ a ∧ a < (l.length : Int) - (j : Int)) (hx : (turnTo l a f j)[a.toNat + j]? = some x) (hy : f[j]? = some y) :
    (bytesRow (bs (turnTo l a f j)) c).setIfInBounds (a.toNat + j) (.int .u8 (((x ^^^ y).toNat : Nat) : Int)) = bytesRow (bs (turnTo l a f (j + 1))) c := by
  obtain ⟨hp, _⟩ := List.getElem?_eq_some_iff.1 hx
  rw [bytesRow_set hp, turnTo, if_pos h, hx, hy]
  rfl
end Go.Proofs.YthapghhmeicbnaaDoor
