/- The check sum: a register of 32 bits, a bit at a time; bursts of up to four bytes are seen. -/
import Derived.Test.YthapghhmeicbnaaDoorPlainF
namespace Go.Proofs.YthapghhmeicbnaaDoor

def poly : Nat := 3988292384
def sbit (r : Nat) : Nat := if r % 2 = 1 then r / 2 ^^^ poly else r / 2
def sbits : Nat → Nat → Nat
  | 0, r => r
  | n + 1, r => sbits n (sbit r)
def sbyte (r : Nat) (b : UInt8) : Nat := sbits 8 (r ^^^ b.toNat)
def sall (r : Nat) (s : List UInt8) : Nat := s.foldl sbyte r
def crc (s : List UInt8) : Nat := 4294967295 - sall 4294967295 s
/-- A sum's bytes, the lowest first. -/
def four (n : Nat) : List UInt8 := [UInt8.ofNat n, UInt8.ofNat (n / 256), UInt8.ofNat (n / 65536), UInt8.ofNat (n / 16777216)]
def seal4 (s : List UInt8) : List UInt8 := s ++ four (crc s)
def crcOk (s : List UInt8) : Bool := decide (4 ≤ s.length ∧ s.drop (s.length - 4) = four (crc (s.take (s.length - 4))))

theorem xor_half (a b : Nat) : (a ^^^ b) / 2 = a / 2 ^^^ b / 2 := by
  apply Nat.eq_of_testBit_eq
  intro i
  rw [Nat.testBit_xor, Nat.testBit_div_two, Nat.testBit_div_two, Nat.testBit_div_two, Nat.testBit_xor]
theorem xor_odd (a b : Nat) : (a ^^^ b) % 2 = (a % 2 + b % 2) % 2 := by
  have h := Nat.testBit_xor a b 0
  simp only [Nat.testBit_zero] at h
  rcases Nat.mod_two_eq_zero_or_one a with ha | ha <;> rcases Nat.mod_two_eq_zero_or_one b with hb | hb <;> rcases Nat.mod_two_eq_zero_or_one (a ^^^ b) with hc | hc <;> simp [ha, hb, hc] at h ⊢

theorem sbit_xor (a b : Nat) : sbit (a ^^^ b) = sbit a ^^^ sbit b := by
  unfold sbit
  rw [xor_half, xor_odd]
  rcases Nat.mod_two_eq_zero_or_one a with ha | ha <;> rcases Nat.mod_two_eq_zero_or_one b with hb | hb <;> simp [ha, hb]
  · rw [Nat.xor_assoc]
  · rw [Nat.xor_assoc, Nat.xor_assoc, Nat.xor_comm poly]
  · rw [Nat.xor_assoc, ← Nat.xor_assoc poly, Nat.xor_comm poly, Nat.xor_assoc, Nat.xor_self, Nat.xor_zero]
theorem sbits_xor (n a b : Nat) : sbits n (a ^^^ b) = sbits n a ^^^ sbits n b := by
  induction n generalizing a b with
  | zero => rfl
  | succ n ih => rw [sbits, sbit_xor, ih]; rfl
theorem sbits_add (n m r : Nat) : sbits (n + m) r = sbits m (sbits n r) := by
  induction n generalizing r with
  | zero => simp [sbits]
  | succ n ih => rw [show n + 1 + m = (n + m) + 1 by omega, sbits, ih]; rfl
theorem sbit_lt {r : Nat} (h : r < 4294967296) : sbit r < 4294967296 := by
  unfold sbit
  split
  · exact Nat.xor_lt_two_pow (n := 32) (by omega) (by decide)
  · omega
theorem sbits_lt {n r : Nat} (h : r < 4294967296) : sbits n r < 4294967296 := by
  induction n generalizing r with
  | zero => exact h
  | succ n ih => exact ih (sbit_lt h)

theorem testBit_top {x : Nat} (h : x < 2147483648) : x.testBit 31 = false := Nat.testBit_lt_two_pow h
theorem sbit_top {r : Nat} (h : r < 4294967296) : (sbit r).testBit 31 = decide (r % 2 = 1) := by
  unfold sbit
  split
  · rename_i h1
    rw [Nat.testBit_xor, testBit_top (by omega), h1]
    decide
  · rename_i h1
    rw [testBit_top (by omega)]
    simp [h1]
theorem sbit_inj {a b : Nat} (ha : a < 4294967296) (hb : b < 4294967296) (h : sbit a = sbit b) : a = b := by
  have t := congrArg (fun x => x.testBit 31) h
  simp only [sbit_top ha, sbit_top hb] at t
  have e : a % 2 = b % 2 := by
    rcases Nat.mod_two_eq_zero_or_one a with h1 | h1 <;> rcases Nat.mod_two_eq_zero_or_one b with h2 | h2 <;> simp [h1, h2] at t ⊢
  unfold sbit at h
  rw [e] at h
  split at h
  · have h2 := congrArg (fun x => x ^^^ poly) h
    simp only [Nat.xor_assoc, Nat.xor_self, Nat.xor_zero] at h2
    omega
  · omega
theorem sbits_inj {n a b : Nat} (ha : a < 4294967296) (hb : b < 4294967296) (h : sbits n a = sbits n b) : a = b := by
  induction n generalizing a b with
  | zero => exact h
  | succ n ih => exact sbit_inj ha hb (ih (sbit_lt ha) (sbit_lt hb) h)

/-- Bits that stand higher come through unturned. -/
theorem sbits_shift (n u : Nat) : sbits n (u * 2 ^ n) = u := by
  induction n with
  | zero => simp [sbits]
  | succ n ih =>
    rw [sbits]
    have e : sbit (u * 2 ^ (n + 1)) = u * 2 ^ n := by
      unfold sbit
      have : u * 2 ^ (n + 1) = 2 * (u * 2 ^ n) := by rw [Nat.pow_succ, ← Nat.mul_assoc, Nat.mul_comm]
      rw [this, if_neg (by omega)]
      omega
    rw [e, ih]

def le : List UInt8 → Nat
  | [] => 0
  | b :: s => b.toNat ^^^ (le s * 256)
theorem le_lt (s : List UInt8) : le s < 256 ^ s.length := by
  induction s with
  | nil => simp [le]
  | cons b s ih =>
    have hb := b.toNat_lt
    have e : 256 ^ (b :: s).length = 2 ^ (8 * (s.length + 1)) := by rw [Nat.pow_mul]; rfl
    rw [e, le]
    refine Nat.xor_lt_two_pow (Nat.lt_of_lt_of_le hb ?_) ?_
    · exact Nat.pow_le_pow_right (by decide) (by omega)
    · rw [Nat.mul_add, Nat.pow_add]
      have : 2 ^ (8 * s.length) = 256 ^ s.length := by rw [Nat.pow_mul]
      rw [this]
      omega
theorem xor_byte {x y : Nat} {b c : UInt8} (h : b.toNat ^^^ (x * 256) = c.toNat ^^^ (y * 256)) : b = c ∧ x = y := by
  have hb := b.toNat_lt
  have hc := c.toNat_lt
  have h1 := congrArg (fun z => z % 2 ^ 8) h
  simp only [Nat.xor_mod_two_pow] at h1
  have h2 := congrArg (fun z => z / 2 ^ 8) h
  simp only [Nat.xor_div_two_pow] at h2
  have e1 : b.toNat = c.toNat := by
    rw [show x * 256 % 2 ^ 8 = 0 by omega, show y * 256 % 2 ^ 8 = 0 by omega, Nat.xor_zero, Nat.xor_zero] at h1
    omega
  refine ⟨UInt8.toNat.inj e1, ?_⟩
  rw [show b.toNat / 2 ^ 8 = 0 by omega, show c.toNat / 2 ^ 8 = 0 by omega, show x * 256 / 2 ^ 8 = x by omega, show y * 256 / 2 ^ 8 = y by omega, Nat.zero_xor, Nat.zero_xor] at h2
  exact h2
theorem le_inj {s t : List UInt8} (hl : s.length = t.length) (h : le s = le t) : s = t := by
  induction s generalizing t with
  | nil => cases t <;> simp_all
  | cons b s ih =>
    cases t with
    | nil => simp at hl
    | cons c t =>
      obtain ⟨rfl, h2⟩ := xor_byte h
      rw [ih (by simpa using hl) h2]

theorem sall_le (r : Nat) (s : List UInt8) : sall r s = sbits (8 * s.length) (r ^^^ le s) := by
  induction s generalizing r with
  | nil => simp [sall, sbits, le]
  | cons b s ih =>
    have e : sall r (b :: s) = sall (sbyte r b) s := rfl
    rw [e, ih, sbyte, List.length_cons, show 8 * (s.length + 1) = 8 + 8 * s.length by omega, sbits_add, le, ← Nat.xor_assoc, sbits_xor 8 (r ^^^ b.toNat), show le s * 256 = le s * 2 ^ 8 from rfl, sbits_shift 8]

theorem sall_append (r : Nat) (s t : List UInt8) : sall r (s ++ t) = sall (sall r s) t := by simp [sall]
theorem sbyte_lt {r : Nat} (h : r < 4294967296) (b : UInt8) : sbyte r b < 4294967296 := by
  have := b.toNat_lt
  exact sbits_lt (Nat.xor_lt_two_pow (n := 32) h (by omega))
theorem sall_lt {r : Nat} (h : r < 4294967296) (s : List UInt8) : sall r s < 4294967296 := by
  induction s generalizing r with
  | nil => exact h
  | cons b s ih => exact ih (sbyte_lt h b)
theorem sall_inj {a b : Nat} (ha : a < 4294967296) (hb : b < 4294967296) {s : List UInt8} (h : sall a s = sall b s) : a = b := by
  induction s generalizing a b with
  | nil => exact h
  | cons c s ih =>
    have hc := c.toNat_lt
    have := ih (sbyte_lt ha c) (sbyte_lt hb c) h
    have := sbits_inj (Nat.xor_lt_two_pow (n := 32) ha (by omega)) (Nat.xor_lt_two_pow (n := 32) hb (by omega)) this
    have h2 := congrArg (fun x => x ^^^ c.toNat) this
    simpa only [Nat.xor_assoc, Nat.xor_self, Nat.xor_zero] using h2
theorem pow_256_4 {n : Nat} (h : n ≤ 4) : 256 ^ n ≤ 4294967296 := by
  have := Nat.pow_le_pow_right (show 0 < 256 by decide) h
  exact this
/-- Four bytes, or fewer, that are turned turn the register. -/
theorem sall_burst {r : Nat} (hr : r < 4294967296) {x y : List UInt8} (hl : x.length = y.length) (h4 : x.length ≤ 4) (h : sall r x = sall r y) : x = y := by
  rw [sall_le, sall_le, ← hl] at h
  have lx := Nat.lt_of_lt_of_le (le_lt x) (pow_256_4 h4)
  have ly := Nat.lt_of_lt_of_le (le_lt y) (pow_256_4 (by omega))
  have := sbits_inj (Nat.xor_lt_two_pow (n := 32) hr lx) (Nat.xor_lt_two_pow (n := 32) hr ly) h
  have h2 := congrArg (fun z => r ^^^ z) this
  simp only [← Nat.xor_assoc, Nat.xor_self, Nat.zero_xor] at h2
  exact le_inj hl h2

theorem xor_byte_add {b x : Nat} (hb : b < 256) : b ^^^ (x * 256) = b + x * 256 := by
  apply Nat.eq_of_testBit_eq
  intro i
  rw [Nat.testBit_xor, show b + x * 256 = 2 ^ 8 * x + b by omega, Nat.testBit_two_pow_mul_add x hb, show x * 256 = x * 2 ^ 8 from rfl, Nat.testBit_mul_two_pow]
  split
  · rename_i h
    simp [show ¬ 8 ≤ i by omega]
  · rename_i h
    rw [Nat.testBit_lt_two_pow (Nat.lt_of_lt_of_le hb (Nat.pow_le_pow_right (by decide) (by omega) : 2 ^ 8 ≤ 2 ^ i))]
    simp [show 8 ≤ i by omega]
theorem le_four {n : Nat} (h : n < 4294967296) : le (four n) = n := by
  have q : ∀ m : Nat, (UInt8.ofNat m).toNat = m % 256 := fun m => UInt8.toNat_ofNat'
  simp only [four, le, q]
  rw [Nat.zero_mul, Nat.xor_zero, xor_byte_add (by omega), xor_byte_add (by omega), xor_byte_add (by omega)]
  omega
theorem four_le {s : List UInt8} (h : s.length = 4) : four (le s) = s := by
  have hl := le_lt s
  rw [h] at hl
  exact le_inj (by rw [h]; rfl) (le_four hl)
theorem xor_ones {r : Nat} (h : r < 4294967296) : r ^^^ (4294967295 - r) = 4294967295 := by
  apply Nat.eq_of_testBit_eq
  intro i
  have e := Nat.testBit_two_pow_sub_succ (x := r) (n := 32) h i
  rw [Nat.testBit_xor, show 4294967295 - r = 2 ^ 32 - (r + 1) by omega, e, show (4294967295 : Nat) = 2 ^ 32 - 1 from rfl, Nat.testBit_two_pow_sub_one]
  by_cases hi : i < 32
  · simp [hi]
  · rw [Nat.testBit_lt_two_pow (Nat.lt_of_lt_of_le h (Nat.pow_le_pow_right (by decide) (by omega) : 2 ^ 32 ≤ 2 ^ i))]
    simp [hi]
/-- A text is its sum's just if the register comes to one number. -/
theorem crcOk_iff {s : List UInt8} (h4 : 4 ≤ s.length) : crcOk s = true ↔ sall 4294967295 s = sbits 32 4294967295 := by
  have hr : sall 4294967295 (s.take (s.length - 4)) < 4294967296 := sall_lt (by decide) _
  have hl : (s.drop (s.length - 4)).length = 4 := by rw [List.length_drop]; omega
  have e : sall 4294967295 s = sbits 32 (sall 4294967295 (s.take (s.length - 4)) ^^^ le (s.drop (s.length - 4))) := by
    rw [← List.take_append_drop (s.length - 4) s, sall_append, sall_le, List.take_append_drop, hl]
  rw [e, crcOk, decide_eq_true_iff]
  generalize s.drop (s.length - 4) = d at *
  generalize hR : sall 4294967295 (s.take (s.length - 4)) = r at *
  rw [crc, hR]
  have hd : le d < 4294967296 := by have := le_lt d; rw [hl] at this; exact this
  constructor
  · rintro ⟨_, rfl⟩
    rw [le_four (by omega), xor_ones hr]
  · intro h
    refine ⟨h4, ?_⟩
    have h1 := sbits_inj (Nat.xor_lt_two_pow (n := 32) hr hd) (by decide) h
    have h2 := congrArg (fun z => r ^^^ z) h1
    simp only [← Nat.xor_assoc, Nat.xor_self, Nat.zero_xor] at h2
    have h3 : r ^^^ 4294967295 = 4294967295 - r := by
      have := congrArg (fun z => r ^^^ z) (xor_ones hr)
      simp only [← Nat.xor_assoc, Nat.xor_self, Nat.zero_xor] at this
      exact this.symm
    rw [h3] at h2
    rw [← h2, four_le hl]
theorem crcOk_seal (s : List UInt8) : crcOk (seal4 s) = true := by
  unfold crcOk seal4
  rw [decide_eq_true_iff]
  have hl : (s ++ four (crc s)).length - 4 = s.length := by simp [four]
  rw [hl, List.drop_left, List.take_left]
  exact ⟨by simp [four], rfl⟩
/-- Bytes turned within four beside one another are seen. -/
theorem crcOk_burst {a x y c : List UInt8} (hl : x.length = y.length) (h4 : x.length ≤ 4) (hlen : 4 ≤ (a ++ (x ++ c)).length) (hs : crcOk (a ++ (x ++ c)) = true) (ht : crcOk (a ++ (y ++ c)) = true) : x = y := by
  rw [crcOk_iff hlen] at hs
  rw [crcOk_iff (by simp at *; omega)] at ht
  rw [← ht, sall_append, sall_append, sall_append, sall_append] at hs
  have hr : sall 4294967295 a < 4294967296 := sall_lt (by decide) _
  exact sall_burst hr hl h4 (sall_inj (sall_lt hr _) (sall_lt hr _) hs)

end Go.Proofs.YthapghhmeicbnaaDoor
