/- The library's sort at uint64 as plain functions: bits.Len, the patterns. -/
import Derived.Test.YtjnaphniplfpkaaS3
set_option linter.unusedVariables false
set_option linter.unusedSimpArgs false
namespace Go.Proofs.Ytjnaphniplfpkaa
open Go.RowKit Go.Sort Go.IntWalk

theorem bl_shift {k x : Nat} (h : 2 ^ k ≤ x) : bitsLen (x / 2 ^ k) + k = bitsLen x := by
  have key : ∀ m, bitsLen x ≤ m ↔ bitsLen (x / 2 ^ k) + k ≤ m := by
    intro m
    rw [bitsLen_le_iff]
    by_cases hm : k ≤ m
    · have : bitsLen (x / 2 ^ k) + k ≤ m ↔ bitsLen (x / 2 ^ k) ≤ m - k := by omega
      rw [this, bitsLen_le_iff, Nat.div_lt_iff_lt_mul (Nat.two_pow_pos k), ← Nat.pow_add, Nat.sub_add_cancel hm]
    · constructor
      · intro h2
        exact absurd (Nat.lt_of_le_of_lt h h2) (by rw [Nat.not_lt]; exact Nat.pow_le_pow_right (by decide) (by omega))
      · intro h2; omega
  exact Nat.le_antisymm ((key _).1 (Nat.le_refl _)) ((key _).2 (Nat.le_refl _))
set_option maxRecDepth 100000 in
theorem ks_len : ∀ i : Nat, i < 256 → (List.getD KS0 i 0).toNat = bitsLen i := by decide +kernel
theorem ks_size : List.length KS0 = 256 := by decide +kernel
theorem f_len (n : Nat) (hn : n < 9223372036854775808) : F_math_bits_Len (n : Int) = some ((bitsLen n : Nat) : Int) := by
  have step : ∀ (k : Nat) (P : Int), P = ((2 ^ k : Nat) : Int) → ∀ (x c : Nat), bitsLen x + c = bitsLen n → ∀ (f : Int × Int → Option Int), 
      ((∀ x2 c2 : Nat, bitsLen x2 + c2 = bitsLen n → (2 ^ k ≤ x → x2 = x / 2 ^ k ∧ c2 = c + k) → (x < 2 ^ k → x2 = x ∧ c2 = c) → f ((x2 : Int), (c2 : Int)) = some ((bitsLen n : Nat) : Int)) → (show Option (Int × Int) from if ((x : Int) ≥ P) then some (Int.fdiv (x : Int) P, (c : Int) + k) else some ((x : Int), (c : Int))).bind f = some ((bitsLen n : Nat) : Int)) := by
    intro k P hP x c hx f hf
    subst hP
    show (if ((x : Int) ≥ ((2 ^ k : Nat) : Int)) then some (Int.fdiv (x : Int) ((2 ^ k : Nat) : Int), (c : Int) + k) else some ((x : Int), (c : Int))).bind f = _
    by_cases h : 2 ^ k ≤ x
    · rw [if_pos (Int.ofNat_le.2 h)]
      simp only [Option.bind_some]
      rw [Int.fdiv_eq_ediv_of_nonneg _ (Int.natCast_nonneg _)]
      have := hf (x / 2 ^ k) (c + k) (by have := bl_shift h; omega) (fun _ => ⟨rfl, rfl⟩) (fun h2 => by omega)
      rw [← this]
      rfl
    · rw [if_neg (fun h2 => h (Int.ofNat_le.1 h2))]
      exact hf x c hx (fun h2 => absurd h2 h) (fun _ => ⟨rfl, rfl⟩)
  have p32 : ((2 : Int) ^ min (Int.toNat 32) 64) = 4294967296 := by decide
  have p16 : ((2 : Int) ^ min (Int.toNat 16) 64) = 65536 := by decide
  have p8 : ((2 : Int) ^ min (Int.toNat 8) 64) = 256 := by decide
  have w : ∀ x : Int, -100 ≤ x ∧ x ≤ 1000 → IntKind.wrap .i64 x = x := fun x h => wr (by omega)
  unfold F_math_bits_Len F_math_bits_Len64
  rw [p32, p16, p8]
  simp only [decide_eq_true_eq]
  suffices h : ((show Option (Int × Int) from if ((n : Int) ≥ 4294967296) then some (Int.fdiv (n : Int) 4294967296, 32) else some ((n : Int), 0)).bind (fun r1 => (show Option (Int × Int) from if (r1.1 ≥ 65536) then some (Int.fdiv r1.1 65536, IntKind.wrap .i64 (r1.2 + 16)) else some (r1.1, r1.2)).bind (fun r2 => (show Option (Int × Int) from if (r2.1 ≥ 256) then some (Int.fdiv r2.1 256, IntKind.wrap .i64 (r2.2 + 8)) else some (r2.1, r2.2)).bind (fun r3 => if 0 ≤ (IntKind.wrap .u8 r3.1) ∧ (IntKind.wrap .u8 r3.1) < ((List.length KS0 : Nat) : Int) then (some (IntKind.wrap .i64 (r3.2 + (IntKind.wrap .i64 (((List.getD KS0 (Int.toNat (IntKind.wrap .u8 r3.1)) 0).toNat : Nat) : Int))))) else none)))) = some ((bitsLen n : Nat) : Int) by
    rw [h]; rfl
  refine step 32 4294967296 rfl n 0 (by omega) _ fun x1 c1 b1 u1 v1 => ?_
  have hx1 : x1 < 4294967296 ∧ c1 ≤ 32 := by
    by_cases h : 2 ^ 32 ≤ n
    · obtain ⟨rfl, rfl⟩ := u1 h; omega
    · obtain ⟨rfl, rfl⟩ := v1 (by omega); omega
  simp only
  rw [w _ (by omega)]
  refine step 16 65536 rfl x1 c1 b1 _ fun x2 c2 b2 u2 v2 => ?_
  have hx2 : x2 < 65536 ∧ c2 ≤ 48 := by
    by_cases h : 2 ^ 16 ≤ x1
    · obtain ⟨rfl, rfl⟩ := u2 h; omega
    · obtain ⟨rfl, rfl⟩ := v2 (by omega); omega
  simp only
  rw [w _ (by omega)]
  refine step 8 256 rfl x2 c2 b2 _ fun x3 c3 b3 u3 v3 => ?_
  have hx3 : x3 < 256 ∧ c3 ≤ 56 := by
    by_cases h : 2 ^ 8 ≤ x2
    · obtain ⟨rfl, rfl⟩ := u3 h; omega
    · obtain ⟨rfl, rfl⟩ := v3 (by omega); omega
  simp only
  have e : IntKind.wrap .u8 (x3 : Int) = (x3 : Int) := u8_in _ (by omega)
  have hb : bitsLen x3 ≤ 8 := (bitsLen_le_iff _ _).2 (by omega)
  rw [e, ks_size, if_pos (by omega), Int.toNat_natCast, ks_len x3 hx3.1, w ((bitsLen x3 : Nat) : Int) (by omega), w _ (by omega)]
  congr 1
  omega

theorem band_le (x : Int) (b : Nat) (hb : b < 18446744073709551616) : ∃ c : Nat, bits .and .u64 x (b : Int) = (c : Int) ∧ c ≤ b := by
  have h2 : (BitVec.ofInt 64 (b : Int)).toNat = b := by
    rw [BitVec.ofInt_natCast, BitVec.toNat_ofNat]; exact Nat.mod_eq_of_lt (by omega)
  refine ⟨(BitVec.ofInt 64 x).toNat &&& b, ?_, Nat.and_le_right⟩
  have hx : (BitVec.ofInt 64 x).toNat &&& b < 2 ^ 64 := Nat.lt_of_le_of_lt Nat.and_le_right (by omega)
  show IntKind.u64.wrap ((BitVec.ofInt 64 x &&& BitVec.ofInt 64 (b : Int)).toNat : Int) = _
  rw [BitVec.toNat_and, h2, IntKind.wrap_u64]
  omega

theorem f_next (n : Nat) (h : 0 < n) (hn : n ≤ 1152921504606846976) : ∃ M : Nat, F_slices_nextPowerOfTwo (n : Int) = some (M : Int) ∧ 0 < M ∧ M ≤ 2 * n := by
  have hb : bitsLen n ≤ 61 := (bitsLen_le_iff _ _).2 (by omega)
  have hM := two_pow_bitsLen_le h
  refine ⟨2 ^ bitsLen n, ?_, Nat.two_pow_pos _, hM⟩
  unfold F_slices_nextPowerOfTwo
  rw [u64_in _ (by omega), f_len n (by omega)]
  simp only [Option.bind_some]
  rw [if_pos (by omega), Int.toNat_natCast, Nat.min_eq_left (by omega), Int.one_mul]
  have e : ((2 : Int) ^ bitsLen n) = ((2 ^ bitsLen n : Nat) : Int) := by simp
  rw [e]
  generalize 2 ^ bitsLen n = M at hM
  rw [u64_in _ (by omega)]

theorem f_breakL (a b M : Nat) (hM : 0 < M) (hM2 : M ≤ 2 * (b - a)) (h8 : 8 ≤ b - a) (n : Nat) (hn : n ≤ 1152921504606846976) (hb : b ≤ n) : ∀ (m idx : Nat) (d : Array Int) (r : Int), a + (b - a) / 4 * 2 + 2 - idx ≤ m → a ≤ idx → idx ≤ a + (b - a) / 4 * 2 + 2 → d.size = n →
    ∃ d' : Array Int, loopO (F_slices_breakPatternsOrdered_uint64_b1 (M : Int) (a : Int) (b : Int)) ((idx : Int), d.toList, r) = some d'.toList ∧ PermIn a b d d' := by
  have e1 : (b : Int) - (a : Int) = ((b - a : Nat) : Int) := by omega
  have e2 : Int.tdiv ((b - a : Nat) : Int) 4 = (((b - a) / 4 : Nat) : Int) := by rw [Int.tdiv_eq_ediv_of_nonneg (by omega)]; omega
  have eb : IntKind.wrap .i64 (IntKind.wrap .i64 ((a : Int) + IntKind.wrap .i64 (IntKind.wrap .i64 (Int.tdiv (IntKind.wrap .i64 ((b : Int) - (a : Int))) 4) * 2)) + 1) = ((a + (b - a) / 4 * 2 + 1 : Nat) : Int) := by
    rw [e1, show IntKind.wrap .i64 ((b - a : Nat) : Int) = ((b - a : Nat) : Int) from wr (by omega), e2]
    simp (disch := omega) only [wr]
    omega
  intro m
  induction m with
  | zero =>
    intro idx d r hm ha hi hd
    refine ⟨d, loopO_end ?_, permIn_refl d a b⟩
    simp only [F_slices_breakPatternsOrdered_uint64_b1, decide_eq_true_eq, eb]
    rw [if_neg (by omega)]
  | succ m ih =>
    intro idx d r hm ha hi hd
    by_cases h : idx ≤ a + (b - a) / 4 * 2 + 1
    · have hl : d.toList.length = n := by simpa using hd
      have hnx : ∃ r2 : Int, F_slices_xorshift_Next r = some (r2, r2) := ⟨_, rfl⟩
      obtain ⟨r2, hr2⟩ := hnx
      obtain ⟨c, hc1, hc2⟩ := band_le r2 (M - 1) (by omega)
      have hM1 : IntKind.wrap .u64 ((M : Int) - 1) = ((M - 1 : Nat) : Int) := by rw [u64_in _ (by omega)]; omega
      obtain ⟨o, ho, ho2⟩ : ∃ o : Nat, (if ((c : Nat) : Int) ≥ ((b - a : Nat) : Int) then some (((c : Nat) : Int) - ((b - a : Nat) : Int)) else some ((c : Nat) : Int)) = some (o : Int) ∧ o < b - a := by
        by_cases hcb : c ≥ b - a
        · exact ⟨c - (b - a), by rw [if_pos (by omega)]; congr 1; omega, by omega⟩
        · exact ⟨c, by rw [if_neg (by omega)], by omega⟩
      obtain ⟨d', i1, i2⟩ := ih (idx + 1) (swp d idx (a + o)) r2 (by omega) (by omega) (by omega) (by rw [size_swp]; exact hd)
      refine ⟨d', ?_, permIn_trans _ _ _ a b (swp_permIn d a b idx (a + o) ha (by omega) (by omega) (by omega) (by omega)) i2⟩
      rw [← i1]
      refine loopO_go ?_
      simp only [F_slices_breakPatternsOrdered_uint64_b1, decide_eq_true_eq, eb]
      rw [if_pos (by omega), hr2]
      simp only [Option.bind_some]
      rw [hM1, hc1, e1]
      simp (disch := omega) only [wr]
      rw [ho]
      simp (disch := omega) only [Option.bind_some, wr, if_pos, Int.toNat_add, Int.toNat_natCast, gd, sw, lset, hl]
      rfl
    · refine ⟨d, loopO_end ?_, permIn_refl d a b⟩
      simp only [F_slices_breakPatternsOrdered_uint64_b1, decide_eq_true_eq, eb]
      rw [if_neg (by omega)]
theorem f_break (a b : Nat) (d : Array Int) (hn : d.size ≤ 1152921504606846976) (hab : a ≤ b) (hb : b ≤ d.size) : ∃ d' : Array Int, F_slices_breakPatternsOrdered_uint64 d.toList (a : Int) (b : Int) = some d'.toList ∧ PermIn a b d d' := by
  have e1 : (b : Int) - (a : Int) = ((b - a : Nat) : Int) := by omega
  have e2 : Int.tdiv ((b - a : Nat) : Int) 4 = (((b - a) / 4 : Nat) : Int) := by rw [Int.tdiv_eq_ediv_of_nonneg (by omega)]; omega
  unfold F_slices_breakPatternsOrdered_uint64
  rw [e1, wr (show _ ∧ _ by omega), e2]
  simp only [decide_eq_true_eq]
  by_cases h8 : 8 ≤ b - a
  · rw [if_pos (by omega)]
    obtain ⟨M, k1, k2, k3⟩ := f_next (b - a) (by omega) (by omega)
    rw [k1]
    simp only [Option.bind_some]
    obtain ⟨d', i1, i2⟩ := f_breakL a b M k2 k3 h8 d.size hn hb _ (a + (b - a) / 4 * 2 - 1) d (IntKind.wrap .u64 ((b - a : Nat) : Int)) (Nat.le_refl _) (by omega) (by omega) rfl
    have es : IntKind.wrap .i64 (IntKind.wrap .i64 ((a : Int) + IntKind.wrap .i64 (IntKind.wrap .i64 (((b - a) / 4 : Nat) : Int) * 2)) - 1) = ((a + (b - a) / 4 * 2 - 1 : Nat) : Int) := by
      simp (disch := omega) only [wr]
      omega
    rw [es, i1]
    exact ⟨d', rfl, i2⟩
  · rw [if_neg (by omega)]
    exact ⟨d, rfl, permIn_refl d a b⟩
end Go.Proofs.Ytjnaphniplfpkaa
