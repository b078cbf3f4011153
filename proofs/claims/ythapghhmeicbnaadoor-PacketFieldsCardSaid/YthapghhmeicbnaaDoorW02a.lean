/- The walks of layer 2: fields of a fixed width. -/
import Derived.Test.YthapghhmeicbnaaDoorMem
import Derived.Deep.QuietTactic
import Derived.BigQuiet
import Derived.Laws.BitsAllLaws
namespace Go.Proofs.YthapghhmeicbnaaDoor
open Go.RowKit

/-- Does a number fit a width? -/
def fitsZ (n : Nat) (k : Int) : Bool := decide (1 ≤ k ∧ k ≤ 8 ∧ n < 256 ^ k.toNat)
theorem fitsZ_8 {n : Nat} (hn : n < 18446744073709551616) : fitsZ n 8 = true := decide_eq_true ⟨by decide, by decide, hn⟩
theorem fitsZ_out {n : Nat} {k : Int} (h : k < 1 ∨ 8 < k) : fitsZ n k = false := decide_eq_false (by omega)
theorem fitsZ_in {n k : Nat} (h1 : 1 ≤ k) (h8 : k ≤ 8) : fitsZ n k = decide (n < 256 ^ k) := by
  unfold fitsZ
  rw [Int.toNat_natCast]
  simp only [decide_eq_decide]
  constructor
  · rintro ⟨_, _, h⟩; exact h
  · intro h; exact ⟨by omega, by omega, h⟩

theorem wide_any (n : Int) (w : World) : Calls Tryd.prog 58 #[.int .i64 n] w fun e w' => e = .returned (.bool (decide (1 ≤ n ∧ n ≤ 8))) ∧ w = w' := by
  by_cases h1 : 1 ≤ n
  · by_cases h2 : n ≤ 8
    · have e : decide (1 ≤ n ∧ n ≤ 8) = true := decide_eq_true ⟨h1, h2⟩
      rw [e]; clear e
      go_enter Tryd.func58, Tryd.ntmps58
      go_wp2
      go_ret
      exact ⟨ret_bool (by simp), rfl⟩
    · have e : decide (1 ≤ n ∧ n ≤ 8) = false := decide_eq_false (by omega)
      rw [e]; clear e
      go_enter Tryd.func58, Tryd.ntmps58
      go_wp2
      go_ret
      exact ⟨ret_bool (by simp), rfl⟩
  · have e : decide (1 ≤ n ∧ n ≤ 8) = false := decide_eq_false (by omega)
    rw [e]; clear e
    go_enter Tryd.func58, Tryd.ntmps58
    go_wp2
    go_ret
    exact ⟨ret_bool (by simp), rfl⟩

theorem wrap_u64 (n : Int) : IntKind.u64.wrap n = n % 18446744073709551616 := by simp [IntKind.wrap, IntKind.bits, IntKind.signed]

/-- A number, and one byte behind it. -/
theorem val_or (l : List UInt8) (b : UInt8) (h : val l < 256 ^ 7) : bits .or .u64 (IntKind.u64.wrap ((val l : Nat) * 256)) (IntKind.u64.wrap (b.toNat : Nat)) = ((val (l ++ [b]) : Nat) : Int) := by
  have hb := b.toNat_lt
  have e1 : IntKind.u64.wrap (((val l : Nat) : Int) * 256) = ((val l * 256 : Nat) : Int) := by rw [wrap_u64]; omega
  have e2 : IntKind.u64.wrap ((b.toNat : Nat) : Int) = ((b.toNat : Nat) : Int) := by rw [wrap_u64]; omega
  rw [e1, e2, u64_or_nat _ _ (by omega) (by omega), nat_join 8 _ _ (by omega) (by omega), val_snoc]

theorem take_snoc (s : ByteArray) (k : Nat) (h : k < s.size) : s.data.toList.take (k + 1) = s.data.toList.take k ++ [s[k]] := by
  rw [List.take_succ_eq_append_getElem (by simpa using h)]; rfl
theorem val_take_lt (l : List UInt8) (k : Nat) (h : k ≤ 7) : val (l.take k) < 256 ^ 7 := by
  refine Nat.lt_of_lt_of_le (val_lt _) (Nat.pow_le_pow_right (by decide) ?_)
  rw [List.length_take]
  omega
theorem extract_bs (s : ByteArray) (n : Nat) : s.extract n s.size = bs (s.data.toList.drop n) := by
  rw [← bs_data s, bs_extract, bs_list, bs_size, List.take_of_length_le (by simp)]

theorem take_yes (s : ByteArray) (n : Nat) (w : World) (h1 : 1 ≤ n) (h8 : n ≤ 8) (hs : n ≤ s.size) (hm : s.size ≤ 9223372036854775807) :
    Calls Tryd.prog 52 #[.string s, .int .i64 n] w fun e w' => e = .returned (.tuple #[.int .u64 (val (s.data.toList.take n)), .string (bs (s.data.toList.drop n)), .bool true]) ∧ Dr w w' := by
  have hd : decide ((1 : Int) ≤ (n : Int) ∧ (n : Int) ≤ 8) = true := decide_eq_true (by omega)
  have hw := wide_any n
  rw [hd] at hw
  clear hd
  have HW := Lib.hid hw; clear hw
  have hd2 : decide (s.size < n) = false := decide_eq_false (by omega)
  go_enter Tryd.func52, Tryd.ntmps52
  go_wp2_with (go_at_call 58; refine (HW.out _).mono ?_; rintro e w' ⟨rfl, rfl⟩)
  go_loop [7, 8, 19] (fun a _ i => ∃ k : Nat, k ≤ n ∧ i = .int .i64 k ∧ a = .int .u64 (val (s.data.toList.take k))) (fun _ _ i => n - (intOf i).toNat)
  case atStart => exact ⟨0, Nat.zero_le _, rfl, rfl⟩
  case round =>
    obtain ⟨k, hk, rfl, rfl⟩ := hrel
    by_cases hlt : k < n
    · have hv := Lib.hid (val_or (s.data.toList.take k) (s[k]'(by omega)) (val_take_lt _ _ (by omega)))
      have ht := Lib.hid (take_snoc s k (by omega))
      go_wp2
      go_round
      case rel => exact ⟨k + 1, by omega, by go_num, by rw [ht.out, ← hv.out]⟩
      case measure => simp [intOf]; omega
    · have hkn := Lib.hid (show k = n by omega)
      go_wp2
      go_quiet (fail)
      go_wp2
      go_ret3
      exact ⟨ret3 (v_int (by rw [hkn.out])) (v_string (extract_bs s n)) rfl, Dr.one _ _⟩

theorem take_no (s : ByteArray) (n : Int) (w : World) (h : n < 1 ∨ 8 < n ∨ (s.size : Int) < n) :
    Calls Tryd.prog 52 #[.string s, .int .i64 n] w fun e w' => e = .returned (.tuple #[.int .u64 0, .string (bs []), .bool false]) ∧ w = w' := by
  by_cases hn : 1 ≤ n ∧ n ≤ 8
  · obtain ⟨k, rfl⟩ := Int.eq_ofNat_of_zero_le (show 0 ≤ n by omega)
    have hw := wide_any k
    rw [decide_eq_true hn] at hw
    have HW := Lib.hid hw; clear hw
    have hd2 : s.size < k := by omega
    have hd3 : decide (s.size < k) = true := decide_eq_true hd2
    clear h hn
    go_enter Tryd.func52, Tryd.ntmps52
    go_wp2_with (go_at_call 58; refine (HW.out _).mono ?_; rintro e w' ⟨rfl, rfl⟩)
    go_ret3
    exact ⟨rfl, rfl⟩
  · have hw := wide_any n
    rw [decide_eq_false hn] at hw
    have HW := Lib.hid hw; clear hw
    clear h hn
    go_enter Tryd.func52, Tryd.ntmps52
    go_wp2_with (go_at_call 58; refine (HW.out _).mono ?_; rintro e w' ⟨rfl, rfl⟩)
    go_ret3
    exact ⟨rfl, rfl⟩

theorem val_add (l : List UInt8) (b : UInt8) (h : val l < 256 ^ 7) : IntKind.u64.wrap (IntKind.u64.wrap (256 * ((val l : Nat) : Int)) + IntKind.u64.wrap (b.toNat : Nat)) = ((val (l ++ [b]) : Nat) : Int) := by
  have hb := b.toNat_lt
  rw [wrap_u64, wrap_u64, wrap_u64, val_snoc]
  omega

theorem fits_same (n : Nat) (k : Int) (w : World) (hn : n < 18446744073709551616) : Calls Tryd.prog 63 #[.int .u64 n, .int .i64 k] w fun e w' => e = .returned (.bool (fitsZ n k)) ∧ w = w' := by
  have hn' := Lib.hid hn; clear hn
  have hw := wide_any k
  by_cases hk : 1 ≤ k ∧ k ≤ 8
  · rw [decide_eq_true hk] at hw
    have HW := Lib.hid hw; clear hw
    have hkk : k = 8 ∨ k = 1 ∨ k = 2 ∨ k = 3 ∨ k = 4 ∨ k = 5 ∨ k = 6 ∨ k = 7 := by omega
    clear hk
    rcases hkk with rfl | rfl | rfl | rfl | rfl | rfl | rfl | rfl
    · rw [fitsZ_8 hn'.out]
      go_enter Tryd.func63, Tryd.ntmps63
      go_wp2_with (go_at_call 58; refine (HW.out _).mono ?_; rintro e w' ⟨rfl, rfl⟩)
      go_ret
      exact ⟨rfl, rfl⟩
    all_goals
      go_enter Tryd.func63, Tryd.ntmps63
      go_wp2_with (go_at_call 58; refine (HW.out _).mono ?_; rintro e w' ⟨rfl, rfl⟩)
      go_ret
      exact ⟨ret_bool (by unfold fitsZ; rw [Bool.eq_iff_iff]; simp; omega), rfl⟩
  · rw [decide_eq_false hk] at hw
    have HW := Lib.hid hw; clear hw
    rw [fitsZ_out (by omega)]
    go_enter Tryd.func63, Tryd.ntmps63
    go_wp2_with (go_at_call 58; refine (HW.out _).mono ?_; rintro e w' ⟨rfl, rfl⟩)
    go_ret
    exact ⟨rfl, rfl⟩

theorem fits_any (n : Nat) (k : Int) (w : World) (hn : n < 18446744073709551616) : Calls Tryd.prog 63 #[.int .u64 n, .int .i64 k] w fun e w' => e = .returned (.bool (fitsZ n k)) ∧ Dr w w' :=
  (fits_same n k w hn).mono fun _ _ ⟨he, hw⟩ => ⟨he, hw ▸ Dr.refl _⟩

theorem rtake_yes (s : ByteArray) (n : Nat) (w : World) (h1 : 1 ≤ n) (h8 : n ≤ 8) (hs : n ≤ s.size) (hm : s.size ≤ 9223372036854775807) :
    Calls Tryd.prog 54 #[.string s, .int .i64 n] w fun e w' => e = .returned (.tuple #[.int .u64 (val (s.data.toList.take n)), .string (bs (s.data.toList.drop n)), .bool true]) ∧ Dr w w' := by
  have hd2 : decide (s.size < n) = false := decide_eq_false (by omega)
  go_enter Tryd.func54, Tryd.ntmps54
  go_wp2
  go_loop [7, 8] (fun a i => ∃ k : Nat, k ≤ n ∧ i = .int .i64 k ∧ a = .int .u64 (val (s.data.toList.take k))) (fun _ i => n - (intOf i).toNat)
  case atStart => exact ⟨0, Nat.zero_le _, rfl, rfl⟩
  case round =>
    obtain ⟨k, hk, rfl, rfl⟩ := hrel
    by_cases hlt : k < n
    · have hv := Lib.hid (val_add (s.data.toList.take k) (s[k]'(by omega)) (val_take_lt _ _ (by omega)))
      have ht := Lib.hid (take_snoc s k (by omega))
      go_wp2
      go_round
      case rel => exact ⟨k + 1, by omega, by go_num, by rw [ht.out, ← hv.out]⟩
      case measure => simp [intOf]; omega
    · have hkn := Lib.hid (show k = n by omega)
      go_wp2
      go_quiet (fail)
      go_wp2
      go_ret3
      exact ⟨ret3 (v_int (by rw [hkn.out])) (v_string (extract_bs s n)) rfl, Dr.one _ _⟩

theorem rtake_no (s : ByteArray) (n : Int) (w : World) (h : n < 1 ∨ 8 < n ∨ (s.size : Int) < n) :
    Calls Tryd.prog 54 #[.string s, .int .i64 n] w fun e w' => e = .returned (.tuple #[.int .u64 0, .string (bs []), .bool false]) ∧ w = w' := by
  by_cases h1 : n < 1
  · clear h
    go_enter Tryd.func54, Tryd.ntmps54
    go_wp2
    go_ret3
    exact ⟨rfl, rfl⟩
  · obtain ⟨k, rfl⟩ := Int.eq_ofNat_of_zero_le (show 0 ≤ n by omega)
    by_cases h2 : 8 < k
    · clear h
      go_enter Tryd.func54, Tryd.ntmps54
      go_wp2
      go_ret3
      exact ⟨rfl, rfl⟩
    · have hd2 : s.size < k := by omega
      have hd3 : decide (s.size < k) = true := decide_eq_true hd2
      clear h
      go_enter Tryd.func54, Tryd.ntmps54
      go_wp2
      go_ret3
      exact ⟨rfl, rfl⟩



end Go.Proofs.YthapghhmeicbnaaDoor
