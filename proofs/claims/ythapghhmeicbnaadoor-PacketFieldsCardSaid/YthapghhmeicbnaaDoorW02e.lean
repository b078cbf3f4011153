/- Layer 2, told once for every argument; the fixed calls; the laws' walks. -/
import Derived.Test.YthapghhmeicbnaaDoorW02c
import Derived.Test.YthapghhmeicbnaaDoorW02d
namespace Go.Proofs.YthapghhmeicbnaaDoor
open Go.RowKit

/-- Put, Take, PutText, TakeText at every argument. -/
def putZ (n : Nat) (m : Int) : List UInt8 := if 1 ≤ m ∧ m ≤ 8 then put n m.toNat else []
def tkB (s : List UInt8) (m : Int) : Bool := decide (1 ≤ m ∧ m ≤ 8 ∧ m ≤ s.length)
def tkN (s : List UInt8) (m : Int) : Nat := if 1 ≤ m ∧ m ≤ 8 ∧ m ≤ s.length then val (s.take m.toNat) else 0
def tkR (s : List UInt8) (m : Int) : List UInt8 := if 1 ≤ m ∧ m ≤ 8 ∧ m ≤ s.length then s.drop m.toNat else []
def ptB (s : List UInt8) (m : Int) : Bool := decide (0 ≤ m ∧ m ≤ 255 ∧ s.length ≤ m)
def ptS (s : List UInt8) (m : Int) : List UInt8 := if 0 ≤ m ∧ m ≤ 255 ∧ s.length ≤ m then tput s m.toNat else []
def ttO (s : List UInt8) (m : Int) : Option (List UInt8 × List UInt8) := if 0 ≤ m ∧ m ≤ 255 then ttake s m.toNat else none
def ttT (s : List UInt8) (m : Int) : List UInt8 := match ttO s m with | some x => x.1 | none => []
def ttR (s : List UInt8) (m : Int) : List UInt8 := match ttO s m with | some x => x.2 | none => []
def ttB (s : List UInt8) (m : Int) : Bool := (ttO s m).isSome

theorem put_all (n : Nat) (m : Int) (w : World) (hn : n < 18446744073709551616) :
    Calls Tryd.prog 43 #[.int .u64 n, .int .i64 m] w fun e w' => e = .returned (.string (bs (putZ n m))) ∧ Below w.heap.size w w' := by
  by_cases h : 1 ≤ m ∧ m ≤ 8
  · obtain ⟨k, rfl⟩ := Int.eq_ofNat_of_zero_le (show 0 ≤ m by omega)
    rw [putZ, if_pos h]
    exact put_yes n k w (by omega) (by omega) hn
  · rw [putZ, if_neg h]
    exact (put_no n m w (by omega)).mono fun e w' ⟨he, hw⟩ => ⟨he, hw ▸ Below.refl _ _⟩
theorem take_all (s : ByteArray) (m : Int) (w : World) (hs : s.size ≤ 9223372036854775807) :
    Calls Tryd.prog 52 #[.string s, .int .i64 m] w fun e w' => e = .returned (.tuple #[.int .u64 (tkN s.data.toList m), .string (bs (tkR s.data.toList m)), .bool (tkB s.data.toList m)]) ∧ Dr w w' := by
  by_cases h : 1 ≤ m ∧ m ≤ 8 ∧ m ≤ s.data.toList.length
  · rw [tkN, tkR, tkB, if_pos h, if_pos h, decide_eq_true h]
    rw [data_len] at h
    obtain ⟨k, rfl⟩ := Int.eq_ofNat_of_zero_le (show 0 ≤ m by omega)
    exact take_yes s k w (by omega) (by omega) (by omega) hs
  · rw [tkN, tkR, tkB, if_neg h, if_neg h, decide_eq_false h]
    rw [data_len] at h
    exact (take_no s m w (by omega)).mono fun e w' ⟨he, hw⟩ => ⟨he, hw ▸ Dr.refl _⟩
theorem putText_all (s : ByteArray) (m : Int) (w : World) :
    Calls Tryd.prog 67 #[.string s, .int .i64 m] w fun e w' => e = .returned (.tuple #[.string (bs (ptS s.data.toList m)), .bool (ptB s.data.toList m)]) ∧ Below w.heap.size w w' := by
  by_cases h : 0 ≤ m ∧ m ≤ 255 ∧ s.data.toList.length ≤ m
  · rw [ptS, ptB, if_pos h, decide_eq_true h]
    rw [data_len] at h
    obtain ⟨k, rfl⟩ := Int.eq_ofNat_of_zero_le h.1
    exact putText_yes s k w (by omega) (by omega)
  · rw [ptS, ptB, if_neg h, decide_eq_false h]
    rw [data_len] at h
    exact (putText_no s m w (by omega)).mono fun e w' ⟨he, hw⟩ => ⟨he, hw ▸ Below.refl _ _⟩
theorem takeText_all (s : ByteArray) (m : Int) (w : World) (hs : s.size ≤ 9223372036854775000) :
    Calls Tryd.prog 69 #[.string s, .int .i64 m] w fun e w' => e = .returned (.tuple #[.string (bs (ttT s.data.toList m)), .string (bs (ttR s.data.toList m)), .bool (ttB s.data.toList m)]) ∧ Dr w w' := by
  by_cases h : 0 ≤ m ∧ m ≤ 255
  · obtain ⟨k, rfl⟩ := Int.eq_ofNat_of_zero_le h.1
    cases ht : ttake s.data.toList k with
    | some x =>
      have e : ttO s.data.toList k = some x := by rw [ttO, if_pos h]; exact ht
      rw [ttT, ttR, ttB, e]
      exact takeText_any s k w (by omega) hs x.1 x.2 ht
    | none =>
      have e : ttO s.data.toList k = none := by rw [ttO, if_pos h]; exact ht
      rw [ttT, ttR, ttB, e]
      exact takeText_none s k w hs (.inr (.inr ht))
  · have e : ttO s.data.toList m = none := by rw [ttO, if_neg h]
    rw [ttT, ttR, ttB, e]
    exact takeText_none s m w hs (by omega)

theorem rput_all (n : Nat) (m : Int) (w : World) (hn : n < 18446744073709551616) :
    Calls Tryd.prog 47 #[.int .u64 n, .int .i64 m] w fun e w' => e = .returned (.string (bs (putZ n m))) ∧ Below w.heap.size w w' := by
  by_cases h : 1 ≤ m ∧ m ≤ 8
  · obtain ⟨k, rfl⟩ := Int.eq_ofNat_of_zero_le (show 0 ≤ m by omega)
    rw [putZ, if_pos h]
    exact rput_yes n k w (by omega) (by omega) hn
  · rw [putZ, if_neg h]
    exact (rput_no n m w (by omega)).mono fun e w' ⟨he, hw⟩ => ⟨he, hw ▸ Below.refl _ _⟩
theorem rtake_all (s : ByteArray) (m : Int) (w : World) (hs : s.size ≤ 9223372036854775807) :
    Calls Tryd.prog 54 #[.string s, .int .i64 m] w fun e w' => e = .returned (.tuple #[.int .u64 (tkN s.data.toList m), .string (bs (tkR s.data.toList m)), .bool (tkB s.data.toList m)]) ∧ Dr w w' := by
  by_cases h : 1 ≤ m ∧ m ≤ 8 ∧ m ≤ s.data.toList.length
  · rw [tkN, tkR, tkB, if_pos h, if_pos h, decide_eq_true h]
    rw [data_len] at h
    obtain ⟨k, rfl⟩ := Int.eq_ofNat_of_zero_le (show 0 ≤ m by omega)
    exact rtake_yes s k w (by omega) (by omega) (by omega) hs
  · rw [tkN, tkR, tkB, if_neg h, if_neg h, decide_eq_false h]
    rw [data_len] at h
    exact (rtake_no s m w (by omega)).mono fun e w' ⟨he, hw⟩ => ⟨he, hw ▸ Dr.refl _⟩
theorem rputText_all (s : ByteArray) (m : Int) (w : World) :
    Calls Tryd.prog 68 #[.string s, .int .i64 m] w fun e w' => e = .returned (.tuple #[.string (bs (ptS s.data.toList m)), .bool (ptB s.data.toList m)]) ∧ Below w.heap.size w w' := by
  by_cases h : 0 ≤ m ∧ m ≤ 255 ∧ s.data.toList.length ≤ m
  · rw [ptS, ptB, if_pos h, decide_eq_true h]
    rw [data_len] at h
    obtain ⟨k, rfl⟩ := Int.eq_ofNat_of_zero_le h.1
    exact rputText_yes s k w (by omega) (by omega)
  · rw [ptS, ptB, if_neg h, decide_eq_false h]
    rw [data_len] at h
    exact (rputText_no s m w (by omega)).mono fun e w' ⟨he, hw⟩ => ⟨he, hw ▸ Below.refl _ _⟩
theorem rtakeText_all (s : ByteArray) (m : Int) (w : World) (hs : s.size ≤ 9223372036854775000) :
    Calls Tryd.prog 65 #[.string s, .int .i64 m] w fun e w' => e = .returned (.tuple #[.string (bs (ttT s.data.toList m)), .string (bs (ttR s.data.toList m)), .bool (ttB s.data.toList m)]) ∧ Below w.heap.size w w' := by
  by_cases h : 0 ≤ m ∧ m ≤ 255
  · obtain ⟨k, rfl⟩ := Int.eq_ofNat_of_zero_le h.1
    cases ht : ttake s.data.toList k with
    | some x =>
      have e : ttO s.data.toList k = some x := by rw [ttO, if_pos h]; exact ht
      rw [ttT, ttR, ttB, e]
      exact rtakeText_any s k w (by omega) hs x.1 x.2 ht
    | none =>
      have e : ttO s.data.toList k = none := by rw [ttO, if_pos h]; exact ht
      rw [ttT, ttR, ttB, e]
      exact rtakeText_none s k w hs (.inr (.inr ht))
  · have e : ttO s.data.toList m = none := by rw [ttO, if_neg h]
    rw [ttT, ttR, ttB, e]
    exact rtakeText_none s m w hs (by omega)


end Go.Proofs.YthapghhmeicbnaaDoor
