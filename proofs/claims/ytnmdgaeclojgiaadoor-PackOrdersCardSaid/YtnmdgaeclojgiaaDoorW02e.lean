/- Layer 2, told once for every argument; the fixed calls; the laws' walks. -/
import Derived.Test.YtnmdgaeclojgiaaDoorW02c
import Derived.Test.YtnmdgaeclojgiaaDoorW02d
namespace Go.Proofs.YtnmdgaeclojgiaaDoor
open Go.RowKit

/-- Put, Take, PutText, TakeText at every argument. -/
def putZ (n : Nat) (m : Int) : List UInt8 := if 1 ≤ m ∧ m ≤ 8 then put n m.toNat else []
def tkB (s : List UInt8) (m : Int) : Bool := decide (1 ≤ m ∧ m ≤ 8 ∧ m ≤ s.length)
def tkN (s : List UInt8) (m : Int) : Nat := if 1 ≤ m ∧ m ≤ 8 ∧ m ≤ s.length then val (s.take m.toNat) else 0
def tkR (s : List UInt8) (m : Int) : List UInt8 := if 1 ≤ m ∧ m ≤ 8 ∧ m ≤ s.length then s.drop m.toNat else []
def ptB (s : List UInt8) (m : Int) : Bool := decide (0 ≤ m ∧ m ≤ 255 ∧ s.length ≤ m)
def ptS (s : List UInt8) (m : Int) : List UInt8 := if 0 ≤ m ∧ m ≤ 255 ∧ s.length ≤ m then tput s m.toNat else []
def ttO (s : List UInt8) (m : Int) : Option (List UInt8 × List UInt8) := if 0 ≤ m ∧ m ≤ 255 then ttake s m.toNat else none
def ttT (s : List UInt8) (m : Int) : List UInt8 := match ttO s m with | some x => x.1 | none => []
def ttR (s : List UInt8) (m : Int) : List UInt8 := match ttO s m with | some x => x.2 | none => []
def ttB (s : List UInt8) (m : Int) : Bool := (ttO s m).isSome

theorem put_all (n : Nat) (m : Int) (w : World) (hn : n < 18446744073709551616) :
    Calls Tryd.prog 11 #[.int .u64 n, .int .i64 m] w fun e w' => e = .returned (.string (bs (putZ n m))) ∧ Below w.heap.size w w' := by
  by_cases h : 1 ≤ m ∧ m ≤ 8
  · obtain ⟨k, rfl⟩ := Int.eq_ofNat_of_zero_le (show 0 ≤ m by omega)
    rw [putZ, if_pos h]
    exact put_yes n k w (by omega) (by omega) hn
  · rw [putZ, if_neg h]
    exact (put_no n m w (by omega)).mono fun e w' ⟨he, hw⟩ => ⟨he, hw ▸ Below.refl _ _⟩
theorem take_all (s : ByteArray) (m : Int) (w : World) (hs : s.size ≤ 9223372036854775807) :
    Calls Tryd.prog 8 #[.string s, .int .i64 m] w fun e w' => e = .returned (.tuple #[.int .u64 (tkN s.data.toList m), .string (bs (tkR s.data.toList m)), .bool (tkB s.data.toList m)]) ∧ Dr w w' := by
  by_cases h : 1 ≤ m ∧ m ≤ 8 ∧ m ≤ s.data.toList.length
  · rw [tkN, tkR, tkB, if_pos h, if_pos h, decide_eq_true h]
    rw [data_len] at h
    obtain ⟨k, rfl⟩ := Int.eq_ofNat_of_zero_le (show 0 ≤ m by omega)
    exact take_yes s k w (by omega) (by omega) (by omega) hs
  · rw [tkN, tkR, tkB, if_neg h, if_neg h, decide_eq_false h]
    rw [data_len] at h
    exact (take_no s m w (by omega)).mono fun e w' ⟨he, hw⟩ => ⟨he, hw ▸ Dr.refl _⟩
theorem putText_all (s : ByteArray) (m : Int) (w : World) :
    Calls Tryd.prog 15 #[.string s, .int .i64 m] w fun e w' => e = .returned (.tuple #[.string (bs (ptS s.data.toList m)), .bool (ptB s.data.toList m)]) ∧ Below w.heap.size w w' := by
  by_cases h : 0 ≤ m ∧ m ≤ 255 ∧ s.data.toList.length ≤ m
  · rw [ptS, ptB, if_pos h, decide_eq_true h]
    rw [data_len] at h
    obtain ⟨k, rfl⟩ := Int.eq_ofNat_of_zero_le h.1
    exact putText_yes s k w (by omega) (by omega)
  · rw [ptS, ptB, if_neg h, decide_eq_false h]
    rw [data_len] at h
    exact (putText_no s m w (by omega)).mono fun e w' ⟨he, hw⟩ => ⟨he, hw ▸ Below.refl _ _⟩
theorem takeText_all (s : ByteArray) (m : Int) (w : World) (hs : s.size ≤ 9223372036854775000) :
    Calls Tryd.prog 17 #[.string s, .int .i64 m] w fun e w' => e = .returned (.tuple #[.string (bs (ttT s.data.toList m)), .string (bs (ttR s.data.toList m)), .bool (ttB s.data.toList m)]) ∧ Dr w w' := by
  by_cases h : 0 ≤ m ∧ m ≤ 255
  · obtain ⟨k, rfl⟩ := Int.eq_ofNat_of_zero_le h.1
    cases ht : ttake s.data.toList k with
    | some x =>
      have e : ttO s.data.toList k = some x := by rw [ttO, if_pos h]; exact ht
      rw [ttT, ttR, ttB, e]
      exact takeText_any s k w (by omega) hs x.1 x.2 ht
    | none =>
      have e : ttO s.data.toList k = none := by rw [ttO, if_pos h]; exact ht
      rw [ttT, ttR, ttB, e]
      exact takeText_none s k w hs (.inr (.inr ht))
  · have e : ttO s.data.toList m = none := by rw [ttO, if_neg h]
    rw [ttT, ttR, ttB, e]
    exact takeText_none s m w hs (by omega)

theorem rput_all (n : Nat) (m : Int) (w : World) (hn : n < 18446744073709551616) :
    Calls Tryd.prog 12 #[.int .u64 n, .int .i64 m] w fun e w' => e = .returned (.string (bs (putZ n m))) ∧ Below w.heap.size w w' := by
  by_cases h : 1 ≤ m ∧ m ≤ 8
  · obtain ⟨k, rfl⟩ := Int.eq_ofNat_of_zero_le (show 0 ≤ m by omega)
    rw [putZ, if_pos h]
    exact rput_yes n k w (by omega) (by omega) hn
  · rw [putZ, if_neg h]
    exact (rput_no n m w (by omega)).mono fun e w' ⟨he, hw⟩ => ⟨he, hw ▸ Below.refl _ _⟩
theorem rtake_all (s : ByteArray) (m : Int) (w : World) (hs : s.size ≤ 9223372036854775807) :
    Calls Tryd.prog 9 #[.string s, .int .i64 m] w fun e w' => e = .returned (.tuple #[.int .u64 (tkN s.data.toList m), .string (bs (tkR s.data.toList m)), .bool (tkB s.data.toList m)]) ∧ Dr w w' := by
  by_cases h : 1 ≤ m ∧ m ≤ 8 ∧ m ≤ s.data.toList.length
  · rw [tkN, tkR, tkB, if_pos h, if_pos h, decide_eq_true h]
    rw [data_len] at h
    obtain ⟨k, rfl⟩ := Int.eq_ofNat_of_zero_le (show 0 ≤ m by omega)
    exact rtake_yes s k w (by omega) (by omega) (by omega) hs
  · rw [tkN, tkR, tkB, if_neg h, if_neg h, decide_eq_false h]
    rw [data_len] at h
    exact (rtake_no s m w (by omega)).mono fun e w' ⟨he, hw⟩ => ⟨he, hw ▸ Dr.refl _⟩
theorem rputText_all (s : ByteArray) (m : Int) (w : World) :
    Calls Tryd.prog 16 #[.string s, .int .i64 m] w fun e w' => e = .returned (.tuple #[.string (bs (ptS s.data.toList m)), .bool (ptB s.data.toList m)]) ∧ Below w.heap.size w w' := by
  by_cases h : 0 ≤ m ∧ m ≤ 255 ∧ s.data.toList.length ≤ m
  · rw [ptS, ptB, if_pos h, decide_eq_true h]
    rw [data_len] at h
    obtain ⟨k, rfl⟩ := Int.eq_ofNat_of_zero_le h.1
    exact rputText_yes s k w (by omega) (by omega)
  · rw [ptS, ptB, if_neg h, decide_eq_false h]
    rw [data_len] at h
    exact (rputText_no s m w (by omega)).mono fun e w' ⟨he, hw⟩ => ⟨he, hw ▸ Below.refl _ _⟩
theorem rtakeText_all (s : ByteArray) (m : Int) (w : World) (hs : s.size ≤ 9223372036854775000) :
    Calls Tryd.prog 18 #[.string s, .int .i64 m] w fun e w' => e = .returned (.tuple #[.string (bs (ttT s.data.toList m)), .string (bs (ttR s.data.toList m)), .bool (ttB s.data.toList m)]) ∧ Below w.heap.size w w' := by
  by_cases h : 0 ≤ m ∧ m ≤ 255
  · obtain ⟨k, rfl⟩ := Int.eq_ofNat_of_zero_le h.1
    cases ht : ttake s.data.toList k with
    | some x =>
      have e : ttO s.data.toList k = some x := by rw [ttO, if_pos h]; exact ht
      rw [ttT, ttR, ttB, e]
      exact rtakeText_any s k w (by omega) hs x.1 x.2 ht
    | none =>
      have e : ttO s.data.toList k = none := by rw [ttO, if_pos h]; exact ht
      rw [ttT, ttR, ttB, e]
      exact rtakeText_none s k w hs (.inr (.inr ht))
  · have e : ttO s.data.toList m = none := by rw [ttO, if_neg h]
    rw [ttT, ttR, ttB, e]
    exact rtakeText_none s m w hs (by omega)

theorem fixed02 (w : World) : Calls Tryd.prog 10 #[] w fun e w' => e = .returned (.bool true) ∧ Below w.heap.size w w' := by
  have h1 := fun w => putText_yes ⟨#[104, 105]⟩ 3 w (by decide) (by decide)
  have h2 := fun w => takeText_none ⟨#[2, 104, 105, 1]⟩ 3 w (by decide) (.inr (.inr (by decide)))
  have h3 := fun w => take_yes ⟨#[1, 2, 122]⟩ 2 w (by decide) (by decide) (by decide) (by decide)
  have h4 := fun w => put_yes 258 2 w (by decide) (by decide) (by decide)
  have h5 := fun w => put_yes 258 1 w (by decide) (by decide) (by decide)
  have h6 := fun w => fits_any 255 1 w (by decide)
  have h7 := fun w => fits_any 256 1 w (by decide)
  rw [show tput (⟨#[104, 105]⟩ : ByteArray).data.toList 3 = [2, 104, 105, 0] by decide] at h1
  rw [show val ((⟨#[1, 2, 122]⟩ : ByteArray).data.toList.take 2) = 258 by decide, show (⟨#[1, 2, 122]⟩ : ByteArray).data.toList.drop 2 = [122] by decide] at h3
  rw [show put 258 2 = [1, 2] by decide] at h4
  rw [show put 258 1 = [2] by decide] at h5
  rw [show fitsZ 255 1 = true by decide] at h6
  rw [show fitsZ 256 1 = false by decide] at h7
  have H1 := Lib.hid h1; have H2 := Lib.hid h2; have H3 := Lib.hid h3; have H4 := Lib.hid h4; have H5 := Lib.hid h5; have H6 := Lib.hid h6; have H7 := Lib.hid h7
  clear h1 h2 h3 h4 h5 h6 h7
  go_enter Tryd.func10, Tryd.ntmps10
  go_wp2_with fail
  refine (H1.out _).mono ?_
  rintro e w1 ⟨rfl, hb1⟩
  go_wp2_with fail
  refine (H2.out _).mono ?_
  rintro e w2 ⟨rfl, hb2⟩
  go_wp2_with fail
  refine (H3.out _).mono ?_
  rintro e w3 ⟨rfl, hb3⟩
  go_wp2_with fail
  refine (H4.out _).mono ?_
  rintro e w4 ⟨rfl, hb4⟩
  go_wp2_with fail
  refine (H5.out _).mono ?_
  rintro e w5 ⟨rfl, hb5⟩
  go_wp2_with fail
  refine (H6.out _).mono ?_
  rintro e w6 ⟨rfl, hb6⟩
  go_wp2_with fail
  refine (H7.out _).mono ?_
  rintro e w7 ⟨rfl, hb7⟩
  go_wp2
  go_ret
  exact ⟨rfl, hb7.below_of (hb6.below_of (bthen (bthen (hb3.below_of (hb2.below_of hb1)) hb4) hb5))⟩

theorem packNumbers_walk (n : Nat) (m : Int) (s : ByteArray) (w : World) (hn : n < 18446744073709551616) (hs : s.size ≤ 9223372036854775807) :
    Calls Tryd.prog 3 #[.int .u64 n, .int .i64 m, .string s] w fun e w' => e = .returned (.bool true) ∧ Below w.heap.size w w' := by
  have H1 := Lib.hid (fun w => take_all s m w hs)
  have H2 := Lib.hid (fun w => rtake_all s m w hs)
  have H3 := Lib.hid (fun w => put_all n m w hn)
  have H4 := Lib.hid (fun w => rput_all n m w hn)
  have H5 := Lib.hid (fun w => fits_any n m w hn)
  have H6 := Lib.hid (fun w => rfits_any n m w hn)
  clear hn hs
  go_enter Tryd.func3, Tryd.ntmps3
  go_wp2_with fail
  refine (H1.out _).mono ?_
  rintro e w1 ⟨rfl, hb1⟩
  go_wp2_with fail
  refine (H2.out _).mono ?_
  rintro e w2 ⟨rfl, hb2⟩
  go_wp2_with fail
  refine (fixed02 _).mono ?_
  rintro e w3 ⟨rfl, hb3⟩
  go_wp2_with fail
  refine (H3.out _).mono ?_
  rintro e w4 ⟨rfl, hb4⟩
  go_wp2_with fail
  refine (H4.out _).mono ?_
  rintro e w5 ⟨rfl, hb5⟩
  go_wp2_with fail
  refine (H5.out _).mono ?_
  rintro e w6 ⟨rfl, hb6⟩
  go_wp2_with fail
  refine (H6.out _).mono ?_
  rintro e w7 ⟨rfl, hb7⟩
  go_wp2
  go_ret
  exact ⟨rfl, hb7.below_of (hb6.below_of (bthen (bthen (bthen (hb2.below_of (hb1.below _)) hb3) hb4) hb5))⟩

theorem packTexts_walk (s : ByteArray) (m : Int) (t : ByteArray) (w : World) (ht : t.size ≤ 9223372036854775000) :
    Calls Tryd.prog 4 #[.string s, .int .i64 m, .string t] w fun e w' => e = .returned (.bool true) ∧ Below w.heap.size w w' := by
  have H1 := Lib.hid (fun w => putText_all s m w)
  have H2 := Lib.hid (fun w => rputText_all s m w)
  have H3 := Lib.hid (fun w => takeText_all t m w ht)
  have H4 := Lib.hid (fun w => rtakeText_all t m w ht)
  clear ht
  go_enter Tryd.func4, Tryd.ntmps4
  go_wp2_with fail
  refine (H1.out _).mono ?_
  rintro e w1 ⟨rfl, hb1⟩
  go_wp2_with fail
  refine (H2.out _).mono ?_
  rintro e w2 ⟨rfl, hb2⟩
  go_wp2_with fail
  refine (H3.out _).mono ?_
  rintro e w3 ⟨rfl, hb3⟩
  go_wp2_with fail
  refine (H4.out _).mono ?_
  rintro e w4 ⟨rfl, hb4⟩
  go_wp2_with fail
  refine (fixed02 _).mono ?_
  rintro e w5 ⟨rfl, hb5⟩
  go_wp2
  go_ret
  exact ⟨rfl, bthen (bthen (hb3.below_of (bthen hb1 hb2)) hb4) hb5⟩

end Go.Proofs.YtnmdgaeclojgiaaDoor
