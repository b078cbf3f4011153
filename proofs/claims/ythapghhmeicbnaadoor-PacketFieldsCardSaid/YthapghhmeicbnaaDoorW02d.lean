/- The walks of layer 2: a text's field, the program's. -/
import Derived.Test.YthapghhmeicbnaaDoorW02b
import Derived.Test.YthapghhmeicbnaaDoorShelf
namespace Go.Proofs.YthapghhmeicbnaaDoor
open Go.RowKit

theorem repeat_zero (c : Nat) : Lib.repeatL [0] c = List.replicate c 0 := by
  induction c with
  | zero => rfl
  | succ c ih => rw [Lib.repeatL, ih]; rfl
theorem dropWhile_nil {p : UInt8 → Bool} {l : List UInt8} : l.dropWhile p = [] ↔ l.all p = true := by
  induction l with
  | nil => simp
  | cons b l ih =>
    rw [List.dropWhile_cons, List.all_cons]
    cases p b <;> simp [ih]
theorem trim_nil {l : List UInt8} : Lib.trimB l 0 = [] ↔ l.all (· == 0) = true := by
  unfold Lib.trimB Lib.trimLeftB Lib.trimRightB
  rw [dropWhile_nil]
  simp only [List.all_reverse]
  constructor
  · intro h
    have : (l.reverse.dropWhile (· == 0)) = [] := by
      cases hd : l.reverse.dropWhile (· == 0) with
      | nil => rfl
      | cons b r =>
        have hb := List.head_dropWhile_not (p := (· == (0 : UInt8))) (l := l.reverse) (by rw [hd]; simp)
        simp only [hd, List.head_cons] at hb
        rw [hd] at h
        simp [hb] at h
    rw [dropWhile_nil] at this
    simpa using this
  · intro h
    have : l.reverse.dropWhile (· == 0) = [] := by rw [dropWhile_nil]; simpa using h
    rw [this]
    rfl

theorem putText_yes (s : ByteArray) (m : Nat) (w : World) (hs : s.size ≤ m) (hm : m ≤ 255) :
    Calls Tryd.prog 67 #[.string s, .int .i64 m] w fun e w' => e = .returned (.tuple #[.string (bs (tput s.data.toList m)), .bool true]) ∧ Below w.heap.size w w' := by
  obtain ⟨l, rfl⟩ : ∃ l, s = bs l := ⟨_, (bs_data s).symm⟩
  rw [bs_size] at hs
  rw [bs_list]
  have hput := fun w => put_yes l.length 1 w (by omega) (by omega) (by omega)
  have HP := Lib.hid hput; clear hput
  have hd2 : decide (m < l.length) = false := decide_eq_false (by omega)
  have hd3 : decide ((255 : Int) < (m : Int)) = false := decide_eq_false (by omega)
  have hrep : ∀ w, Calls Tryd.prog 70 #[.string ⟨#[0]⟩, .int .i64 ((m : Int) - (l.length : Int))] w fun e w' => e = .returned (.string (bs (List.replicate (m - l.length) 0))) ∧ Below w.heap.size w w' := by
    intro w
    have h := Tryd.strings_Repeat ⟨#[0]⟩ (m - l.length) w (by omega) (by show 1 * (m - l.length) ≤ _; omega)
    rw [show ((m - l.length : Nat) : Int) = (m : Int) - (l.length : Int) by omega, show Lib.repeatL (⟨#[0]⟩ : ByteArray).data.toList (m - l.length) = List.replicate (m - l.length) 0 from repeat_zero _] at h
    exact h
  have HR := Lib.hid hrep; clear hrep
  go_enter Tryd.func67, Tryd.ntmps67
  go_wp2_with fail
  refine (HP.out _).mono ?_
  rintro e w1 ⟨rfl, hb1⟩
  go_wp2_with fail
  refine (HR.out _).mono ?_
  rintro e w2 ⟨rfl, hb2⟩
  go_wp2
  go_ret2
  exact ⟨ret2 (v_string (by simp only [tput, List.append_assoc])) rfl, bthen hb1 hb2⟩

theorem putText_no (s : ByteArray) (m : Int) (w : World) (h : m < 0 ∨ 255 < m ∨ m < s.size) :
    Calls Tryd.prog 67 #[.string s, .int .i64 m] w fun e w' => e = .returned (.tuple #[.string (bs []), .bool false]) ∧ w = w' := by
  by_cases h1 : m < 0
  · clear h
    go_enter Tryd.func67, Tryd.ntmps67
    go_wp2
    go_ret2
    exact ⟨rfl, rfl⟩
  · obtain ⟨k, rfl⟩ := Int.eq_ofNat_of_zero_le (show 0 ≤ m by omega)
    by_cases h2 : 255 < k
    · clear h
      go_enter Tryd.func67, Tryd.ntmps67
      go_wp2
      go_ret2
      exact ⟨rfl, rfl⟩
    · have h3 : k < s.size := by omega
      have hd : decide (k < s.size) = true := decide_eq_true h3
      clear h
      go_enter Tryd.func67, Tryd.ntmps67
      go_wp2
      go_ret2
      exact ⟨rfl, rfl⟩

/-- What text bytes begin with. -/
theorem takeText_any (s : ByteArray) (m : Nat) (w : World) (hm : m ≤ 255) (hs : s.size ≤ 9223372036854775000) (t r : List UInt8) (h : ttake s.data.toList m = some (t, r)) :
    Calls Tryd.prog 69 #[.string s, .int .i64 m] w fun e w' => e = .returned (.tuple #[.string (bs t), .string (bs r), .bool true]) ∧ Dr w w' := by
  obtain ⟨l, rfl⟩ : ∃ l, s = bs l := ⟨_, (bs_data s).symm⟩
  rw [bs_list] at h
  rw [bs_size] at hs
  cases l with
  | nil => simp [ttake] at h
  | cons n rest =>
    have h' := h
    simp only [ttake] at h'
    split at h'
    · rename_i hc
      obtain ⟨c1, c2, c3⟩ := hc
      simp only [Option.some.injEq, Prod.mk.injEq] at h'
      obtain ⟨rfl, rfl⟩ := h'
      rw [List.length_cons] at hs
      have htake := fun w => take_yes (bs (n :: rest)) 1 w (by omega) (by omega) (by rw [bs_size, List.length_cons]; omega) (by rw [bs_size, List.length_cons]; omega)
      simp only [bs_list, List.take_succ_cons, List.take_zero, List.drop_succ_cons, List.drop_zero] at htake
      have e1 : val [n] = n.toNat := by simp [val]
      rw [e1] at htake
      have HT := Lib.hid htake; clear htake e1 h
      have htrim := fun w => Tryd.strings_Trim_one (bs ((rest.take m).drop n.toNat)) 0 (by decide) w (by rw [bs_size]; simp; omega)
      rw [bs_list, trim_nil.2 c3, List.drop_take] at htrim
      have HR := Lib.hid htrim; clear htrim c3
      have hn := n.toNat_lt
      have hd1 : decide ((m : Int) < (n.toNat : Int)) = false := decide_eq_false (by omega)
      go_enter Tryd.func69, Tryd.ntmps69
      go_wp2_with fail
      refine (HT.out _).mono ?_
      rintro e w1 ⟨rfl, hb1⟩
      go_wp2_with fail
      go_quiet (fail)
      go_wp2_with fail
      refine (HR.out _).mono ?_
      rintro e w2 ⟨rfl, hb2⟩
      go_wp2_with fail
      go_quiet (fail)
      go_wp2
      go_ret3
      refine ⟨ret3 rfl (v_string (by rw [List.take_of_length_le (by rw [List.length_drop]; omega)])) rfl, ?_⟩
      rcases hb2 with rfl | rfl
      · exact (hb1.drewN _).drewN _
      · exact ((hb1.drewN _).drew).drewN _
    · cases h'

theorem takeText_none (s : ByteArray) (m : Int) (w : World) (hs : s.size ≤ 9223372036854775000) (h : m < 0 ∨ 255 < m ∨ ttake s.data.toList m.toNat = none) :
    Calls Tryd.prog 69 #[.string s, .int .i64 m] w fun e w' => e = .returned (.tuple #[.string (bs []), .string (bs []), .bool false]) ∧ Dr w w' := by
  obtain ⟨l, rfl⟩ : ∃ l, s = bs l := ⟨_, (bs_data s).symm⟩
  rw [bs_list] at h
  rw [bs_size] at hs
  cases l with
  | nil =>
    have htake := fun w => take_no (bs []) 1 w (.inr (.inr (by decide)))
    have HT := Lib.hid htake; clear htake h
    go_enter Tryd.func69, Tryd.ntmps69
    go_wp2_with fail
    refine (HT.out _).mono ?_
    rintro e w1 ⟨rfl, rfl⟩
    go_wp2
    go_ret3
    exact ⟨rfl, Dr.refl _⟩
  | cons n rest =>
    rw [List.length_cons] at hs
    have hn := n.toNat_lt
    have htake := fun w => take_yes (bs (n :: rest)) 1 w (by omega) (by omega) (by rw [bs_size, List.length_cons]; omega) (by rw [bs_size, List.length_cons]; omega)
    simp only [bs_list, List.take_succ_cons, List.take_zero, List.drop_succ_cons, List.drop_zero] at htake
    have e1 : val [n] = n.toNat := by simp [val]
    rw [e1] at htake
    have HT := Lib.hid htake; clear htake e1
    by_cases h1 : m < 0
    · clear h
      go_enter Tryd.func69, Tryd.ntmps69
      go_wp2_with fail
      refine (HT.out _).mono ?_
      rintro e w1 ⟨rfl, hb1⟩
      go_wp2
      go_ret3
      exact ⟨rfl, hb1⟩
    obtain ⟨k, rfl⟩ := Int.eq_ofNat_of_zero_le (show 0 ≤ m by omega)
    by_cases h2 : 255 < k
    · clear h
      go_enter Tryd.func69, Tryd.ntmps69
      go_wp2_with fail
      refine (HT.out _).mono ?_
      rintro e w1 ⟨rfl, hb1⟩
      go_wp2
      go_ret3
      exact ⟨rfl, hb1⟩
    have h3 : ttake (n :: rest) k = none := by
      rcases h with h | h | h
      · omega
      · omega
      · simpa using h
    clear h
    by_cases h5 : k < n.toNat
    · have H3 := Lib.hid h3; clear h3
      have hd1 : decide (k < n.toNat) = true := decide_eq_true (by omega)
      go_enter Tryd.func69, Tryd.ntmps69
      go_wp2_with fail
      refine (HT.out _).mono ?_
      rintro e w1 ⟨rfl, hb1⟩
      go_wp2
      go_ret3
      exact ⟨rfl, hb1⟩
    by_cases h4 : rest.length < k
    · have H3 := Lib.hid h3; clear h3
      go_enter Tryd.func69, Tryd.ntmps69
      go_wp2_with fail
      refine (HT.out _).mono ?_
      rintro e w1 ⟨rfl, hb1⟩
      go_wp2
      go_ret3
      exact ⟨rfl, hb1⟩
    · have hnot : ¬ (((rest.take k).drop n.toNat).all (· == 0) = true) := by
        intro hc
        simp only [ttake] at h3
        rw [if_pos ⟨by omega, by omega, hc⟩] at h3
        cases h3
      rw [← trim_nil] at hnot
      have htrim := fun w => Tryd.strings_Trim_one (bs ((rest.take k).drop n.toNat)) 0 (by decide) w (by rw [bs_size]; simp; omega)
      rw [bs_list] at htrim
      obtain ⟨q, hq⟩ : ∃ q, q = Lib.trimB ((rest.take k).drop n.toNat) 0 := ⟨_, rfl⟩
      rw [← hq] at htrim hnot
      rw [List.drop_take] at htrim
      have hq1 : (q == []) = false := beq_eq_false_iff_ne.2 hnot
      have hq2 : q.isEmpty = false := by cases q with | nil => exact absurd rfl hnot | cons => rfl
      have HR := Lib.hid htrim; clear htrim
      have HQ := Lib.hid hq; clear hq
      have H3 := Lib.hid h3; clear h3
      have HN := Lib.hid hnot; clear hnot
      go_enter Tryd.func69, Tryd.ntmps69
      go_wp2_with fail
      refine (HT.out _).mono ?_
      rintro e w1 ⟨rfl, hb1⟩
      go_wp2_with fail
      go_quiet (fail)
      go_wp2_with fail
      refine (HR.out _).mono ?_
      rintro e w2 ⟨rfl, hb2⟩
      go_wp2
      go_ret3
      refine ⟨rfl, ?_⟩
      rcases hb2 with rfl | rfl
      · exact hb1.drewN _
      · exact (hb1.drewN _).drew

end Go.Proofs.YthapghhmeicbnaaDoor
