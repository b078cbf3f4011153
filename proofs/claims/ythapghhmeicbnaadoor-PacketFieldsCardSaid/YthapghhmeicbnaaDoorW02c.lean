/- The walks of layer 2: a text's field. -/
import Derived.Test.YthapghhmeicbnaaDoorW02b
namespace Go.Proofs.YthapghhmeicbnaaDoor
open Go.RowKit

/-- The reference's cells behind k rounds. -/
def rtCells (s : List UInt8) (m k : Nat) : List Value := byteV (UInt8.ofNat s.length) :: ((s.take k).map byteV ++ List.replicate (m - k) (byteV 0))
theorem rtCells_step {s : List UInt8} {m k : Nat} (hk : k < s.length) (hm : s.length ≤ m) : (rtCells s m k).set (k + 1) (byteV s[k]) = rtCells s m (k + 1) := by
  have r : List.replicate (m - k) (byteV 0) = byteV 0 :: List.replicate (m - (k + 1)) (byteV 0) := by
    rw [show m - k = (m - (k + 1)) + 1 by omega, List.replicate_succ]
  unfold rtCells
  rw [List.set_cons_succ, r, List.set_append, if_neg (by simp; omega)]
  have hl : ((s.take k).map byteV).length = k := by simp; omega
  rw [hl, Nat.sub_self, List.set_cons_zero, List.take_succ_eq_append_getElem hk, List.map_append, List.append_assoc]
  rfl
theorem rtCells_at {s : List UInt8} {m k : Nat} (hk : k < s.length) (hm : s.length ≤ m) : ∃ v, (rtCells s m k)[k + 1]? = some v := by
  refine ⟨_, List.getElem?_eq_getElem (h := ?_)⟩
  simp [rtCells]
  omega
theorem rtCells_end {s : List UInt8} {m : Nat} (i : Nat) (hi : i < (tput s m).length) : (rtCells s m s.length)[i]? = some (.int .u8 (((tput s m)[i].toNat : Nat) : Int)) := by
  have e : rtCells s m s.length = (tput s m).map byteV := by
    unfold rtCells tput
    rw [List.take_length, put_one]
    simp
  rw [e]
  simp [byteV, List.getElem?_eq_getElem hi]
theorem rtCells_start {s : List UInt8} {m : Nat} (h : s.length ≤ 255) : (zeroBytes (m + 1)).setIfInBounds 0 (.int .u8 ((s.length : Nat) : Int)) = (rtCells s m 0).toArray := by
  unfold zeroBytes rtCells
  rw [List.setIfInBounds_toArray, List.replicate_succ, List.set_cons_zero]
  have e : (.int .u8 ((s.length : Nat) : Int) : Value) = byteV (UInt8.ofNat s.length) := by
    unfold byteV
    rw [UInt8.toNat_ofNat', Nat.mod_eq_of_lt (by omega)]
  rw [e]
  simp

set_option maxRecDepth 10000 in
theorem rputText_yes (s : ByteArray) (m : Nat) (w : World) (hs : s.size ≤ m) (hm : m ≤ 255) :
    Calls Tryd.prog 68 #[.string s, .int .i64 m] w fun e w' => e = .returned (.tuple #[.string (bs (tput s.data.toList m)), .bool true]) ∧ Below w.heap.size w w' := by
  have hmk := make_bytes (P := Tryd.prog) w (t := 57) (e := 5) Tryd.underlying57 (by kernel_rfl) (m + 1) (by omega)
  have em : ((m + 1 : Nat) : Int) = (m : Int) + 1 := by omega
  rw [em] at hmk
  clear em
  have hz : (zeroBytes (m + 1))[0]? = some (byteV 0) := by unfold zeroBytes; rw [List.getElem?_toArray, List.replicate_succ]; rfl
  have hd2 : decide (m < s.size) = false := decide_eq_false (by omega)
  have hd3 : decide ((255 : Int) < (m : Int)) = false := decide_eq_false (by omega)
  go_enter Tryd.func68, Tryd.ntmps68
  go_wp2
  go_loopw [7] (fun i wr => ∃ k : Nat, k ≤ s.size ∧ i = .int .i64 k ∧ wr.heap[w.heap.size]? = some (.cells (rtCells s.data.toList m k).toArray 5 (0, 0)) ∧ Below w.heap.size w wr) (fun i _ => s.size - (intOf i).toNat)
  case atStart =>
    refine ⟨0, Nat.zero_le _, rfl, ?_, ((Below.refl _ _).alloc (Nat.le_refl _) _)⟩
    rw [← rtCells_start (s := s.data.toList) (m := m) (by rw [Array.length_toList]; exact Nat.le_trans hs hm)]
    exact alloc_new w _
  case round =>
    obtain ⟨k, hk, rfl, hcs, hb⟩ := hrel
    have hf := blk_free hcs
    by_cases hlt : k < s.size
    · obtain ⟨v, hv⟩ := rtCells_at (s := s.data.toList) (m := m) (k := k) (by rw [data_len]; omega) (by rw [data_len]; omega)
      have hc := blk_cell hcs (k + 1)
      rw [List.getElem?_toArray, hv] at hc
      have hnext := blk_set hcs (k + 1) (.int .u8 ((s[k].toNat : Nat) : Int))
      rw [List.setIfInBounds_toArray, show (.int .u8 ((s[k].toNat : Nat) : Int) : Value) = byteV (s.data.toList[k]'(by rw [data_len]; omega)) from rfl, rtCells_step (by rw [data_len]; omega) (by rw [data_len]; omega)] at hnext
      have HN := Lib.hid hnext; clear hnext
      have HC := Lib.hid hcs; clear hcs
      have HV := Lib.hid hv; clear hv
      have hf1 := hf (k + 1)
      clear hf
      go_wp2
      go_roundw
      case rel => exact ⟨k + 1, by omega, by go_num, HN.out, hb.setCell (Nat.le_refl _) _⟩
      case measure => simp [intOf]; omega
    · have hkn : k = s.size := by omega
      subst hkn
      have hcv := conv_bytes wr Tryd.underlying57 Tryd.underlying5 Tryd.underlying9 w.heap.size 0 (m + 1) (tput s.data.toList m) (fun i hi => by
        rw [Nat.zero_add, blk_cell hcs, List.getElem?_toArray, ← data_len s]
        exact rtCells_end i hi)
      rw [tput_length (by rw [data_len]; omega)] at hcv
      have HC := Lib.hid hcs; clear hcs
      go_wp2
      go_ret2
      exact ⟨rfl, hb⟩

theorem rputText_no (s : ByteArray) (m : Int) (w : World) (h : m < 0 ∨ 255 < m ∨ m < s.size) :
    Calls Tryd.prog 68 #[.string s, .int .i64 m] w fun e w' => e = .returned (.tuple #[.string (bs []), .bool false]) ∧ w = w' := by
  by_cases h1 : m < 0
  · clear h
    go_enter Tryd.func68, Tryd.ntmps68
    go_wp2
    go_ret2
    exact ⟨rfl, rfl⟩
  · obtain ⟨k, rfl⟩ := Int.eq_ofNat_of_zero_le (show 0 ≤ m by omega)
    by_cases h2 : 255 < k
    · clear h
      go_enter Tryd.func68, Tryd.ntmps68
      go_wp2
      go_ret2
      exact ⟨rfl, rfl⟩
    · have h3 : k < s.size := by omega
      have hd : decide (k < s.size) = true := decide_eq_true h3
      clear h
      go_enter Tryd.func68, Tryd.ntmps68
      go_wp2
      go_ret2
      exact ⟨rfl, rfl⟩

/-- What text bytes begin with: the reference's. -/
theorem rtakeText_any (s : ByteArray) (m : Nat) (w : World) (hm : m ≤ 255) (hs : s.size ≤ 9223372036854775000) (t r : List UInt8) (h : ttake s.data.toList m = some (t, r)) :
    Calls Tryd.prog 65 #[.string s, .int .i64 m] w fun e w' => e = .returned (.tuple #[.string (bs t), .string (bs r), .bool true]) ∧ Below w.heap.size w w' := by
  obtain ⟨l, rfl⟩ : ∃ l, s = bs l := ⟨_, (bs_data s).symm⟩
  rw [bs_list] at h
  rw [bs_size] at hs
  cases l with
  | nil => simp [ttake] at h
  | cons n rest =>
    have h' := h
    simp only [ttake] at h'
    split at h'
    · rename_i hc
      obtain ⟨c1, c2, c3⟩ := hc
      simp only [Option.some.injEq, Prod.mk.injEq] at h'
      obtain ⟨rfl, rfl⟩ := h'
      rw [List.length_cons] at hs
      have hput := (ttake_by_put c1 c2).2 c3
      have hput' := Lib.hid hput; clear hput
      have C3 := Lib.hid c3; clear c3 h
      have hn := n.toNat_lt
      have hd1 : decide ((m : Int) < (n.toNat : Int)) = false := decide_eq_false (by omega)
      have hl : (bs (rest.take n.toNat)).size = n.toNat := by rw [bs_size, List.length_take]; omega
      have hP := rputText_yes (bs (rest.take n.toNat)) m w (by rw [hl]; exact c1) hm
      rw [bs_list, hput'.out] at hP
      have HP := Lib.hid hP; clear hP
      have HL := Lib.hid hl; clear hl
      go_enter Tryd.func65, Tryd.ntmps65
      go_wp2_with (go_at_call 68; refine (HP.out).mono ?_; rintro e w1 ⟨rfl, hb1⟩)
      go_quiet (fail)
      go_wp2
      go_ret3
      refine ⟨ret3 rfl (v_string (by rw [List.take_of_length_le (by rw [List.length_drop]; omega)])) rfl, (Dr.one _ _).below_of hb1⟩
    · cases h'

theorem rtakeText_none (s : ByteArray) (m : Int) (w : World) (hs : s.size ≤ 9223372036854775000) (h : m < 0 ∨ 255 < m ∨ ttake s.data.toList m.toNat = none) :
    Calls Tryd.prog 65 #[.string s, .int .i64 m] w fun e w' => e = .returned (.tuple #[.string (bs []), .string (bs []), .bool false]) ∧ Below w.heap.size w w' := by
  by_cases h1 : m < 0
  · clear h
    go_enter Tryd.func65, Tryd.ntmps65
    go_wp2
    go_ret3
    exact ⟨rfl, Below.refl _ _⟩
  obtain ⟨k, rfl⟩ := Int.eq_ofNat_of_zero_le (show 0 ≤ m by omega)
  by_cases h2 : 255 < k
  · clear h
    go_enter Tryd.func65, Tryd.ntmps65
    go_wp2
    go_ret3
    exact ⟨rfl, Below.refl _ _⟩
  have h3 : ttake s.data.toList k = none := by
    rcases h with h | h | h
    · omega
    · omega
    · simpa using h
  clear h
  obtain ⟨l, rfl⟩ : ∃ l, s = bs l := ⟨_, (bs_data s).symm⟩
  rw [bs_list] at h3
  rw [bs_size] at hs
  by_cases h4 : l.length < k + 1
  · have H3 := Lib.hid h3; clear h3
    go_enter Tryd.func65, Tryd.ntmps65
    go_wp2
    go_ret3
    exact ⟨rfl, Below.refl _ _⟩
  cases l with
  | nil => simp at h4
  | cons n rest =>
    rw [List.length_cons] at h4 hs
    have hn := n.toNat_lt
    by_cases h5 : k < n.toNat
    · have H3 := Lib.hid h3; clear h3
      have hd1 : decide ((k : Int) < (n.toNat : Int)) = true := decide_eq_true (by omega)
      go_enter Tryd.func65, Tryd.ntmps65
      go_wp2
      go_ret3
      exact ⟨rfl, Below.refl _ _⟩
    · have hnot : ¬ (tput (rest.take n.toNat) k = (n :: rest).take (k + 1)) := by
        rw [ttake_by_put (by omega) (by omega)]
        intro hc
        simp only [ttake] at h3
        rw [if_pos ⟨by omega, by omega, hc⟩] at h3
        cases h3
      rw [List.take_succ_cons] at hnot
      have hneq : (tput (rest.take n.toNat) k == n :: rest.take k) = false := beq_eq_false_iff_ne.2 hnot
      have H3 := Lib.hid h3; clear h3
      have HN := Lib.hid hnot; clear hnot
      have hd1 : decide ((k : Int) < (n.toNat : Int)) = false := decide_eq_false (by omega)
      have hl : (bs (rest.take n.toNat)).size = n.toNat := by rw [bs_size, List.length_take]; omega
      have hP := rputText_yes (bs (rest.take n.toNat)) k w (by rw [hl]; omega) (by omega)
      rw [bs_list] at hP
      have HP := Lib.hid hP; clear hP
      have HL := Lib.hid hl; clear hl
      go_enter Tryd.func65, Tryd.ntmps65
      go_wp2_with (go_at_call 68; refine (HP.out).mono ?_; rintro e w1 ⟨rfl, hb1⟩)
      go_ret3
      exact ⟨rfl, hb1⟩

end Go.Proofs.YthapghhmeicbnaaDoor
