/- The walks of layer 2: a number's field laid. -/
import Derived.Test.YthapghhmeicbnaaDoorW02a
namespace Go.Proofs.YthapghhmeicbnaaDoor
open Go.RowKit

/-- The eight cells behind k rounds. -/
def putCells (n m k : Nat) : List Value := List.replicate (m - k) (byteV 0) ++ ((put n k).map byteV ++ List.replicate (8 - m) (byteV 0))
theorem putCells_length {n m k : Nat} (hk : k ≤ m) (hm : m ≤ 8) : (putCells n m k).length = 8 := by
  simp [putCells, put_length]
  omega
theorem putCells_step {n m k : Nat} (hk : k < m) : (putCells n m k).set (m - 1 - k) (.int .u8 ((n : Int) / 2 ^ (8 * k) % 256)) = putCells n m (k + 1) := by
  have e : (.int .u8 ((n : Int) / 2 ^ (8 * k) % 256) : Value) = byteV (UInt8.ofNat (n / 256 ^ k)) := by
    unfold byteV
    rw [UInt8.toNat_ofNat', show (2 : Int) ^ (8 * k) = ((256 ^ k : Nat) : Int) by rw [Int.pow_mul]; simp]
    congr 1
  rw [e]
  have r : List.replicate (m - k) (byteV 0) = List.replicate (m - (k + 1)) (byteV 0) ++ [byteV 0] := by
    rw [show m - k = (m - (k + 1)) + 1 by omega, List.replicate_succ']
  unfold putCells
  rw [r, put_cons, List.append_assoc, List.set_append, if_neg (by simp; omega)]
  simp only [List.length_replicate, show m - 1 - k - (m - (k + 1)) = 0 by omega]
  simp
theorem putCells_at {n m k : Nat} (hk : k < m) : ∃ v, (putCells n m k)[m - 1 - k]? = some v := by
  refine ⟨_, List.getElem?_eq_getElem (h := ?_)⟩
  simp [putCells, put_length]
  omega
theorem putCells_end {n m : Nat} (i : Nat) (hi : i < (put n m).length) : (putCells n m m)[i]? = some (.int .u8 (((put n m)[i].toNat : Nat) : Int)) := by
  unfold putCells
  rw [Nat.sub_self, List.replicate_zero, List.nil_append, List.getElem?_append_left (by simpa using hi)]
  simp [byteV, List.getElem?_eq_getElem hi]

theorem info_u8 : ∃ i, Tryd.prog.info? 5 = some i := Option.isSome_iff_exists.1 (by kernel_rfl)

set_option maxRecDepth 10000 in
theorem put_yes (n m : Nat) (w : World) (h1 : 1 ≤ m) (h8 : m ≤ 8) (hn : n < 18446744073709551616) :
    Calls Tryd.prog 43 #[.int .u64 n, .int .i64 m] w fun e w' => e = .returned (.string (bs (put n m))) ∧ Below w.heap.size w w' := by
  have hn' := Lib.hid hn; clear hn
  have hw := wide_any m
  rw [decide_eq_true (by omega)] at hw
  have HW := Lib.hid hw; clear hw
  go_enter Tryd.func43, Tryd.ntmps43
  go_wp2_with (go_at_call 58; refine (HW.out _).mono ?_; rintro e w' ⟨rfl, rfl⟩)
  go_loopw [6, 11] (fun _ i wr => ∃ k : Nat, k ≤ m ∧ i = .int .i64 k ∧ wr.heap[w.heap.size]? = some (.cells (putCells n m k).toArray 105 (0, 0)) ∧ Below w.heap.size w wr) (fun _ i _ => m - (intOf i).toNat)
  case atStart =>
    refine ⟨0, Nat.zero_le _, rfl, ?_, (Below.refl _ _).alloc (Nat.le_refl _) _⟩
    have e : (putCells n m 0).toArray = #[byteV 0, byteV 0, byteV 0, byteV 0, byteV 0, byteV 0, byteV 0, byteV 0] := by
      have : putCells n m 0 = List.replicate 8 (byteV 0) := by
        unfold putCells
        simp only [Nat.sub_zero, put, List.map_nil, List.nil_append]
        rw [List.replicate_append_replicate, show m + (8 - m) = 8 by omega]
      rw [this]; rfl
    rw [e]
    exact alloc_new w _
  case round =>
    obtain ⟨k, hk, rfl, hcs, hb⟩ := hrel
    have hf := blk_free hcs
    by_cases hlt : k < m
    · obtain ⟨v, hv⟩ := putCells_at (n := n) hlt
      have hc := blk_cell hcs (m - 1 - k)
      rw [List.getElem?_toArray, hv] at hc
      have hnext := blk_set hcs (m - 1 - k) (.int .u8 ((n : Int) / 2 ^ (8 * k) % 256))
      rw [List.setIfInBounds_toArray, putCells_step hlt] at hnext
      have HN := Lib.hid hnext; clear hnext
      have HC := Lib.hid hcs; clear hcs
      have HV := Lib.hid hv; clear hv
      have hf1 := hf (m - 1 - k)
      clear hf
      go_wp2
      go_roundw
      case rel => exact ⟨k + 1, by omega, by go_num, HN.out, hb.setCell (Nat.le_refl _) _⟩
      case measure => simp [intOf]; omega
    · have hkn : k = m := by omega
      subst hkn
      have hcv := conv_bytes wr Tryd.underlying57 Tryd.underlying5 Tryd.underlying9 w.heap.size 0 8 (put n k) (fun i hi => by
        rw [Nat.zero_add, blk_cell hcs, List.getElem?_toArray]
        exact putCells_end i hi)
      rw [put_length] at hcv
      obtain ⟨inf, hinf⟩ := info_u8
      have hsl := arr_slice_h Tryd.underlying105 hinf ⟨w.heap.size, 0, none⟩ k h8 wr
      have HI := Lib.hid hinf; clear hinf
      have HC := Lib.hid hcs; clear hcs
      go_wp2
      go_ret
      exact ⟨rfl, hb⟩
theorem put_no (n : Nat) (m : Int) (w : World) (h : m < 1 ∨ 8 < m) :
    Calls Tryd.prog 43 #[.int .u64 n, .int .i64 m] w fun e w' => e = .returned (.string (bs [])) ∧ w = w' := by
  have hw := wide_any m
  rw [decide_eq_false (by omega)] at hw
  have HW := Lib.hid hw; clear hw h
  go_enter Tryd.func43, Tryd.ntmps43
  go_wp2_with (go_at_call 58; refine (HW.out _).mono ?_; rintro e w' ⟨rfl, rfl⟩)
  go_ret
  exact ⟨rfl, rfl⟩

/-- The reference's cells behind k rounds. -/
def rputCells (n m k : Nat) : List Value := List.replicate (m - k) (byteV 0) ++ (put n k).map byteV
theorem rputCells_step {n m k p : Nat} (hk : k < m) (hp : p = n / 256 ^ k) : (rputCells n m k).set (m - 1 - k) (.int .u8 ((p : Int) % 256)) = rputCells n m (k + 1) := by
  have e : (.int .u8 ((p : Int) % 256) : Value) = byteV (UInt8.ofNat (n / 256 ^ k)) := by
    unfold byteV
    rw [UInt8.toNat_ofNat', hp]
    congr 1
  rw [e]
  have r : List.replicate (m - k) (byteV 0) = List.replicate (m - (k + 1)) (byteV 0) ++ [byteV 0] := by
    rw [show m - k = (m - (k + 1)) + 1 by omega, List.replicate_succ']
  unfold rputCells
  rw [r, put_cons, List.append_assoc, List.set_append, if_neg (by simp; omega)]
  simp only [List.length_replicate, show m - 1 - k - (m - (k + 1)) = 0 by omega]
  simp
theorem rputCells_at {n m k : Nat} (hk : k < m) : ∃ v, (rputCells n m k)[m - 1 - k]? = some v := by
  refine ⟨_, List.getElem?_eq_getElem (h := ?_)⟩
  simp [rputCells, put_length]
  omega
theorem rputCells_end {n m : Nat} (i : Nat) (hi : i < (put n m).length) : (rputCells n m m)[i]? = some (.int .u8 (((put n m)[i].toNat : Nat) : Int)) := by
  unfold rputCells
  rw [Nat.sub_self, List.replicate_zero, List.nil_append]
  simp [byteV, List.getElem?_eq_getElem hi]

set_option maxRecDepth 10000 in
theorem rput_yes (n m : Nat) (w : World) (h1 : 1 ≤ m) (h8 : m ≤ 8) (hn : n < 18446744073709551616) :
    Calls Tryd.prog 47 #[.int .u64 n, .int .i64 m] w fun e w' => e = .returned (.string (bs (put n m))) ∧ Below w.heap.size w w' := by
  have hn' := Lib.hid hn; clear hn
  have hmk := make_bytes (P := Tryd.prog) w (t := 57) (e := 5) Tryd.underlying57 (by kernel_rfl) m (by omega)
  have hd1 : decide ((m : Int) < 1) = false := decide_eq_false (by omega)
  have hd2 : decide (8 < (m : Int)) = false := decide_eq_false (by omega)
  go_enter Tryd.func47, Tryd.ntmps47
  go_wp2
  go_loopw [0, 6] (fun a i wr => ∃ k p : Nat, k ≤ m ∧ i = .int .i64 ((m : Int) - 1 - k) ∧ a = .int .u64 p ∧ Hid (p = n / 256 ^ k) ∧ wr.heap[w.heap.size]? = some (.cells (rputCells n m k).toArray 5 (0, 0)) ∧ Below w.heap.size w wr) (fun _ i _ => (intOf i + 1).toNat)
  case atStart =>
    refine ⟨0, n, Nat.zero_le _, by go_num, rfl, by simp [Hid], ?_, (Below.refl _ _).alloc (Nat.le_refl _) _⟩
    have e : zeroBytes m = (rputCells n m 0).toArray := by simp [zeroBytes, rputCells, put]
    rw [← e]
    exact alloc_new w _
  case round =>
    obtain ⟨k, p, hk, rfl, rfl, hp, hcs, hb⟩ := hrel
    have hf := blk_free hcs
    have hp64 : p < 18446744073709551616 := by rw [hp.out]; exact Nat.lt_of_le_of_lt (Nat.div_le_self _ _) hn'.out
    by_cases hlt : k < m
    · obtain ⟨v, hv⟩ := rputCells_at (n := n) hlt
      have hc := blk_cell hcs (m - 1 - k)
      rw [List.getElem?_toArray, hv] at hc
      have hnext := blk_set hcs (m - 1 - k) (.int .u8 ((p : Int) % 256))
      rw [List.setIfInBounds_toArray, rputCells_step hlt hp.out] at hnext
      have HN := Lib.hid hnext; clear hnext
      have HC := Lib.hid hcs; clear hcs
      have HV := Lib.hid hv; clear hv
      have hf1 := hf (m - 1 - k)
      clear hf
      go_wp2
      go_roundw
      case rel => exact ⟨k + 1, p / 256, by omega, v_int (by omega), v_int (by omega), by rw [hp.out, Nat.div_div_eq_div_mul, Nat.pow_succ]; trivial, HN.out, hb.setCell (Nat.le_refl _) _⟩
      case measure => simp [intOf]; omega
    · have hkn : k = m := by omega
      subst hkn
      have hcv := conv_bytes wr Tryd.underlying57 Tryd.underlying5 Tryd.underlying9 w.heap.size 0 k (put n k) (fun i hi => by
        rw [Nat.zero_add, blk_cell hcs, List.getElem?_toArray]
        exact rputCells_end i hi)
      rw [put_length] at hcv
      have HC := Lib.hid hcs; clear hcs
      go_wp2
      go_ret
      exact ⟨rfl, hb⟩

theorem rput_no (n : Nat) (m : Int) (w : World) (h : m < 1 ∨ 8 < m) :
    Calls Tryd.prog 47 #[.int .u64 n, .int .i64 m] w fun e w' => e = .returned (.string (bs [])) ∧ w = w' := by
  by_cases h1 : m < 1
  · clear h
    go_enter Tryd.func47, Tryd.ntmps47
    go_wp2
    go_ret
    exact ⟨rfl, rfl⟩
  · have h2 : 8 < m := by omega
    clear h
    go_enter Tryd.func47, Tryd.ntmps47
    go_wp2
    go_ret
    exact ⟨rfl, rfl⟩

end Go.Proofs.YthapghhmeicbnaaDoor
