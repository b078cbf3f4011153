/- Layer 2: what is put is taken back. -/
import Derived.Test.YtnmdgaeclojgiaaDoorW02e
namespace Go.Proofs.YtnmdgaeclojgiaaDoor
open Go.RowKit

/-- What PackBack asks of a text. -/
theorem back_text {s rest : List UInt8} {k : Int} (h : ptB s k = true) : ttO (ptS s k ++ rest) k = some (s, rest) ∧ (ptS s k).length = k.toNat + 1 ∧ 0 ≤ k ∧ k ≤ 255 ∧ (s.length : Int) ≤ k := by
  have hc := of_decide_eq_true h
  rw [ttO, if_pos ⟨hc.1, hc.2.1⟩, ptS, if_pos hc]
  exact ⟨ttake_tput (by omega) (by omega), tput_length (by omega), hc.1, hc.2.1, hc.2.2⟩

set_option maxHeartbeats 4000000 in
theorem packBack_walk (n : Nat) (s rest : ByteArray) (k : Int) (w : World) (hn : n < 18446744073709551616) (hs : s.size ≤ 140737488351232) (hr : rest.size ≤ 140737488351232) :
    Calls Tryd.prog 5 #[.int .u64 n, .agg #[.string s, .string rest], .int .i64 k] w fun e w' => e = .returned (.bool true) ∧ Below w.heap.size w w' := by
  obtain ⟨s, rfl⟩ : ∃ l, s = bs l := ⟨_, (bs_data s).symm⟩
  obtain ⟨rest, rfl⟩ : ∃ l, rest = bs l := ⟨_, (bs_data rest).symm⟩
  rw [bs_size] at hs hr
  have H1 := fun w => put_all n k w hn
  have zlen : (putZ n k).length ≤ 8 := by
    unfold putZ
    split
    · rw [put_length]; omega
    · simp
  have H2 := fun w => take_all (bs (putZ n k ++ rest)) k w (by rw [bs_size, List.length_append]; omega)
  have H3 := fun w => fits_any n k w hn
  have H4 := fun w => putText_all (bs s) k w
  rw [bs_list] at H2 H4
  have slen : (ptS s k).length ≤ 256 := by
    unfold ptS
    split
    · rw [tput_length (by omega)]; omega
    · simp
  have H5 := fun w => takeText_all (bs (ptS s k ++ rest)) k w (by rw [bs_size, List.length_append]; omega)
  rw [bs_list] at H5
  -- the number
  by_cases hk : 1 ≤ k ∧ k ≤ 8
  · obtain ⟨j, rfl⟩ := Int.eq_ofNat_of_zero_le (show 0 ≤ k by omega)
    have e1 : putZ n j = put n j := by rw [putZ, if_pos hk, Int.toNat_natCast]
    rw [e1] at H1 H2 zlen
    have hc : (1 : Int) ≤ (j : Int) ∧ (j : Int) ≤ 8 ∧ (j : Int) ≤ ((put n j ++ rest).length : Nat) := ⟨hk.1, hk.2, by rw [List.length_append, put_length]; omega⟩
    have c := cut (a := put n j) (b := rest) (put_length n j)
    rw [tkN, tkR, tkB, if_pos hc, if_pos hc, decide_eq_true hc, Int.toNat_natCast, c.1, c.2, val_put] at H2
    have hfit : (((n % 256 ^ j : Nat) : Int) == (n : Int)) = fitsZ n j := by
      rw [fitsZ_in (by omega) (by omega), Bool.eq_iff_iff, beq_iff_eq, decide_eq_true_iff]
      constructor
      · intro h
        have h2 : n % 256 ^ j = n := by omega
        rw [← h2]
        exact Nat.mod_lt _ (Nat.pow_pos (by decide))
      · intro h
        rw [Nat.mod_eq_of_lt h]
    have hle : n % 256 ^ j ≤ n := Nat.mod_le _ _
    have hd1 : decide (n < n % 256 ^ j) = false := decide_eq_false (by omega)
    have plen : (put n j).length = j := put_length n j
    generalize n % 256 ^ j = n' at *
    generalize fitsZ n j = fz at *
    generalize put n j = p at *
    have PL := Lib.hid plen
    have hbl : ((p.length : Int) != (j : Int)) = false := by rw [plen]; simp
    clear e1 hc c plen
    cases h4 : ptB s j with
    | false =>
      rw [h4] at H4
      have hnot := of_decide_eq_false h4
      clear h4
      have G1 := Lib.hid H1; have G2 := Lib.hid H2; have G3 := Lib.hid H3; have G4 := Lib.hid H4
      clear H1 H2 H3 H4 H5
      have hd2 : decide (s.length ≤ j) = false := decide_eq_false (by omega)
      have HN := Lib.hid hnot; clear hnot
      go_enter Tryd.func5, Tryd.ntmps5
      go_wp2_with fail
      go_quiet (fail)
      go_wp2_with fail
      refine (G1.out _).mono ?_
      rintro e w1 ⟨rfl, hb1⟩
      go_wp2_with fail
      refine (G2.out _).mono ?_
      rintro e w2 ⟨rfl, hb2⟩
      go_wp2_with fail
      refine (fixed02 _).mono ?_
      rintro e w3 ⟨rfl, hb3⟩
      go_wp2_with fail
      refine (G3.out _).mono ?_
      rintro e w4 ⟨rfl, hb4⟩
      go_wp2_with fail
      refine (G4.out _).mono ?_
      rintro e w5 ⟨rfl, hb5⟩
      go_wp2
      go_ret
      exact ⟨ret_bool (by simp), (bthen (hb4.below_of (bthen (hb2.below_of (bthen (bdrawn ((Below.refl _ _).alloc (Nat.le_refl _) _) _) hb1)) hb3)) hb5)⟩
    | true =>
      rw [h4] at H4
      obtain ⟨b1, b2, b3, b4, b5⟩ := back_text (rest := rest) h4
      rw [ttT, ttR, ttB, b1] at H5
      clear h4 b1
      rw [Int.toNat_natCast] at b2
      generalize ptS s j = u at *
      have hul : ((u.length : Int) == (j : Int) + 1) = true := by rw [b2]; simp
      have HU := Lib.hid b2
      clear b2
      have G1 := Lib.hid H1; have G2 := Lib.hid H2; have G3 := Lib.hid H3; have G4 := Lib.hid H4; have G5 := Lib.hid H5
      clear H1 H2 H3 H4 H5
      go_enter Tryd.func5, Tryd.ntmps5
      go_wp2_with fail
      go_quiet (fail)
      go_wp2_with fail
      refine (G1.out _).mono ?_
      rintro e w1 ⟨rfl, hb1⟩
      go_wp2_with fail
      refine (G2.out _).mono ?_
      rintro e w2 ⟨rfl, hb2⟩
      go_wp2_with fail
      refine (fixed02 _).mono ?_
      rintro e w3 ⟨rfl, hb3⟩
      go_wp2_with fail
      refine (G3.out _).mono ?_
      rintro e w4 ⟨rfl, hb4⟩
      go_wp2_with fail
      refine (G4.out _).mono ?_
      rintro e w5 ⟨rfl, hb5⟩
      go_wp2_with fail
      refine (G5.out _).mono ?_
      rintro e w6 ⟨rfl, hb6⟩
      go_wp2
      go_ret
      exact ⟨ret_bool (by simp), (hb6.below_of (bthen (hb4.below_of (bthen (hb2.below_of (bthen (bdrawn ((Below.refl _ _).alloc (Nat.le_refl _) _) _) hb1)) hb3)) hb5))⟩
  · have e1 : putZ n k = [] := by rw [putZ, if_neg hk]
    rw [e1] at H1 H2 zlen
    have hc : ¬ (1 ≤ k ∧ k ≤ 8 ∧ k ≤ (([] ++ rest).length : Nat)) := fun h => hk ⟨h.1, h.2.1⟩
    rw [tkN, tkR, tkB, if_neg hc, if_neg hc, decide_eq_false hc, List.nil_append] at H2
    clear e1 hc zlen
    cases h4 : ptB s k with
    | false =>
      rw [h4] at H4
      have hnot := of_decide_eq_false h4
      clear h4
      have G1 := Lib.hid H1; have G2 := Lib.hid H2; have G3 := Lib.hid H3; have G4 := Lib.hid H4
      clear H1 H2 H3 H4 H5
      have hcase : (k < 0) ∨ (255 < k) ∨ (k = 0 ∧ 0 < s.length) ∨ (8 < k ∧ k ≤ 255 ∧ k < s.length) := by omega
      clear hnot hk
      rcases hcase with hcc | hcc | ⟨rfl, hcc⟩ | ⟨hc1, hc2, hc3⟩
      · go_enter Tryd.func5, Tryd.ntmps5
        go_wp2_with fail
        go_quiet (fail)
        go_wp2_with fail
        refine (G1.out _).mono ?_
        rintro e w1 ⟨rfl, hb1⟩
        go_wp2_with fail
        refine (G2.out _).mono ?_
        rintro e w2 ⟨rfl, hb2⟩
        go_wp2_with fail
        refine (fixed02 _).mono ?_
        rintro e w3 ⟨rfl, hb3⟩
        go_wp2_with fail
        refine (G4.out _).mono ?_
        rintro e w5 ⟨rfl, hb5⟩
        go_wp2
        go_ret
        exact ⟨ret_bool (by simp), (bthen (bthen (hb2.below_of (bthen (bdrawn ((Below.refl _ _).alloc (Nat.le_refl _) _) _) hb1)) hb3) hb5)⟩
      · go_enter Tryd.func5, Tryd.ntmps5
        go_wp2_with fail
        go_quiet (fail)
        go_wp2_with fail
        refine (G1.out _).mono ?_
        rintro e w1 ⟨rfl, hb1⟩
        go_wp2_with fail
        refine (G2.out _).mono ?_
        rintro e w2 ⟨rfl, hb2⟩
        go_wp2_with fail
        refine (fixed02 _).mono ?_
        rintro e w3 ⟨rfl, hb3⟩
        go_wp2_with fail
        refine (G4.out _).mono ?_
        rintro e w5 ⟨rfl, hb5⟩
        go_wp2
        go_ret
        exact ⟨ret_bool (by simp), (bthen (bthen (hb2.below_of (bthen (bdrawn ((Below.refl _ _).alloc (Nat.le_refl _) _) _) hb1)) hb3) hb5)⟩
      · obtain ⟨a, s, rfl⟩ : ∃ a r, s = a :: r := by cases s with | nil => simp at hcc | cons a r => exact ⟨a, r, rfl⟩
        go_enter Tryd.func5, Tryd.ntmps5
        go_wp2_with fail
        go_quiet (fail)
        go_wp2_with fail
        refine (G1.out _).mono ?_
        rintro e w1 ⟨rfl, hb1⟩
        go_wp2_with fail
        refine (G2.out _).mono ?_
        rintro e w2 ⟨rfl, hb2⟩
        go_wp2_with fail
        refine (fixed02 _).mono ?_
        rintro e w3 ⟨rfl, hb3⟩
        go_wp2_with fail
        refine (G4.out _).mono ?_
        rintro e w5 ⟨rfl, hb5⟩
        go_wp2
        go_ret
        exact ⟨ret_bool (by simp), (bthen (bthen (hb2.below_of (bthen (bdrawn ((Below.refl _ _).alloc (Nat.le_refl _) _) _) hb1)) hb3) hb5)⟩
      · obtain ⟨j, rfl⟩ := Int.eq_ofNat_of_zero_le (show 0 ≤ k by omega)
        have hd2 : decide (s.length ≤ j) = false := decide_eq_false (by omega)
        go_enter Tryd.func5, Tryd.ntmps5
        go_wp2_with fail
        go_quiet (fail)
        go_wp2_with fail
        refine (G1.out _).mono ?_
        rintro e w1 ⟨rfl, hb1⟩
        go_wp2_with fail
        refine (G2.out _).mono ?_
        rintro e w2 ⟨rfl, hb2⟩
        go_wp2_with fail
        refine (fixed02 _).mono ?_
        rintro e w3 ⟨rfl, hb3⟩
        go_wp2_with fail
        refine (G4.out _).mono ?_
        rintro e w5 ⟨rfl, hb5⟩
        go_wp2
        go_ret
        exact ⟨ret_bool (by simp), (bthen (bthen (hb2.below_of (bthen (bdrawn ((Below.refl _ _).alloc (Nat.le_refl _) _) _) hb1)) hb3) hb5)⟩
    | true =>
      rw [h4] at H4
      obtain ⟨b1, b2, b3, b4, b5⟩ := back_text (rest := rest) h4
      rw [ttT, ttR, ttB, b1] at H5
      clear h4 b1
      obtain ⟨i, rfl⟩ := Int.eq_ofNat_of_zero_le b3
      rw [Int.toNat_natCast] at b2
      generalize ptS s i = u at *
      have hul : ((u.length : Int) == (i : Int) + 1) = true := by rw [b2]; simp
      have HU := Lib.hid b2
      clear b2
      have G1 := Lib.hid H1; have G2 := Lib.hid H2; have G3 := Lib.hid H3; have G4 := Lib.hid H4; have G5 := Lib.hid H5
      clear H1 H2 H3 H4 H5
      have hcase : i < 1 ∨ 8 < i := by omega
      clear hk
      rcases hcase with hcc | hcc
      · go_enter Tryd.func5, Tryd.ntmps5
        go_wp2_with fail
        go_quiet (fail)
        go_wp2_with fail
        refine (G1.out _).mono ?_
        rintro e w1 ⟨rfl, hb1⟩
        go_wp2_with fail
        refine (G2.out _).mono ?_
        rintro e w2 ⟨rfl, hb2⟩
        go_wp2_with fail
        refine (fixed02 _).mono ?_
        rintro e w3 ⟨rfl, hb3⟩
        go_wp2_with fail
        refine (G4.out _).mono ?_
        rintro e w5 ⟨rfl, hb5⟩
        go_wp2_with fail
        refine (G5.out _).mono ?_
        rintro e w6 ⟨rfl, hb6⟩
        go_wp2
        go_ret
        exact ⟨ret_bool (by simp), (hb6.below_of (bthen (bthen (hb2.below_of (bthen (bdrawn ((Below.refl _ _).alloc (Nat.le_refl _) _) _) hb1)) hb3) hb5))⟩
      · go_enter Tryd.func5, Tryd.ntmps5
        go_wp2_with fail
        go_quiet (fail)
        go_wp2_with fail
        refine (G1.out _).mono ?_
        rintro e w1 ⟨rfl, hb1⟩
        go_wp2_with fail
        refine (G2.out _).mono ?_
        rintro e w2 ⟨rfl, hb2⟩
        go_wp2_with fail
        refine (fixed02 _).mono ?_
        rintro e w3 ⟨rfl, hb3⟩
        go_wp2_with fail
        refine (G4.out _).mono ?_
        rintro e w5 ⟨rfl, hb5⟩
        go_wp2_with fail
        refine (G5.out _).mono ?_
        rintro e w6 ⟨rfl, hb6⟩
        go_wp2
        go_ret
        exact ⟨ret_bool (by simp), (hb6.below_of (bthen (bthen (hb2.below_of (bthen (bdrawn ((Below.refl _ _).alloc (Nat.le_refl _) _) _) hb1)) hb3) hb5))⟩

end Go.Proofs.YtnmdgaeclojgiaaDoor
