/- Layer 2: the laws that speak without the reference. -/
import Derived.Test.YtnmdgaeclojgiaaDoorW02e
namespace Go.Proofs.YtnmdgaeclojgiaaDoor
open Go.RowKit

theorem packOnce_walk (s : ByteArray) (m : Int) (w : World) (hs : s.size ≤ 140737488351232) :
    Calls Tryd.prog 6 #[.string s, .int .i64 m] w fun e w' => e = .returned (.bool true) ∧ Below w.heap.size w w' := by
  obtain ⟨l, rfl⟩ : ∃ l, s = bs l := ⟨_, (bs_data s).symm⟩
  rw [bs_size] at hs
  have hsz : (bs l).size ≤ 9223372036854775000 := by rw [bs_size]; omega
  have H1 := fun w => take_all (bs l) m w (Nat.le_trans hsz (by decide))
  have H2 := fun w => takeText_all (bs l) m w hsz
  rw [bs_list] at H1 H2
  obtain ⟨t, ht⟩ : ∃ t, t = ttT l m := ⟨_, rfl⟩
  obtain ⟨r, hr⟩ : ∃ r, r = ttR l m := ⟨_, rfl⟩
  have H3 := fun w => putText_all (bs t) m w
  rw [← ht, ← hr] at H2
  rw [bs_list] at H3
  have tlen : t.length ≤ l.length ∧ r.length ≤ l.length := by
    rw [ht, hr, ttT, ttR]
    cases h : ttO l m with
    | none => simp
    | some x =>
      unfold ttO at h
      split at h
      · obtain ⟨a, b, c⟩ := tput_ttake (t := x.1) (r := x.2) h
        have := congrArg List.length b
        rw [List.length_append, tput_length a] at this
        simp only
        omega
      · cases h
  have hfin2 : ttB l m = true → ptB t m = true ∧ ptS t m ++ r = l := by
    intro h
    unfold ttB at h
    obtain ⟨x, hx⟩ := Option.isSome_iff_exists.1 h
    have e1 : t = x.1 := by rw [ht, ttT, hx]
    have e2 : r = x.2 := by rw [hr, ttR, hx]
    unfold ttO at hx
    split at hx
    · rename_i hm
      obtain ⟨a, b, c⟩ := tput_ttake (t := x.1) (r := x.2) hx
      rw [← e1] at a b
      rw [← e2] at b
      have hc : 0 ≤ m ∧ m ≤ 255 ∧ (t.length : Int) ≤ m := ⟨hm.1, hm.2, by omega⟩
      rw [ptB, ptS, if_pos hc, decide_eq_true hc]
      exact ⟨rfl, b⟩
    · cases hx
  have plen : (ptS t m).length ≤ 256 := by
    unfold ptS
    split
    · rw [tput_length (by omega)]; omega
    · simp
  have hP : tkB l m = true → ∃ p : List UInt8, ∃ q : List UInt8, tkR l m = q ∧ putZ (tkN l m) m = p ∧ p ++ q = l ∧ fitsZ (tkN l m) m = true := by
    intro h
    have hc := of_decide_eq_true h
    obtain ⟨k, rfl⟩ := Int.eq_ofNat_of_zero_le (show 0 ≤ m by omega)
    have hk : (l.take k).length = k := by rw [List.length_take]; omega
    have e := put_val (l.take k)
    rw [hk] at e
    refine ⟨l.take k, l.drop k, by rw [tkR, if_pos hc, Int.toNat_natCast], ?_, List.take_append_drop _ _, ?_⟩
    · rw [tkN, if_pos hc, putZ, if_pos ⟨hc.1, hc.2.1⟩, Int.toNat_natCast, e]
    · rw [tkN, if_pos hc, Int.toNat_natCast, fitsZ_in (by omega) (by omega)]
      have := val_lt (l.take k)
      rw [hk] at this
      exact decide_eq_true this
  have nlt : tkN l m < 18446744073709551616 := by
    unfold tkN
    split
    · obtain ⟨k, rfl⟩ := Int.eq_ofNat_of_zero_le (show 0 ≤ m by omega)
      rw [Int.toNat_natCast]
      refine Nat.lt_of_lt_of_le (val_lt _) (Nat.le_trans (Nat.pow_le_pow_right (by decide) ?_) (by decide : 256 ^ 8 ≤ 18446744073709551616))
      rw [List.length_take]
      omega
    · decide
  have H4 := fun w => put_all (tkN l m) m w nlt
  have H5 := fun w => fits_any (tkN l m) m w nlt
  have rlen : (tkR l m).length ≤ l.length := by
    unfold tkR
    split
    · rw [List.length_drop]; omega
    · simp
  have zlen : (putZ (tkN l m) m).length ≤ 8 := by
    unfold putZ
    split
    · rw [put_length]; omega
    · simp
  generalize tkN l m = n at *
  generalize tkR l m = q at *
  generalize putZ n m = p at *
  generalize ptS t m = u at *
  generalize ptB t m = pb at *
  generalize fitsZ n m = fz at *
  clear nlt ht hr hsz
  cases h1 : tkB l m with
  | false =>
    rw [h1] at H1 hP
    clear h1 hP
    cases h2 : ttB l m with
    | false =>
      rw [h2] at H2
      clear h2 hfin2
      have G1 := Lib.hid H1; have G2 := Lib.hid H2; have G3 := Lib.hid H3; have G4 := Lib.hid H4; have G5 := Lib.hid H5
      clear H1 H2 H3 H4 H5
      go_enter Tryd.func6, Tryd.ntmps6
      go_wp2_with fail
      refine (G1.out _).mono ?_
      rintro e w1 ⟨rfl, hb1⟩
      go_wp2_with fail
      refine (G2.out _).mono ?_
      rintro e w2 ⟨rfl, hb2⟩
      go_wp2_with fail
      refine (G3.out _).mono ?_
      rintro e w3 ⟨rfl, hb3⟩
      go_wp2_with fail
      refine (fixed02 _).mono ?_
      rintro e w4 ⟨rfl, hb4⟩
      go_wp2
      go_ret
      exact ⟨rfl, bthen (bthen (hb2.below_of (hb1.below _)) hb3) hb4⟩
    | true =>
      rw [h2] at H2
      obtain ⟨rfl, h3⟩ := hfin2 h2
      have hbeq : (u ++ r == l) = true := beq_iff_eq.2 h3
      have HB := Lib.hid h3
      clear h2 hfin2 h3
      have G1 := Lib.hid H1; have G2 := Lib.hid H2; have G3 := Lib.hid H3; have G4 := Lib.hid H4; have G5 := Lib.hid H5
      clear H1 H2 H3 H4 H5
      go_enter Tryd.func6, Tryd.ntmps6
      go_wp2_with fail
      refine (G1.out _).mono ?_
      rintro e w1 ⟨rfl, hb1⟩
      go_wp2_with fail
      refine (G2.out _).mono ?_
      rintro e w2 ⟨rfl, hb2⟩
      go_wp2_with fail
      refine (G3.out _).mono ?_
      rintro e w3 ⟨rfl, hb3⟩
      go_wp2_with fail
      refine (fixed02 _).mono ?_
      rintro e w4 ⟨rfl, hb4⟩
      go_wp2
      go_ret
      exact ⟨rfl, bthen (bthen (hb2.below_of (hb1.below _)) hb3) hb4⟩
  | true =>
    rw [h1] at H1
    obtain ⟨p', q', rfl, rfl, h4, rfl⟩ := hP h1
    have hbeq2 : (p ++ q == l) = true := beq_iff_eq.2 h4
    have HB2 := Lib.hid h4
    clear h1 hP h4
    cases h2 : ttB l m with
    | false =>
      rw [h2] at H2
      clear h2 hfin2
      have G1 := Lib.hid H1; have G2 := Lib.hid H2; have G3 := Lib.hid H3; have G4 := Lib.hid H4; have G5 := Lib.hid H5
      clear H1 H2 H3 H4 H5
      go_enter Tryd.func6, Tryd.ntmps6
      go_wp2_with fail
      refine (G1.out _).mono ?_
      rintro e w1 ⟨rfl, hb1⟩
      go_wp2_with fail
      refine (G2.out _).mono ?_
      rintro e w2 ⟨rfl, hb2⟩
      go_wp2_with fail
      refine (G3.out _).mono ?_
      rintro e w3 ⟨rfl, hb3⟩
      go_wp2_with fail
      refine (fixed02 _).mono ?_
      rintro e w4 ⟨rfl, hb4⟩
      go_wp2_with fail
      refine (G4.out _).mono ?_
      rintro e w5 ⟨rfl, hb5⟩
      go_wp2_with fail
      refine (G5.out _).mono ?_
      rintro e w6 ⟨rfl, hb6⟩
      go_wp2
      go_ret
      exact ⟨rfl, hb6.below_of (bthen (bthen (bthen (hb2.below_of (hb1.below _)) hb3) hb4) hb5)⟩
    | true =>
      rw [h2] at H2
      obtain ⟨rfl, h3⟩ := hfin2 h2
      have hbeq : (u ++ r == l) = true := beq_iff_eq.2 h3
      have HB := Lib.hid h3
      clear h2 hfin2 h3
      have G1 := Lib.hid H1; have G2 := Lib.hid H2; have G3 := Lib.hid H3; have G4 := Lib.hid H4; have G5 := Lib.hid H5
      clear H1 H2 H3 H4 H5
      go_enter Tryd.func6, Tryd.ntmps6
      go_wp2_with fail
      refine (G1.out _).mono ?_
      rintro e w1 ⟨rfl, hb1⟩
      go_wp2_with fail
      refine (G2.out _).mono ?_
      rintro e w2 ⟨rfl, hb2⟩
      go_wp2_with fail
      refine (G3.out _).mono ?_
      rintro e w3 ⟨rfl, hb3⟩
      go_wp2_with fail
      refine (fixed02 _).mono ?_
      rintro e w4 ⟨rfl, hb4⟩
      go_wp2_with fail
      refine (G4.out _).mono ?_
      rintro e w5 ⟨rfl, hb5⟩
      go_wp2_with fail
      refine (G5.out _).mono ?_
      rintro e w6 ⟨rfl, hb6⟩
      go_wp2
      go_ret
      exact ⟨rfl, hb6.below_of (bthen (bthen (bthen (hb2.below_of (hb1.below _)) hb3) hb4) hb5)⟩

end Go.Proofs.YtnmdgaeclojgiaaDoor
