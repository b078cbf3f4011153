/- Layer 2: the laws that speak without the reference, the others. -/
import Derived.Test.YtnmdgaeclojgiaaDoorW02e
namespace Go.Proofs.YtnmdgaeclojgiaaDoor
open Go.RowKit

theorem val_foldl (l : List UInt8) (a : Nat) : l.foldl (fun a b => a * 256 + b.toNat) a = a * 256 ^ l.length + val l := by
  induction l using snoc_ind with
  | h0 => simp [val]
  | h1 l b ih =>
    rw [List.foldl_append, List.foldl_cons, List.foldl_nil, ih, val_snoc, List.length_append, List.length_singleton, Nat.pow_succ, ← Nat.mul_assoc]
    omega
theorem val_cons (b : UInt8) (l : List UInt8) : val (b :: l) = b.toNat * 256 ^ l.length + val l := by
  have := val_foldl l b.toNat
  rw [← this]
  simp [val]
theorem less_val {x y : List UInt8} (h : x.length = y.length) : Op.bytesLess x y = decide (val x < val y) := by
  induction x generalizing y with
  | nil =>
    cases y with
    | nil => rfl
    | cons b y => simp at h
  | cons a x ih =>
    cases y with
    | nil => simp at h
    | cons b y =>
      have hl : x.length = y.length := by simpa using h
      rw [Op.bytesLess, ih hl, val_cons, val_cons, ← hl]
      have hx := val_lt x
      have hy := val_lt y
      rw [← hl] at hy
      have ha := UInt8.lt_iff_toNat_lt (a := a) (b := b)
      rw [Bool.eq_iff_iff]
      simp only [Bool.or_eq_true, Bool.and_eq_true, decide_eq_true_eq, beq_iff_eq, ha]
      generalize 256 ^ x.length = q at *
      constructor
      · rintro (h1 | ⟨rfl, h2⟩)
        · have : (a.toNat + 1) * q ≤ b.toNat * q := Nat.mul_le_mul_right q h1
          rw [Nat.add_mul, Nat.one_mul] at this
          omega
        · omega
      · intro h1
        rcases Nat.lt_trichotomy a.toNat b.toNat with h2 | h2 | h2
        · exact .inl h2
        · obtain rfl := UInt8.toNat.inj h2
          exact .inr ⟨rfl, by omega⟩
        · have : (b.toNat + 1) * q ≤ a.toNat * q := Nat.mul_le_mul_right q h2
          rw [Nat.add_mul, Nat.one_mul] at this
          omega

theorem packOrders_walk (n m : Nat) (k : Int) (w : World) (hn : n < 18446744073709551616) (hm : m < 18446744073709551616) :
    Calls Tryd.prog 7 #[.int .u64 n, .int .u64 m, .int .i64 k] w fun e w' => e = .returned (.bool true) ∧ Below w.heap.size w w' := by
  have H1 := fun w => fits_any n k w hn
  have H2 := fun w => fits_any m k w hm
  have H3 := Lib.hid (fun w => put_all n k w hn)
  have H4 := Lib.hid (fun w => put_all m k w hm)
  clear hn hm
  cases h1 : fitsZ n k with
  | false =>
    rw [h1] at H1
    have G1 := Lib.hid H1
    clear h1 H1 H2
    go_enter Tryd.func7, Tryd.ntmps7
    go_wp2_with fail
    refine (fixed02 _).mono ?_
    rintro e w1 ⟨rfl, hb1⟩
    go_wp2_with fail
    refine (G1.out _).mono ?_
    rintro e w2 ⟨rfl, hb2⟩
    go_wp2_with fail
    refine (fixed02 _).mono ?_
    rintro e w3 ⟨rfl, hb3⟩
    go_wp2
    go_ret
    exact ⟨rfl, bthen (hb2.below_of hb1) hb3⟩
  | true =>
    rw [h1] at H1
    have G1 := Lib.hid H1
    clear H1
    cases h2 : fitsZ m k with
    | false =>
      rw [h2] at H2
      have G2 := Lib.hid H2
      clear h1 h2 H2
      go_enter Tryd.func7, Tryd.ntmps7
      go_wp2_with fail
      refine (fixed02 _).mono ?_
      rintro e w1 ⟨rfl, hb1⟩
      go_wp2_with fail
      refine (G1.out _).mono ?_
      rintro e w2 ⟨rfl, hb2⟩
      go_wp2_with fail
      refine (G2.out _).mono ?_
      rintro e w3 ⟨rfl, hb3⟩
      go_wp2_with fail
      refine (fixed02 _).mono ?_
      rintro e w4 ⟨rfl, hb4⟩
      go_wp2
      go_ret
      exact ⟨rfl, bthen (hb3.below_of (hb2.below_of hb1)) hb4⟩
    | true =>
      rw [h2] at H2
      have G2 := Lib.hid H2
      clear H2
      have hk := of_decide_eq_true h1
      have hk2 := of_decide_eq_true h2
      obtain ⟨j, rfl⟩ := Int.eq_ofNat_of_zero_le (show 0 ≤ k by omega)
      have e1 : Op.bytesLess (putZ n j) (putZ m j) = decide (n < m) := by
        rw [putZ, putZ, if_pos ⟨hk.1, hk.2.1⟩, if_pos ⟨hk.1, hk.2.1⟩, Int.toNat_natCast, less_val (by rw [put_length, put_length]), val_put, val_put]
        rw [Int.toNat_natCast] at hk hk2
        rw [Nat.mod_eq_of_lt hk.2.2, Nat.mod_eq_of_lt hk2.2.2]
      have e2 : (putZ n j == putZ m j) = decide (n = m) := by
        rw [putZ, putZ, if_pos ⟨hk.1, hk.2.1⟩, if_pos ⟨hk.1, hk.2.1⟩, Int.toNat_natCast, Bool.eq_iff_iff, beq_iff_eq, decide_eq_true_iff]
        rw [Int.toNat_natCast] at hk hk2
        exact ⟨fun h => put_inj hk.2.2 hk2.2.2 h, fun h => by rw [h]⟩
      generalize putZ n j = p at *
      generalize putZ m j = q at *
      clear h1 h2 hk hk2
      have e3 : ((n : Int) == (m : Int)) = decide (n = m) := by
        rw [Bool.eq_iff_iff, beq_iff_eq, decide_eq_true_iff]
        omega
      go_enter Tryd.func7, Tryd.ntmps7
      go_wp2_with fail
      refine (fixed02 _).mono ?_
      rintro e w1 ⟨rfl, hb1⟩
      go_wp2_with fail
      refine (G1.out _).mono ?_
      rintro e w2 ⟨rfl, hb2⟩
      go_wp2_with fail
      refine (G2.out _).mono ?_
      rintro e w3 ⟨rfl, hb3⟩
      go_wp2_with fail
      refine (H3.out _).mono ?_
      rintro e w4 ⟨rfl, hb4⟩
      go_wp2_with fail
      refine (H4.out _).mono ?_
      rintro e w5 ⟨rfl, hb5⟩
      go_wp2_with fail
      refine (H3.out _).mono ?_
      rintro e w6 ⟨rfl, hb6⟩
      go_wp2_with fail
      refine (H4.out _).mono ?_
      rintro e w7 ⟨rfl, hb7⟩
      go_wp2
      go_ret
      exact ⟨ret_bool (by simp), bthen (bthen (bthen (bthen (hb3.below_of (hb2.below_of hb1)) hb4) hb5) hb6) hb7⟩

end Go.Proofs.YtnmdgaeclojgiaaDoor
