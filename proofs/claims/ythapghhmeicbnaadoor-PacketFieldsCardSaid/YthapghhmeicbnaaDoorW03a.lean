/- The walks of layer 3: whether an entry may be. -/
import Derived.Test.YthapghhmeicbnaaDoorW02e
import Derived.Test.YthapghhmeicbnaaDoorEntEq
namespace Go.Proofs.YthapghhmeicbnaaDoor
open Go.RowKit

theorem within_any (n b : Int) (w : World) : Calls Tryd.prog 62 #[.int .i64 n, .int .i64 b] w fun e w' => e = .returned (.bool (decide (0 ≤ n ∧ n < b))) ∧ w = w' := by
  by_cases h1 : 0 ≤ n
  · by_cases h2 : n < b
    · have e : decide (0 ≤ n ∧ n < b) = true := decide_eq_true ⟨h1, h2⟩
      rw [e]; clear e
      go_enter Tryd.func62, Tryd.ntmps62
      go_wp2
      go_ret
      exact ⟨ret_bool (by simp), rfl⟩
    · have e : decide (0 ≤ n ∧ n < b) = false := decide_eq_false (by omega)
      rw [e]; clear e
      go_enter Tryd.func62, Tryd.ntmps62
      go_wp2
      go_ret
      exact ⟨ret_bool (by simp), rfl⟩
  · have e : decide (0 ≤ n ∧ n < b) = false := decide_eq_false (by omega)
    rw [e]; clear e
    go_enter Tryd.func62, Tryd.ntmps62
    go_wp2
    go_ret
    exact ⟨ret_bool (by simp), rfl⟩

theorem zero_ok : Ent.zero.Ok := ⟨by decide, by decide, by decide, by decide, by decide, by decide⟩
theorem u64_of {n : Int} (h : (Lit.int .u64 n).wf = true) : 0 ≤ n ∧ n ≤ 18446744073709551615 := by
  simpa [Lit.wf, IntKind.min, IntKind.max, IntKind.signed, IntKind.bits] using h

theorem ent_zero {e : Ent} (he : e.Ok) (w : World) :
    (Op.equalIn 10000 30 (.agg #[.int .i64 e.kind, .int .i64 e.service, .int .i64 e.group, .int .u64 e.session, .int .u64 e.number, .string e.text])
      (.agg #[.int .i64 0, .int .i64 0, .int .i64 0, .int .u64 0, .int .u64 0, .string ⟨#[]⟩])).run Tryd.prog w = .ok (decide (e = Ent.zero)) w := ent_equal he zero_ok w

/-- Whether an entry may be, told as the program asks it. -/
theorem may_prog {e : Ent} (h0 : 0 ≤ e.session) (h1 : 0 ≤ e.number) (hz : e ≠ Ent.zero) :
    e.may = true ↔ ((0 ≤ e.service ∧ e.service < 4) ∧ (0 ≤ e.group ∧ e.group < 8) ∧ e.session < 65536 ∧ e.number < 4294967296 ∧ e.text.size ≤ 16 ∧ (e.kind = 1 ∨ ((e.kind = 2 ∨ e.kind = 3) ∧ e.service = 2 ∧ e.text.size = 0))) := by
  obtain ⟨k, s, g, se, nu, t⟩ := e
  simp only at *
  unfold Ent.may
  simp only
  by_cases hk : k = 0
  · subst hk
    rw [if_pos rfl, decide_eq_true_iff]
    constructor
    · rintro ⟨rfl, rfl, rfl, rfl, ht⟩
      exfalso
      apply hz
      obtain ⟨⟨l⟩⟩ := t
      have : l = [] := List.eq_nil_of_length_eq_zero ht
      subst this
      rfl
    · intro h
      omega
  · rw [if_neg hk]
    by_cases hb : g < 0 ∨ g > 7 ∨ se > 65535 ∨ nu > 4294967295 ∨ t.size > 16
    · rw [if_pos hb]
      constructor
      · intro h; cases h
      · intro h; omega
    · rw [if_neg hb]
      by_cases h1 : k = 1
      · rw [if_pos h1, decide_eq_true_iff]
        omega
      · rw [if_neg h1, decide_eq_true_iff]
        omega

def okCode (b : Bool) : Int := if b then 0 else 30

set_option maxRecDepth 10000 in
set_option maxHeartbeats 4000000 in
theorem check_any (e : Ent) (he : e.Ok) (w : World) :
    Calls Tryd.prog 50 #[e.val] w fun r w' => r = .returned (.int .i64 (okCode e.may)) ∧ Below w.heap.size w w' := by
  have hg := ent_guard
  have heq := ent_zero he
  by_cases hz : e = Ent.zero
  · rw [decide_eq_true hz] at heq
    have hm : okCode e.may = 0 := by rw [hz]; decide
    rw [hm]
    clear hm hz he
    obtain ⟨k, s, g, se, nu, t⟩ := e
    unfold Ent.val
    simp only at *
    go_enter Tryd.func50, Tryd.ntmps50
    go_wp2
    go_ret
    exact ⟨rfl, (Below.refl _ _).alloc (Nat.le_refl _) _⟩
  · rw [decide_eq_false hz] at heq
    have b0 := (u64_of he.session)
    have b1 := (u64_of he.number)
    have hM := may_prog b0.1 b1.1 hz
    generalize e.may = M at *
    clear hz he
    obtain ⟨k, s, g, se, nu, t⟩ := e
    obtain ⟨t, rfl⟩ : ∃ l, t = bs l := ⟨_, (bs_data t).symm⟩
    unfold Ent.val
    simp only at *
    obtain ⟨se, rfl⟩ := Int.eq_ofNat_of_zero_le b0.1
    obtain ⟨nu, rfl⟩ := Int.eq_ofNat_of_zero_le b1.1
    rw [bs_size] at hM
    have H1 := Lib.hid (fun w => within_any s 4 w)
    have H2 := Lib.hid (fun w => within_any g 8 w)
    have H3 := Lib.hid (fun w => fits_same se 2 w (by omega))
    have H4 := Lib.hid (fun w => fits_same nu 4 w (by omega))
    clear b0 b1
    by_cases c1 : 0 ≤ s ∧ s < 4
    · rw [decide_eq_true c1] at H1
      by_cases c2 : 0 ≤ g ∧ g < 8
      · rw [decide_eq_true c2] at H2
        by_cases c3 : se < 65536
        · rw [show fitsZ se 2 = true from decide_eq_true ⟨by decide, by decide, c3⟩] at H3
          by_cases c4 : nu < 4294967296
          · rw [show fitsZ nu 4 = true from decide_eq_true ⟨by decide, by decide, c4⟩] at H4
            by_cases c5 : t.length ≤ 16
            · have hd5 : decide ((t.length : Int) ≤ 16) = true := decide_eq_true (by omega)
              by_cases ck : k = 1
              · obtain rfl : M = true := hM.2 (by omega)
                clear hM
                subst ck
                clear c1 c2 c3 c4
                go_enter Tryd.func50, Tryd.ntmps50
                go_wp2_with fail
                refine (H1.out _).mono ?_
                rintro e w1 ⟨rfl, rfl⟩
                go_wp2_with fail
                refine (H2.out _).mono ?_
                rintro e w1 ⟨rfl, rfl⟩
                go_wp2_with fail
                refine (H3.out _).mono ?_
                rintro e w1 ⟨rfl, rfl⟩
                go_wp2_with fail
                refine (H4.out _).mono ?_
                rintro e w1 ⟨rfl, rfl⟩
                go_wp2
                go_ret
                exact ⟨rfl, (Below.refl _ _).alloc (Nat.le_refl _) _⟩
              · by_cases ck2 : k = 2
                · subst ck2
                  by_cases cs : s = 2
                  · by_cases ct : t.length = 0
                    · obtain rfl : M = true := hM.2 (by omega)
                      clear hM
                      clear hd5
                      obtain rfl : t = [] := List.eq_nil_of_length_eq_zero ct
                      clear c1 c2 c3 c4
                      subst cs
                      go_enter Tryd.func50, Tryd.ntmps50
                      go_wp2_with fail
                      refine (H1.out _).mono ?_
                      rintro e w1 ⟨rfl, rfl⟩
                      go_wp2_with fail
                      refine (H2.out _).mono ?_
                      rintro e w1 ⟨rfl, rfl⟩
                      go_wp2_with fail
                      refine (H3.out _).mono ?_
                      rintro e w1 ⟨rfl, rfl⟩
                      go_wp2_with fail
                      refine (H4.out _).mono ?_
                      rintro e w1 ⟨rfl, rfl⟩
                      go_wp2
                      go_ret
                      exact ⟨rfl, (Below.refl _ _).alloc (Nat.le_refl _) _⟩
                    · obtain rfl : M = false := Bool.eq_false_iff.2 (fun h => by have h := hM.1 h; omega)
                      clear hM
                      clear hd5
                      obtain ⟨a, t, rfl⟩ : ∃ a r, t = a :: r := by cases t with | nil => simp at ct | cons a r => exact ⟨a, r, rfl⟩
                      have hd5 : decide (((t.length : Int) + 1) ≤ 16) = true := decide_eq_true (by rw [List.length_cons] at c5; omega)
                      rw [List.length_cons] at c5
                      clear c1 c2 c3 c4
                      subst cs
                      go_enter Tryd.func50, Tryd.ntmps50
                      go_wp2_with fail
                      refine (H1.out _).mono ?_
                      rintro e w1 ⟨rfl, rfl⟩
                      go_wp2_with fail
                      refine (H2.out _).mono ?_
                      rintro e w1 ⟨rfl, rfl⟩
                      go_wp2_with fail
                      refine (H3.out _).mono ?_
                      rintro e w1 ⟨rfl, rfl⟩
                      go_wp2_with fail
                      refine (H4.out _).mono ?_
                      rintro e w1 ⟨rfl, rfl⟩
                      go_wp2
                      go_ret
                      exact ⟨rfl, (Below.refl _ _).alloc (Nat.le_refl _) _⟩
                  · obtain rfl : M = false := Bool.eq_false_iff.2 (fun h => by have h := hM.1 h; omega)
                    clear hM
                    have hs2 : (s == 2) = false := beq_eq_false_iff_ne.2 cs
                    clear c1 c2 c3 c4
                    go_enter Tryd.func50, Tryd.ntmps50
                    go_wp2_with fail
                    refine (H1.out _).mono ?_
                    rintro e w1 ⟨rfl, rfl⟩
                    go_wp2_with fail
                    refine (H2.out _).mono ?_
                    rintro e w1 ⟨rfl, rfl⟩
                    go_wp2_with fail
                    refine (H3.out _).mono ?_
                    rintro e w1 ⟨rfl, rfl⟩
                    go_wp2_with fail
                    refine (H4.out _).mono ?_
                    rintro e w1 ⟨rfl, rfl⟩
                    go_wp2
                    go_ret
                    exact ⟨rfl, (Below.refl _ _).alloc (Nat.le_refl _) _⟩
                · by_cases ck3 : k = 3
                  · subst ck3
                    by_cases cs : s = 2
                    · by_cases ct : t.length = 0
                      · obtain rfl : M = true := hM.2 (by omega)
                        clear hM
                        clear hd5
                        obtain rfl : t = [] := List.eq_nil_of_length_eq_zero ct
                        clear c1 c2 c3 c4
                        subst cs
                        go_enter Tryd.func50, Tryd.ntmps50
                        go_wp2_with fail
                        refine (H1.out _).mono ?_
                        rintro e w1 ⟨rfl, rfl⟩
                        go_wp2_with fail
                        refine (H2.out _).mono ?_
                        rintro e w1 ⟨rfl, rfl⟩
                        go_wp2_with fail
                        refine (H3.out _).mono ?_
                        rintro e w1 ⟨rfl, rfl⟩
                        go_wp2_with fail
                        refine (H4.out _).mono ?_
                        rintro e w1 ⟨rfl, rfl⟩
                        go_wp2
                        go_ret
                        exact ⟨rfl, (Below.refl _ _).alloc (Nat.le_refl _) _⟩
                      · obtain rfl : M = false := Bool.eq_false_iff.2 (fun h => by have h := hM.1 h; omega)
                        clear hM
                        clear hd5
                        obtain ⟨a, t, rfl⟩ : ∃ a r, t = a :: r := by cases t with | nil => simp at ct | cons a r => exact ⟨a, r, rfl⟩
                        have hd5 : decide (((t.length : Int) + 1) ≤ 16) = true := decide_eq_true (by rw [List.length_cons] at c5; omega)
                        rw [List.length_cons] at c5
                        clear c1 c2 c3 c4
                        subst cs
                        go_enter Tryd.func50, Tryd.ntmps50
                        go_wp2_with fail
                        refine (H1.out _).mono ?_
                        rintro e w1 ⟨rfl, rfl⟩
                        go_wp2_with fail
                        refine (H2.out _).mono ?_
                        rintro e w1 ⟨rfl, rfl⟩
                        go_wp2_with fail
                        refine (H3.out _).mono ?_
                        rintro e w1 ⟨rfl, rfl⟩
                        go_wp2_with fail
                        refine (H4.out _).mono ?_
                        rintro e w1 ⟨rfl, rfl⟩
                        go_wp2
                        go_ret
                        exact ⟨rfl, (Below.refl _ _).alloc (Nat.le_refl _) _⟩
                    · obtain rfl : M = false := Bool.eq_false_iff.2 (fun h => by have h := hM.1 h; omega)
                      clear hM
                      have hs2 : (s == 2) = false := beq_eq_false_iff_ne.2 cs
                      clear c1 c2 c3 c4
                      go_enter Tryd.func50, Tryd.ntmps50
                      go_wp2_with fail
                      refine (H1.out _).mono ?_
                      rintro e w1 ⟨rfl, rfl⟩
                      go_wp2_with fail
                      refine (H2.out _).mono ?_
                      rintro e w1 ⟨rfl, rfl⟩
                      go_wp2_with fail
                      refine (H3.out _).mono ?_
                      rintro e w1 ⟨rfl, rfl⟩
                      go_wp2_with fail
                      refine (H4.out _).mono ?_
                      rintro e w1 ⟨rfl, rfl⟩
                      go_wp2
                      go_ret
                      exact ⟨rfl, (Below.refl _ _).alloc (Nat.le_refl _) _⟩
                  · obtain rfl : M = false := Bool.eq_false_iff.2 (fun h => by have h := hM.1 h; omega)
                    clear hM
                    have hk1 : (k == 1) = false := beq_eq_false_iff_ne.2 ck
                    have hk2 : (k == 2) = false := beq_eq_false_iff_ne.2 ck2
                    have hk3 : (k == 3) = false := beq_eq_false_iff_ne.2 ck3
                    clear c1 c2 c3 c4
                    go_enter Tryd.func50, Tryd.ntmps50
                    go_wp2_with fail
                    refine (H1.out _).mono ?_
                    rintro e w1 ⟨rfl, rfl⟩
                    go_wp2_with fail
                    refine (H2.out _).mono ?_
                    rintro e w1 ⟨rfl, rfl⟩
                    go_wp2_with fail
                    refine (H3.out _).mono ?_
                    rintro e w1 ⟨rfl, rfl⟩
                    go_wp2_with fail
                    refine (H4.out _).mono ?_
                    rintro e w1 ⟨rfl, rfl⟩
                    go_wp2
                    go_ret
                    exact ⟨rfl, (Below.refl _ _).alloc (Nat.le_refl _) _⟩
            · obtain rfl : M = false := Bool.eq_false_iff.2 (fun h => by have h := hM.1 h; omega)
              clear hM
              clear c1 c2 c3 c4
              have hd5 : decide ((t.length : Int) ≤ 16) = false := decide_eq_false (by omega)
              go_enter Tryd.func50, Tryd.ntmps50
              go_wp2_with fail
              refine (H1.out _).mono ?_
              rintro e w1 ⟨rfl, rfl⟩
              go_wp2_with fail
              refine (H2.out _).mono ?_
              rintro e w1 ⟨rfl, rfl⟩
              go_wp2_with fail
              refine (H3.out _).mono ?_
              rintro e w1 ⟨rfl, rfl⟩
              go_wp2_with fail
              refine (H4.out _).mono ?_
              rintro e w1 ⟨rfl, rfl⟩
              go_wp2
              go_ret
              exact ⟨rfl, (Below.refl _ _).alloc (Nat.le_refl _) _⟩
          · obtain rfl : M = false := Bool.eq_false_iff.2 (fun h => by have h := hM.1 h; omega)
            clear hM
            rw [show fitsZ nu 4 = false from decide_eq_false (fun h => c4 h.2.2)] at H4
            clear c1 c2 c3 c4
            go_enter Tryd.func50, Tryd.ntmps50
            go_wp2_with fail
            refine (H1.out _).mono ?_
            rintro e w1 ⟨rfl, rfl⟩
            go_wp2_with fail
            refine (H2.out _).mono ?_
            rintro e w1 ⟨rfl, rfl⟩
            go_wp2_with fail
            refine (H3.out _).mono ?_
            rintro e w1 ⟨rfl, rfl⟩
            go_wp2_with fail
            refine (H4.out _).mono ?_
            rintro e w1 ⟨rfl, rfl⟩
            go_wp2
            go_ret
            exact ⟨rfl, (Below.refl _ _).alloc (Nat.le_refl _) _⟩
        · obtain rfl : M = false := Bool.eq_false_iff.2 (fun h => by have h := hM.1 h; omega)
          clear hM
          rw [show fitsZ se 2 = false from decide_eq_false (fun h => c3 h.2.2)] at H3
          clear c1 c2 c3
          go_enter Tryd.func50, Tryd.ntmps50
          go_wp2_with fail
          refine (H1.out _).mono ?_
          rintro e w1 ⟨rfl, rfl⟩
          go_wp2_with fail
          refine (H2.out _).mono ?_
          rintro e w1 ⟨rfl, rfl⟩
          go_wp2_with fail
          refine (H3.out _).mono ?_
          rintro e w1 ⟨rfl, rfl⟩
          go_wp2
          go_ret
          exact ⟨rfl, (Below.refl _ _).alloc (Nat.le_refl _) _⟩
      · obtain rfl : M = false := Bool.eq_false_iff.2 (fun h => by have h := hM.1 h; omega)
        clear hM
        rw [decide_eq_false c2] at H2
        clear c1 c2
        go_enter Tryd.func50, Tryd.ntmps50
        go_wp2_with fail
        refine (H1.out _).mono ?_
        rintro e w1 ⟨rfl, rfl⟩
        go_wp2_with fail
        refine (H2.out _).mono ?_
        rintro e w1 ⟨rfl, rfl⟩
        go_wp2
        go_ret
        exact ⟨rfl, (Below.refl _ _).alloc (Nat.le_refl _) _⟩
    · obtain rfl : M = false := Bool.eq_false_iff.2 (fun h => by have h := hM.1 h; omega)
      clear hM
      rw [decide_eq_false c1] at H1
      clear c1
      go_enter Tryd.func50, Tryd.ntmps50
      go_wp2_with fail
      refine (H1.out _).mono ?_
      rintro e w1 ⟨rfl, rfl⟩
      go_wp2
      go_ret
      exact ⟨rfl, (Below.refl _ _).alloc (Nat.le_refl _) _⟩
-- check_any ends

end Go.Proofs.YthapghhmeicbnaaDoor
