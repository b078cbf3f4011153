/- The walks of layer 3: the reference's. -/
import Derived.Test.YthapghhmeicbnaaDoorW03b
namespace Go.Proofs.YthapghhmeicbnaaDoor
open Go.RowKit

set_option maxHeartbeats 4000000 in
set_option maxRecDepth 10000 in
theorem rmay_any (e : Ent) (he : e.Ok) (w : World) : Calls Tryd.prog 51 #[e.val] w fun r w' => r = .returned (.bool e.may) ∧ Below w.heap.size w w' := by
  have b0 := u64_of he.session
  have b1 := u64_of he.number
  clear he
  have hM : e.may = true ↔ ((e.kind = 0 ∧ e.service = 0 ∧ e.group = 0 ∧ e.session = 0 ∧ e.number = 0 ∧ e.text.size = 0) ∨
      (e.kind ≠ 0 ∧ ¬ (e.group < 0 ∨ e.group > 7 ∨ e.session > 65535 ∨ e.number > 4294967295 ∨ e.text.size > 16) ∧ ((e.kind = 1 ∧ e.service ≥ 0 ∧ e.service ≤ 3) ∨ (e.kind ≠ 1 ∧ (e.kind = 2 ∨ e.kind = 3) ∧ e.service = 2 ∧ e.text.size = 0)))) := by
    unfold Ent.may
    split
    · rw [decide_eq_true_iff]; omega
    · split
      · constructor
        · intro h; cases h
        · intro h; omega
      · split
        · rw [decide_eq_true_iff]; omega
        · rw [decide_eq_true_iff]; omega
  generalize e.may = M at *
  obtain ⟨k, s, g, se, nu, t⟩ := e
  obtain ⟨t, rfl⟩ : ∃ l, t = bs l := ⟨_, (bs_data t).symm⟩
  unfold Ent.val
  simp only at *
  obtain ⟨se, rfl⟩ := Int.eq_ofNat_of_zero_le b0.1
  obtain ⟨nu, rfl⟩ := Int.eq_ofNat_of_zero_le b1.1
  rw [bs_size] at hM
  clear b0 b1
  -- tree begins
  by_cases ck : k = 0
  · subst ck
    by_cases c1 : s = 0
    · subst c1
      by_cases c2 : g = 0
      · subst c2
        by_cases c3 : se = 0
        · subst c3
          by_cases c4 : nu = 0
          · subst c4
            by_cases ct : t.length = 0
            · obtain rfl : M = true := hM.2 (by omega)
              clear hM
              obtain rfl : t = [] := List.eq_nil_of_length_eq_zero ct
              go_enter Tryd.func51, Tryd.ntmps51
              go_wp2
              go_ret
              exact ⟨rfl, (Below.refl _ _).alloc (Nat.le_refl _) _⟩
            · obtain rfl : M = false := Bool.eq_false_iff.2 (fun h => by have h := hM.1 h; omega)
              clear hM
              obtain ⟨a, t, rfl⟩ : ∃ a r, t = a :: r := by cases t with | nil => simp at ct | cons a r => exact ⟨a, r, rfl⟩
              go_enter Tryd.func51, Tryd.ntmps51
              go_wp2
              go_ret
              exact ⟨rfl, (Below.refl _ _).alloc (Nat.le_refl _) _⟩
          · obtain rfl : M = false := Bool.eq_false_iff.2 (fun h => by have h := hM.1 h; omega)
            clear hM
            have hc4 : ((nu : Int) == 0) = false := beq_eq_false_iff_ne.2 (by omega)
            go_enter Tryd.func51, Tryd.ntmps51
            go_wp2
            go_ret
            exact ⟨rfl, (Below.refl _ _).alloc (Nat.le_refl _) _⟩
        · obtain rfl : M = false := Bool.eq_false_iff.2 (fun h => by have h := hM.1 h; omega)
          clear hM
          have hc3 : ((se : Int) == 0) = false := beq_eq_false_iff_ne.2 (by omega)
          go_enter Tryd.func51, Tryd.ntmps51
          go_wp2
          go_ret
          exact ⟨rfl, (Below.refl _ _).alloc (Nat.le_refl _) _⟩
      · obtain rfl : M = false := Bool.eq_false_iff.2 (fun h => by have h := hM.1 h; omega)
        clear hM
        have hc2 : (g == 0) = false := beq_eq_false_iff_ne.2 c2
        go_enter Tryd.func51, Tryd.ntmps51
        go_wp2
        go_ret
        exact ⟨rfl, (Below.refl _ _).alloc (Nat.le_refl _) _⟩
    · obtain rfl : M = false := Bool.eq_false_iff.2 (fun h => by have h := hM.1 h; omega)
      clear hM
      have hc1 : (s == 0) = false := beq_eq_false_iff_ne.2 c1
      go_enter Tryd.func51, Tryd.ntmps51
      go_wp2
      go_ret
      exact ⟨rfl, (Below.refl _ _).alloc (Nat.le_refl _) _⟩
  · by_cases c2 : 0 ≤ g
    · by_cases c2b : g ≤ 7
      · by_cases c3 : se ≤ 65535
        · have hd3 : decide ((65535 : Int) < (se : Int)) = false := decide_eq_false (by omega)
          by_cases c4 : nu ≤ 4294967295
          · have hd4 : decide ((4294967295 : Int) < (nu : Int)) = false := decide_eq_false (by omega)
            by_cases c5 : t.length ≤ 16
            · have hd5 : decide ((16 : Int) < (t.length : Int)) = false := decide_eq_false (by omega)
              by_cases ck1 : k = 1
              · subst ck1
                by_cases cs0 : 0 ≤ s
                · by_cases cs3 : s ≤ 3
                  · obtain rfl : M = true := hM.2 (by omega)
                    clear hM
                    go_enter Tryd.func51, Tryd.ntmps51
                    go_wp2
                    go_ret
                    exact ⟨rfl, (Below.refl _ _).alloc (Nat.le_refl _) _⟩
                  · obtain rfl : M = false := Bool.eq_false_iff.2 (fun h => by have h := hM.1 h; omega)
                    clear hM
                    go_enter Tryd.func51, Tryd.ntmps51
                    go_wp2
                    go_ret
                    exact ⟨rfl, (Below.refl _ _).alloc (Nat.le_refl _) _⟩
                · obtain rfl : M = false := Bool.eq_false_iff.2 (fun h => by have h := hM.1 h; omega)
                  clear hM
                  go_enter Tryd.func51, Tryd.ntmps51
                  go_wp2
                  go_ret
                  exact ⟨rfl, (Below.refl _ _).alloc (Nat.le_refl _) _⟩
              · by_cases ck2 : k = 2
                · subst ck2
                  by_cases cs : s = 2
                  · subst cs
                    by_cases ct : t.length = 0
                    · obtain rfl : M = true := hM.2 (by omega)
                      clear hM
                      clear hd5
                      obtain rfl : t = [] := List.eq_nil_of_length_eq_zero ct
                      go_enter Tryd.func51, Tryd.ntmps51
                      go_wp2
                      go_ret
                      exact ⟨rfl, (Below.refl _ _).alloc (Nat.le_refl _) _⟩
                    · obtain rfl : M = false := Bool.eq_false_iff.2 (fun h => by have h := hM.1 h; omega)
                      clear hM
                      clear hd5
                      obtain ⟨a, t, rfl⟩ : ∃ a r, t = a :: r := by cases t with | nil => simp at ct | cons a r => exact ⟨a, r, rfl⟩
                      have hd5 : decide ((16 : Int) < (t.length : Int) + 1) = false := decide_eq_false (by simp only [List.length_cons] at c5; omega)
                      go_enter Tryd.func51, Tryd.ntmps51
                      go_wp2
                      go_ret
                      exact ⟨rfl, (Below.refl _ _).alloc (Nat.le_refl _) _⟩
                  · obtain rfl : M = false := Bool.eq_false_iff.2 (fun h => by have h := hM.1 h; omega)
                    clear hM
                    have hcs : (s == 2) = false := beq_eq_false_iff_ne.2 cs
                    go_enter Tryd.func51, Tryd.ntmps51
                    go_wp2
                    go_ret
                    exact ⟨rfl, (Below.refl _ _).alloc (Nat.le_refl _) _⟩
                · by_cases ck3 : k = 3
                  · subst ck3
                    by_cases cs : s = 2
                    · subst cs
                      by_cases ct : t.length = 0
                      · obtain rfl : M = true := hM.2 (by omega)
                        clear hM
                        clear hd5
                        obtain rfl : t = [] := List.eq_nil_of_length_eq_zero ct
                        go_enter Tryd.func51, Tryd.ntmps51
                        go_wp2
                        go_ret
                        exact ⟨rfl, (Below.refl _ _).alloc (Nat.le_refl _) _⟩
                      · obtain rfl : M = false := Bool.eq_false_iff.2 (fun h => by have h := hM.1 h; omega)
                        clear hM
                        clear hd5
                        obtain ⟨a, t, rfl⟩ : ∃ a r, t = a :: r := by cases t with | nil => simp at ct | cons a r => exact ⟨a, r, rfl⟩
                        have hd5 : decide ((16 : Int) < (t.length : Int) + 1) = false := decide_eq_false (by simp only [List.length_cons] at c5; omega)
                        go_enter Tryd.func51, Tryd.ntmps51
                        go_wp2
                        go_ret
                        exact ⟨rfl, (Below.refl _ _).alloc (Nat.le_refl _) _⟩
                    · obtain rfl : M = false := Bool.eq_false_iff.2 (fun h => by have h := hM.1 h; omega)
                      clear hM
                      have hcs : (s == 2) = false := beq_eq_false_iff_ne.2 cs
                      go_enter Tryd.func51, Tryd.ntmps51
                      go_wp2
                      go_ret
                      exact ⟨rfl, (Below.refl _ _).alloc (Nat.le_refl _) _⟩
                  · obtain rfl : M = false := Bool.eq_false_iff.2 (fun h => by have h := hM.1 h; omega)
                    clear hM
                    have hck : (k == 0) = false := beq_eq_false_iff_ne.2 ck
                    have hck1 : (k == 1) = false := beq_eq_false_iff_ne.2 ck1
                    have hck2 : (k == 2) = false := beq_eq_false_iff_ne.2 ck2
                    have hck3 : (k == 3) = false := beq_eq_false_iff_ne.2 ck3
                    go_enter Tryd.func51, Tryd.ntmps51
                    go_wp2
                    go_ret
                    exact ⟨rfl, (Below.refl _ _).alloc (Nat.le_refl _) _⟩
            · have hd5 : decide ((16 : Int) < (t.length : Int)) = true := decide_eq_true (by omega)
              obtain rfl : M = false := Bool.eq_false_iff.2 (fun h => by have h := hM.1 h; omega)
              clear hM
              have hk0 : (k == 0) = false := beq_eq_false_iff_ne.2 ck
              go_enter Tryd.func51, Tryd.ntmps51
              go_wp2
              go_ret
              exact ⟨rfl, (Below.refl _ _).alloc (Nat.le_refl _) _⟩
          · obtain rfl : M = false := Bool.eq_false_iff.2 (fun h => by have h := hM.1 h; omega)
            clear hM
            have hd4 : decide ((4294967295 : Int) < (nu : Int)) = true := decide_eq_true (by omega)
            have hk0 : (k == 0) = false := beq_eq_false_iff_ne.2 ck
            go_enter Tryd.func51, Tryd.ntmps51
            go_wp2
            go_ret
            exact ⟨rfl, (Below.refl _ _).alloc (Nat.le_refl _) _⟩
        · obtain rfl : M = false := Bool.eq_false_iff.2 (fun h => by have h := hM.1 h; omega)
          clear hM
          have hd3 : decide ((65535 : Int) < (se : Int)) = true := decide_eq_true (by omega)
          have hk0 : (k == 0) = false := beq_eq_false_iff_ne.2 ck
          go_enter Tryd.func51, Tryd.ntmps51
          go_wp2
          go_ret
          exact ⟨rfl, (Below.refl _ _).alloc (Nat.le_refl _) _⟩
      · obtain rfl : M = false := Bool.eq_false_iff.2 (fun h => by have h := hM.1 h; omega)
        clear hM
        have hk0 : (k == 0) = false := beq_eq_false_iff_ne.2 ck
        go_enter Tryd.func51, Tryd.ntmps51
        go_wp2
        go_ret
        exact ⟨rfl, (Below.refl _ _).alloc (Nat.le_refl _) _⟩
    · obtain rfl : M = false := Bool.eq_false_iff.2 (fun h => by have h := hM.1 h; omega)
      clear hM
      have hk0 : (k == 0) = false := beq_eq_false_iff_ne.2 ck
      go_enter Tryd.func51, Tryd.ntmps51
      go_wp2
      go_ret
      exact ⟨rfl, (Below.refl _ _).alloc (Nat.le_refl _) _⟩
  -- tree ends

end Go.Proofs.YthapghhmeicbnaaDoor
