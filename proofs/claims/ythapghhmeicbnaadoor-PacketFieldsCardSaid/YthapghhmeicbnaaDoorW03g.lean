/- The walks of layer 3: Decode and the reference's Decode, told once for every string. -/
import Derived.Test.YthapghhmeicbnaaDoorW03f
namespace Go.Proofs.YthapghhmeicbnaaDoor
open Go.RowKit

def outE (s : List UInt8) : Ent := match entDec s with | some e => e | none => Ent.zero
def outC (s : List UInt8) : Int := match entDec s with | some _ => 0 | none => 30

/-- The entry that 28 bytes would be, if their text be t. -/
def entOf (l t : List UInt8) : Ent := ⟨val (l.take 1), val ((l.drop 1).take 1), val ((l.drop 2).take 1), val ((l.drop 3).take 2), val ((l.drop 5).take 4), bs t⟩
theorem entDec_text {l t r : List UInt8} (h : l.length = 28) (ht : ttake (l.drop 9) 16 = some (t, r)) : entDec l = if r = [0, 0] ∧ (entOf l t).may = true then some (entOf l t) else none := by
  unfold entDec
  rw [if_pos h, ht]
  rfl
theorem entDec_none {l : List UInt8} (h : l.length = 28) (ht : ttake (l.drop 9) 16 = none) : entDec l = none := by
  unfold entDec
  rw [if_pos h, ht]
theorem entDec_short {l : List UInt8} (h : l.length ≠ 28) : entDec l = none := by
  unfold entDec
  rw [if_neg h]
theorem val_takeK (l : List UInt8) (k : Nat) : val (l.take k) < 256 ^ k := by
  have h := val_lt (l.take k)
  have h2 : 256 ^ (l.take k).length ≤ 256 ^ k := Nat.pow_le_pow_right (by decide) (by simp; omega)
  omega
theorem entOf_ok (l t : List UInt8) (h : t.length ≤ 16) : (entOf l t).Ok := by
  have h0 := val_takeK l 1
  have h1 := val_takeK (l.drop 1) 1
  have h2 := val_takeK (l.drop 2) 1
  have h3 := val_takeK (l.drop 3) 2
  have h4 := val_takeK (l.drop 5) 4
  unfold entOf
  generalize val (l.take 1) = a0 at *
  generalize val ((l.drop 1).take 1) = a1 at *
  generalize val ((l.drop 2).take 1) = a2 at *
  generalize val ((l.drop 3).take 2) = a3 at *
  generalize val ((l.drop 5).take 4) = a4 at *
  refine ⟨?_, ?_, ?_, ?_, ?_, ?_⟩
  · simp [Lit.wf, IntKind.min, IntKind.max, IntKind.signed, IntKind.bits]; omega
  · simp [Lit.wf, IntKind.min, IntKind.max, IntKind.signed, IntKind.bits]; omega
  · simp [Lit.wf, IntKind.min, IntKind.max, IntKind.signed, IntKind.bits]; omega
  · simp [Lit.wf, IntKind.min, IntKind.max, IntKind.signed, IntKind.bits]; omega
  · simp [Lit.wf, IntKind.min, IntKind.max, IntKind.signed, IntKind.bits]; omega
  · rw [bs_size]; unfold maxLen; omega

theorem decode_any (s : ByteArray) (w : World) : Calls Tryd.prog 64 #[.string s] w fun r w' => r = .returned (.tuple #[(outE s.data.toList).val, .int .i64 (outC s.data.toList)]) ∧ Below w.heap.size w w' := by
  obtain ⟨l, rfl⟩ : ∃ l, s = bs l := ⟨_, (bs_data s).symm⟩
  rw [bs_list]
  by_cases h : l.length = 28
  · have T : ∀ a k : Nat, 1 ≤ k → k ≤ 8 → a + k ≤ 28 → ∀ w, Calls Tryd.prog 52 #[.string (bs (l.drop a)), .int .i64 k] w fun e w' => e = .returned (.tuple #[.int .u64 (val ((l.drop a).take k)), .string (bs (l.drop (a + k))), .bool true]) ∧ Dr w w' := by
      intro a k h1 h2 h3 w
      have hh := take_yes (bs (l.drop a)) k w h1 h2 (by rw [bs_size, List.length_drop]; omega) (by rw [bs_size, List.length_drop]; omega)
      rw [bs_list, List.drop_drop] at hh
      exact hh
    have T0 := T 0 1 (by decide) (by decide) (by decide)
    have T1 := T 1 1 (by decide) (by decide) (by decide)
    have T2 := T 2 1 (by decide) (by decide) (by decide)
    have T3 := T 3 2 (by decide) (by decide) (by decide)
    have T5 := T 5 4 (by decide) (by decide) (by decide)
    have v0 := val_takeK l 1
    have v1 := val_takeK (l.drop 1) 1
    have v2 := val_takeK (l.drop 2) 1
    cases ht : ttake (l.drop 9) 16 with
    | none =>
      have hd := entDec_none h ht
      rw [outE, outC, hd]
      exact decode_text l (l.drop 1) (l.drop 2) (l.drop 3) (l.drop 5) (l.drop 9) [] [] _ _ _ _ _ _ _ w h v0 v1 v2 (Lib.hid T0) (Lib.hid T1) (Lib.hid T2) (Lib.hid T3) (Lib.hid T5)
        (Lib.hid fun w => takeText_none (bs (l.drop 9)) 16 w (by rw [bs_size, List.length_drop]; omega) (.inr (.inr ht))) (Lib.hid fun w => encode_any (entOf l []) (entOf_ok l [] (by simp)) w)
    | some x =>
      obtain ⟨t, r⟩ := x
      obtain ⟨htl, _, _⟩ := tput_ttake ht
      have hd := entDec_text h ht
      have TT := fun w => takeText_any (bs (l.drop 9)) 16 w (by decide) (by rw [bs_size, List.length_drop]; omega) t r ht
      have HE := fun w => encode_any (entOf l t) (entOf_ok l t htl) w
      cases hm : (entOf l t).may with
      | false =>
        rw [hm, if_neg (by simp)] at hd
        rw [outE, outC, hd]
        rw [hm] at HE
        exact decode_may l (l.drop 1) (l.drop 2) (l.drop 3) (l.drop 5) (l.drop 9) t r _ _ _ _ _ _ w h v0 v1 v2 (Lib.hid T0) (Lib.hid T1) (Lib.hid T2) (Lib.hid T3) (Lib.hid T5) (Lib.hid TT) (Lib.hid HE)
      | true =>
        have he : (entOf l t).enc = (entOf l t).bytes := by rw [Ent.enc, if_pos hm]
        rw [hm, he] at HE
        by_cases hz : (entOf l t).bytes = l
        · have hd2 := entDec_bytes hm (Int.natCast_nonneg _) (Int.natCast_nonneg _)
          rw [hz] at hd2
          rw [outE, outC, hd2]
          exact decode_ok l (l.drop 1) (l.drop 2) (l.drop 3) (l.drop 5) (l.drop 9) t r _ _ _ _ _ _ w h v0 v1 v2 (Lib.hid T0) (Lib.hid T1) (Lib.hid T2) (Lib.hid T3) (Lib.hid T5) (Lib.hid TT) hz (Lib.hid HE)
        · have hd2 : entDec l = none := by
            cases hx : entDec l with
            | none => rfl
            | some e =>
              have hx2 := hx
              rw [hd] at hx2
              split at hx2
              · obtain rfl := Option.some.inj hx2
                exact absurd (entDec_some hx).2.1 hz
              · cases hx2
          rw [outE, outC, hd2]
          exact decode_tail l (l.drop 1) (l.drop 2) (l.drop 3) (l.drop 5) (l.drop 9) t r _ _ _ _ _ _ w h v0 v1 v2 (Lib.hid T0) (Lib.hid T1) (Lib.hid T2) (Lib.hid T3) (Lib.hid T5) (Lib.hid TT) hz (Lib.hid HE)
  · rw [outE, outC, entDec_short h]
    exact decode_len l w h

theorem rdecode_any (s : ByteArray) (w : World) : Calls Tryd.prog 55 #[.string s] w fun r w' => r = .returned (.tuple #[(outE s.data.toList).val, .int .i64 (outC s.data.toList)]) ∧ Below w.heap.size w w' := by
  obtain ⟨l, rfl⟩ : ∃ l, s = bs l := ⟨_, (bs_data s).symm⟩
  rw [bs_list]
  by_cases h : l.length = 28
  · have T : ∀ a k : Nat, 1 ≤ k → k ≤ 8 → a + k ≤ 28 → ∀ w, Calls Tryd.prog 54 #[.string (bs (l.drop a)), .int .i64 k] w fun e w' => e = .returned (.tuple #[.int .u64 (val ((l.drop a).take k)), .string (bs (l.drop (a + k))), .bool true]) ∧ Dr w w' := by
      intro a k h1 h2 h3 w
      have hh := rtake_yes (bs (l.drop a)) k w h1 h2 (by rw [bs_size, List.length_drop]; omega) (by rw [bs_size, List.length_drop]; omega)
      rw [bs_list, List.drop_drop] at hh
      exact hh
    have T0 := T 0 1 (by decide) (by decide) (by decide)
    have T1 := T 1 1 (by decide) (by decide) (by decide)
    have T2 := T 2 1 (by decide) (by decide) (by decide)
    have T3 := T 3 2 (by decide) (by decide) (by decide)
    have T5 := T 5 4 (by decide) (by decide) (by decide)
    have v0 := val_takeK l 1
    have v1 := val_takeK (l.drop 1) 1
    have v2 := val_takeK (l.drop 2) 1
    cases ht : ttake (l.drop 9) 16 with
    | none =>
      have hd := entDec_none h ht
      rw [outE, outC, hd]
      exact rdecode_text l (l.drop 1) (l.drop 2) (l.drop 3) (l.drop 5) (l.drop 9) [] [] _ _ _ _ _ w h v0 v1 v2 (Lib.hid T0) (Lib.hid T1) (Lib.hid T2) (Lib.hid T3) (Lib.hid T5)
        (Lib.hid fun w => rtakeText_none (bs (l.drop 9)) 16 w (by rw [bs_size, List.length_drop]; omega) (.inr (.inr ht)))
    | some x =>
      obtain ⟨t, r⟩ := x
      obtain ⟨htl, _, _⟩ := tput_ttake ht
      have hd := entDec_text h ht
      have TT := fun w => rtakeText_any (bs (l.drop 9)) 16 w (by decide) (by rw [bs_size, List.length_drop]; omega) t r ht
      by_cases hr : r = [0, 0]
      · have HM := fun w => rmay_any (entOf l t) (entOf_ok l t htl) w
        cases hm : (entOf l t).may with
        | false =>
          rw [hm, if_neg (by simp)] at hd
          rw [outE, outC, hd]
          rw [hm] at HM
          exact rdecode_may l (l.drop 1) (l.drop 2) (l.drop 3) (l.drop 5) (l.drop 9) t r _ _ _ _ _ w h v0 v1 v2 (Lib.hid T0) (Lib.hid T1) (Lib.hid T2) (Lib.hid T3) (Lib.hid T5) (Lib.hid TT) hr (Lib.hid HM)
        | true =>
          rw [if_pos ⟨hr, hm⟩] at hd
          rw [outE, outC, hd]
          rw [hm] at HM
          exact rdecode_ok l (l.drop 1) (l.drop 2) (l.drop 3) (l.drop 5) (l.drop 9) t r _ _ _ _ _ w h v0 v1 v2 (Lib.hid T0) (Lib.hid T1) (Lib.hid T2) (Lib.hid T3) (Lib.hid T5) (Lib.hid TT) hr (Lib.hid HM)
      · rw [if_neg (fun h => hr h.1)] at hd
        rw [outE, outC, hd]
        exact rdecode_tail l (l.drop 1) (l.drop 2) (l.drop 3) (l.drop 5) (l.drop 9) t r _ _ _ _ _ w h v0 v1 v2 (Lib.hid T0) (Lib.hid T1) (Lib.hid T2) (Lib.hid T3) (Lib.hid T5) (Lib.hid TT) hr
  · rw [outE, outC, entDec_short h]
    exact rdecode_len l w h

theorem outE_ok (s : List UInt8) : (outE s).Ok := by
  by_cases h : s.length = 28
  · cases ht : ttake (s.drop 9) 16 with
    | none => rw [outE, entDec_none h ht]; exact zero_ok
    | some x =>
      obtain ⟨t, r⟩ := x
      obtain ⟨htl, _, _⟩ := tput_ttake ht
      rw [outE, entDec_text h ht]
      by_cases hc : r = [0, 0] ∧ (entOf s t).may = true
      · rw [if_pos hc]; exact entOf_ok s t htl
      · rw [if_neg hc]; exact zero_ok
  · rw [outE, entDec_short h]; exact zero_ok

end Go.Proofs.YthapghhmeicbnaaDoor
