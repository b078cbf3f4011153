/- Functions of the program as plain functions, and that the code comes to them; printed by wip/e/gene.py. -/
import Derived.Test.YtjnaphniplfpkaaZt
set_option maxRecDepth 4000
set_option linter.unusedVariables false
namespace Go.Proofs.Ytjnaphniplfpkaa
open Go.RowKit
noncomputable def F_slices_Compact_uint64_uint64_b2 (s1 : Int) (x0 : (List Int)) (s2 : (Int × Int × (List Int))) : Option ((Int × Int × (List Int)) ⊕ (Int × (List Int))) :=
  if (decide (s2.2.1 < (((List.length x0 - Int.toNat s1) : Nat) : Int))) = true then if 0 ≤ s2.2.1 ∧ s2.2.1 < (((List.length x0 - Int.toNat s1) : Nat) : Int) then (if (Int.toNat s1) + Int.toNat s2.2.1 < List.length s2.2.2 then (if 0 ≤ (IntKind.wrap .i64 (s2.2.1 - 1)) ∧ (IntKind.wrap .i64 (s2.2.1 - 1)) < (((List.length x0 - Int.toNat s1) : Nat) : Int) then (if (Int.toNat s1) + Int.toNat (IntKind.wrap .i64 (s2.2.1 - 1)) < List.length s2.2.2 then (if ((List.getD s2.2.2 ((Int.toNat s1) + Int.toNat s2.2.1) 0) != (List.getD s2.2.2 ((Int.toNat s1) + Int.toNat (IntKind.wrap .i64 (s2.2.1 - 1))) 0)) = true then if 0 ≤ s2.2.1 ∧ s2.2.1 < (((List.length x0 - Int.toNat s1) : Nat) : Int) then (if (Int.toNat s1) + Int.toNat s2.2.1 < List.length s2.2.2 then (if 0 ≤ s2.1 ∧ s2.1 < ((List.length s2.2.2 : Nat) : Int) then (some (Sum.inl (IntKind.wrap .i64 (s2.1 + 1), IntKind.wrap .i64 (s2.2.1 + 1), List.set s2.2.2 (Int.toNat s2.1) (List.getD s2.2.2 ((Int.toNat s1) + Int.toNat s2.2.1) 0)))) else none) else none) else none else some (Sum.inl (s2.1, IntKind.wrap .i64 (s2.2.1 + 1), s2.2.2))) else none) else none) else none) else none else some (Sum.inr (s2.1, s2.2.2))
noncomputable def F_slices_Compact_uint64_uint64_b1 (x0 : (List Int)) (s1 : Int) : Option (Int ⊕ ((List Int) ⊕ Unit)) :=
  if (decide (s1 < ((List.length x0 : Nat) : Int))) = true then if 0 ≤ s1 ∧ s1 < ((List.length x0 : Nat) : Int) then (if 0 ≤ (IntKind.wrap .i64 (s1 - 1)) ∧ (IntKind.wrap .i64 (s1 - 1)) < ((List.length x0 : Nat) : Int) then (if ((List.getD x0 (Int.toNat s1) 0) == (List.getD x0 (Int.toNat (IntKind.wrap .i64 (s1 - 1))) 0)) = true then if ((0 : Int) ≤ s1 ∧ Int.toNat s1 ≤ List.length x0 ∧ List.length x0 ≤ List.length x0) then (loopO (F_slices_Compact_uint64_uint64_b2 s1 x0) (s1, 1, x0)).bind (fun r2 => if ((0 : Int) ≤ r2.1 ∧ Int.toNat r2.1 ≤ List.length r2.2 ∧ List.length r2.2 ≤ List.length r2.2) then (if (Int.toNat r2.1) + (List.length r2.2 - Int.toNat r2.1) ≤ List.length r2.2 then (if ((0 : Int) ≤ r2.1 ∧ 0 ≤ Int.toNat r2.1 ∧ Int.toNat r2.1 ≤ List.length (List.take (Int.toNat r2.1) r2.2 ++ (List.replicate (List.length r2.2 - Int.toNat r2.1) 0 ++ List.drop ((Int.toNat r2.1) + (List.length r2.2 - Int.toNat r2.1)) r2.2))) then (if (Int.toNat r2.1 - 0) ≤ List.length (List.take (Int.toNat r2.1) r2.2 ++ (List.replicate (List.length r2.2 - Int.toNat r2.1) 0 ++ List.drop ((Int.toNat r2.1) + (List.length r2.2 - Int.toNat r2.1)) r2.2)) then some (Sum.inr (Sum.inl (List.take (Int.toNat r2.1 - 0) (List.take (Int.toNat r2.1) r2.2 ++ (List.replicate (List.length r2.2 - Int.toNat r2.1) 0 ++ List.drop ((Int.toNat r2.1) + (List.length r2.2 - Int.toNat r2.1)) r2.2))))) else none) else none) else none) else none) else none else some (Sum.inl (IntKind.wrap .i64 (s1 + 1)))) else none) else none else some (Sum.inr (Sum.inr ()))
noncomputable def F_slices_Compact_uint64_uint64 (x0 : (List Int)) : Option (List Int) :=
  if (decide (((List.length x0 : Nat) : Int) < 2)) = true then some x0 else (loopO (F_slices_Compact_uint64_uint64_b1 x0) 1).bind (Sum.elim some (fun j11 => some x0))
theorem W_slices_Compact_uint64_uint64 {x0 : (List Int)} {y : (List Int)} (hF0 : F_slices_Compact_uint64_uint64 x0 = some y) : Mut Try.prog 26 1 [.row 0] [(0, .row 23 (.int .u64) x0)] (.row 1) [(1, .row 23 (.int .u64) y)] := by
  unfold F_slices_Compact_uint64_uint64 at hF0
  refine mut_of_run @Try.call26 @Try.func26 rfl rfl fun b => ?_
  refine sq rfl (rg [(0, .row 0)] [(0, .row 23 (.int .u64) x0)] [] [] 1 rfl (by kernel_rfl) c0 (sq rfl (sq rfl (rg [(0, .row 0), (8, vb (decide (((List.length x0 : Nat) : Int) < 2)))] [(0, .row 23 (.int .u64) x0)] [] [] 1 rfl (by kernel_rfl) c0 ?_))))
  refine run_if rfl rfl (fun h1 => ?_) (fun h1 => ?_)
  · replace hF0 := ift h1 hF0
    refine sq rfl (rg [(2, .row 0)] [(0, .row 23 (.int .u64) x0)] [] [] 1 rfl (by kernel_rfl) c0 (run_ren (ρ' := [(2, .row 1)]) (H' := [(1, .row 23 (.int .u64) x0)]) 0 1 rfl (by kernel_rfl) rfl (by kernel_rfl) rfl ?_))
    obtain rfl := Option.some.inj hF0
    exact ret_mut (q := [.row 1]) [none] [1] rfl rfl (by kernel_rfl) rfl (by kernel_rfl)
  · replace hF0 := ifn h1 hF0
    refine sk rfl (sq rfl (sq rfl (rg [(0, .row 0), (3, vi 1)] [(0, .row 23 (.int .u64) x0)] [] [] 1 rfl (by kernel_rfl) c0 (bk rfl ?_))))
    obtain ⟨r1, hl1, hF0⟩ := obd hF0
    refine run_cutx 0 rfl (fun j11 => r1 = Sum.inr j11) (fun j11 => [(0, .row 0)]) (fun j11 => [(0, .row 23 (.int .u64) x0)]) (fun j11 h2 => ?_) (fun J1_1 => ?_)
    · subst h2
      replace hF0 := sumR hF0
      refine sq rfl (rg [(2, .row 0)] [(0, .row 23 (.int .u64) x0)] [] [] 1 rfl (by kernel_rfl) c0 (run_ren (ρ' := [(2, .row 1)]) (H' := [(1, .row 23 (.int .u64) x0)]) 0 1 rfl (by kernel_rfl) rfl (by kernel_rfl) rfl ?_))
      obtain rfl := Option.some.inj hF0
      exact ret_mut (q := [.row 1]) [none] [1] rfl rfl (by kernel_rfl) rfl (by kernel_rfl)
    refine run_loop rfl (run_loopO hl1 (fun s1 => [(0, .row 0), (3, vi s1)]) (fun s1 => [(0, .row 23 (.int .u64) x0)]) rfl rfl (fun s1 o1 hF1 ih1 hr1 => ?_))
    unfold F_slices_Compact_uint64_uint64_b1 at hF1
    refine run_again (sq rfl (sq rfl (rg [(0, .row 0), (3, vi s1), (13, vb (decide (s1 < ((List.length x0 : Nat) : Int))))] [(0, .row 23 (.int .u64) x0)] [] [] 1 rfl (by kernel_rfl) c0 ?_)))
    refine run_if rfl rfl (fun h3 => ?_) (fun h3 => ?_)
    · replace hF1 := ift h3 hF1
      refine sk rfl (sq rfl (bk rfl (sq rfl ?_)))
      obtain ⟨h4, hF1⟩ := ifg hF1
      obtain ⟨h5, hF1⟩ := ifg hF1
      refine rG [(0, .row 0), (3, vi s1), (25, vb ((List.getD x0 (Int.toNat s1) 0) == (List.getD x0 (Int.toNat (IntKind.wrap .i64 (s1 - 1))) 0)))] [(0, .row 23 (.int .u64) x0)] [] [] 1 rfl rfl (by kernel_rfl) (cc h4 (cc (@rfl Nat (Int.toNat s1 * 1)) (cc (oo h4 trivial) (cc h5 (cc (@rfl Nat (Int.toNat (IntKind.wrap .i64 (s1 - 1)) * 1)) (cc (oo h5 trivial) c0)))))) ?_
      refine run_if rfl rfl (fun h6 => ?_) (fun h6 => ?_)
      · replace hF1 := ift h6 hF1
        refine sq rfl ?_
        obtain ⟨h7, hF1⟩ := ifg hF1
        refine rg [(0, .row 0), (3, vi s1), (4, .sub 0 1 (Int.toNat s1) (List.length x0 - Int.toNat s1))] [(0, .row 23 (.int .u64) x0)] [] [] 1 rfl (by kernel_rfl) (cc h7.1 (cc h7.2.1 (cc h7.2.2 c0))) (sq rfl (sq rfl (rg [(0, .row 0), (3, vi s1), (4, .sub 0 1 (Int.toNat s1) (List.length x0 - Int.toNat s1)), (5, vi 1)] [(0, .row 23 (.int .u64) x0)] [] [] 1 rfl (by kernel_rfl) c0 (bk rfl ?_))))
        obtain ⟨r2, hl2, hF1⟩ := obd hF1
        refine run_cutx 2 rfl (fun r2' => r2 = r2') (fun r2 => [(0, .row 0), (3, vi r2.1)]) (fun r2 => [(0, .row 23 (.int .u64) r2.2)]) (fun r2' h8 => ?_) (fun J2_0 => ?_)
        · subst h8
          refine sq rfl ?_
          obtain ⟨h9, hF1⟩ := ifg hF1
          obtain ⟨h10, hF1⟩ := ifg hF1
          refine rg [(0, .row 0), (3, vi r2.1)] [(0, .row 23 (.int .u64) (List.take (Int.toNat r2.1) r2.2 ++ (List.replicate (List.length r2.2 - Int.toNat r2.1) 0 ++ List.drop ((Int.toNat r2.1) + (List.length r2.2 - Int.toNat r2.1)) r2.2)))] [] [] 1 rfl (by kernel_rfl) (cc h9.1 (cc h9.2.1 (cc h9.2.2 (cc h10 c0)))) (sq rfl ?_)
          obtain ⟨h11, hF1⟩ := ifg hF1
          refine rg [(2, .sub 0 1 0 (Int.toNat r2.1 - 0))] [(0, .row 23 (.int .u64) (List.take (Int.toNat r2.1) r2.2 ++ (List.replicate (List.length r2.2 - Int.toNat r2.1) 0 ++ List.drop ((Int.toNat r2.1) + (List.length r2.2 - Int.toNat r2.1)) r2.2)))] [] [] 1 rfl (by kernel_rfl) (cc h11.1 (cc h11.2.1 (cc h11.2.2 c0))) ?_
          obtain ⟨h12, hF1⟩ := ifg hF1
          refine run_subrow (H' := [(1, .row 23 (.int .u64) (List.take (Int.toNat r2.1 - 0) (List.take (Int.toNat r2.1) r2.2 ++ (List.replicate (List.length r2.2 - Int.toNat r2.1) 0 ++ List.drop ((Int.toNat r2.1) + (List.length r2.2 - Int.toNat r2.1)) r2.2))))]) 2 0 (Int.toNat r2.1 - 0) 1 rfl (by kernel_rfl) rfl h12 rfl rfl (tm (ρ' := [(2, .row 1)]) (H' := [(1, .row 23 (.int .u64) (List.take (Int.toNat r2.1 - 0) (List.take (Int.toNat r2.1) r2.2 ++ (List.replicate (List.length r2.2 - Int.toNat r2.1) 0 ++ List.drop ((Int.toNat r2.1) + (List.length r2.2 - Int.toNat r2.1)) r2.2))))]) (by kernel_rfl) (by kernel_rfl) rfl ?_)
          have e1 := inrI hr1 hF1
          subst e1
          replace hF0 := sumL hF0
          obtain rfl := Option.some.inj hF0
          exact ret_mut (q := [.row 1]) [none] [1] rfl rfl (by kernel_rfl) rfl (by kernel_rfl)
        refine run_loop rfl (run_loopO hl2 (fun s2 => [(0, .row 0), (3, vi s2.1), (4, .sub 0 1 (Int.toNat s1) (List.length x0 - Int.toNat s1)), (5, vi s2.2.1)]) (fun s2 => [(0, .row 23 (.int .u64) s2.2.2)]) rfl rfl (fun s2 o2 hF2 ih2 hr2 => ?_))
        unfold F_slices_Compact_uint64_uint64_b2 at hF2
        refine run_again (sq rfl (sq rfl (rg [(0, .row 0), (3, vi s2.1), (4, .sub 0 1 (Int.toNat s1) (List.length x0 - Int.toNat s1)), (5, vi s2.2.1), (32, vb (decide (s2.2.1 < (((List.length x0 - Int.toNat s1) : Nat) : Int))))] [(0, .row 23 (.int .u64) s2.2.2)] [] [] 1 rfl (by kernel_rfl) c0 ?_)))
        refine run_if rfl rfl (fun h13 => ?_) (fun h13 => ?_)
        · replace hF2 := ift h13 hF2
          refine sk rfl (sq rfl (bk rfl (sq rfl ?_)))
          obtain ⟨h14, hF2⟩ := ifg hF2
          obtain ⟨h15, hF2⟩ := ifg hF2
          obtain ⟨h16, hF2⟩ := ifg hF2
          obtain ⟨h17, hF2⟩ := ifg hF2
          refine rG [(0, .row 0), (3, vi s2.1), (4, .sub 0 1 (Int.toNat s1) (List.length x0 - Int.toNat s1)), (5, vi s2.2.1), (44, vb ((List.getD s2.2.2 ((Int.toNat s1) + Int.toNat s2.2.1) 0) != (List.getD s2.2.2 ((Int.toNat s1) + Int.toNat (IntKind.wrap .i64 (s2.2.1 - 1))) 0)))] [(0, .row 23 (.int .u64) s2.2.2)] [] [] 1 rfl rfl (by kernel_rfl) (cc h14 (cc (@rfl Nat (((Int.toNat s1) + Int.toNat s2.2.1) * 1)) (cc (And.intro h15 trivial) (cc h16 (cc (@rfl Nat (((Int.toNat s1) + Int.toNat (IntKind.wrap .i64 (s2.2.1 - 1))) * 1)) (cc (And.intro h17 trivial) c0)))))) ?_
          refine run_if rfl rfl (fun h18 => ?_) (fun h18 => ?_)
          · replace hF2 := ift h18 hF2
            refine sq rfl ?_
            obtain ⟨h19, hF2⟩ := ifg hF2
            obtain ⟨h20, hF2⟩ := ifg hF2
            obtain ⟨h21, hF2⟩ := ifg hF2
            refine rg [(0, .row 0), (3, vi s2.1), (4, .sub 0 1 (Int.toNat s1) (List.length x0 - Int.toNat s1)), (5, vi s2.2.1)] [(0, .row 23 (.int .u64) (List.set s2.2.2 (Int.toNat s2.1) (List.getD s2.2.2 ((Int.toNat s1) + Int.toNat s2.2.1) 0)))] [] [] 1 rfl (by kernel_rfl) (cc h19 (cc (@rfl Nat (((Int.toNat s1) + Int.toNat s2.2.1) * 1)) (cc (And.intro h20 trivial) (cc h21 (cc (@rfl Nat (Int.toNat s2.1 * 1)) (cc (oo h21 trivial) c0)))))) (rg [(0, .row 0), (3, vi (IntKind.wrap .i64 (s2.1 + 1))), (4, .sub 0 1 (Int.toNat s1) (List.length x0 - Int.toNat s1)), (5, vi s2.2.1)] [(0, .row 23 (.int .u64) (List.set s2.2.2 (Int.toNat s2.1) (List.getD s2.2.2 ((Int.toNat s1) + Int.toNat s2.2.1) 0)))] [] [] 1 rfl (by kernel_rfl) c0 (eb (rg [(0, .row 0), (3, vi (IntKind.wrap .i64 (s2.1 + 1))), (4, .sub 0 1 (Int.toNat s1) (List.length x0 - Int.toNat s1)), (5, vi (IntKind.wrap .i64 (s2.2.1 + 1)))] [(0, .row 23 (.int .u64) (List.set s2.2.2 (Int.toNat s2.1) (List.getD s2.2.2 ((Int.toNat s1) + Int.toNat s2.2.1) 0)))] [] [] 1 rfl (by kernel_rfl) c0 ?_)))
            exact ih2 _ (Option.some.inj hF2).symm
          · replace hF2 := ifn h18 hF2
            refine sk rfl (eb (rg [(0, .row 0), (3, vi s2.1), (4, .sub 0 1 (Int.toNat s1) (List.length x0 - Int.toNat s1)), (5, vi (IntKind.wrap .i64 (s2.2.1 + 1)))] [(0, .row 23 (.int .u64) s2.2.2)] [] [] 1 rfl (by kernel_rfl) c0 ?_))
            exact ih2 _ (Option.some.inj hF2).symm
        · replace hF2 := ifn h13 hF2
          refine run_exit rfl rfl (tm (ρ' := [(0, .row 0), (3, vi s2.1)]) (H' := [(0, .row 23 (.int .u64) s2.2.2)]) (by kernel_rfl) (by kernel_rfl) rfl ?_)
          exact J2_0 _ (inrI hr2 hF2).symm
      · replace hF1 := ifn h6 hF1
        refine sk rfl (eb (rg [(0, .row 0), (3, vi (IntKind.wrap .i64 (s1 + 1)))] [(0, .row 23 (.int .u64) x0)] [] [] 1 rfl (by kernel_rfl) c0 ?_))
        exact ih1 _ (Option.some.inj hF1).symm
    · replace hF1 := ifn h3 hF1
      refine run_exit rfl rfl (tm (ρ' := [(0, .row 0)]) (H' := [(0, .row 23 (.int .u64) x0)]) (by kernel_rfl) (by kernel_rfl) rfl ?_)
      exact J1_1 _ (inrI hr1 hF1).symm
abbrev S36 : Sh := (.st (.prod (.int .i64) (.prod (.int .i64) (.prod (.int .i64) (.prod (.int .u64) (.prod (.int .u64) .str))))))
noncomputable def F_slices_Clone_api_Entry_api_Entry (x0 : (List S36.ty)) : Option (List S36.ty) :=
  if apOk (0 + (List.length x0)) 56 then (some ([] ++ x0)) else none
theorem W_slices_Clone_api_Entry_api_Entry {x0 : (List S36.ty)} {y : (List S36.ty)} (hF0 : F_slices_Clone_api_Entry_api_Entry x0 = some y) : Mut Try.prog 23 0 [.v (.sl S36) x0] [] (.row 0) [(0, .row 36 S36 y)] := by
  unfold F_slices_Clone_api_Entry_api_Entry at hF0
  refine mut_of_run @Try.call23 @Try.func23 rfl rfl fun b => ?_
  refine sq rfl (rg [(0, .v (.sl S36) x0)] [] [] [] 0 rfl (by kernel_rfl) c0 (sq rfl (sq rfl ?_)))
  refine run_nilreg (e := 36) (ρ1 := [(3, .v (.sl S36) x0), (0, .v (.sl S36) x0)]) (H1 := []) [] [] 0 rfl rfl rfl (by kernel_rfl) c0 rfl (by kernel_rfl) rfl rfl (fun h1 => ?_) ?_
  · subst h1
    obtain ⟨_, hF0⟩ := ifg hF0
    refine run_cond (t := true) rfl (by kernel_rfl) (sq rfl (rg [(2, .v (.nl .any) ())] [] [] [] 0 rfl (by kernel_rfl) c0 (run_nilrow (ρ' := [(2, .row 0)]) 2 0 36 S36 rfl (by kernel_rfl) (by kernel_rfl) ?_)))
    obtain rfl := Option.some.inj hF0
    exact ret_mut (q := [.row 0]) [none] [0] rfl rfl (by kernel_rfl) rfl (by kernel_rfl)
  · refine run_cond (t := false) rfl (by kernel_rfl) (sk rfl (sq rfl ?_))
    obtain ⟨h2, hF0⟩ := ifg hF0
    refine rg [(2, .row 40)] [(40, .row 36 S36 ([] ++ x0))] [] [] 0 rfl (by kernel_rfl) (cc h2.1 (cc h2.2 c0)) (run_ren (ρ' := [(2, .row 0)]) (H' := [(0, .row 36 S36 ([] ++ x0))]) 40 0 rfl (by kernel_rfl) rfl (by kernel_rfl) rfl ?_)
    obtain rfl := Option.some.inj hF0
    exact ret_mut (q := [.row 0]) [none] [0] rfl rfl (by kernel_rfl) rfl (by kernel_rfl)
noncomputable def F_slices_Delete_api_Entry_api_Entry (x0 : (List S36.ty)) (x1 : Int) (x2 : Int) : Option (List S36.ty) :=
  if ((0 : Int) ≤ x1 ∧ (0 : Int) ≤ x2 ∧ (0 : Int) ≤ ((List.length x0 : Nat) : Int) ∧ Int.toNat x1 ≤ Int.toNat x2 ∧ Int.toNat x2 ≤ Int.toNat ((List.length x0 : Nat) : Int) ∧ Int.toNat ((List.length x0 : Nat) : Int) ≤ List.length x0) then (if (x1 == x2) = true then some x0 else if ((0 : Int) ≤ x1 ∧ 0 ≤ Int.toNat x1 ∧ Int.toNat x1 ≤ List.length x0) then (if ((0 : Int) ≤ x2 ∧ Int.toNat x2 ≤ List.length x0 ∧ List.length x0 ≤ List.length x0) then (if ((Int.toNat x2) + (List.length x0 - Int.toNat x2) ≤ List.length x0 ∧ (Int.toNat x1 - 0) + List.length (List.take (List.length x0 - Int.toNat x2) (List.drop (Int.toNat x2) x0)) ≤ List.length x0) then (if ((0 : Int) ≤ ((((Int.toNat x1 - 0) + List.length (List.take (List.length x0 - Int.toNat x2) (List.drop (Int.toNat x2) x0))) : Nat) : Int) ∧ (0 : Int) ≤ ((List.length x0 : Nat) : Int) ∧ Int.toNat ((((Int.toNat x1 - 0) + List.length (List.take (List.length x0 - Int.toNat x2) (List.drop (Int.toNat x2) x0))) : Nat) : Int) ≤ Int.toNat ((List.length x0 : Nat) : Int) ∧ 0 + (Int.toNat ((List.length x0 : Nat) : Int)) ≤ List.length (List.take (Int.toNat x1 - 0) x0 ++ ((List.take (List.length x0 - Int.toNat x2) (List.drop (Int.toNat x2) x0)) ++ List.drop ((Int.toNat x1 - 0) + List.length (List.take (List.length x0 - Int.toNat x2) (List.drop (Int.toNat x2) x0))) x0))) then (if (0 + (Int.toNat ((((Int.toNat x1 - 0) + List.length (List.take (List.length x0 - Int.toNat x2) (List.drop (Int.toNat x2) x0))) : Nat) : Int))) + (Int.toNat ((List.length x0 : Nat) : Int) - Int.toNat ((((Int.toNat x1 - 0) + List.length (List.take (List.length x0 - Int.toNat x2) (List.drop (Int.toNat x2) x0))) : Nat) : Int)) ≤ List.length (List.take (Int.toNat x1 - 0) x0 ++ ((List.take (List.length x0 - Int.toNat x2) (List.drop (Int.toNat x2) x0)) ++ List.drop ((Int.toNat x1 - 0) + List.length (List.take (List.length x0 - Int.toNat x2) (List.drop (Int.toNat x2) x0))) x0)) then (if ((Int.toNat x1 - 0) + List.length (List.take (List.length x0 - Int.toNat x2) (List.drop (Int.toNat x2) x0))) ≤ List.length (List.take (0 + (Int.toNat ((((Int.toNat x1 - 0) + List.length (List.take (List.length x0 - Int.toNat x2) (List.drop (Int.toNat x2) x0))) : Nat) : Int))) (List.take (Int.toNat x1 - 0) x0 ++ ((List.take (List.length x0 - Int.toNat x2) (List.drop (Int.toNat x2) x0)) ++ List.drop ((Int.toNat x1 - 0) + List.length (List.take (List.length x0 - Int.toNat x2) (List.drop (Int.toNat x2) x0))) x0)) ++ (List.replicate (Int.toNat ((List.length x0 : Nat) : Int) - Int.toNat ((((Int.toNat x1 - 0) + List.length (List.take (List.length x0 - Int.toNat x2) (List.drop (Int.toNat x2) x0))) : Nat) : Int)) S36.dflt ++ List.drop ((0 + (Int.toNat ((((Int.toNat x1 - 0) + List.length (List.take (List.length x0 - Int.toNat x2) (List.drop (Int.toNat x2) x0))) : Nat) : Int))) + (Int.toNat ((List.length x0 : Nat) : Int) - Int.toNat ((((Int.toNat x1 - 0) + List.length (List.take (List.length x0 - Int.toNat x2) (List.drop (Int.toNat x2) x0))) : Nat) : Int))) (List.take (Int.toNat x1 - 0) x0 ++ ((List.take (List.length x0 - Int.toNat x2) (List.drop (Int.toNat x2) x0)) ++ List.drop ((Int.toNat x1 - 0) + List.length (List.take (List.length x0 - Int.toNat x2) (List.drop (Int.toNat x2) x0))) x0)))) then some (List.take ((Int.toNat x1 - 0) + List.length (List.take (List.length x0 - Int.toNat x2) (List.drop (Int.toNat x2) x0))) (List.take (0 + (Int.toNat ((((Int.toNat x1 - 0) + List.length (List.take (List.length x0 - Int.toNat x2) (List.drop (Int.toNat x2) x0))) : Nat) : Int))) (List.take (Int.toNat x1 - 0) x0 ++ ((List.take (List.length x0 - Int.toNat x2) (List.drop (Int.toNat x2) x0)) ++ List.drop ((Int.toNat x1 - 0) + List.length (List.take (List.length x0 - Int.toNat x2) (List.drop (Int.toNat x2) x0))) x0)) ++ (List.replicate (Int.toNat ((List.length x0 : Nat) : Int) - Int.toNat ((((Int.toNat x1 - 0) + List.length (List.take (List.length x0 - Int.toNat x2) (List.drop (Int.toNat x2) x0))) : Nat) : Int)) S36.dflt ++ List.drop ((0 + (Int.toNat ((((Int.toNat x1 - 0) + List.length (List.take (List.length x0 - Int.toNat x2) (List.drop (Int.toNat x2) x0))) : Nat) : Int))) + (Int.toNat ((List.length x0 : Nat) : Int) - Int.toNat ((((Int.toNat x1 - 0) + List.length (List.take (List.length x0 - Int.toNat x2) (List.drop (Int.toNat x2) x0))) : Nat) : Int))) (List.take (Int.toNat x1 - 0) x0 ++ ((List.take (List.length x0 - Int.toNat x2) (List.drop (Int.toNat x2) x0)) ++ List.drop ((Int.toNat x1 - 0) + List.length (List.take (List.length x0 - Int.toNat x2) (List.drop (Int.toNat x2) x0))) x0))))) else none) else none) else none) else none) else none) else none) else none
theorem W_slices_Delete_api_Entry_api_Entry {x0 : (List S36.ty)} {x1 : Int} {x2 : Int} {y : (List S36.ty)} (hF0 : F_slices_Delete_api_Entry_api_Entry x0 x1 x2 = some y) : Mut Try.prog 24 1 [.row 0, vi x1, vi x2] [(0, .row 36 S36 x0)] (.row 1) [(1, .row 36 S36 y)] := by
  unfold F_slices_Delete_api_Entry_api_Entry at hF0
  refine mut_of_run @Try.call24 @Try.func24 rfl rfl fun b => ?_
  refine sq rfl (rg [(0, .row 0), (1, vi x1), (2, vi x2)] [(0, .row 36 S36 x0)] [] [] 1 rfl (by kernel_rfl) c0 (sq rfl ?_))
  obtain ⟨h1, hF0⟩ := ifg hF0
  refine rg [(0, .row 0), (1, vi x1), (2, vi x2)] [(0, .row 36 S36 x0)] [] [] 1 rfl (by kernel_rfl) (cc h1.1 (cc h1.2.1 (cc h1.2.2.1 (cc h1.2.2.2.1 (cc h1.2.2.2.2.1 (cc h1.2.2.2.2.2 c0)))))) (sq rfl (sq rfl (rg [(0, .row 0), (1, vi x1), (2, vi x2), (16, vb (x1 == x2))] [(0, .row 36 S36 x0)] [] [] 1 rfl (by kernel_rfl) c0 ?_)))
  refine run_if rfl rfl (fun h2 => ?_) (fun h2 => ?_)
  · replace hF0 := ift h2 hF0
    refine sq rfl (rg [(6, .row 0)] [(0, .row 36 S36 x0)] [] [] 1 rfl (by kernel_rfl) c0 (run_ren (ρ' := [(6, .row 1)]) (H' := [(1, .row 36 S36 x0)]) 0 1 rfl (by kernel_rfl) rfl (by kernel_rfl) rfl ?_))
    obtain rfl := Option.some.inj hF0
    exact ret_mut (q := [.row 1]) [none] [1] rfl rfl (by kernel_rfl) rfl (by kernel_rfl)
  · replace hF0 := ifn h2 hF0
    refine sk rfl (sq rfl (rg [(0, .row 0), (1, vi x1), (2, vi x2), (7, vi ((List.length x0 : Nat) : Int))] [(0, .row 36 S36 x0)] [] [] 1 rfl (by kernel_rfl) c0 (sq rfl ?_)))
    obtain ⟨h3, hF0⟩ := ifg hF0
    obtain ⟨h4, hF0⟩ := ifg hF0
    obtain ⟨h5, hF0⟩ := ifg hF0
    refine rG [(0, .sub 0 6 0 ((Int.toNat x1 - 0) + List.length (List.take (List.length x0 - Int.toNat x2) (List.drop (Int.toNat x2) x0)))), (7, vi ((List.length x0 : Nat) : Int))] [(0, .row 36 S36 (List.take (Int.toNat x1 - 0) x0 ++ ((List.take (List.length x0 - Int.toNat x2) (List.drop (Int.toNat x2) x0)) ++ List.drop ((Int.toNat x1 - 0) + List.length (List.take (List.length x0 - Int.toNat x2) (List.drop (Int.toNat x2) x0))) x0)))] [] [] 1 rfl rfl (by kernel_rfl) (cc h3.1 (cc h3.2.1 (cc h3.2.2 (cc h4.1 (cc h4.2.1 (cc h4.2.2 (cc h5.1 (cc h5.2 c0)))))))) (sq rfl ?_)
    obtain ⟨h6, hF0⟩ := ifg hF0
    obtain ⟨h7, hF0⟩ := ifg hF0
    refine rg [(0, .sub 0 6 0 ((Int.toNat x1 - 0) + List.length (List.take (List.length x0 - Int.toNat x2) (List.drop (Int.toNat x2) x0))))] [(0, .row 36 S36 (List.take (0 + (Int.toNat ((((Int.toNat x1 - 0) + List.length (List.take (List.length x0 - Int.toNat x2) (List.drop (Int.toNat x2) x0))) : Nat) : Int))) (List.take (Int.toNat x1 - 0) x0 ++ ((List.take (List.length x0 - Int.toNat x2) (List.drop (Int.toNat x2) x0)) ++ List.drop ((Int.toNat x1 - 0) + List.length (List.take (List.length x0 - Int.toNat x2) (List.drop (Int.toNat x2) x0))) x0)) ++ (List.replicate (Int.toNat ((List.length x0 : Nat) : Int) - Int.toNat ((((Int.toNat x1 - 0) + List.length (List.take (List.length x0 - Int.toNat x2) (List.drop (Int.toNat x2) x0))) : Nat) : Int)) S36.dflt ++ List.drop ((0 + (Int.toNat ((((Int.toNat x1 - 0) + List.length (List.take (List.length x0 - Int.toNat x2) (List.drop (Int.toNat x2) x0))) : Nat) : Int))) + (Int.toNat ((List.length x0 : Nat) : Int) - Int.toNat ((((Int.toNat x1 - 0) + List.length (List.take (List.length x0 - Int.toNat x2) (List.drop (Int.toNat x2) x0))) : Nat) : Int))) (List.take (Int.toNat x1 - 0) x0 ++ ((List.take (List.length x0 - Int.toNat x2) (List.drop (Int.toNat x2) x0)) ++ List.drop ((Int.toNat x1 - 0) + List.length (List.take (List.length x0 - Int.toNat x2) (List.drop (Int.toNat x2) x0))) x0)))))] [] [] 1 rfl (by kernel_rfl) (cc h6.1 (cc h6.2.1 (cc h6.2.2.1 (cc h6.2.2.2 (cc h7 c0))))) (sq rfl (rg [(6, .sub 0 6 0 ((Int.toNat x1 - 0) + List.length (List.take (List.length x0 - Int.toNat x2) (List.drop (Int.toNat x2) x0))))] [(0, .row 36 S36 (List.take (0 + (Int.toNat ((((Int.toNat x1 - 0) + List.length (List.take (List.length x0 - Int.toNat x2) (List.drop (Int.toNat x2) x0))) : Nat) : Int))) (List.take (Int.toNat x1 - 0) x0 ++ ((List.take (List.length x0 - Int.toNat x2) (List.drop (Int.toNat x2) x0)) ++ List.drop ((Int.toNat x1 - 0) + List.length (List.take (List.length x0 - Int.toNat x2) (List.drop (Int.toNat x2) x0))) x0)) ++ (List.replicate (Int.toNat ((List.length x0 : Nat) : Int) - Int.toNat ((((Int.toNat x1 - 0) + List.length (List.take (List.length x0 - Int.toNat x2) (List.drop (Int.toNat x2) x0))) : Nat) : Int)) S36.dflt ++ List.drop ((0 + (Int.toNat ((((Int.toNat x1 - 0) + List.length (List.take (List.length x0 - Int.toNat x2) (List.drop (Int.toNat x2) x0))) : Nat) : Int))) + (Int.toNat ((List.length x0 : Nat) : Int) - Int.toNat ((((Int.toNat x1 - 0) + List.length (List.take (List.length x0 - Int.toNat x2) (List.drop (Int.toNat x2) x0))) : Nat) : Int))) (List.take (Int.toNat x1 - 0) x0 ++ ((List.take (List.length x0 - Int.toNat x2) (List.drop (Int.toNat x2) x0)) ++ List.drop ((Int.toNat x1 - 0) + List.length (List.take (List.length x0 - Int.toNat x2) (List.drop (Int.toNat x2) x0))) x0)))))] [] [] 1 rfl (by kernel_rfl) c0 ?_))
    obtain ⟨h8, hF0⟩ := ifg hF0
    refine run_subrow (H' := [(1, .row 36 S36 (List.take ((Int.toNat x1 - 0) + List.length (List.take (List.length x0 - Int.toNat x2) (List.drop (Int.toNat x2) x0))) (List.take (0 + (Int.toNat ((((Int.toNat x1 - 0) + List.length (List.take (List.length x0 - Int.toNat x2) (List.drop (Int.toNat x2) x0))) : Nat) : Int))) (List.take (Int.toNat x1 - 0) x0 ++ ((List.take (List.length x0 - Int.toNat x2) (List.drop (Int.toNat x2) x0)) ++ List.drop ((Int.toNat x1 - 0) + List.length (List.take (List.length x0 - Int.toNat x2) (List.drop (Int.toNat x2) x0))) x0)) ++ (List.replicate (Int.toNat ((List.length x0 : Nat) : Int) - Int.toNat ((((Int.toNat x1 - 0) + List.length (List.take (List.length x0 - Int.toNat x2) (List.drop (Int.toNat x2) x0))) : Nat) : Int)) S36.dflt ++ List.drop ((0 + (Int.toNat ((((Int.toNat x1 - 0) + List.length (List.take (List.length x0 - Int.toNat x2) (List.drop (Int.toNat x2) x0))) : Nat) : Int))) + (Int.toNat ((List.length x0 : Nat) : Int) - Int.toNat ((((Int.toNat x1 - 0) + List.length (List.take (List.length x0 - Int.toNat x2) (List.drop (Int.toNat x2) x0))) : Nat) : Int))) (List.take (Int.toNat x1 - 0) x0 ++ ((List.take (List.length x0 - Int.toNat x2) (List.drop (Int.toNat x2) x0)) ++ List.drop ((Int.toNat x1 - 0) + List.length (List.take (List.length x0 - Int.toNat x2) (List.drop (Int.toNat x2) x0))) x0))))))]) 6 0 ((Int.toNat x1 - 0) + List.length (List.take (List.length x0 - Int.toNat x2) (List.drop (Int.toNat x2) x0))) 1 rfl (by kernel_rfl) rfl h8 rfl rfl (tm (ρ' := [(6, .row 1)]) (H' := [(1, .row 36 S36 (List.take ((Int.toNat x1 - 0) + List.length (List.take (List.length x0 - Int.toNat x2) (List.drop (Int.toNat x2) x0))) (List.take (0 + (Int.toNat ((((Int.toNat x1 - 0) + List.length (List.take (List.length x0 - Int.toNat x2) (List.drop (Int.toNat x2) x0))) : Nat) : Int))) (List.take (Int.toNat x1 - 0) x0 ++ ((List.take (List.length x0 - Int.toNat x2) (List.drop (Int.toNat x2) x0)) ++ List.drop ((Int.toNat x1 - 0) + List.length (List.take (List.length x0 - Int.toNat x2) (List.drop (Int.toNat x2) x0))) x0)) ++ (List.replicate (Int.toNat ((List.length x0 : Nat) : Int) - Int.toNat ((((Int.toNat x1 - 0) + List.length (List.take (List.length x0 - Int.toNat x2) (List.drop (Int.toNat x2) x0))) : Nat) : Int)) S36.dflt ++ List.drop ((0 + (Int.toNat ((((Int.toNat x1 - 0) + List.length (List.take (List.length x0 - Int.toNat x2) (List.drop (Int.toNat x2) x0))) : Nat) : Int))) + (Int.toNat ((List.length x0 : Nat) : Int) - Int.toNat ((((Int.toNat x1 - 0) + List.length (List.take (List.length x0 - Int.toNat x2) (List.drop (Int.toNat x2) x0))) : Nat) : Int))) (List.take (Int.toNat x1 - 0) x0 ++ ((List.take (List.length x0 - Int.toNat x2) (List.drop (Int.toNat x2) x0)) ++ List.drop ((Int.toNat x1 - 0) + List.length (List.take (List.length x0 - Int.toNat x2) (List.drop (Int.toNat x2) x0))) x0))))))]) (by kernel_rfl) (by kernel_rfl) rfl ?_)
    obtain rfl := Option.some.inj hF0
    exact ret_mut (q := [.row 1]) [none] [1] rfl rfl (by kernel_rfl) rfl (by kernel_rfl)
noncomputable def F_congressref19_Least_b1 (x0 : (List S36.ty)) (x1 : Int) (x2 : Bool) (s1 : (Int × Bool × Int)) : Option ((Int × Bool × Int) ⊕ (Int × Bool)) :=
  if (decide (s1.2.2 < ((List.length x0 : Nat) : Int))) = true then if 0 ≤ s1.2.2 ∧ s1.2.2 < ((List.length x0 : Nat) : Int) then (show Option Bool from if (x2) = true then if (!s1.2.1) = true then some true else some (decide ((((((List.getD x0 (Int.toNat s1.2.2) S36.dflt).2).2).2).1) < s1.1)) else if (decide ((((((List.getD x0 (Int.toNat s1.2.2) S36.dflt).2).2).2).1) > x1)) = true then if (!s1.2.1) = true then some true else some (decide ((((((List.getD x0 (Int.toNat s1.2.2) S36.dflt).2).2).2).1) < s1.1)) else some false).bind (fun r2 => if (r2) = true then some (Sum.inl (((((List.getD x0 (Int.toNat s1.2.2) S36.dflt).2).2).2).1, true, IntKind.wrap .i64 (s1.2.2 + 1))) else some (Sum.inl (s1.1, s1.2.1, IntKind.wrap .i64 (s1.2.2 + 1)))) else none else some (Sum.inr (s1.1, s1.2.1))
noncomputable def F_congressref19_Least (x0 : (List S36.ty)) (x1 : Int) (x2 : Bool) : Option (Int × Bool) :=
  (loopO (F_congressref19_Least_b1 x0 x1 x2) (0, false, 0)).bind (fun r1 => some (r1.1, r1.2))
theorem W_congressref19_Least {x0 : (List S36.ty)} {x1 : Int} {x2 : Bool} {y : (Int × Bool)} (hF0 : F_congressref19_Least x0 x1 x2 = some y) : Pure Try.prog 22 [.v (.sl S36) x0, vu x1, vb x2] (.tup [vu y.1, vb y.2]) := by
  unfold F_congressref19_Least at hF0
  refine pure_of_run @Try.call22 @Try.func22 rfl rfl fun w M ho => ?_
  refine sq rfl (rg [(0, .v (.sl S36) x0), (1, vu x1), (2, vb x2)] [] [] [] 0 rfl (by kernel_rfl) c0 (sq rfl (rg [(0, .v (.sl S36) x0), (1, vu x1), (2, vb x2), (8, vu 0)] [] [] [] 0 rfl (by kernel_rfl) c0 (sq rfl (rg [(0, .v (.sl S36) x0), (1, vu x1), (2, vb x2), (8, vu 0), (9, vb false)] [] [] [] 0 rfl (by kernel_rfl) c0 (sq rfl (sq rfl (rg [(0, .v (.sl S36) x0), (1, vu x1), (2, vb x2), (8, vu 0), (9, vb false), (10, vi 0)] [] [] [] 0 rfl (by kernel_rfl) c0 (bk rfl ?_)))))))))
  obtain ⟨r1, hl1, hF0⟩ := obd hF0
  refine run_cutx 0 rfl (fun r1' => r1 = r1') (fun r1 => [(8, vu r1.1), (9, vb r1.2)]) (fun r1 => []) (fun r1' h1 => ?_) (fun J1_0 => ?_)
  · subst h1
    refine sq rfl (rg [(6, vu r1.1), (7, vb r1.2)] [] [] [] 0 rfl (by kernel_rfl) c0 ?_)
    obtain rfl := Option.some.inj hF0
    exact ret_pure (q := [vu r1.1, vb r1.2]) [(.int .u64), .bool] rfl rfl (by kernel_rfl)
  refine run_loop rfl (run_loopO hl1 (fun s1 => [(0, .v (.sl S36) x0), (1, vu x1), (2, vb x2), (8, vu s1.1), (9, vb s1.2.1), (10, vi s1.2.2)]) (fun s1 => []) rfl rfl (fun s1 o1 hF1 ih1 hr1 => ?_))
  unfold F_congressref19_Least_b1 at hF1
  refine run_again (sq rfl (sq rfl (rg [(0, .v (.sl S36) x0), (1, vu x1), (2, vb x2), (8, vu s1.1), (9, vb s1.2.1), (10, vi s1.2.2), (15, vb (decide (s1.2.2 < ((List.length x0 : Nat) : Int))))] [] [] [] 0 rfl (by kernel_rfl) c0 ?_)))
  refine run_if rfl rfl (fun h2 => ?_) (fun h2 => ?_)
  · replace hF1 := ift h2 hF1
    refine sk rfl (sq rfl (bk rfl (sq rfl ?_)))
    obtain ⟨h3, hF1⟩ := ifg hF1
    refine rg [(0, .v (.sl S36) x0), (1, vu x1), (2, vb x2), (8, vu s1.1), (9, vb s1.2.1), (10, vi s1.2.2), (11, vu (((((List.getD x0 (Int.toNat s1.2.2) S36.dflt).2).2).2).1))] [] [] [] 0 rfl (by kernel_rfl) (cc h3 c0) (sq rfl ?_)
    obtain ⟨r2, hF2, hF1⟩ := obd hF1
    refine run_cut (fun r2' => r2 = r2') (fun r2 => [(0, .v (.sl S36) x0), (1, vu x1), (2, vb x2), (8, vu s1.1), (9, vb s1.2.1), (10, vi s1.2.2), (11, vu (((((List.getD x0 (Int.toNat s1.2.2) S36.dflt).2).2).2).1)), (37, vb r2)]) (fun r2 => []) (fun r2' h4 => ?_) (fun J2_0 => ?_)
    · subst h4
      refine run_if rfl rfl (fun h5 => ?_) (fun h5 => ?_)
      · replace hF1 := ift h5 hF1
        refine sq rfl (rg [(0, .v (.sl S36) x0), (1, vu x1), (2, vb x2), (8, vu (((((List.getD x0 (Int.toNat s1.2.2) S36.dflt).2).2).2).1)), (10, vi s1.2.2)] [] [] [] 0 rfl (by kernel_rfl) c0 (rg [(0, .v (.sl S36) x0), (1, vu x1), (2, vb x2), (8, vu (((((List.getD x0 (Int.toNat s1.2.2) S36.dflt).2).2).2).1)), (9, vb true), (10, vi s1.2.2)] [] [] [] 0 rfl (by kernel_rfl) c0 (eb (rg [(0, .v (.sl S36) x0), (1, vu x1), (2, vb x2), (8, vu (((((List.getD x0 (Int.toNat s1.2.2) S36.dflt).2).2).2).1)), (9, vb true), (10, vi (IntKind.wrap .i64 (s1.2.2 + 1)))] [] [] [] 0 rfl (by kernel_rfl) c0 ?_))))
        exact ih1 _ (Option.some.inj hF1).symm
      · replace hF1 := ifn h5 hF1
        refine sk rfl (eb (rg [(0, .v (.sl S36) x0), (1, vu x1), (2, vb x2), (8, vu s1.1), (9, vb s1.2.1), (10, vi (IntKind.wrap .i64 (s1.2.2 + 1)))] [] [] [] 0 rfl (by kernel_rfl) c0 ?_))
        exact ih1 _ (Option.some.inj hF1).symm
    rcases Bool.eq_false_or_eq_true (x2) with h6 | h6
    · replace hF2 := ift h6 hF2
      rcases Bool.eq_false_or_eq_true (!s1.2.1) with h7 | h7
      · replace hF2 := ift h7 hF2
        refine rg [(0, .v (.sl S36) x0), (1, vu x1), (2, vb x2), (8, vu s1.1), (9, vb s1.2.1), (10, vi s1.2.2), (11, vu (((((List.getD x0 (Int.toNat s1.2.2) S36.dflt).2).2).2).1)), (37, vb true)] [] [] [(1, true), (9, true)] 0 rfl (by kernel_rfl) (cc h6 (cc h7 c0)) ?_
        exact J2_0 _ (Option.some.inj hF2).symm
      · replace hF2 := ifn h7 hF2
        refine rg [(0, .v (.sl S36) x0), (1, vu x1), (2, vb x2), (8, vu s1.1), (9, vb s1.2.1), (10, vi s1.2.2), (11, vu (((((List.getD x0 (Int.toNat s1.2.2) S36.dflt).2).2).2).1)), (37, vb (decide ((((((List.getD x0 (Int.toNat s1.2.2) S36.dflt).2).2).2).1) < s1.1)))] [] [] [(1, true), (9, false)] 0 rfl (by kernel_rfl) (cc h6 (cc h7 c0)) ?_
        exact J2_0 _ (Option.some.inj hF2).symm
    · replace hF2 := ifn h6 hF2
      rcases Bool.eq_false_or_eq_true (decide ((((((List.getD x0 (Int.toNat s1.2.2) S36.dflt).2).2).2).1) > x1)) with h8 | h8
      · replace hF2 := ift h8 hF2
        rcases Bool.eq_false_or_eq_true (!s1.2.1) with h9 | h9
        · replace hF2 := ift h9 hF2
          refine rg [(0, .v (.sl S36) x0), (1, vu x1), (2, vb x2), (8, vu s1.1), (9, vb s1.2.1), (10, vi s1.2.2), (11, vu (((((List.getD x0 (Int.toNat s1.2.2) S36.dflt).2).2).2).1)), (37, vb true)] [] [] [(1, false), (6, true), (9, true)] 0 rfl (by kernel_rfl) (cc h6 (cc h8 (cc h9 c0))) ?_
          exact J2_0 _ (Option.some.inj hF2).symm
        · replace hF2 := ifn h9 hF2
          refine rg [(0, .v (.sl S36) x0), (1, vu x1), (2, vb x2), (8, vu s1.1), (9, vb s1.2.1), (10, vi s1.2.2), (11, vu (((((List.getD x0 (Int.toNat s1.2.2) S36.dflt).2).2).2).1)), (37, vb (decide ((((((List.getD x0 (Int.toNat s1.2.2) S36.dflt).2).2).2).1) < s1.1)))] [] [] [(1, false), (6, true), (9, false)] 0 rfl (by kernel_rfl) (cc h6 (cc h8 (cc h9 c0))) ?_
          exact J2_0 _ (Option.some.inj hF2).symm
      · replace hF2 := ifn h8 hF2
        refine rg [(0, .v (.sl S36) x0), (1, vu x1), (2, vb x2), (8, vu s1.1), (9, vb s1.2.1), (10, vi s1.2.2), (11, vu (((((List.getD x0 (Int.toNat s1.2.2) S36.dflt).2).2).2).1)), (37, vb false)] [] [] [(1, false), (6, false)] 0 rfl (by kernel_rfl) (cc h6 (cc h8 c0)) ?_
        exact J2_0 _ (Option.some.inj hF2).symm
  · replace hF1 := ifn h2 hF1
    refine run_exit rfl rfl (tm (ρ' := [(8, vu s1.1), (9, vb s1.2.1)]) (H' := []) (by kernel_rfl) (by kernel_rfl) rfl ?_)
    exact J1_0 _ (inrI hr1 hF1).symm
noncomputable def F_congressref19_Turn_b2 (r1 : (Int × Bool)) (x0 : (List S36.ty)) (s2 : Int) : Option (Int ⊕ ((Int × Bool) ⊕ Unit)) :=
  (show Option Bool from if (decide (s2 < ((List.length x0 : Nat) : Int))) = true then some r1.2 else some false).bind (fun r3 => if (r3) = true then if 0 ≤ s2 ∧ s2 < ((List.length x0 : Nat) : Int) then (if ((((((List.getD x0 (Int.toNat s2) S36.dflt).2).2).2).1) == r1.1) = true then some (Sum.inr (Sum.inl (s2, true))) else some (Sum.inl (IntKind.wrap .i64 (s2 + 1)))) else none else some (Sum.inr (Sum.inr ())))
noncomputable def F_congressref19_Turn (x0 : (List S36.ty)) (x1 : Int) : Option (Int × Bool) :=
  (F_congressref19_Least x0 x1 false).bind fun t1 => ((show Option (Int × Bool) from if (!t1.2) = true then (F_congressref19_Least x0 x1 true).bind fun t2 => (some (t2.1, t2.2)) else some (t1.1, t1.2)).bind (fun r1 => (loopO (F_congressref19_Turn_b2 r1 x0) 0).bind (Sum.elim some (fun j21 => some (0, false)))))
theorem W_congressref19_Turn {x0 : (List S36.ty)} {x1 : Int} {y : (Int × Bool)} (hF0 : F_congressref19_Turn x0 x1 = some y) : Pure Try.prog 9 [.v (.sl S36) x0, vu x1] (.tup [vi y.1, vb y.2]) := by
  unfold F_congressref19_Turn at hF0
  refine pure_of_run @Try.call9 @Try.func9 rfl rfl fun w M ho => ?_
  refine sq rfl (rg [(0, .v (.sl S36) x0), (1, vu x1)] [] [] [] 0 rfl (by kernel_rfl) c0 (sq rfl ?_))
  obtain ⟨t1, h1, hF0⟩ := obd hF0
  refine rg [(0, .v (.sl S36) x0), (1, vu x1), (6, vu t1.1), (7, vb t1.2)] [] [(2, ⟨[.v (.sl S36), .v (.int .u64), .v .bool], .tup [vu t1.1, vb t1.2], none⟩)] [] 0 rfl (by kernel_rfl) (cc (W_congressref19_Least h1) c0) (sq rfl (sq rfl (rg [(0, .v (.sl S36) x0), (1, vu x1), (6, vu t1.1), (7, vb t1.2), (16, vb (!t1.2))] [] [] [] 0 rfl (by kernel_rfl) c0 ?_)))
  obtain ⟨r1, hF1, hF0⟩ := obd hF0
  refine run_cut (fun r1' => r1 = r1') (fun r1 => [(0, .v (.sl S36) x0), (6, vu r1.1), (7, vb r1.2)]) (fun r1 => []) (fun r1' h2 => ?_) (fun J1_0 => ?_)
  · subst h2
    refine sq rfl (sq rfl (rg [(0, .v (.sl S36) x0), (6, vu r1.1), (7, vb r1.2), (8, vi 0)] [] [] [] 0 rfl (by kernel_rfl) c0 (bk rfl ?_)))
    obtain ⟨r2, hl2, hF0⟩ := obd hF0
    refine run_cutx 0 rfl (fun j21 => r2 = Sum.inr j21) (fun j21 => []) (fun j21 => []) (fun j21 h3 => ?_) (fun J2_1 => ?_)
    · subst h3
      replace hF0 := sumR hF0
      refine sq rfl (rg [(4, vi 0), (5, vb false)] [] [] [] 0 rfl (by kernel_rfl) c0 ?_)
      obtain rfl := Option.some.inj hF0
      exact ret_pure (q := [vi 0, vb false]) [(.int .i64), .bool] rfl rfl (by kernel_rfl)
    refine run_loop rfl (run_loopO hl2 (fun s2 => [(0, .v (.sl S36) x0), (6, vu r1.1), (7, vb r1.2), (8, vi s2)]) (fun s2 => []) rfl rfl (fun s2 o2 hF1 ih2 hr2 => ?_))
    unfold F_congressref19_Turn_b2 at hF1
    refine run_again (sq rfl (sq rfl ?_))
    obtain ⟨r3, hF2, hF1⟩ := obd hF1
    refine run_cut (fun r3' => r3 = r3') (fun r3 => [(0, .v (.sl S36) x0), (6, vu r1.1), (7, vb r1.2), (8, vi s2), (29, vb r3)]) (fun r3 => []) (fun r3' h4 => ?_) (fun J3_0 => ?_)
    · subst h4
      refine run_if rfl rfl (fun h5 => ?_) (fun h5 => ?_)
      · replace hF1 := ift h5 hF1
        refine sk rfl (sq rfl (bk rfl (sq rfl ?_)))
        obtain ⟨h6, hF1⟩ := ifg hF1
        refine rg [(0, .v (.sl S36) x0), (6, vu r1.1), (7, vb r1.2), (8, vi s2), (38, vb ((((((List.getD x0 (Int.toNat s2) S36.dflt).2).2).2).1) == r1.1))] [] [] [] 0 rfl (by kernel_rfl) (cc h6 c0) ?_
        refine run_if rfl rfl (fun h7 => ?_) (fun h7 => ?_)
        · replace hF1 := ift h7 hF1
          refine sq rfl (rg [(4, vi s2), (5, vb true)] [] [] [] 0 rfl (by kernel_rfl) c0 ?_)
          have e2 := inrI hr2 hF1
          subst e2
          replace hF0 := sumL hF0
          obtain rfl := Option.some.inj hF0
          exact ret_pure (q := [vi s2, vb true]) [(.int .i64), .bool] rfl rfl (by kernel_rfl)
        · replace hF1 := ifn h7 hF1
          refine sk rfl (eb (rg [(0, .v (.sl S36) x0), (6, vu r1.1), (7, vb r1.2), (8, vi (IntKind.wrap .i64 (s2 + 1)))] [] [] [] 0 rfl (by kernel_rfl) c0 ?_))
          exact ih2 _ (Option.some.inj hF1).symm
      · replace hF1 := ifn h5 hF1
        refine run_exit rfl rfl (tm (ρ' := []) (H' := []) (by kernel_rfl) (by kernel_rfl) rfl ?_)
        exact J2_1 _ (inrI hr2 hF1).symm
    rcases Bool.eq_false_or_eq_true (decide (s2 < ((List.length x0 : Nat) : Int))) with h8 | h8
    · replace hF2 := ift h8 hF2
      refine rg [(0, .v (.sl S36) x0), (6, vu r1.1), (7, vb r1.2), (8, vi s2), (29, vb r1.2)] [] [] [(4, true)] 0 rfl (by kernel_rfl) (cc h8 c0) ?_
      exact J3_0 _ (Option.some.inj hF2).symm
    · replace hF2 := ifn h8 hF2
      refine rg [(0, .v (.sl S36) x0), (6, vu r1.1), (7, vb r1.2), (8, vi s2), (29, vb false)] [] [] [(4, false)] 0 rfl (by kernel_rfl) (cc h8 c0) ?_
      exact J3_0 _ (Option.some.inj hF2).symm
  refine run_if rfl rfl (fun h9 => ?_) (fun h9 => ?_)
  · replace hF1 := ift h9 hF1
    obtain ⟨t2, h10, hF1⟩ := obd hF1
    refine rg [(0, .v (.sl S36) x0), (6, vu t2.1), (7, vb t2.2)] [] [(2, ⟨[.v (.sl S36), .v (.int .u64), .v .bool], .tup [vu t2.1, vb t2.2], none⟩)] [] 0 rfl (by kernel_rfl) (cc (W_congressref19_Least h10) c0) ?_
    exact J1_0 _ (Option.some.inj hF1).symm
  · replace hF1 := ifn h9 hF1
    refine sk rfl (tm (ρ' := [(0, .v (.sl S36) x0), (6, vu t1.1), (7, vb t1.2)]) (H' := []) (by kernel_rfl) (by kernel_rfl) rfl ?_)
    exact J1_0 _ (Option.some.inj hF1).symm
noncomputable def F_congressref19_Sessions_b1 (x0 : (List S36.ty)) (s1 : (Int × Bool × (List Int))) : Option ((Int × Bool × (List Int)) ⊕ (List Int)) :=
  if (s1.2.1) = true then if apOk (List.length s1.2.2 + 1) 8 then (F_congressref19_Least x0 s1.1 false).bind fun t2 => (some (Sum.inl (t2.1, t2.2, s1.2.2 ++ [s1.1]))) else none else some (Sum.inr s1.2.2)
noncomputable def F_congressref19_Sessions (x0 : (List S36.ty)) : Option (List Int) :=
  (F_congressref19_Least x0 0 true).bind fun t1 => ((loopO (F_congressref19_Sessions_b1 x0) (t1.1, t1.2, [])).bind (fun r1 => some r1))
theorem W_congressref19_Sessions {x0 : (List S36.ty)} {y : (List Int)} (hF0 : F_congressref19_Sessions x0 = some y) : Pure Try.prog 15 [.v (.sl S36) x0] (.v (.sl (.int .u64)) y) := by
  unfold F_congressref19_Sessions at hF0
  refine pure_of_run @Try.call15 @Try.func15 rfl rfl fun w M ho => ?_
  refine sq rfl (rg [(0, .v (.sl S36) x0)] [] [] [] 0 rfl (by kernel_rfl) c0 (sq rfl (rg [(0, .v (.sl S36) x0), (3, .row 0)] [(0, .row 23 (.int .u64) [])] [] [] 0 rfl (by kernel_rfl) c0 (sq rfl ?_))))
  obtain ⟨t1, h1, hF0⟩ := obd hF0
  refine rg [(0, .v (.sl S36) x0), (3, .row 0), (4, vu t1.1), (5, vb t1.2)] [(0, .row 23 (.int .u64) [])] [(1, ⟨[.v (.sl S36), .v (.int .u64), .v .bool], .tup [vu t1.1, vb t1.2], none⟩)] [] 1 rfl (by kernel_rfl) (cc (W_congressref19_Least h1) c0) (sq rfl (bk rfl (run_ren (ρ' := [(0, .v (.sl S36) x0), (3, .row 1103), (4, vu t1.1), (5, vb t1.2)]) (H' := [(1103, .row 23 (.int .u64) [])]) 0 1103 rfl (by kernel_rfl) rfl (by kernel_rfl) rfl ?_)))
  obtain ⟨r1, hl1, hF0⟩ := obd hF0
  refine run_cutx 0 rfl (fun r1' => r1 = r1') (fun r1 => [(3, .row 1103)]) (fun r1 => [(1103, .row 23 (.int .u64) r1)]) (fun r1' h2 => ?_) (fun J1_0 => ?_)
  · subst h2
    refine sq rfl (rg [(2, .row 1103)] [(1103, .row 23 (.int .u64) r1)] [] [] 1104 rfl (by kernel_rfl) c0 ?_)
    obtain rfl := Option.some.inj hF0
    refine run_frz (ρ' := [(2, .v (.sl (.int .u64)) r1)]) (H' := []) 1103 rfl rfl rfl (by kernel_rfl) (by kernel_rfl) ?_
    exact ret_pure (q := [.v (.sl (.int .u64)) r1]) [(.sl (.int .u64))] rfl rfl (by kernel_rfl)
  refine run_loop rfl (run_loopO hl1 (fun s1 => [(0, .v (.sl S36) x0), (3, .row 1103), (4, vu s1.1), (5, vb s1.2.1)]) (fun s1 => [(1103, .row 23 (.int .u64) s1.2.2)]) rfl rfl (fun s1 o1 hF1 ih1 hr1 => ?_))
  unfold F_congressref19_Sessions_b1 at hF1
  refine run_again (sq rfl (sq rfl (rg [(0, .v (.sl S36) x0), (3, .row 1103), (4, vu s1.1), (14, vb s1.2.1)] [(1103, .row 23 (.int .u64) s1.2.2)] [] [] 1104 rfl (by kernel_rfl) c0 ?_)))
  refine run_if rfl rfl (fun h3 => ?_) (fun h3 => ?_)
  · replace hF1 := ift h3 hF1
    refine sk rfl (bk rfl (sq rfl ?_))
    obtain ⟨h4, hF1⟩ := ifg hF1
    refine rg [(0, .v (.sl S36) x0), (3, .row 1164), (4, vu s1.1)] [(1164, .row 23 (.int .u64) (s1.2.2 ++ [s1.1]))] [] [] 1104 rfl (by kernel_rfl) (cc h4.1 (cc h4.2 c0)) (sq rfl ?_)
    obtain ⟨t2, h5, hF1⟩ := obd hF1
    refine rg [(0, .v (.sl S36) x0), (3, .row 1164), (6, vu t2.1), (7, vb t2.2)] [(1164, .row 23 (.int .u64) (s1.2.2 ++ [s1.1]))] [(2, ⟨[.v (.sl S36), .v (.int .u64), .v .bool], .tup [vu t2.1, vb t2.2], none⟩)] [] 1165 rfl (by kernel_rfl) (cc (W_congressref19_Least h5) c0) (sq rfl (rg [(0, .v (.sl S36) x0), (3, .row 1164), (4, vu t2.1), (7, vb t2.2)] [(1164, .row 23 (.int .u64) (s1.2.2 ++ [s1.1]))] [] [] 1165 rfl (by kernel_rfl) c0 (rg [(0, .v (.sl S36) x0), (3, .row 1164), (4, vu t2.1), (5, vb t2.2)] [(1164, .row 23 (.int .u64) (s1.2.2 ++ [s1.1]))] [] [] 1165 rfl (by kernel_rfl) c0 (eb (run_ren (ρ' := [(0, .v (.sl S36) x0), (3, .row 1103), (4, vu t2.1), (5, vb t2.2)]) (H' := [(1103, .row 23 (.int .u64) (s1.2.2 ++ [s1.1]))]) 1164 1103 rfl (by kernel_rfl) rfl (by kernel_rfl) rfl ?_)))))
    exact ih1 _ (Option.some.inj hF1).symm
  · replace hF1 := ifn h3 hF1
    refine run_exit rfl rfl (tm (ρ' := [(3, .row 1103)]) (H' := [(1103, .row 23 (.int .u64) s1.2.2)]) (by kernel_rfl) (by kernel_rfl) rfl ?_)
    exact J1_0 _ (inrI hr1 hF1).symm
noncomputable def F_congressref19_Same_b1 (x0 : (List Int)) (x1 : (List Int)) (s1 : Int) : Option (Int ⊕ (Bool ⊕ Unit)) :=
  if (decide (s1 < ((List.length x0 : Nat) : Int))) = true then if 0 ≤ s1 ∧ s1 < ((List.length x0 : Nat) : Int) then (if 0 ≤ s1 ∧ s1 < ((List.length x1 : Nat) : Int) then (if ((List.getD x0 (Int.toNat s1) 0) != (List.getD x1 (Int.toNat s1) 0)) = true then some (Sum.inr (Sum.inl false)) else some (Sum.inl (IntKind.wrap .i64 (s1 + 1)))) else none) else none else some (Sum.inr (Sum.inr ()))
noncomputable def F_congressref19_Same (x0 : (List Int)) (x1 : (List Int)) : Option Bool :=
  if (((List.length x0 : Nat) : Int) != ((List.length x1 : Nat) : Int)) = true then some false else (loopO (F_congressref19_Same_b1 x0 x1) 0).bind (Sum.elim some (fun j11 => some true))
theorem W_congressref19_Same {x0 : (List Int)} {x1 : (List Int)} {y : Bool} (hF0 : F_congressref19_Same x0 x1 = some y) : Pure Try.prog 13 [.v (.sl (.int .u64)) x0, .v (.sl (.int .u64)) x1] (vb y) := by
  unfold F_congressref19_Same at hF0
  refine pure_of_run @Try.call13 @Try.func13 rfl rfl fun w M ho => ?_
  refine sq rfl (rg [(0, .v (.sl (.int .u64)) x0), (1, .v (.sl (.int .u64)) x1)] [] [] [] 0 rfl (by kernel_rfl) c0 (sq rfl (sq rfl (rg [(0, .v (.sl (.int .u64)) x0), (1, .v (.sl (.int .u64)) x1), (10, vb (((List.length x0 : Nat) : Int) != ((List.length x1 : Nat) : Int)))] [] [] [] 0 rfl (by kernel_rfl) c0 ?_))))
  refine run_if rfl rfl (fun h1 => ?_) (fun h1 => ?_)
  · replace hF0 := ift h1 hF0
    refine sq rfl (rg [(4, vb false)] [] [] [] 0 rfl (by kernel_rfl) c0 ?_)
    obtain rfl := Option.some.inj hF0
    exact ret_pure (q := [vb false]) [.bool] rfl rfl (by kernel_rfl)
  · replace hF0 := ifn h1 hF0
    refine sk rfl (sq rfl (sq rfl (rg [(0, .v (.sl (.int .u64)) x0), (1, .v (.sl (.int .u64)) x1), (5, vi 0)] [] [] [] 0 rfl (by kernel_rfl) c0 (bk rfl ?_))))
    obtain ⟨r1, hl1, hF0⟩ := obd hF0
    refine run_cutx 0 rfl (fun j11 => r1 = Sum.inr j11) (fun j11 => []) (fun j11 => []) (fun j11 h2 => ?_) (fun J1_1 => ?_)
    · subst h2
      replace hF0 := sumR hF0
      refine sq rfl (rg [(4, vb true)] [] [] [] 0 rfl (by kernel_rfl) c0 ?_)
      obtain rfl := Option.some.inj hF0
      exact ret_pure (q := [vb true]) [.bool] rfl rfl (by kernel_rfl)
    refine run_loop rfl (run_loopO hl1 (fun s1 => [(0, .v (.sl (.int .u64)) x0), (1, .v (.sl (.int .u64)) x1), (5, vi s1)]) (fun s1 => []) rfl rfl (fun s1 o1 hF1 ih1 hr1 => ?_))
    unfold F_congressref19_Same_b1 at hF1
    refine run_again (sq rfl (sq rfl (rg [(0, .v (.sl (.int .u64)) x0), (1, .v (.sl (.int .u64)) x1), (5, vi s1), (14, vb (decide (s1 < ((List.length x0 : Nat) : Int))))] [] [] [] 0 rfl (by kernel_rfl) c0 ?_)))
    refine run_if rfl rfl (fun h3 => ?_) (fun h3 => ?_)
    · replace hF1 := ift h3 hF1
      refine sk rfl (sq rfl (bk rfl (sq rfl ?_)))
      obtain ⟨h4, hF1⟩ := ifg hF1
      obtain ⟨h5, hF1⟩ := ifg hF1
      refine rG [(0, .v (.sl (.int .u64)) x0), (1, .v (.sl (.int .u64)) x1), (5, vi s1), (25, vb ((List.getD x0 (Int.toNat s1) 0) != (List.getD x1 (Int.toNat s1) 0)))] [] [] [] 0 rfl rfl (by kernel_rfl) (cc h4 (cc h5 c0)) ?_
      refine run_if rfl rfl (fun h6 => ?_) (fun h6 => ?_)
      · replace hF1 := ift h6 hF1
        refine sq rfl (rg [(4, vb false)] [] [] [] 0 rfl (by kernel_rfl) c0 ?_)
        have e1 := inrI hr1 hF1
        subst e1
        replace hF0 := sumL hF0
        obtain rfl := Option.some.inj hF0
        exact ret_pure (q := [vb false]) [.bool] rfl rfl (by kernel_rfl)
      · replace hF1 := ifn h6 hF1
        refine sk rfl (eb (rg [(0, .v (.sl (.int .u64)) x0), (1, .v (.sl (.int .u64)) x1), (5, vi (IntKind.wrap .i64 (s1 + 1)))] [] [] [] 0 rfl (by kernel_rfl) c0 ?_))
        exact ih1 _ (Option.some.inj hF1).symm
    · replace hF1 := ifn h3 hF1
      refine run_exit rfl rfl (tm (ρ' := []) (H' := []) (by kernel_rfl) (by kernel_rfl) rfl ?_)
      exact J1_1 _ (inrI hr1 hF1).symm
noncomputable def F_congressref19_Of_b1 (x0 : (List S36.ty)) (x1 : Int) (s1 : (Int × (List S36.ty))) : Option ((Int × (List S36.ty)) ⊕ (List S36.ty)) :=
  if (decide (s1.1 < ((List.length x0 : Nat) : Int))) = true then if 0 ≤ s1.1 ∧ s1.1 < ((List.length x0 : Nat) : Int) then (if ((((((List.getD x0 (Int.toNat s1.1) S36.dflt).2).2).2).1) == x1) = true then if 0 ≤ s1.1 ∧ s1.1 < ((List.length x0 : Nat) : Int) then (if apOk (List.length s1.2 + 1) 56 then (some (Sum.inl (IntKind.wrap .i64 (s1.1 + 1), s1.2 ++ [List.getD x0 (Int.toNat s1.1) S36.dflt]))) else none) else none else some (Sum.inl (IntKind.wrap .i64 (s1.1 + 1), s1.2))) else none else some (Sum.inr s1.2)
noncomputable def F_congressref19_Of (x0 : (List S36.ty)) (x1 : Int) : Option (List S36.ty) :=
  (loopO (F_congressref19_Of_b1 x0 x1) (0, [])).bind (fun r1 => some r1)
theorem W_congressref19_Of {x0 : (List S36.ty)} {x1 : Int} {y : (List S36.ty)} (hF0 : F_congressref19_Of x0 x1 = some y) : Mut Try.prog 16 0 [.v (.sl S36) x0, vu x1] [] (.row 0) [(0, .row 36 S36 y)] := by
  unfold F_congressref19_Of at hF0
  refine mut_of_run @Try.call16 @Try.func16 rfl rfl fun b => ?_
  refine sq rfl (rg [(0, .v (.sl S36) x0), (1, vu x1)] [] [] [] 0 rfl (by kernel_rfl) c0 (sq rfl (rg [(0, .v (.sl S36) x0), (1, vu x1), (5, .row 0)] [(0, .row 36 S36 [])] [] [] 0 rfl (by kernel_rfl) c0 (sq rfl (sq rfl (rg [(0, .v (.sl S36) x0), (1, vu x1), (5, .row 0), (6, vi 0)] [(0, .row 36 S36 [])] [] [] 1 rfl (by kernel_rfl) c0 (bk rfl (run_ren (ρ' := [(0, .v (.sl S36) x0), (1, vu x1), (5, .row 1105), (6, vi 0)]) (H' := [(1105, .row 36 S36 [])]) 0 1105 rfl (by kernel_rfl) rfl (by kernel_rfl) rfl ?_))))))))
  obtain ⟨r1, hl1, hF0⟩ := obd hF0
  refine run_cutx 0 rfl (fun r1' => r1 = r1') (fun r1 => [(5, .row 1105)]) (fun r1 => [(1105, .row 36 S36 r1)]) (fun r1' h1 => ?_) (fun J1_0 => ?_)
  · subst h1
    refine sq rfl (rg [(4, .row 1105)] [(1105, .row 36 S36 r1)] [] [] 1106 rfl (by kernel_rfl) c0 (run_ren (ρ' := [(4, .row 0)]) (H' := [(0, .row 36 S36 r1)]) 1105 0 rfl (by kernel_rfl) rfl (by kernel_rfl) rfl ?_))
    obtain rfl := Option.some.inj hF0
    exact ret_mut (q := [.row 0]) [none] [0] rfl rfl (by kernel_rfl) rfl (by kernel_rfl)
  refine run_loop rfl (run_loopO hl1 (fun s1 => [(0, .v (.sl S36) x0), (1, vu x1), (5, .row 1105), (6, vi s1.1)]) (fun s1 => [(1105, .row 36 S36 s1.2)]) rfl rfl (fun s1 o1 hF1 ih1 hr1 => ?_))
  unfold F_congressref19_Of_b1 at hF1
  refine run_again (sq rfl (sq rfl (rg [(0, .v (.sl S36) x0), (1, vu x1), (5, .row 1105), (6, vi s1.1), (11, vb (decide (s1.1 < ((List.length x0 : Nat) : Int))))] [(1105, .row 36 S36 s1.2)] [] [] 1106 rfl (by kernel_rfl) c0 ?_)))
  refine run_if rfl rfl (fun h2 => ?_) (fun h2 => ?_)
  · replace hF1 := ift h2 hF1
    refine sk rfl (sq rfl (bk rfl (sq rfl ?_)))
    obtain ⟨h3, hF1⟩ := ifg hF1
    refine rg [(0, .v (.sl S36) x0), (1, vu x1), (5, .row 1105), (6, vi s1.1), (20, vb ((((((List.getD x0 (Int.toNat s1.1) S36.dflt).2).2).2).1) == x1))] [(1105, .row 36 S36 s1.2)] [] [] 1106 rfl (by kernel_rfl) (cc h3 c0) ?_
    refine run_if rfl rfl (fun h4 => ?_) (fun h4 => ?_)
    · replace hF1 := ift h4 hF1
      obtain ⟨h5, hF1⟩ := ifg hF1
      obtain ⟨h6, hF1⟩ := ifg hF1
      refine rg [(0, .v (.sl S36) x0), (1, vu x1), (5, .row 1226), (6, vi s1.1)] [(1226, .row 36 S36 (s1.2 ++ [List.getD x0 (Int.toNat s1.1) S36.dflt]))] [] [] 1106 rfl (by kernel_rfl) (cc h5 (cc h6.1 (cc h6.2 c0))) (eb (rg [(0, .v (.sl S36) x0), (1, vu x1), (5, .row 1226), (6, vi (IntKind.wrap .i64 (s1.1 + 1)))] [(1226, .row 36 S36 (s1.2 ++ [List.getD x0 (Int.toNat s1.1) S36.dflt]))] [] [] 1227 rfl (by kernel_rfl) c0 (run_ren (ρ' := [(0, .v (.sl S36) x0), (1, vu x1), (5, .row 1105), (6, vi (IntKind.wrap .i64 (s1.1 + 1)))]) (H' := [(1105, .row 36 S36 (s1.2 ++ [List.getD x0 (Int.toNat s1.1) S36.dflt]))]) 1226 1105 rfl (by kernel_rfl) rfl (by kernel_rfl) rfl ?_)))
      exact ih1 _ (Option.some.inj hF1).symm
    · replace hF1 := ifn h4 hF1
      refine sk rfl (eb (rg [(0, .v (.sl S36) x0), (1, vu x1), (5, .row 1105), (6, vi (IntKind.wrap .i64 (s1.1 + 1)))] [(1105, .row 36 S36 s1.2)] [] [] 1106 rfl (by kernel_rfl) c0 ?_))
      exact ih1 _ (Option.some.inj hF1).symm
  · replace hF1 := ifn h2 hF1
    refine run_exit rfl rfl (tm (ρ' := [(5, .row 1105)]) (H' := [(1105, .row 36 S36 s1.2)]) (by kernel_rfl) (by kernel_rfl) rfl ?_)
    exact J1_0 _ (inrI hr1 hF1).symm
noncomputable def F_congressref04_Entries_b1 (x0 : (List S36.ty)) (x1 : (List S36.ty)) (s1 : Int) : Option (Int ⊕ (Bool ⊕ Unit)) :=
  if (decide (s1 < ((List.length x0 : Nat) : Int))) = true then if 0 ≤ s1 ∧ s1 < ((List.length x0 : Nat) : Int) then (if 0 ≤ s1 ∧ s1 < ((List.length x1 : Nat) : Int) then (if (!(Sh.eqb S36 (List.getD x0 (Int.toNat s1) S36.dflt) (List.getD x1 (Int.toNat s1) S36.dflt))) = true then some (Sum.inr (Sum.inl false)) else some (Sum.inl (IntKind.wrap .i64 (s1 + 1)))) else none) else none else some (Sum.inr (Sum.inr ()))
noncomputable def F_congressref04_Entries (x0 : (List S36.ty)) (x1 : (List S36.ty)) : Option Bool :=
  if (((List.length x0 : Nat) : Int) != ((List.length x1 : Nat) : Int)) = true then some false else (loopO (F_congressref04_Entries_b1 x0 x1) 0).bind (Sum.elim some (fun j11 => some true))
theorem W_congressref04_Entries {x0 : (List S36.ty)} {x1 : (List S36.ty)} {y : Bool} (hF0 : F_congressref04_Entries x0 x1 = some y) : Pure Try.prog 12 [.v (.sl S36) x0, .v (.sl S36) x1] (vb y) := by
  unfold F_congressref04_Entries at hF0
  refine pure_of_run @Try.call12 @Try.func12 rfl rfl fun w M ho => ?_
  refine sq rfl (rg [(0, .v (.sl S36) x0), (1, .v (.sl S36) x1)] [] [] [] 0 rfl (by kernel_rfl) c0 (sq rfl (sq rfl (rg [(0, .v (.sl S36) x0), (1, .v (.sl S36) x1), (10, vb (((List.length x0 : Nat) : Int) != ((List.length x1 : Nat) : Int)))] [] [] [] 0 rfl (by kernel_rfl) c0 ?_))))
  refine run_if rfl rfl (fun h1 => ?_) (fun h1 => ?_)
  · replace hF0 := ift h1 hF0
    refine sq rfl (rg [(4, vb false)] [] [] [] 0 rfl (by kernel_rfl) c0 ?_)
    obtain rfl := Option.some.inj hF0
    exact ret_pure (q := [vb false]) [.bool] rfl rfl (by kernel_rfl)
  · replace hF0 := ifn h1 hF0
    refine sk rfl (sq rfl (sq rfl (rg [(0, .v (.sl S36) x0), (1, .v (.sl S36) x1), (5, vi 0)] [] [] [] 0 rfl (by kernel_rfl) c0 (bk rfl ?_))))
    obtain ⟨r1, hl1, hF0⟩ := obd hF0
    refine run_cutx 0 rfl (fun j11 => r1 = Sum.inr j11) (fun j11 => []) (fun j11 => []) (fun j11 h2 => ?_) (fun J1_1 => ?_)
    · subst h2
      replace hF0 := sumR hF0
      refine sq rfl (rg [(4, vb true)] [] [] [] 0 rfl (by kernel_rfl) c0 ?_)
      obtain rfl := Option.some.inj hF0
      exact ret_pure (q := [vb true]) [.bool] rfl rfl (by kernel_rfl)
    refine run_loop rfl (run_loopO hl1 (fun s1 => [(0, .v (.sl S36) x0), (1, .v (.sl S36) x1), (5, vi s1)]) (fun s1 => []) rfl rfl (fun s1 o1 hF1 ih1 hr1 => ?_))
    unfold F_congressref04_Entries_b1 at hF1
    refine run_again (sq rfl (sq rfl (rg [(0, .v (.sl S36) x0), (1, .v (.sl S36) x1), (5, vi s1), (14, vb (decide (s1 < ((List.length x0 : Nat) : Int))))] [] [] [] 0 rfl (by kernel_rfl) c0 ?_)))
    refine run_if rfl rfl (fun h3 => ?_) (fun h3 => ?_)
    · replace hF1 := ift h3 hF1
      refine sk rfl (sq rfl (bk rfl (sq rfl ?_)))
      obtain ⟨h4, hF1⟩ := ifg hF1
      obtain ⟨h5, hF1⟩ := ifg hF1
      refine rG [(0, .v (.sl S36) x0), (1, .v (.sl S36) x1), (5, vi s1), (25, vb (!(Sh.eqb S36 (List.getD x0 (Int.toNat s1) S36.dflt) (List.getD x1 (Int.toNat s1) S36.dflt))))] [] [] [] 0 rfl rfl (by kernel_rfl) (cc h4 (cc h5 c0)) ?_
      refine run_if rfl rfl (fun h6 => ?_) (fun h6 => ?_)
      · replace hF1 := ift h6 hF1
        refine sq rfl (rg [(4, vb false)] [] [] [] 0 rfl (by kernel_rfl) c0 ?_)
        have e1 := inrI hr1 hF1
        subst e1
        replace hF0 := sumL hF0
        obtain rfl := Option.some.inj hF0
        exact ret_pure (q := [vb false]) [.bool] rfl rfl (by kernel_rfl)
      · replace hF1 := ifn h6 hF1
        refine sk rfl (eb (rg [(0, .v (.sl S36) x0), (1, .v (.sl S36) x1), (5, vi (IntKind.wrap .i64 (s1 + 1)))] [] [] [] 0 rfl (by kernel_rfl) c0 ?_))
        exact ih1 _ (Option.some.inj hF1).symm
    · replace hF1 := ifn h3 hF1
      refine run_exit rfl rfl (tm (ρ' := []) (H' := []) (by kernel_rfl) (by kernel_rfl) rfl ?_)
      exact J1_1 _ (inrI hr1 hF1).symm
noncomputable def F_congressref19_Fill_b1 (x2 : Int) (s1 : ((List S36.ty) × Int × Int × (List S36.ty))) : Option (((List S36.ty) × Int × Int × (List S36.ty)) ⊕ ((List S36.ty) × Int × (List S36.ty))) :=
  (show Option Bool from if (decide (s1.2.2.1 < x2)) = true then some (decide (s1.2.2.1 < 16)) else some false).bind (fun r2 => if (r2) = true then (F_congressref19_Turn s1.1 s1.2.1).bind fun t1 => (if (!t1.2) = true then some (Sum.inr (s1.1, s1.2.1, s1.2.2.2)) else if 0 ≤ t1.1 ∧ t1.1 < ((List.length s1.1 : Nat) : Int) then (if apOk (List.length s1.2.2.2 + 1) 56 then (if ((0 : Int) ≤ t1.1 ∧ 0 ≤ Int.toNat t1.1 ∧ Int.toNat t1.1 ≤ List.length s1.1) then (if apOk (0 + (List.length (List.drop 0 (List.take (Int.toNat t1.1) s1.1)))) 56 then (if ((0 : Int) ≤ IntKind.wrap .i64 (t1.1 + 1) ∧ Int.toNat (IntKind.wrap .i64 (t1.1 + 1)) ≤ List.length s1.1 ∧ List.length s1.1 ≤ List.length s1.1) then (if apOk (List.length ([] ++ (List.drop 0 (List.take (Int.toNat t1.1) s1.1))) + (List.length (List.drop (Int.toNat (IntKind.wrap .i64 (t1.1 + 1))) (List.take (List.length s1.1) s1.1)))) 56 then (some (Sum.inl (([] ++ (List.drop 0 (List.take (Int.toNat t1.1) s1.1))) ++ (List.drop (Int.toNat (IntKind.wrap .i64 (t1.1 + 1))) (List.take (List.length s1.1) s1.1)), ((((List.getD s1.1 (Int.toNat t1.1) S36.dflt).2).2).2).1, IntKind.wrap .i64 (s1.2.2.1 + 1), s1.2.2.2 ++ [List.getD s1.1 (Int.toNat t1.1) S36.dflt]))) else none) else none) else none) else none) else none) else none) else some (Sum.inr (s1.1, s1.2.1, s1.2.2.2)))
noncomputable def F_congressref19_Fill (x0 : (List S36.ty)) (x1 : Int) (x2 : Int) : Option ((List S36.ty) × (List S36.ty) × Int) :=
  (loopO (F_congressref19_Fill_b1 x2) (x0, x1, 0, [])).bind (fun r1 => some (r1.2.2, r1.1, r1.2.1))
theorem W_congressref19_Fill {x0 : (List S36.ty)} {x1 : Int} {x2 : Int} {y : ((List S36.ty) × (List S36.ty) × Int)} (hF0 : F_congressref19_Fill x0 x1 x2 = some y) : Pure Try.prog 11 [.v (.sl S36) x0, vu x1, vi x2] (.tup [.v (.sl S36) y.1, .v (.sl S36) y.2.1, vu y.2.2]) := by
  unfold F_congressref19_Fill at hF0
  refine pure_of_run @Try.call11 @Try.func11 rfl rfl fun w M ho => ?_
  refine sq rfl (rg [(0, .v (.sl S36) x0), (1, vu x1), (2, vi x2)] [] [] [] 0 rfl (by kernel_rfl) c0 (sq rfl (rg [(0, .v (.sl S36) x0), (1, vu x1), (2, vi x2), (9, .row 0)] [(0, .row 36 S36 [])] [] [] 0 rfl (by kernel_rfl) c0 (sq rfl (sq rfl (rg [(0, .v (.sl S36) x0), (1, vu x1), (2, vi x2), (9, .row 0), (10, vi 0)] [(0, .row 36 S36 [])] [] [] 1 rfl (by kernel_rfl) c0 (bk rfl (run_ren (ρ' := [(0, .v (.sl S36) x0), (1, vu x1), (2, vi x2), (9, .row 1109), (10, vi 0)]) (H' := [(1109, .row 36 S36 [])]) 0 1109 rfl (by kernel_rfl) rfl (by kernel_rfl) rfl ?_))))))))
  obtain ⟨r1, hl1, hF0⟩ := obd hF0
  refine run_cutx 0 rfl (fun r1' => r1 = r1') (fun r1 => [(0, .v (.sl S36) r1.1), (1, vu r1.2.1), (9, .row 1109)]) (fun r1 => [(1109, .row 36 S36 r1.2.2)]) (fun r1' h1 => ?_) (fun J1_0 => ?_)
  · subst h1
    refine sq rfl (rg [(6, .row 1109), (7, .v (.sl S36) r1.1), (8, vu r1.2.1)] [(1109, .row 36 S36 r1.2.2)] [] [] 1110 rfl (by kernel_rfl) c0 ?_)
    obtain rfl := Option.some.inj hF0
    refine run_frz (ρ' := [(6, .v (.sl S36) r1.2.2), (7, .v (.sl S36) r1.1), (8, vu r1.2.1)]) (H' := []) 1109 rfl rfl rfl (by kernel_rfl) (by kernel_rfl) ?_
    exact ret_pure (q := [.v (.sl S36) r1.2.2, .v (.sl S36) r1.1, vu r1.2.1]) [(.sl S36), (.sl S36), (.int .u64)] rfl rfl (by kernel_rfl)
  refine run_loop rfl (run_loopO hl1 (fun s1 => [(0, .v (.sl S36) s1.1), (1, vu s1.2.1), (2, vi x2), (9, .row 1109), (10, vi s1.2.2.1)]) (fun s1 => [(1109, .row 36 S36 s1.2.2.2)]) rfl rfl (fun s1 o1 hF1 ih1 hr1 => ?_))
  unfold F_congressref19_Fill_b1 at hF1
  refine run_again (sq rfl (sq rfl ?_))
  obtain ⟨r2, hF2, hF1⟩ := obd hF1
  refine run_cut (fun r2' => r2 = r2') (fun r2 => [(0, .v (.sl S36) s1.1), (1, vu s1.2.1), (2, vi x2), (9, .row 1109), (10, vi s1.2.2.1), (22, vb r2)]) (fun r2 => [(1109, .row 36 S36 s1.2.2.2)]) (fun r2' h2 => ?_) (fun J2_0 => ?_)
  · subst h2
    refine run_if rfl rfl (fun h3 => ?_) (fun h3 => ?_)
    · replace hF1 := ift h3 hF1
      refine sk rfl (sq rfl (bk rfl (sq rfl ?_)))
      obtain ⟨t1, h4, hF1⟩ := obd hF1
      refine rg [(0, .v (.sl S36) s1.1), (1, vu s1.2.1), (2, vi x2), (9, .row 1109), (10, vi s1.2.2.1), (11, vi t1.1), (12, vb t1.2)] [(1109, .row 36 S36 s1.2.2.2)] [(2, ⟨[.v (.sl S36), .v (.int .u64)], .tup [vi t1.1, vb t1.2], none⟩)] [] 1110 rfl (by kernel_rfl) (cc (W_congressref19_Turn h4) c0) (sq rfl (sq rfl (rg [(0, .v (.sl S36) s1.1), (1, vu s1.2.1), (2, vi x2), (9, .row 1109), (10, vi s1.2.2.1), (11, vi t1.1), (32, vb (!t1.2))] [(1109, .row 36 S36 s1.2.2.2)] [] [] 1110 rfl (by kernel_rfl) c0 ?_)))
      refine run_if rfl rfl (fun h5 => ?_) (fun h5 => ?_)
      · replace hF1 := ift h5 hF1
        refine run_exit rfl rfl (tm (ρ' := [(0, .v (.sl S36) s1.1), (1, vu s1.2.1), (9, .row 1109)]) (H' := [(1109, .row 36 S36 s1.2.2.2)]) (by kernel_rfl) (by kernel_rfl) rfl ?_)
        exact J1_0 _ (inrI hr1 hF1).symm
      · replace hF1 := ifn h5 hF1
        refine sk rfl (sq rfl ?_)
        obtain ⟨h6, hF1⟩ := ifg hF1
        refine rg [(0, .v (.sl S36) s1.1), (2, vi x2), (9, .row 1109), (10, vi s1.2.2.1), (11, vi t1.1), (13, .ptr 1190 [] 0)] [(1109, .row 36 S36 s1.2.2.2), (1190, .var 36 S36 (List.getD s1.1 (Int.toNat t1.1) S36.dflt))] [] [] 1110 rfl (by kernel_rfl) (cc h6 c0) (sq rfl ?_)
        obtain ⟨h7, hF1⟩ := ifg hF1
        refine rg [(0, .v (.sl S36) s1.1), (2, vi x2), (9, .row 1251), (10, vi s1.2.2.1), (11, vi t1.1), (13, .ptr 1190 [] 0)] [(1190, .var 36 S36 (List.getD s1.1 (Int.toNat t1.1) S36.dflt)), (1251, .row 36 S36 (s1.2.2.2 ++ [List.getD s1.1 (Int.toNat t1.1) S36.dflt]))] [] [] 1191 rfl (by kernel_rfl) (cc h7.1 (cc h7.2 c0)) (sq rfl (rg [(0, .v (.sl S36) s1.1), (1, vu (((((List.getD s1.1 (Int.toNat t1.1) S36.dflt).2).2).2).1)), (2, vi x2), (9, .row 1251), (10, vi s1.2.2.1), (11, vi t1.1)] [(1251, .row 36 S36 (s1.2.2.2 ++ [List.getD s1.1 (Int.toNat t1.1) S36.dflt]))] [] [] 1252 rfl (by kernel_rfl) c0 (sq rfl ?_)))
        obtain ⟨h8, hF1⟩ := ifg hF1
        obtain ⟨h9, hF1⟩ := ifg hF1
        refine rg [(0, .v (.sl S36) s1.1), (1, vu (((((List.getD s1.1 (Int.toNat t1.1) S36.dflt).2).2).2).1)), (2, vi x2), (9, .row 1251), (10, vi s1.2.2.1), (11, vi t1.1), (14, .row 1332)] [(1251, .row 36 S36 (s1.2.2.2 ++ [List.getD s1.1 (Int.toNat t1.1) S36.dflt])), (1332, .row 36 S36 ([] ++ (List.drop 0 (List.take (Int.toNat t1.1) s1.1))))] [] [] 1252 rfl (by kernel_rfl) (cc h8.1 (cc h8.2.1 (cc h8.2.2 (cc h9.1 (cc h9.2 c0))))) (sq rfl ?_)
        obtain ⟨h10, hF1⟩ := ifg hF1
        obtain ⟨h11, hF1⟩ := ifg hF1
        refine rg [(1, vu (((((List.getD s1.1 (Int.toNat t1.1) S36.dflt).2).2).2).1)), (2, vi x2), (9, .row 1251), (10, vi s1.2.2.1), (14, .row 1433)] [(1251, .row 36 S36 (s1.2.2.2 ++ [List.getD s1.1 (Int.toNat t1.1) S36.dflt])), (1433, .row 36 S36 (([] ++ (List.drop 0 (List.take (Int.toNat t1.1) s1.1))) ++ (List.drop (Int.toNat (IntKind.wrap .i64 (t1.1 + 1))) (List.take (List.length s1.1) s1.1))))] [] [] 1333 rfl (by kernel_rfl) (cc h10.1 (cc h10.2.1 (cc h10.2.2 (cc h11.1 (cc h11.2 c0))))) (rg [(0, .row 1433), (1, vu (((((List.getD s1.1 (Int.toNat t1.1) S36.dflt).2).2).2).1)), (2, vi x2), (9, .row 1251), (10, vi s1.2.2.1)] [(1251, .row 36 S36 (s1.2.2.2 ++ [List.getD s1.1 (Int.toNat t1.1) S36.dflt])), (1433, .row 36 S36 (([] ++ (List.drop 0 (List.take (Int.toNat t1.1) s1.1))) ++ (List.drop (Int.toNat (IntKind.wrap .i64 (t1.1 + 1))) (List.take (List.length s1.1) s1.1))))] [] [] 1434 rfl (by kernel_rfl) c0 (eb (rg [(0, .row 1433), (1, vu (((((List.getD s1.1 (Int.toNat t1.1) S36.dflt).2).2).2).1)), (2, vi x2), (9, .row 1251), (10, vi (IntKind.wrap .i64 (s1.2.2.1 + 1)))] [(1251, .row 36 S36 (s1.2.2.2 ++ [List.getD s1.1 (Int.toNat t1.1) S36.dflt])), (1433, .row 36 S36 (([] ++ (List.drop 0 (List.take (Int.toNat t1.1) s1.1))) ++ (List.drop (Int.toNat (IntKind.wrap .i64 (t1.1 + 1))) (List.take (List.length s1.1) s1.1))))] [] [] 1434 rfl (by kernel_rfl) c0 (run_frz (ρ' := [(0, .v (.sl S36) (([] ++ (List.drop 0 (List.take (Int.toNat t1.1) s1.1))) ++ (List.drop (Int.toNat (IntKind.wrap .i64 (t1.1 + 1))) (List.take (List.length s1.1) s1.1)))), (1, vu (((((List.getD s1.1 (Int.toNat t1.1) S36.dflt).2).2).2).1)), (2, vi x2), (9, .row 1251), (10, vi (IntKind.wrap .i64 (s1.2.2.1 + 1)))]) (H' := [(1251, .row 36 S36 (s1.2.2.2 ++ [List.getD s1.1 (Int.toNat t1.1) S36.dflt]))]) 1433 rfl rfl rfl (by kernel_rfl) (by kernel_rfl) (run_ren (ρ' := [(0, .v (.sl S36) (([] ++ (List.drop 0 (List.take (Int.toNat t1.1) s1.1))) ++ (List.drop (Int.toNat (IntKind.wrap .i64 (t1.1 + 1))) (List.take (List.length s1.1) s1.1)))), (1, vu (((((List.getD s1.1 (Int.toNat t1.1) S36.dflt).2).2).2).1)), (2, vi x2), (9, .row 1109), (10, vi (IntKind.wrap .i64 (s1.2.2.1 + 1)))]) (H' := [(1109, .row 36 S36 (s1.2.2.2 ++ [List.getD s1.1 (Int.toNat t1.1) S36.dflt]))]) 1251 1109 rfl (by kernel_rfl) rfl (by kernel_rfl) rfl ?_)))))
        exact ih1 _ (Option.some.inj hF1).symm
    · replace hF1 := ifn h3 hF1
      refine run_exit rfl rfl (tm (ρ' := [(0, .v (.sl S36) s1.1), (1, vu s1.2.1), (9, .row 1109)]) (H' := [(1109, .row 36 S36 s1.2.2.2)]) (by kernel_rfl) (by kernel_rfl) rfl ?_)
      exact J1_0 _ (inrI hr1 hF1).symm
  rcases Bool.eq_false_or_eq_true (decide (s1.2.2.1 < x2)) with h12 | h12
  · replace hF2 := ift h12 hF2
    refine rg [(0, .v (.sl S36) s1.1), (1, vu s1.2.1), (2, vi x2), (9, .row 1109), (10, vi s1.2.2.1), (22, vb (decide (s1.2.2.1 < 16)))] [(1109, .row 36 S36 s1.2.2.2)] [] [(3, true)] 1110 rfl (by kernel_rfl) (cc h12 c0) ?_
    exact J2_0 _ (Option.some.inj hF2).symm
  · replace hF2 := ifn h12 hF2
    refine rg [(0, .v (.sl S36) s1.1), (1, vu s1.2.1), (2, vi x2), (9, .row 1109), (10, vi s1.2.2.1), (22, vb false)] [(1109, .row 36 S36 s1.2.2.2)] [] [(3, false)] 1110 rfl (by kernel_rfl) (cc h12 c0) ?_
    exact J2_0 _ (Option.some.inj hF2).symm
noncomputable def F_congresslaw19_some_b1 (x0 : (List Int)) (s1 : (Int × (List S36.ty))) : Option ((Int × (List S36.ty)) ⊕ (List S36.ty)) :=
  if (decide (s1.1 < ((List.length x0 : Nat) : Int))) = true then if 0 ≤ s1.1 ∧ s1.1 < ((List.length x0 : Nat) : Int) then (if apOk (List.length s1.2 + 1) 56 then (some (Sum.inl (IntKind.wrap .i64 (s1.1 + 1), s1.2 ++ [(1, (0, (0, (List.getD x0 (Int.toNat s1.1) 0, (IntKind.wrap .u64 s1.1, [])))))]))) else none) else none else some (Sum.inr s1.2)
noncomputable def F_congresslaw19_some (x0 : (List Int)) : Option (List S36.ty) :=
  (loopO (F_congresslaw19_some_b1 x0) (0, [])).bind (fun r1 => some r1)
theorem W_congresslaw19_some {x0 : (List Int)} {y : (List S36.ty)} (hF0 : F_congresslaw19_some x0 = some y) : Pure Try.prog 17 [.v (.sl (.int .u64)) x0] (.v (.sl S36) y) := by
  unfold F_congresslaw19_some at hF0
  refine pure_of_run @Try.call17 @Try.func17 rfl rfl fun w M ho => ?_
  refine sq rfl (rg [(0, .v (.sl (.int .u64)) x0)] [] [] [] 0 rfl (by kernel_rfl) c0 (sq rfl (rg [(0, .v (.sl (.int .u64)) x0), (3, .row 0)] [(0, .row 36 S36 [])] [] [] 0 rfl (by kernel_rfl) c0 (sq rfl (sq rfl (rg [(0, .v (.sl (.int .u64)) x0), (3, .row 0), (4, vi 0)] [(0, .row 36 S36 [])] [] [] 1 rfl (by kernel_rfl) c0 (bk rfl (run_ren (ρ' := [(0, .v (.sl (.int .u64)) x0), (3, .row 1103), (4, vi 0)]) (H' := [(1103, .row 36 S36 [])]) 0 1103 rfl (by kernel_rfl) rfl (by kernel_rfl) rfl ?_))))))))
  obtain ⟨r1, hl1, hF0⟩ := obd hF0
  refine run_cutx 0 rfl (fun r1' => r1 = r1') (fun r1 => [(3, .row 1103)]) (fun r1 => [(1103, .row 36 S36 r1)]) (fun r1' h1 => ?_) (fun J1_0 => ?_)
  · subst h1
    refine sq rfl (rg [(2, .row 1103)] [(1103, .row 36 S36 r1)] [] [] 1104 rfl (by kernel_rfl) c0 ?_)
    obtain rfl := Option.some.inj hF0
    refine run_frz (ρ' := [(2, .v (.sl S36) r1)]) (H' := []) 1103 rfl rfl rfl (by kernel_rfl) (by kernel_rfl) ?_
    exact ret_pure (q := [.v (.sl S36) r1]) [(.sl S36)] rfl rfl (by kernel_rfl)
  refine run_loop rfl (run_loopO hl1 (fun s1 => [(0, .v (.sl (.int .u64)) x0), (3, .row 1103), (4, vi s1.1)]) (fun s1 => [(1103, .row 36 S36 s1.2)]) rfl rfl (fun s1 o1 hF1 ih1 hr1 => ?_))
  unfold F_congresslaw19_some_b1 at hF1
  refine run_again (sq rfl (sq rfl (rg [(0, .v (.sl (.int .u64)) x0), (3, .row 1103), (4, vi s1.1), (9, vb (decide (s1.1 < ((List.length x0 : Nat) : Int))))] [(1103, .row 36 S36 s1.2)] [] [] 1104 rfl (by kernel_rfl) c0 ?_)))
  refine run_if rfl rfl (fun h2 => ?_) (fun h2 => ?_)
  · replace hF1 := ift h2 hF1
    refine sk rfl (sq rfl (bk rfl ?_))
    obtain ⟨h3, hF1⟩ := ifg hF1
    obtain ⟨h4, hF1⟩ := ifg hF1
    refine rg [(0, .v (.sl (.int .u64)) x0), (3, .row 1284), (4, vi s1.1)] [(1284, .row 36 S36 (s1.2 ++ [(1, (0, (0, (List.getD x0 (Int.toNat s1.1) 0, (IntKind.wrap .u64 s1.1, [])))))]))] [] [] 1104 rfl (by kernel_rfl) (cc h3 (cc h4.1 (cc h4.2 c0))) (eb (rg [(0, .v (.sl (.int .u64)) x0), (3, .row 1284), (4, vi (IntKind.wrap .i64 (s1.1 + 1)))] [(1284, .row 36 S36 (s1.2 ++ [(1, (0, (0, (List.getD x0 (Int.toNat s1.1) 0, (IntKind.wrap .u64 s1.1, [])))))]))] [] [] 1285 rfl (by kernel_rfl) c0 (run_ren (ρ' := [(0, .v (.sl (.int .u64)) x0), (3, .row 1103), (4, vi (IntKind.wrap .i64 (s1.1 + 1)))]) (H' := [(1103, .row 36 S36 (s1.2 ++ [(1, (0, (0, (List.getD x0 (Int.toNat s1.1) 0, (IntKind.wrap .u64 s1.1, [])))))]))]) 1284 1103 rfl (by kernel_rfl) rfl (by kernel_rfl) rfl ?_)))
    exact ih1 _ (Option.some.inj hF1).symm
  · replace hF1 := ifn h2 hF1
    refine run_exit rfl rfl (tm (ρ' := [(3, .row 1103)]) (H' := [(1103, .row 36 S36 s1.2)]) (by kernel_rfl) (by kernel_rfl) rfl ?_)
    exact J1_0 _ (inrI hr1 hF1).symm
noncomputable def F_sched_Sessions_b1 (x0 : (List S36.ty)) (s1 : (Int × (List Int))) : Option ((Int × (List Int)) ⊕ (List Int)) :=
  if (decide (s1.1 < ((List.length x0 : Nat) : Int))) = true then if 0 ≤ s1.1 ∧ s1.1 < ((List.length x0 : Nat) : Int) then (if apOk (List.length s1.2 + 1) 8 then (some (Sum.inl (IntKind.wrap .i64 (s1.1 + 1), s1.2 ++ [((((List.getD x0 (Int.toNat s1.1) S36.dflt).2).2).2).1]))) else none) else none else some (Sum.inr s1.2)
noncomputable def F_sched_Sessions (x0 : (List S36.ty)) : Option (List Int) :=
  (loopO (F_sched_Sessions_b1 x0) (0, [])).bind (fun r1 => (F_slices_Sort_uint64_uint64 r1).bind fun t1 => ((F_slices_Compact_uint64_uint64 t1).bind fun t2 => (some t2)))
theorem W_sched_Sessions {x0 : (List S36.ty)} {y : (List Int)} (hF0 : F_sched_Sessions x0 = some y) : Pure Try.prog 14 [.v (.sl S36) x0] (.v (.sl (.int .u64)) y) := by
  unfold F_sched_Sessions at hF0
  refine pure_of_run @Try.call14 @Try.func14 rfl rfl fun w M ho => ?_
  refine sq rfl (rg [(0, .v (.sl S36) x0)] [] [] [] 0 rfl (by kernel_rfl) c0 (sq rfl (rg [(0, .v (.sl S36) x0), (3, .v (.nl .any) ())] [] [] [] 0 rfl (by kernel_rfl) c0 (sq rfl (sq rfl (rg [(3, .v (.nl .any) ()), (6, .v (.sl S36) x0), (7, vi ((List.length x0 : Nat) : Int)), (8, vi 0)] [] [] [] 0 rfl (by kernel_rfl) c0 (bk rfl (run_nilrow (ρ' := [(3, .row 1103), (6, .v (.sl S36) x0), (7, vi ((List.length x0 : Nat) : Int)), (8, vi 0)]) 3 1103 23 (.int .u64) rfl (by kernel_rfl) (by kernel_rfl) ?_))))))))
  obtain ⟨r1, hl1, hF0⟩ := obd hF0
  refine run_cutx 0 rfl (fun r1' => r1 = r1') (fun r1 => [(3, .row 1103)]) (fun r1 => [(1103, .row 23 (.int .u64) r1)]) (fun r1' h1 => ?_) (fun J1_0 => ?_)
  · subst h1
    refine sq rfl ?_
    obtain ⟨t1, h2, hF0⟩ := obd hF0
    refine rg [(3, .row 1103)] [(1103, .row 23 (.int .u64) t1)] [(1, ⟨[.v .unit], .tup [], some ([1103], [(0, .row 23 (.int .u64) t1)])⟩)] [] 1104 rfl (by kernel_rfl) (cc (W_slices_Sort_uint64_uint64 h2) c0) (sq rfl ?_)
    obtain ⟨t2, h3, hF0⟩ := obd hF0
    refine rg [(2, .row 1125)] [(1125, .row 23 (.int .u64) t2)] [(1, ⟨[.v .unit], .row 1, some ([1103], [(1, .row 23 (.int .u64) t2)])⟩)] [] 1104 rfl (by kernel_rfl) (cc (W_slices_Compact_uint64_uint64 h3) c0) ?_
    obtain rfl := Option.some.inj hF0
    refine run_frz (ρ' := [(2, .v (.sl (.int .u64)) t2)]) (H' := []) 1125 rfl rfl rfl (by kernel_rfl) (by kernel_rfl) ?_
    exact ret_pure (q := [.v (.sl (.int .u64)) t2]) [(.sl (.int .u64))] rfl rfl (by kernel_rfl)
  refine run_loop rfl (run_loopO hl1 (fun s1 => [(3, .row 1103), (6, .v (.sl S36) x0), (7, vi ((List.length x0 : Nat) : Int)), (8, vi s1.1)]) (fun s1 => [(1103, .row 23 (.int .u64) s1.2)]) rfl rfl (fun s1 o1 hF1 ih1 hr1 => ?_))
  unfold F_sched_Sessions_b1 at hF1
  refine run_again (sq rfl (rg [(3, .row 1103), (6, .v (.sl S36) x0), (7, vi ((List.length x0 : Nat) : Int)), (8, vi s1.1), (9, vb (decide (s1.1 < ((List.length x0 : Nat) : Int))))] [(1103, .row 23 (.int .u64) s1.2)] [] [] 1104 rfl (by kernel_rfl) c0 (sq rfl ?_)))
  refine run_if rfl rfl (fun h4 => ?_) (fun h4 => ?_)
  · replace hF1 := ift h4 hF1
    refine sk rfl (sq rfl (bk rfl (sq rfl ?_)))
    obtain ⟨h5, hF1⟩ := ifg hF1
    refine rg [(3, .row 1103), (5, .ptr 1144 [] 0), (6, .v (.sl S36) x0), (7, vi ((List.length x0 : Nat) : Int)), (8, vi s1.1)] [(1103, .row 23 (.int .u64) s1.2), (1144, .var 36 S36 (List.getD x0 (Int.toNat s1.1) S36.dflt))] [] [] 1104 rfl (by kernel_rfl) (cc h5 c0) ?_
    obtain ⟨h6, hF1⟩ := ifg hF1
    refine rg [(3, .row 1225), (6, .v (.sl S36) x0), (7, vi ((List.length x0 : Nat) : Int)), (8, vi s1.1)] [(1225, .row 23 (.int .u64) (s1.2 ++ [((((List.getD x0 (Int.toNat s1.1) S36.dflt).2).2).2).1]))] [] [] 1145 rfl (by kernel_rfl) (cc h6.1 (cc h6.2 c0)) (eb (rg [(3, .row 1225), (6, .v (.sl S36) x0), (7, vi ((List.length x0 : Nat) : Int)), (8, vi (IntKind.wrap .i64 (s1.1 + 1)))] [(1225, .row 23 (.int .u64) (s1.2 ++ [((((List.getD x0 (Int.toNat s1.1) S36.dflt).2).2).2).1]))] [] [] 1226 rfl (by kernel_rfl) c0 (run_ren (ρ' := [(3, .row 1103), (6, .v (.sl S36) x0), (7, vi ((List.length x0 : Nat) : Int)), (8, vi (IntKind.wrap .i64 (s1.1 + 1)))]) (H' := [(1103, .row 23 (.int .u64) (s1.2 ++ [((((List.getD x0 (Int.toNat s1.1) S36.dflt).2).2).2).1]))]) 1225 1103 rfl (by kernel_rfl) rfl (by kernel_rfl) rfl ?_)))
    exact ih1 _ (Option.some.inj hF1).symm
  · replace hF1 := ifn h4 hF1
    refine run_exit rfl rfl (tm (ρ' := [(3, .row 1103)]) (H' := [(1103, .row 23 (.int .u64) s1.2)]) (by kernel_rfl) (by kernel_rfl) rfl ?_)
    exact J1_0 _ (inrI hr1 hF1).symm
noncomputable def F_slices_IndexFunc_uint64_uint64_b1 (x0 : (List Int)) (x1 : (Int → Option Bool)) (s1 : Int) : Option (Int ⊕ (Int ⊕ Unit)) :=
  if (decide (s1 < ((List.length x0 : Nat) : Int))) = true then if 0 ≤ s1 ∧ s1 < ((List.length x0 : Nat) : Int) then (x1 (List.getD x0 (Int.toNat s1) 0)).bind fun t1 => (if (t1) = true then some (Sum.inr (Sum.inl s1)) else some (Sum.inl (IntKind.wrap .i64 (s1 + 1)))) else none else some (Sum.inr (Sum.inr ()))
noncomputable def F_slices_IndexFunc_uint64_uint64 (x0 : (List Int)) (x1 : (Int → Option Bool)) : Option Int :=
  (loopO (F_slices_IndexFunc_uint64_uint64_b1 x0 x1) 0).bind (Sum.elim some (fun j11 => some (-1)))
theorem W_slices_IndexFunc_uint64_uint64 {x0 : (List Int)} {x1 : (Int → Option Bool)} {y : Int} (hF0 : F_slices_IndexFunc_uint64_uint64 x0 x1 = some y) : Pure Try.prog 18 [.v (.sl (.int .u64)) x0, .v (.fn (.int .u64) .bool) x1] (vi y) := by
  unfold F_slices_IndexFunc_uint64_uint64 at hF0
  refine pure_of_run @Try.call18 @Try.func18 rfl rfl fun w M ho => ?_
  refine sq rfl (rg [(0, .v (.sl (.int .u64)) x0), (1, .v (.fn (.int .u64) .bool) x1)] [] [] [] 0 rfl (by kernel_rfl) c0 (sq rfl (sq rfl (rg [(0, .v (.sl (.int .u64)) x0), (1, .v (.fn (.int .u64) .bool) x1), (7, vi ((List.length x0 : Nat) : Int)), (8, vi 0)] [] [] [] 0 rfl (by kernel_rfl) c0 (bk rfl ?_)))))
  obtain ⟨r1, hl1, hF0⟩ := obd hF0
  refine run_cutx 0 rfl (fun j11 => r1 = Sum.inr j11) (fun j11 => []) (fun j11 => []) (fun j11 h1 => ?_) (fun J1_1 => ?_)
  · subst h1
    replace hF0 := sumR hF0
    refine sq rfl (rg [(4, vi (-1))] [] [] [] 0 rfl (by kernel_rfl) c0 ?_)
    obtain rfl := Option.some.inj hF0
    exact ret_pure (q := [vi (-1)]) [(.int .i64)] rfl rfl (by kernel_rfl)
  refine run_loop rfl (run_loopO hl1 (fun s1 => [(0, .v (.sl (.int .u64)) x0), (1, .v (.fn (.int .u64) .bool) x1), (7, vi ((List.length x0 : Nat) : Int)), (8, vi s1)]) (fun s1 => []) rfl rfl (fun s1 o1 hF1 ih1 hr1 => ?_))
  unfold F_slices_IndexFunc_uint64_uint64_b1 at hF1
  refine run_again (sq rfl (rg [(0, .v (.sl (.int .u64)) x0), (1, .v (.fn (.int .u64) .bool) x1), (7, vi ((List.length x0 : Nat) : Int)), (8, vi s1), (9, vb (decide (s1 < ((List.length x0 : Nat) : Int))))] [] [] [] 0 rfl (by kernel_rfl) c0 (sq rfl ?_)))
  refine run_if rfl rfl (fun h2 => ?_) (fun h2 => ?_)
  · replace hF1 := ift h2 hF1
    refine sk rfl (sq rfl (bk rfl (sq rfl (rg [(0, .v (.sl (.int .u64)) x0), (1, .v (.fn (.int .u64) .bool) x1), (5, vi s1), (7, vi ((List.length x0 : Nat) : Int)), (8, vi s1)] [] [] [] 0 rfl (by kernel_rfl) c0 (sq rfl ?_)))))
    obtain ⟨h3, hF1⟩ := ifg hF1
    obtain ⟨t1, h4, hF1⟩ := obd hF1
    refine rg [(0, .v (.sl (.int .u64)) x0), (1, .v (.fn (.int .u64) .bool) x1), (5, vi s1), (7, vi ((List.length x0 : Nat) : Int)), (8, vi s1), (16, vb t1)] [] [(5, ⟨[], vb t1, none⟩)] [] 0 rfl (by kernel_rfl) (cc h3 (cc h4 c0)) ?_
    refine run_if rfl rfl (fun h5 => ?_) (fun h5 => ?_)
    · replace hF1 := ift h5 hF1
      refine sq rfl (rg [(4, vi s1)] [] [] [] 0 rfl (by kernel_rfl) c0 ?_)
      have e1 := inrI hr1 hF1
      subst e1
      replace hF0 := sumL hF0
      obtain rfl := Option.some.inj hF0
      exact ret_pure (q := [vi s1]) [(.int .i64)] rfl rfl (by kernel_rfl)
    · replace hF1 := ifn h5 hF1
      refine sk rfl (eb (rg [(0, .v (.sl (.int .u64)) x0), (1, .v (.fn (.int .u64) .bool) x1), (7, vi ((List.length x0 : Nat) : Int)), (8, vi (IntKind.wrap .i64 (s1 + 1)))] [] [] [] 0 rfl (by kernel_rfl) c0 ?_))
      exact ih1 _ (Option.some.inj hF1).symm
  · replace hF1 := ifn h2 hF1
    refine run_exit rfl rfl (tm (ρ' := []) (H' := []) (by kernel_rfl) (by kernel_rfl) rfl ?_)
    exact J1_1 _ (inrI hr1 hF1).symm
noncomputable def F_slices_IndexFunc_api_Entry_api_Entry_b1 (x0 : (List S36.ty)) (x1 : (S36.ty → Option Bool)) (s1 : Int) : Option (Int ⊕ (Int ⊕ Unit)) :=
  if (decide (s1 < ((List.length x0 : Nat) : Int))) = true then if 0 ≤ s1 ∧ s1 < ((List.length x0 : Nat) : Int) then (x1 (List.getD x0 (Int.toNat s1) S36.dflt)).bind fun t1 => (if (t1) = true then some (Sum.inr (Sum.inl s1)) else some (Sum.inl (IntKind.wrap .i64 (s1 + 1)))) else none else some (Sum.inr (Sum.inr ()))
noncomputable def F_slices_IndexFunc_api_Entry_api_Entry (x0 : (List S36.ty)) (x1 : (S36.ty → Option Bool)) : Option Int :=
  (loopO (F_slices_IndexFunc_api_Entry_api_Entry_b1 x0 x1) 0).bind (Sum.elim some (fun j11 => some (-1)))
theorem W_slices_IndexFunc_api_Entry_api_Entry {x0 : (List S36.ty)} {x1 : (S36.ty → Option Bool)} {y : Int} (hF0 : F_slices_IndexFunc_api_Entry_api_Entry x0 x1 = some y) : Pure Try.prog 20 [.v (.sl S36) x0, .v (.fn S36 .bool) x1] (vi y) := by
  unfold F_slices_IndexFunc_api_Entry_api_Entry at hF0
  refine pure_of_run @Try.call20 @Try.func20 rfl rfl fun w M ho => ?_
  refine sq rfl (rg [(0, .v (.sl S36) x0), (1, .v (.fn S36 .bool) x1)] [] [] [] 0 rfl (by kernel_rfl) c0 (sq rfl (sq rfl (rg [(0, .v (.sl S36) x0), (1, .v (.fn S36 .bool) x1), (7, vi ((List.length x0 : Nat) : Int)), (8, vi 0)] [] [] [] 0 rfl (by kernel_rfl) c0 (bk rfl ?_)))))
  obtain ⟨r1, hl1, hF0⟩ := obd hF0
  refine run_cutx 0 rfl (fun j11 => r1 = Sum.inr j11) (fun j11 => []) (fun j11 => []) (fun j11 h1 => ?_) (fun J1_1 => ?_)
  · subst h1
    replace hF0 := sumR hF0
    refine sq rfl (rg [(4, vi (-1))] [] [] [] 0 rfl (by kernel_rfl) c0 ?_)
    obtain rfl := Option.some.inj hF0
    exact ret_pure (q := [vi (-1)]) [(.int .i64)] rfl rfl (by kernel_rfl)
  refine run_loop rfl (run_loopO hl1 (fun s1 => [(0, .v (.sl S36) x0), (1, .v (.fn S36 .bool) x1), (7, vi ((List.length x0 : Nat) : Int)), (8, vi s1)]) (fun s1 => []) rfl rfl (fun s1 o1 hF1 ih1 hr1 => ?_))
  unfold F_slices_IndexFunc_api_Entry_api_Entry_b1 at hF1
  refine run_again (sq rfl (rg [(0, .v (.sl S36) x0), (1, .v (.fn S36 .bool) x1), (7, vi ((List.length x0 : Nat) : Int)), (8, vi s1), (9, vb (decide (s1 < ((List.length x0 : Nat) : Int))))] [] [] [] 0 rfl (by kernel_rfl) c0 (sq rfl ?_)))
  refine run_if rfl rfl (fun h2 => ?_) (fun h2 => ?_)
  · replace hF1 := ift h2 hF1
    refine sk rfl (sq rfl (bk rfl (sq rfl (rg [(0, .v (.sl S36) x0), (1, .v (.fn S36 .bool) x1), (5, vi s1), (7, vi ((List.length x0 : Nat) : Int)), (8, vi s1)] [] [] [] 0 rfl (by kernel_rfl) c0 (sq rfl ?_)))))
    obtain ⟨h3, hF1⟩ := ifg hF1
    obtain ⟨t1, h4, hF1⟩ := obd hF1
    refine rg [(0, .v (.sl S36) x0), (1, .v (.fn S36 .bool) x1), (5, vi s1), (7, vi ((List.length x0 : Nat) : Int)), (8, vi s1), (16, vb t1)] [] [(5, ⟨[], vb t1, none⟩)] [] 0 rfl (by kernel_rfl) (cc h3 (cc h4 c0)) ?_
    refine run_if rfl rfl (fun h5 => ?_) (fun h5 => ?_)
    · replace hF1 := ift h5 hF1
      refine sq rfl (rg [(4, vi s1)] [] [] [] 0 rfl (by kernel_rfl) c0 ?_)
      have e1 := inrI hr1 hF1
      subst e1
      replace hF0 := sumL hF0
      obtain rfl := Option.some.inj hF0
      exact ret_pure (q := [vi s1]) [(.int .i64)] rfl rfl (by kernel_rfl)
    · replace hF1 := ifn h5 hF1
      refine sk rfl (eb (rg [(0, .v (.sl S36) x0), (1, .v (.fn S36 .bool) x1), (7, vi ((List.length x0 : Nat) : Int)), (8, vi (IntKind.wrap .i64 (s1 + 1)))] [] [] [] 0 rfl (by kernel_rfl) c0 ?_))
      exact ih1 _ (Option.some.inj hF1).symm
  · replace hF1 := ifn h2 hF1
    refine run_exit rfl rfl (tm (ρ' := []) (H' := []) (by kernel_rfl) (by kernel_rfl) rfl ?_)
    exact J1_1 _ (inrI hr1 hF1).symm
noncomputable def F_sched_Turn_1 (x0 : Int) (x1 : Int) : Option Bool :=
  some (decide (x0 > x1))
theorem W_sched_Turn_1 {x0 : Int} {x1 : Int} {y : Bool} (hF0 : F_sched_Turn_1 x0 x1 = some y) : Pure Try.prog 19 [vu x0, .fp (.int .u64) x1] (vb y) := by
  unfold F_sched_Turn_1 at hF0
  refine pure_of_run @Try.call19 @Try.func19 rfl rfl fun w M ho => ?_
  refine sq rfl (rg [(0, vu x0), (1, .fp (.int .u64) x1)] [] [] [] 0 rfl (by kernel_rfl) c0 (sq rfl (rg [(3, vb (decide (x0 > x1)))] [] [] [] 0 rfl (by kernel_rfl) c0 ?_)))
  obtain rfl := Option.some.inj hF0
  exact ret_pure (q := [vb (decide (x0 > x1))]) [.bool] rfl rfl (by kernel_rfl)
noncomputable def F_sched_Turn_2 (x0 : S36.ty) (x1 : Int) : Option Bool :=
  some (x0.2.2.2.1 == x1)
theorem W_sched_Turn_2 {x0 : S36.ty} {x1 : Int} {y : Bool} (hF0 : F_sched_Turn_2 x0 x1 = some y) : Pure Try.prog 21 [.v S36 x0, .fp (.int .u64) x1] (vb y) := by
  unfold F_sched_Turn_2 at hF0
  refine pure_of_run @Try.call21 @Try.func21 rfl rfl fun w M ho => ?_
  refine sq rfl (rg [(1, .fp (.int .u64) x1), (2, .ptr 0 [] 0)] [(0, .var 36 S36 x0)] [] [] 0 rfl (by kernel_rfl) c0 (sq rfl (rg [(3, vb (x0.2.2.2.1 == x1))] [] [] [] 1 rfl (by kernel_rfl) c0 ?_)))
  obtain rfl := Option.some.inj hF0
  exact ret_pure (q := [vb (x0.2.2.2.1 == x1)]) [.bool] rfl rfl (by kernel_rfl)
noncomputable def F_sched_Turn (x0 : (List S36.ty)) (x1 : Int) : Option (Int × Bool) :=
  (F_sched_Sessions x0).bind fun t1 => (if (((List.length t1 : Nat) : Int) == 0) = true then some (0, false) else if 0 ≤ (0 : Int) ∧ (0 : Int) < ((List.length t1 : Nat) : Int) then (F_slices_IndexFunc_uint64_uint64 t1 (fun x => F_sched_Turn_1 x x1)).bind fun t2 => (if (decide (t2 ≥ 0)) = true then if 0 ≤ t2 ∧ t2 < ((List.length t1 : Nat) : Int) then (F_slices_IndexFunc_api_Entry_api_Entry x0 (fun x => F_sched_Turn_2 x (List.getD t1 (Int.toNat t2) 0))).bind fun t3 => (some (t3, true)) else none else (F_slices_IndexFunc_api_Entry_api_Entry x0 (fun x => F_sched_Turn_2 x (List.getD t1 (Int.toNat 0) 0))).bind fun t4 => (some (t4, true))) else none)
theorem W_sched_Turn {x0 : (List S36.ty)} {x1 : Int} {y : (Int × Bool)} (hF0 : F_sched_Turn x0 x1 = some y) : Pure Try.prog 8 [.v (.sl S36) x0, vu x1] (.tup [vi y.1, vb y.2]) := by
  unfold F_sched_Turn at hF0
  refine pure_of_run @Try.call8 @Try.func8 rfl rfl fun w M ho => ?_
  refine sq rfl (rg [(0, .v (.sl S36) x0), (3, .ptr 0 [] 0)] [(0, .var 23 (.int .u64) x1)] [] [] 0 rfl (by kernel_rfl) c0 (sq rfl ?_))
  obtain ⟨t1, h1, hF0⟩ := obd hF0
  refine rg [(0, .v (.sl S36) x0), (3, .ptr 0 [] 0), (6, .v (.sl (.int .u64)) t1)] [(0, .var 23 (.int .u64) x1)] [(1, ⟨[.v (.sl S36)], .v (.sl (.int .u64)) t1, none⟩)] [] 1 rfl (by kernel_rfl) (cc (W_sched_Sessions h1) c0) (sq rfl (sq rfl (rg [(0, .v (.sl S36) x0), (3, .ptr 0 [] 0), (6, .v (.sl (.int .u64)) t1), (13, vb (((List.length t1 : Nat) : Int) == 0))] [(0, .var 23 (.int .u64) x1)] [] [] 1 rfl (by kernel_rfl) c0 ?_)))
  refine run_if rfl rfl (fun h2 => ?_) (fun h2 => ?_)
  · replace hF0 := ift h2 hF0
    refine sq rfl (rg [(4, vi 0), (5, vb false)] [] [] [] 1 rfl (by kernel_rfl) c0 ?_)
    obtain rfl := Option.some.inj hF0
    exact ret_pure (q := [vi 0, vb false]) [(.int .i64), .bool] rfl rfl (by kernel_rfl)
  · replace hF0 := ifn h2 hF0
    refine sk rfl (sq rfl ?_)
    obtain ⟨h3, hF0⟩ := ifg hF0
    refine rg [(0, .v (.sl S36) x0), (3, .ptr 0 [] 0), (6, .v (.sl (.int .u64)) t1), (7, .ptr 61 [] 0)] [(0, .var 23 (.int .u64) x1), (61, .var 23 (.int .u64) (List.getD t1 (Int.toNat 0) 0))] [] [] 1 rfl (by kernel_rfl) (cc h3 c0) (sq rfl (sq rfl ?_))
    obtain ⟨t2, h4, hF0⟩ := obd hF0
    refine rg [(0, .v (.sl S36) x0), (6, .v (.sl (.int .u64)) t1), (7, .ptr 61 [] 0), (8, vi t2)] [(61, .var 23 (.int .u64) (List.getD t1 (Int.toNat 0) 0))] [(2, ⟨[.v (.sl (.int .u64)), .fn (.int .u64) .bool (fun x => F_sched_Turn_1 x x1)], vi t2, none⟩)] [] 62 rfl (by kernel_rfl) (cc (show Enters Try.prog 19 from Try.call19) (cc (show ∀ x y, (fun x => F_sched_Turn_1 x x1) x = some y → Pure Try.prog 19 (.v (.int .u64) x :: [.fp (.int .u64) x1]) (.v .bool y) from fun x y h => W_sched_Turn_1 h) (cc (W_slices_IndexFunc_uint64_uint64 h4) c0))) (sq rfl (rg [(0, .v (.sl S36) x0), (6, .v (.sl (.int .u64)) t1), (7, .ptr 61 [] 0), (8, vi t2), (21, vb (decide (t2 ≥ 0)))] [(61, .var 23 (.int .u64) (List.getD t1 (Int.toNat 0) 0))] [] [] 62 rfl (by kernel_rfl) c0 ?_))
    refine run_if rfl rfl (fun h5 => ?_) (fun h5 => ?_)
    · replace hF0 := ift h5 hF0
      obtain ⟨h1, hF0⟩ := ifg hF0
      refine rg [(0, .v (.sl S36) x0), (7, .ptr 61 [] 0)] [(61, .var 23 (.int .u64) (List.getD t1 (Int.toNat t2) 0))] [] [] 62 rfl (by kernel_rfl) (cc h1 c0) (sq rfl ?_)
      obtain ⟨t3, h6, hF0⟩ := obd hF0
      refine rg [(4, vi t3), (5, vb true)] [] [(2, ⟨[.v (.sl S36), .fn S36 .bool (fun x => F_sched_Turn_2 x (List.getD t1 (Int.toNat t2) 0))], vi t3, none⟩)] [] 62 rfl (by kernel_rfl) (cc (show Enters Try.prog 21 from Try.call21) (cc (show ∀ x y, (fun x => F_sched_Turn_2 x (List.getD t1 (Int.toNat t2) 0)) x = some y → Pure Try.prog 21 (.v S36 x :: [.fp (.int .u64) (List.getD t1 (Int.toNat t2) 0)]) (.v .bool y) from fun x y h => W_sched_Turn_2 h) (cc (W_slices_IndexFunc_api_Entry_api_Entry h6) c0))) ?_
      obtain rfl := Option.some.inj hF0
      exact ret_pure (q := [vi t3, vb true]) [(.int .i64), .bool] rfl rfl (by kernel_rfl)
    · replace hF0 := ifn h5 hF0
      refine sk rfl (sq rfl ?_)
      obtain ⟨t4, h7, hF0⟩ := obd hF0
      refine rg [(4, vi t4), (5, vb true)] [] [(2, ⟨[.v (.sl S36), .fn S36 .bool (fun x => F_sched_Turn_2 x (List.getD t1 (Int.toNat 0) 0))], vi t4, none⟩)] [] 62 rfl (by kernel_rfl) (cc (show Enters Try.prog 21 from Try.call21) (cc (show ∀ x y, (fun x => F_sched_Turn_2 x (List.getD t1 (Int.toNat 0) 0)) x = some y → Pure Try.prog 21 (.v S36 x :: [.fp (.int .u64) (List.getD t1 (Int.toNat 0) 0)]) (.v .bool y) from fun x y h => W_sched_Turn_2 h) (cc (W_slices_IndexFunc_api_Entry_api_Entry h7) c0))) ?_
      obtain rfl := Option.some.inj hF0
      exact ret_pure (q := [vi t4, vb true]) [(.int .i64), .bool] rfl rfl (by kernel_rfl)
noncomputable def F_sched_Fill_b1 (x2 : Int) (s1 : (Int × Int × (List S36.ty) × (List S36.ty))) : Option ((Int × Int × (List S36.ty) × (List S36.ty)) ⊕ (Int × (List S36.ty) × (List S36.ty))) :=
  if (decide (s1.2.1 < (mx 0 (mn x2 16)))) = true then (F_sched_Turn s1.2.2.1 s1.1).bind fun t2 => (if (!t2.2) = true then some (Sum.inr (s1.1, s1.2.2.1, s1.2.2.2)) else if 0 ≤ t2.1 ∧ t2.1 < ((List.length s1.2.2.1 : Nat) : Int) then (if apOk (List.length s1.2.2.2 + 1) 56 then (if 0 ≤ t2.1 ∧ t2.1 < ((List.length s1.2.2.1 : Nat) : Int) then (F_slices_Delete_api_Entry_api_Entry s1.2.2.1 t2.1 (IntKind.wrap .i64 (t2.1 + 1))).bind fun t3 => (some (Sum.inl (((((List.getD s1.2.2.1 (Int.toNat t2.1) S36.dflt).2).2).2).1, IntKind.wrap .i64 (s1.2.1 + 1), t3, s1.2.2.2 ++ [List.getD s1.2.2.1 (Int.toNat t2.1) S36.dflt]))) else none) else none) else none) else some (Sum.inr (s1.1, s1.2.2.1, s1.2.2.2))
noncomputable def F_sched_Fill (x0 : (List S36.ty)) (x1 : Int) (x2 : Int) : Option ((List S36.ty) × (List S36.ty) × Int) :=
  (F_slices_Clone_api_Entry_api_Entry x0).bind fun t1 => ((loopO (F_sched_Fill_b1 x2) (x1, 0, t1, [])).bind (fun r1 => some (r1.2.2, r1.2.1, r1.1)))
theorem W_sched_Fill {x0 : (List S36.ty)} {x1 : Int} {x2 : Int} {y : ((List S36.ty) × (List S36.ty) × Int)} (hF0 : F_sched_Fill x0 x1 x2 = some y) : Pure Try.prog 10 [.v (.sl S36) x0, vu x1, vi x2] (.tup [.v (.sl S36) y.1, .v (.sl S36) y.2.1, vu y.2.2]) := by
  unfold F_sched_Fill at hF0
  refine pure_of_run @Try.call10 @Try.func10 rfl rfl fun w M ho => ?_
  refine sq rfl (rg [(0, .v (.sl S36) x0), (1, vu x1), (2, vi x2)] [] [] [] 0 rfl (by kernel_rfl) c0 (sq rfl ?_))
  obtain ⟨t1, h1, hF0⟩ := obd hF0
  refine rg [(1, vu x1), (2, vi x2), (9, .row 20)] [(20, .row 36 S36 t1)] [(1, ⟨[.v (.sl S36)], .row 0, some ([], [(0, .row 36 S36 t1)])⟩)] [] 0 rfl (by kernel_rfl) (cc (W_slices_Clone_api_Entry_api_Entry h1) c0) (sq rfl (rg [(1, vu x1), (2, vi x2), (9, .row 20), (10, .v (.nl .any) ())] [(20, .row 36 S36 t1)] [] [] 21 rfl (by kernel_rfl) c0 (sq rfl (sq rfl (rg [(1, vu x1), (9, .row 20), (10, .v (.nl .any) ()), (17, vi (mx 0 (mn x2 16))), (18, vi 0)] [(20, .row 36 S36 t1)] [] [] 21 rfl (by kernel_rfl) c0 (bk rfl (run_ren (ρ' := [(1, vu x1), (9, .row 1109), (10, .v (.nl .any) ()), (17, vi (mx 0 (mn x2 16))), (18, vi 0)]) (H' := [(1109, .row 36 S36 t1)]) 20 1109 rfl (by kernel_rfl) rfl (by kernel_rfl) rfl (run_nilrow (ρ' := [(1, vu x1), (9, .row 1109), (10, .row 1110), (17, vi (mx 0 (mn x2 16))), (18, vi 0)]) 10 1110 36 S36 rfl (by kernel_rfl) (by kernel_rfl) (tm (ρ' := [(1, vu x1), (9, .row 1109), (10, .row 1110), (17, vi (mx 0 (mn x2 16))), (18, vi 0)]) (H' := [(1109, .row 36 S36 t1), (1110, .row 36 S36 [])]) (by kernel_rfl) (by kernel_rfl) rfl ?_)))))))))
  obtain ⟨r1, hl1, hF0⟩ := obd hF0
  refine run_cutx 0 rfl (fun r1' => r1 = r1') (fun r1 => [(1, vu r1.1), (9, .row 1109), (10, .row 1110)]) (fun r1 => [(1109, .row 36 S36 r1.2.1), (1110, .row 36 S36 r1.2.2)]) (fun r1' h2 => ?_) (fun J1_0 => ?_)
  · subst h2
    refine sq rfl (rg [(6, .row 1110), (7, .row 1109), (8, vu r1.1)] [(1109, .row 36 S36 r1.2.1), (1110, .row 36 S36 r1.2.2)] [] [] 1111 rfl (by kernel_rfl) c0 ?_)
    obtain rfl := Option.some.inj hF0
    refine run_frz (ρ' := [(6, .v (.sl S36) r1.2.2), (7, .row 1109), (8, vu r1.1)]) (H' := [(1109, .row 36 S36 r1.2.1)]) 1110 rfl rfl rfl (by kernel_rfl) (by kernel_rfl) (run_frz (ρ' := [(6, .v (.sl S36) r1.2.2), (7, .v (.sl S36) r1.2.1), (8, vu r1.1)]) (H' := []) 1109 rfl rfl rfl (by kernel_rfl) (by kernel_rfl) ?_)
    exact ret_pure (q := [.v (.sl S36) r1.2.2, .v (.sl S36) r1.2.1, vu r1.1]) [(.sl S36), (.sl S36), (.int .u64)] rfl rfl (by kernel_rfl)
  refine run_loop rfl (run_loopO hl1 (fun s1 => [(1, vu s1.1), (9, .row 1109), (10, .row 1110), (17, vi (mx 0 (mn x2 16))), (18, vi s1.2.1)]) (fun s1 => [(1109, .row 36 S36 s1.2.2.1), (1110, .row 36 S36 s1.2.2.2)]) rfl rfl (fun s1 o1 hF1 ih1 hr1 => ?_))
  unfold F_sched_Fill_b1 at hF1
  refine run_again (sq rfl (rg [(1, vu s1.1), (9, .row 1109), (10, .row 1110), (17, vi (mx 0 (mn x2 16))), (18, vi s1.2.1), (19, vb (decide (s1.2.1 < (mx 0 (mn x2 16)))))] [(1109, .row 36 S36 s1.2.2.1), (1110, .row 36 S36 s1.2.2.2)] [] [] 1111 rfl (by kernel_rfl) c0 (sq rfl ?_)))
  refine run_if rfl rfl (fun h3 => ?_) (fun h3 => ?_)
  · replace hF1 := ift h3 hF1
    refine sk rfl (sq rfl (bk rfl (sq rfl ?_)))
    obtain ⟨t2, h4, hF1⟩ := obd hF1
    refine rg [(1, vu s1.1), (9, .row 1109), (10, .row 1110), (11, vi t2.1), (12, vb t2.2), (17, vi (mx 0 (mn x2 16))), (18, vi s1.2.1)] [(1109, .row 36 S36 s1.2.2.1), (1110, .row 36 S36 s1.2.2.2)] [(2, ⟨[.v (.sl S36), .v (.int .u64)], .tup [vi t2.1, vb t2.2], none⟩)] [] 1111 rfl (by kernel_rfl) (cc (W_sched_Turn h4) c0) (sq rfl (sq rfl (rg [(1, vu s1.1), (9, .row 1109), (10, .row 1110), (11, vi t2.1), (17, vi (mx 0 (mn x2 16))), (18, vi s1.2.1), (27, vb (!t2.2))] [(1109, .row 36 S36 s1.2.2.1), (1110, .row 36 S36 s1.2.2.2)] [] [] 1111 rfl (by kernel_rfl) c0 ?_)))
    refine run_if rfl rfl (fun h5 => ?_) (fun h5 => ?_)
    · replace hF1 := ift h5 hF1
      refine run_exit rfl rfl (tm (ρ' := [(1, vu s1.1), (9, .row 1109), (10, .row 1110)]) (H' := [(1109, .row 36 S36 s1.2.2.1), (1110, .row 36 S36 s1.2.2.2)]) (by kernel_rfl) (by kernel_rfl) rfl ?_)
      exact J1_0 _ (inrI hr1 hF1).symm
    · replace hF1 := ifn h5 hF1
      refine sk rfl (sq rfl ?_)
      obtain ⟨h6, hF1⟩ := ifg hF1
      obtain ⟨h7, hF1⟩ := ifg hF1
      refine rg [(9, .row 1109), (10, .row 1231), (11, vi t2.1), (17, vi (mx 0 (mn x2 16))), (18, vi s1.2.1)] [(1109, .row 36 S36 s1.2.2.1), (1231, .row 36 S36 (s1.2.2.2 ++ [List.getD s1.2.2.1 (Int.toNat t2.1) S36.dflt]))] [] [] 1111 rfl (by kernel_rfl) (cc h6 (cc (@rfl Nat (Int.toNat t2.1 * 6)) (cc (oo h6 trivial) (cc h7.1 (cc h7.2 c0))))) (sq rfl ?_)
      obtain ⟨h8, hF1⟩ := ifg hF1
      refine rg [(1, vu (((((List.getD s1.2.2.1 (Int.toNat t2.1) S36.dflt).2).2).2).1)), (9, .row 1109), (10, .row 1231), (11, vi t2.1), (17, vi (mx 0 (mn x2 16))), (18, vi s1.2.1)] [(1109, .row 36 S36 s1.2.2.1), (1231, .row 36 S36 (s1.2.2.2 ++ [List.getD s1.2.2.1 (Int.toNat t2.1) S36.dflt]))] [] [] 1232 rfl (by kernel_rfl) (cc h8 (cc (@rfl Nat ((Int.toNat t2.1 * 6) + 3)) (cc (oo h8 trivial) c0))) ?_
      obtain ⟨t3, h9, hF1⟩ := obd hF1
      refine rg [(1, vu (((((List.getD s1.2.2.1 (Int.toNat t2.1) S36.dflt).2).2).2).1)), (9, .row 1313), (10, .row 1231), (17, vi (mx 0 (mn x2 16))), (18, vi s1.2.1)] [(1231, .row 36 S36 (s1.2.2.2 ++ [List.getD s1.2.2.1 (Int.toNat t2.1) S36.dflt])), (1313, .row 36 S36 t3)] [(4, ⟨[.v .unit, .v (.int .i64), .v (.int .i64)], .row 1, some ([1109], [(1, .row 36 S36 t3)])⟩)] [] 1232 rfl (by kernel_rfl) (cc (W_slices_Delete_api_Entry_api_Entry h9) c0) (eb (rg [(1, vu (((((List.getD s1.2.2.1 (Int.toNat t2.1) S36.dflt).2).2).2).1)), (9, .row 1313), (10, .row 1231), (17, vi (mx 0 (mn x2 16))), (18, vi (IntKind.wrap .i64 (s1.2.1 + 1)))] [(1231, .row 36 S36 (s1.2.2.2 ++ [List.getD s1.2.2.1 (Int.toNat t2.1) S36.dflt])), (1313, .row 36 S36 t3)] [] [] 1314 rfl (by kernel_rfl) c0 (run_ren (ρ' := [(1, vu (((((List.getD s1.2.2.1 (Int.toNat t2.1) S36.dflt).2).2).2).1)), (9, .row 1109), (10, .row 1231), (17, vi (mx 0 (mn x2 16))), (18, vi (IntKind.wrap .i64 (s1.2.1 + 1)))]) (H' := [(1109, .row 36 S36 t3), (1231, .row 36 S36 (s1.2.2.2 ++ [List.getD s1.2.2.1 (Int.toNat t2.1) S36.dflt]))]) 1313 1109 rfl (by kernel_rfl) rfl (by kernel_rfl) rfl (run_ren (ρ' := [(1, vu (((((List.getD s1.2.2.1 (Int.toNat t2.1) S36.dflt).2).2).2).1)), (9, .row 1109), (10, .row 1110), (17, vi (mx 0 (mn x2 16))), (18, vi (IntKind.wrap .i64 (s1.2.1 + 1)))]) (H' := [(1110, .row 36 S36 (s1.2.2.2 ++ [List.getD s1.2.2.1 (Int.toNat t2.1) S36.dflt])), (1109, .row 36 S36 t3)]) 1231 1110 rfl (by kernel_rfl) rfl (by kernel_rfl) rfl (tm (ρ' := [(1, vu (((((List.getD s1.2.2.1 (Int.toNat t2.1) S36.dflt).2).2).2).1)), (9, .row 1109), (10, .row 1110), (17, vi (mx 0 (mn x2 16))), (18, vi (IntKind.wrap .i64 (s1.2.1 + 1)))]) (H' := [(1109, .row 36 S36 t3), (1110, .row 36 S36 (s1.2.2.2 ++ [List.getD s1.2.2.1 (Int.toNat t2.1) S36.dflt]))]) (by kernel_rfl) (by kernel_rfl) rfl ?_)))))
      exact ih1 _ (Option.some.inj hF1).symm
  · replace hF1 := ifn h3 hF1
    refine run_exit rfl rfl (tm (ρ' := [(1, vu s1.1), (9, .row 1109), (10, .row 1110)]) (H' := [(1109, .row 36 S36 s1.2.2.1), (1110, .row 36 S36 s1.2.2.2)]) (by kernel_rfl) (by kernel_rfl) rfl ?_)
    exact J1_0 _ (inrI hr1 hF1).symm
noncomputable def F_congresslaw19_fixed : Option Bool :=
  (F_congresslaw19_some [1, 1, 1, 2]).bind fun t1 => ((F_sched_Fill t1 0 2).bind fun t2 => ((F_sched_Turn t2.2.1 t2.2.2).bind fun t3 => ((F_sched_Turn [] 0).bind fun t4 => ((show Option Bool from if (((List.length t2.1 : Nat) : Int) == 2) = true then if 0 ≤ (0 : Int) ∧ (0 : Int) < ((List.length t2.1 : Nat) : Int) then (if 0 ≤ (0 : Int) ∧ (0 : Int) < ((List.length t1 : Nat) : Int) then (if (Sh.eqb S36 (List.getD t2.1 (Int.toNat 0) S36.dflt) (List.getD t1 (Int.toNat 0) S36.dflt)) = true then if 0 ≤ (1 : Int) ∧ (1 : Int) < ((List.length t2.1 : Nat) : Int) then (if 0 ≤ (3 : Int) ∧ (3 : Int) < ((List.length t1 : Nat) : Int) then (if (Sh.eqb S36 (List.getD t2.1 (Int.toNat 1) S36.dflt) (List.getD t1 (Int.toNat 3) S36.dflt)) = true then if (((List.length t2.2.1 : Nat) : Int) == 2) = true then if (t2.2.2 == 2) = true then if (t3.1 == 0) = true then if (t3.2) = true then if (!t4.2) = true then (F_sched_Sessions t1).bind fun t5 => ((F_congressref19_Same t5 [1, 2]).bind fun t6 => (some t6)) else some false else some false else some false else some false else some false else some false) else none) else none else some false) else none) else none else some false).bind (fun r1 => some r1)))))
theorem W_congresslaw19_fixed {y : Bool} (hF0 : F_congresslaw19_fixed = some y) : Pure Try.prog 7 [] (vb y) := by
  unfold F_congresslaw19_fixed at hF0
  refine pure_of_run @Try.call7 @Try.func7 rfl rfl fun w M ho => ?_
  refine sq rfl (rg [] [] [] [] 0 rfl (by kernel_rfl) c0 (sq rfl ?_))
  obtain ⟨t1, h1, hF0⟩ := obd hF0
  refine rg [(1, .v (.sl S36) t1)] [] [(0, ⟨[], .v (.sl (.int .u64)) [1, 1, 1, 2], none⟩), (1, ⟨[.v (.sl (.int .u64))], .v (.sl S36) t1, none⟩)] [] 0 rfl (by kernel_rfl) (cc (W_congresslaw19_some h1) c0) (sq rfl ?_)
  obtain ⟨t2, h2, hF0⟩ := obd hF0
  refine rg [(1, .v (.sl S36) t1), (2, .v (.sl S36) t2.1), (3, .v (.sl S36) t2.2.1), (4, vu t2.2.2)] [] [(1, ⟨[.v (.sl S36), .v (.int .u64), .v (.int .i64)], .tup [.v (.sl S36) t2.1, .v (.sl S36) t2.2.1, vu t2.2.2], none⟩)] [] 0 rfl (by kernel_rfl) (cc (W_sched_Fill h2) c0) (sq rfl ?_)
  obtain ⟨t3, h3, hF0⟩ := obd hF0
  refine rg [(1, .v (.sl S36) t1), (2, .v (.sl S36) t2.1), (3, .v (.sl S36) t2.2.1), (4, vu t2.2.2), (5, vi t3.1), (6, vb t3.2)] [] [(2, ⟨[.v (.sl S36), .v (.int .u64)], .tup [vi t3.1, vb t3.2], none⟩)] [] 0 rfl (by kernel_rfl) (cc (W_sched_Turn h3) c0) (sq rfl ?_)
  obtain ⟨t4, h4, hF0⟩ := obd hF0
  refine rg [(1, .v (.sl S36) t1), (2, .v (.sl S36) t2.1), (3, .v (.sl S36) t2.2.1), (4, vu t2.2.2), (5, vi t3.1), (6, vb t3.2), (8, vb t4.2)] [] [(0, ⟨[.v (.sl S36), .v (.int .u64)], .tup [vi t4.1, vb t4.2], none⟩)] [] 0 rfl (by kernel_rfl) (cc (W_sched_Turn h4) c0) (sq rfl ?_)
  obtain ⟨r1, hF1, hF0⟩ := obd hF0
  refine run_cut (fun r1' => r1 = r1') (fun r1 => [(0, vb r1)]) (fun r1 => []) (fun r1' h5 => ?_) (fun J1_0 => ?_)
  · subst h5
    obtain rfl := Option.some.inj hF0
    exact ret_pure (q := [vb r1]) [.bool] rfl rfl (by kernel_rfl)
  rcases Bool.eq_false_or_eq_true (((List.length t2.1 : Nat) : Int) == 2) with h6 | h6
  · replace hF1 := ift h6 hF1
    obtain ⟨h7, hF1⟩ := ifg hF1
    obtain ⟨h8, hF1⟩ := ifg hF1
    rcases Bool.eq_false_or_eq_true (Sh.eqb S36 (List.getD t2.1 (Int.toNat 0) S36.dflt) (List.getD t1 (Int.toNat 0) S36.dflt)) with h9 | h9
    · replace hF1 := ift h9 hF1
      obtain ⟨h10, hF1⟩ := ifg hF1
      obtain ⟨h11, hF1⟩ := ifg hF1
      rcases Bool.eq_false_or_eq_true (Sh.eqb S36 (List.getD t2.1 (Int.toNat 1) S36.dflt) (List.getD t1 (Int.toNat 3) S36.dflt)) with h12 | h12
      · replace hF1 := ift h12 hF1
        rcases Bool.eq_false_or_eq_true (((List.length t2.2.1 : Nat) : Int) == 2) with h13 | h13
        · replace hF1 := ift h13 hF1
          rcases Bool.eq_false_or_eq_true (t2.2.2 == 2) with h14 | h14
          · replace hF1 := ift h14 hF1
            rcases Bool.eq_false_or_eq_true (t3.1 == 0) with h15 | h15
            · replace hF1 := ift h15 hF1
              rcases Bool.eq_false_or_eq_true (t3.2) with h16 | h16
              · replace hF1 := ift h16 hF1
                rcases Bool.eq_false_or_eq_true (!t4.2) with h17 | h17
                · replace hF1 := ift h17 hF1
                  obtain ⟨t5, h18, hF1⟩ := obd hF1
                  obtain ⟨t6, h19, hF1⟩ := obd hF1
                  refine rG [(0, vb t6)] [] [(43, ⟨[.v (.sl S36)], .v (.sl (.int .u64)) t5, none⟩), (44, ⟨[], .v (.sl (.int .u64)) [1, 2], none⟩), (45, ⟨[.v (.sl (.int .u64)), .v (.sl (.int .u64))], vb t6, none⟩)] [(3, true), (12, true), (21, true), (26, true), (30, true), (34, true), (37, true), (41, true)] 0 rfl rfl (by kernel_rfl) (cc h6 (cc h7 (cc h8 (cc h9 (cc h10 (cc h11 (cc h12 (cc h13 (cc h14 (cc h15 (cc h16 (cc h17 (cc (W_sched_Sessions h18) (cc (W_congressref19_Same h19) c0)))))))))))))) ?_
                  exact J1_0 _ (Option.some.inj hF1).symm
                · replace hF1 := ifn h17 hF1
                  refine rG [(0, vb false)] [] [] [(3, true), (12, true), (21, true), (26, true), (30, true), (34, true), (37, true), (41, false)] 0 rfl rfl (by kernel_rfl) (cc h6 (cc h7 (cc h8 (cc h9 (cc h10 (cc h11 (cc h12 (cc h13 (cc h14 (cc h15 (cc h16 (cc h17 c0)))))))))))) ?_
                  exact J1_0 _ (Option.some.inj hF1).symm
              · replace hF1 := ifn h16 hF1
                refine rG [(0, vb false)] [] [] [(3, true), (12, true), (21, true), (26, true), (30, true), (34, true), (37, false)] 0 rfl rfl (by kernel_rfl) (cc h6 (cc h7 (cc h8 (cc h9 (cc h10 (cc h11 (cc h12 (cc h13 (cc h14 (cc h15 (cc h16 c0))))))))))) ?_
                exact J1_0 _ (Option.some.inj hF1).symm
            · replace hF1 := ifn h15 hF1
              refine rG [(0, vb false)] [] [] [(3, true), (12, true), (21, true), (26, true), (30, true), (34, false)] 0 rfl rfl (by kernel_rfl) (cc h6 (cc h7 (cc h8 (cc h9 (cc h10 (cc h11 (cc h12 (cc h13 (cc h14 (cc h15 c0)))))))))) ?_
              exact J1_0 _ (Option.some.inj hF1).symm
          · replace hF1 := ifn h14 hF1
            refine rG [(0, vb false)] [] [] [(3, true), (12, true), (21, true), (26, true), (30, false)] 0 rfl rfl (by kernel_rfl) (cc h6 (cc h7 (cc h8 (cc h9 (cc h10 (cc h11 (cc h12 (cc h13 (cc h14 c0))))))))) ?_
            exact J1_0 _ (Option.some.inj hF1).symm
        · replace hF1 := ifn h13 hF1
          refine rG [(0, vb false)] [] [] [(3, true), (12, true), (21, true), (26, false)] 0 rfl rfl (by kernel_rfl) (cc h6 (cc h7 (cc h8 (cc h9 (cc h10 (cc h11 (cc h12 (cc h13 c0)))))))) ?_
          exact J1_0 _ (Option.some.inj hF1).symm
      · replace hF1 := ifn h12 hF1
        refine rG [(0, vb false)] [] [] [(3, true), (12, true), (21, false)] 0 rfl rfl (by kernel_rfl) (cc h6 (cc h7 (cc h8 (cc h9 (cc h10 (cc h11 (cc h12 c0))))))) ?_
        exact J1_0 _ (Option.some.inj hF1).symm
    · replace hF1 := ifn h9 hF1
      refine rG [(0, vb false)] [] [] [(3, true), (12, false)] 0 rfl rfl (by kernel_rfl) (cc h6 (cc h7 (cc h8 (cc h9 c0)))) ?_
      exact J1_0 _ (Option.some.inj hF1).symm
  · replace hF1 := ifn h6 hF1
    refine rG [(0, vb false)] [] [] [(3, false)] 0 rfl rfl (by kernel_rfl) (cc h6 c0) ?_
    exact J1_0 _ (Option.some.inj hF1).symm
noncomputable def F_congresslaw19_SchedTells (x0 : (List S36.ty)) (x1 : Int) (x2 : Int) : Option Bool :=
  if (decide (((List.length x0 : Nat) : Int) > 300)) = true then (F_congresslaw19_fixed ).bind fun t1 => (some t1) else (F_sched_Turn x0 x1).bind fun t2 => ((F_congressref19_Turn x0 x1).bind fun t3 => ((F_sched_Fill x0 x1 x2).bind fun t4 => ((F_congressref19_Fill x0 x1 x2).bind fun t5 => ((show Option Bool from (F_congresslaw19_fixed ).bind fun t6 => (if (t6) = true then if (t2.1 == t3.1) = true then if (t2.2 == t3.2) = true then (F_congressref04_Entries t4.1 t5.1).bind fun t7 => (if (t7) = true then (F_congressref04_Entries t4.2.1 t5.2.1).bind fun t8 => (if (t8) = true then if (t4.2.2 == t5.2.2) = true then (F_sched_Sessions x0).bind fun t9 => ((F_congressref19_Sessions x0).bind fun t10 => ((F_congressref19_Same t9 t10).bind fun t11 => (some t11))) else some false else some false) else some false) else some false else some false else some false)).bind (fun r1 => some r1)))))
theorem W_congresslaw19_SchedTells {x0 : (List S36.ty)} {x1 : Int} {x2 : Int} {y : Bool} (hF0 : F_congresslaw19_SchedTells x0 x1 x2 = some y) : Pure Try.prog 3 [.v (.sl S36) x0, vu x1, vi x2] (vb y) := by
  unfold F_congresslaw19_SchedTells at hF0
  refine pure_of_run @Try.call3 @Try.func3 rfl rfl fun w M ho => ?_
  refine sq rfl (rg [(0, .v (.sl S36) x0), (1, vu x1), (2, vi x2)] [] [] [] 0 rfl (by kernel_rfl) c0 (sq rfl (sq rfl (rg [(0, .v (.sl S36) x0), (1, vu x1), (2, vi x2), (19, vb (decide (((List.length x0 : Nat) : Int) > 300)))] [] [] [] 0 rfl (by kernel_rfl) c0 ?_))))
  refine run_if rfl rfl (fun h1 => ?_) (fun h1 => ?_)
  · replace hF0 := ift h1 hF0
    refine sq rfl ?_
    obtain ⟨t1, h2, hF0⟩ := obd hF0
    refine rg [(6, vb t1)] [] [(0, ⟨[], vb t1, none⟩)] [] 0 rfl (by kernel_rfl) (cc (W_congresslaw19_fixed h2) c0) ?_
    obtain rfl := Option.some.inj hF0
    exact ret_pure (q := [vb t1]) [.bool] rfl rfl (by kernel_rfl)
  · replace hF0 := ifn h1 hF0
    refine sk rfl (sq rfl ?_)
    obtain ⟨t2, h3, hF0⟩ := obd hF0
    refine rg [(0, .v (.sl S36) x0), (1, vu x1), (2, vi x2), (7, vi t2.1), (8, vb t2.2)] [] [(2, ⟨[.v (.sl S36), .v (.int .u64)], .tup [vi t2.1, vb t2.2], none⟩)] [] 0 rfl (by kernel_rfl) (cc (W_sched_Turn h3) c0) (sq rfl ?_)
    obtain ⟨t3, h4, hF0⟩ := obd hF0
    refine rg [(0, .v (.sl S36) x0), (1, vu x1), (2, vi x2), (7, vi t2.1), (8, vb t2.2), (9, vi t3.1), (10, vb t3.2)] [] [(2, ⟨[.v (.sl S36), .v (.int .u64)], .tup [vi t3.1, vb t3.2], none⟩)] [] 0 rfl (by kernel_rfl) (cc (W_congressref19_Turn h4) c0) (sq rfl ?_)
    obtain ⟨t4, h5, hF0⟩ := obd hF0
    refine rg [(0, .v (.sl S36) x0), (1, vu x1), (2, vi x2), (7, vi t2.1), (8, vb t2.2), (9, vi t3.1), (10, vb t3.2), (11, .v (.sl S36) t4.1), (12, .v (.sl S36) t4.2.1), (13, vu t4.2.2)] [] [(3, ⟨[.v (.sl S36), .v (.int .u64), .v (.int .i64)], .tup [.v (.sl S36) t4.1, .v (.sl S36) t4.2.1, vu t4.2.2], none⟩)] [] 0 rfl (by kernel_rfl) (cc (W_sched_Fill h5) c0) (sq rfl ?_)
    obtain ⟨t5, h6, hF0⟩ := obd hF0
    refine rg [(0, .v (.sl S36) x0), (7, vi t2.1), (8, vb t2.2), (9, vi t3.1), (10, vb t3.2), (11, .v (.sl S36) t4.1), (12, .v (.sl S36) t4.2.1), (13, vu t4.2.2), (14, .v (.sl S36) t5.1), (15, .v (.sl S36) t5.2.1), (16, vu t5.2.2)] [] [(3, ⟨[.v (.sl S36), .v (.int .u64), .v (.int .i64)], .tup [.v (.sl S36) t5.1, .v (.sl S36) t5.2.1, vu t5.2.2], none⟩)] [] 0 rfl (by kernel_rfl) (cc (W_congressref19_Fill h6) c0) (sq rfl ?_)
    obtain ⟨r1, hF1, hF0⟩ := obd hF0
    refine run_cut (fun r1' => r1 = r1') (fun r1 => [(6, vb r1)]) (fun r1 => []) (fun r1' h7 => ?_) (fun J1_0 => ?_)
    · subst h7
      obtain rfl := Option.some.inj hF0
      exact ret_pure (q := [vb r1]) [.bool] rfl rfl (by kernel_rfl)
    obtain ⟨t6, h8, hF1⟩ := obd hF1
    rcases Bool.eq_false_or_eq_true (t6) with h9 | h9
    · replace hF1 := ift h9 hF1
      rcases Bool.eq_false_or_eq_true (t2.1 == t3.1) with h10 | h10
      · replace hF1 := ift h10 hF1
        rcases Bool.eq_false_or_eq_true (t2.2 == t3.2) with h11 | h11
        · replace hF1 := ift h11 hF1
          obtain ⟨t7, h12, hF1⟩ := obd hF1
          rcases Bool.eq_false_or_eq_true (t7) with h13 | h13
          · replace hF1 := ift h13 hF1
            obtain ⟨t8, h14, hF1⟩ := obd hF1
            rcases Bool.eq_false_or_eq_true (t8) with h15 | h15
            · replace hF1 := ift h15 hF1
              rcases Bool.eq_false_or_eq_true (t4.2.2 == t5.2.2) with h16 | h16
              · replace hF1 := ift h16 hF1
                obtain ⟨t9, h17, hF1⟩ := obd hF1
                obtain ⟨t10, h18, hF1⟩ := obd hF1
                obtain ⟨t11, h19, hF1⟩ := obd hF1
                refine rg [(6, vb t11)] [] [(0, ⟨[], vb t6, none⟩), (14, ⟨[.v (.sl S36), .v (.sl S36)], vb t7, none⟩), (19, ⟨[.v (.sl S36), .v (.sl S36)], vb t8, none⟩), (28, ⟨[.v (.sl S36)], .v (.sl (.int .u64)) t9, none⟩), (30, ⟨[.v (.sl S36)], .v (.sl (.int .u64)) t10, none⟩), (31, ⟨[.v (.sl (.int .u64)), .v (.sl (.int .u64))], vb t11, none⟩)] [(1, true), (6, true), (11, true), (16, true), (21, true), (26, true)] 0 rfl (by kernel_rfl) (cc (W_congresslaw19_fixed h8) (cc h9 (cc h10 (cc h11 (cc (W_congressref04_Entries h12) (cc h13 (cc (W_congressref04_Entries h14) (cc h15 (cc h16 (cc (W_sched_Sessions h17) (cc (W_congressref19_Sessions h18) (cc (W_congressref19_Same h19) c0)))))))))))) ?_
                exact J1_0 _ (Option.some.inj hF1).symm
              · replace hF1 := ifn h16 hF1
                refine rg [(6, vb false)] [] [(0, ⟨[], vb t6, none⟩), (14, ⟨[.v (.sl S36), .v (.sl S36)], vb t7, none⟩), (19, ⟨[.v (.sl S36), .v (.sl S36)], vb t8, none⟩)] [(1, true), (6, true), (11, true), (16, true), (21, true), (26, false)] 0 rfl (by kernel_rfl) (cc (W_congresslaw19_fixed h8) (cc h9 (cc h10 (cc h11 (cc (W_congressref04_Entries h12) (cc h13 (cc (W_congressref04_Entries h14) (cc h15 (cc h16 c0))))))))) ?_
                exact J1_0 _ (Option.some.inj hF1).symm
            · replace hF1 := ifn h15 hF1
              refine rg [(6, vb false)] [] [(0, ⟨[], vb t6, none⟩), (14, ⟨[.v (.sl S36), .v (.sl S36)], vb t7, none⟩), (19, ⟨[.v (.sl S36), .v (.sl S36)], vb t8, none⟩)] [(1, true), (6, true), (11, true), (16, true), (21, false)] 0 rfl (by kernel_rfl) (cc (W_congresslaw19_fixed h8) (cc h9 (cc h10 (cc h11 (cc (W_congressref04_Entries h12) (cc h13 (cc (W_congressref04_Entries h14) (cc h15 c0)))))))) ?_
              exact J1_0 _ (Option.some.inj hF1).symm
          · replace hF1 := ifn h13 hF1
            refine rg [(6, vb false)] [] [(0, ⟨[], vb t6, none⟩), (14, ⟨[.v (.sl S36), .v (.sl S36)], vb t7, none⟩)] [(1, true), (6, true), (11, true), (16, false)] 0 rfl (by kernel_rfl) (cc (W_congresslaw19_fixed h8) (cc h9 (cc h10 (cc h11 (cc (W_congressref04_Entries h12) (cc h13 c0)))))) ?_
            exact J1_0 _ (Option.some.inj hF1).symm
        · replace hF1 := ifn h11 hF1
          refine rg [(6, vb false)] [] [(0, ⟨[], vb t6, none⟩)] [(1, true), (6, true), (11, false)] 0 rfl (by kernel_rfl) (cc (W_congresslaw19_fixed h8) (cc h9 (cc h10 (cc h11 c0)))) ?_
          exact J1_0 _ (Option.some.inj hF1).symm
      · replace hF1 := ifn h10 hF1
        refine rg [(6, vb false)] [] [(0, ⟨[], vb t6, none⟩)] [(1, true), (6, false)] 0 rfl (by kernel_rfl) (cc (W_congresslaw19_fixed h8) (cc h9 (cc h10 c0))) ?_
        exact J1_0 _ (Option.some.inj hF1).symm
    · replace hF1 := ifn h9 hF1
      refine rg [(6, vb false)] [] [(0, ⟨[], vb t6, none⟩)] [(1, false)] 0 rfl (by kernel_rfl) (cc (W_congresslaw19_fixed h8) (cc h9 c0)) ?_
      exact J1_0 _ (Option.some.inj hF1).symm
noncomputable def F_congresslaw19_SchedKeeps_b3 (t2 : ((List S36.ty) × (List S36.ty) × Int)) (t3 : (List Int)) (x0 : (List S36.ty)) (s3 : Int) : Option (Int ⊕ (Bool ⊕ Unit)) :=
  if (decide (s3 < ((List.length t3 : Nat) : Int))) = true then if 0 ≤ s3 ∧ s3 < ((List.length t3 : Nat) : Int) then (F_congressref19_Of t2.1 (List.getD t3 (Int.toNat s3) 0)).bind fun t4 => (if 0 ≤ s3 ∧ s3 < ((List.length t3 : Nat) : Int) then (F_congressref19_Of t2.2.1 (List.getD t3 (Int.toNat s3) 0)).bind fun t5 => (if apOk (List.length t4 + (List.length t5)) 56 then (if 0 ≤ s3 ∧ s3 < ((List.length t3 : Nat) : Int) then (F_congressref19_Of x0 (List.getD t3 (Int.toNat s3) 0)).bind fun t6 => ((F_congressref04_Entries (t4 ++ t5) t6).bind fun t7 => (if (!t7) = true then some (Sum.inr (Sum.inl false)) else some (Sum.inl (IntKind.wrap .i64 (s3 + 1))))) else none) else none) else none) else none else some (Sum.inr (Sum.inr ()))
noncomputable def F_congresslaw19_SchedKeeps (x0 : (List S36.ty)) (x1 : Int) (x2 : Int) : Option Bool :=
  (show Option Bool from (F_congresslaw19_fixed ).bind fun t8 => (if (!t8) = true then some true else some (decide (((List.length x0 : Nat) : Int) > 100)))).bind (fun r1 => if (r1) = true then (F_congresslaw19_fixed ).bind fun t1 => (some t1) else (F_sched_Fill x0 x1 x2).bind fun t2 => ((show Option Bool from if ((IntKind.wrap .i64 (((List.length t2.1 : Nat) : Int) + ((List.length t2.2.1 : Nat) : Int))) != ((List.length x0 : Nat) : Int)) = true then some true else some (((List.length t2.1 : Nat) : Int) != (mx 0 (mn (mn x2 16) ((List.length x0 : Nat) : Int))))).bind (fun r2 => if (r2) = true then some false else (F_sched_Sessions x0).bind fun t3 => ((loopO (F_congresslaw19_SchedKeeps_b3 t2 t3 x0) 0).bind (Sum.elim some (fun j31 => some true))))))
theorem W_congresslaw19_SchedKeeps {x0 : (List S36.ty)} {x1 : Int} {x2 : Int} {y : Bool} (hF0 : F_congresslaw19_SchedKeeps x0 x1 x2 = some y) : Pure Try.prog 4 [.v (.sl S36) x0, vu x1, vi x2] (vb y) := by
  unfold F_congresslaw19_SchedKeeps at hF0
  refine pure_of_run @Try.call4 @Try.func4 rfl rfl fun w M ho => ?_
  refine sq rfl (rg [(0, .v (.sl S36) x0), (1, vu x1), (2, vi x2)] [] [] [] 0 rfl (by kernel_rfl) c0 (sq rfl (sq rfl ?_)))
  obtain ⟨r1, hF1, hF0⟩ := obd hF0
  refine run_cut (fun r1' => r1 = r1') (fun r1 => [(0, .v (.sl S36) x0), (1, vu x1), (2, vi x2), (19, vb r1)]) (fun r1 => []) (fun r1' h1 => ?_) (fun J1_0 => ?_)
  · subst h1
    refine run_if rfl rfl (fun h2 => ?_) (fun h2 => ?_)
    · replace hF0 := ift h2 hF0
      refine sq rfl ?_
      obtain ⟨t1, h3, hF0⟩ := obd hF0
      refine rg [(6, vb t1)] [] [(0, ⟨[], vb t1, none⟩)] [] 0 rfl (by kernel_rfl) (cc (W_congresslaw19_fixed h3) c0) ?_
      obtain rfl := Option.some.inj hF0
      exact ret_pure (q := [vb t1]) [.bool] rfl rfl (by kernel_rfl)
    · replace hF0 := ifn h2 hF0
      refine sk rfl (sq rfl ?_)
      obtain ⟨t2, h4, hF0⟩ := obd hF0
      refine rg [(0, .v (.sl S36) x0), (2, vi x2), (7, .v (.sl S36) t2.1), (8, .v (.sl S36) t2.2.1)] [] [(3, ⟨[.v (.sl S36), .v (.int .u64), .v (.int .i64)], .tup [.v (.sl S36) t2.1, .v (.sl S36) t2.2.1, vu t2.2.2], none⟩)] [] 0 rfl (by kernel_rfl) (cc (W_sched_Fill h4) c0) (sq rfl (sq rfl ?_))
      obtain ⟨r2, hF1, hF0⟩ := obd hF0
      refine run_cut (fun r2' => r2 = r2') (fun r2 => [(0, .v (.sl S36) x0), (7, .v (.sl S36) t2.1), (8, .v (.sl S36) t2.2.1), (47, vb r2)]) (fun r2 => []) (fun r2' h5 => ?_) (fun J2_0 => ?_)
      · subst h5
        refine run_if rfl rfl (fun h6 => ?_) (fun h6 => ?_)
        · replace hF0 := ift h6 hF0
          refine sq rfl (rg [(6, vb false)] [] [] [] 0 rfl (by kernel_rfl) c0 ?_)
          obtain rfl := Option.some.inj hF0
          exact ret_pure (q := [vb false]) [.bool] rfl rfl (by kernel_rfl)
        · replace hF0 := ifn h6 hF0
          refine sk rfl (sq rfl ?_)
          obtain ⟨t3, h7, hF0⟩ := obd hF0
          refine rg [(0, .v (.sl S36) x0), (7, .v (.sl S36) t2.1), (8, .v (.sl S36) t2.2.1), (10, .v (.sl (.int .u64)) t3)] [] [(1, ⟨[.v (.sl S36)], .v (.sl (.int .u64)) t3, none⟩)] [] 0 rfl (by kernel_rfl) (cc (W_sched_Sessions h7) c0) (sq rfl (sq rfl (rg [(0, .v (.sl S36) x0), (7, .v (.sl S36) t2.1), (8, .v (.sl S36) t2.2.1), (10, .v (.sl (.int .u64)) t3), (11, vi 0)] [] [] [] 0 rfl (by kernel_rfl) c0 (bk rfl ?_))))
          obtain ⟨r3, hl3, hF0⟩ := obd hF0
          refine run_cutx 0 rfl (fun j31 => r3 = Sum.inr j31) (fun j31 => []) (fun j31 => []) (fun j31 h8 => ?_) (fun J3_1 => ?_)
          · subst h8
            replace hF0 := sumR hF0
            refine sq rfl (rg [(6, vb true)] [] [] [] 0 rfl (by kernel_rfl) c0 ?_)
            obtain rfl := Option.some.inj hF0
            exact ret_pure (q := [vb true]) [.bool] rfl rfl (by kernel_rfl)
          refine run_loop rfl (run_loopO hl3 (fun s3 => [(0, .v (.sl S36) x0), (7, .v (.sl S36) t2.1), (8, .v (.sl S36) t2.2.1), (10, .v (.sl (.int .u64)) t3), (11, vi s3)]) (fun s3 => []) rfl rfl (fun s3 o3 hF1 ih3 hr3 => ?_))
          unfold F_congresslaw19_SchedKeeps_b3 at hF1
          refine run_again (sq rfl (sq rfl (rg [(0, .v (.sl S36) x0), (7, .v (.sl S36) t2.1), (8, .v (.sl S36) t2.2.1), (10, .v (.sl (.int .u64)) t3), (11, vi s3), (53, vb (decide (s3 < ((List.length t3 : Nat) : Int))))] [] [] [] 0 rfl (by kernel_rfl) c0 ?_)))
          refine run_if rfl rfl (fun h9 => ?_) (fun h9 => ?_)
          · replace hF1 := ift h9 hF1
            refine sk rfl (sq rfl (bk rfl (sq rfl ?_)))
            obtain ⟨h10, hF1⟩ := ifg hF1
            obtain ⟨t4, h11, hF1⟩ := obd hF1
            obtain ⟨h12, hF1⟩ := ifg hF1
            obtain ⟨t5, h13, hF1⟩ := obd hF1
            obtain ⟨h14, hF1⟩ := ifg hF1
            refine rG [(0, .v (.sl S36) x0), (7, .v (.sl S36) t2.1), (8, .v (.sl S36) t2.2.1), (10, .v (.sl (.int .u64)) t3), (11, vi s3), (12, .row 240)] [(240, .row 36 S36 (t4 ++ t5))] [(5, ⟨[.v (.sl S36), .v (.int .u64)], .row 0, some ([], [(0, .row 36 S36 t4)])⟩), (11, ⟨[.v (.sl S36), .v (.int .u64)], .row 0, some ([], [(0, .row 36 S36 t5)])⟩)] [] 0 rfl rfl (by kernel_rfl) (cc h10 (cc (W_congressref19_Of h11) (cc h12 (cc (W_congressref19_Of h13) (cc h14.1 (cc h14.2 c0)))))) (sq rfl ?_)
            obtain ⟨h15, hF1⟩ := ifg hF1
            obtain ⟨t6, h16, hF1⟩ := obd hF1
            obtain ⟨t7, h17, hF1⟩ := obd hF1
            refine rg [(0, .v (.sl S36) x0), (7, .v (.sl S36) t2.1), (8, .v (.sl S36) t2.2.1), (10, .v (.sl (.int .u64)) t3), (11, vi s3), (77, vb (!t7))] [] [(6, ⟨[.v (.sl S36), .v (.int .u64)], .row 0, some ([], [(0, .row 36 S36 t6)])⟩), (7, ⟨[.v (.sl S36), .v (.sl S36)], vb t7, none⟩)] [] 241 rfl (by kernel_rfl) (cc h15 (cc (W_congressref19_Of h16) (cc (W_congressref04_Entries h17) c0))) ?_
            refine run_if rfl rfl (fun h18 => ?_) (fun h18 => ?_)
            · replace hF1 := ift h18 hF1
              refine sq rfl (rg [(6, vb false)] [] [] [] 0 rfl (by kernel_rfl) c0 ?_)
              have e3 := inrI hr3 hF1
              subst e3
              replace hF0 := sumL hF0
              obtain rfl := Option.some.inj hF0
              exact ret_pure (q := [vb false]) [.bool] rfl rfl (by kernel_rfl)
            · replace hF1 := ifn h18 hF1
              refine sk rfl (eb (rg [(0, .v (.sl S36) x0), (7, .v (.sl S36) t2.1), (8, .v (.sl S36) t2.2.1), (10, .v (.sl (.int .u64)) t3), (11, vi (IntKind.wrap .i64 (s3 + 1)))] [] [] [] 0 rfl (by kernel_rfl) c0 ?_))
              exact ih3 _ (Option.some.inj hF1).symm
          · replace hF1 := ifn h9 hF1
            refine run_exit rfl rfl (tm (ρ' := []) (H' := []) (by kernel_rfl) (by kernel_rfl) rfl ?_)
            exact J3_1 _ (inrI hr3 hF1).symm
      rcases Bool.eq_false_or_eq_true ((IntKind.wrap .i64 (((List.length t2.1 : Nat) : Int) + ((List.length t2.2.1 : Nat) : Int))) != ((List.length x0 : Nat) : Int)) with h19 | h19
      · replace hF1 := ift h19 hF1
        refine rg [(0, .v (.sl S36) x0), (7, .v (.sl S36) t2.1), (8, .v (.sl S36) t2.2.1), (47, vb true)] [] [] [(8, true)] 0 rfl (by kernel_rfl) (cc h19 c0) ?_
        exact J2_0 _ (Option.some.inj hF1).symm
      · replace hF1 := ifn h19 hF1
        refine rg [(0, .v (.sl S36) x0), (7, .v (.sl S36) t2.1), (8, .v (.sl S36) t2.2.1), (47, vb (((List.length t2.1 : Nat) : Int) != (mx 0 (mn (mn x2 16) ((List.length x0 : Nat) : Int)))))] [] [] [(8, false)] 0 rfl (by kernel_rfl) (cc h19 c0) ?_
        exact J2_0 _ (Option.some.inj hF1).symm
  obtain ⟨t8, h20, hF1⟩ := obd hF1
  rcases Bool.eq_false_or_eq_true (!t8) with h21 | h21
  · replace hF1 := ift h21 hF1
    refine rg [(0, .v (.sl S36) x0), (1, vu x1), (2, vi x2), (19, vb true)] [] [(0, ⟨[], vb t8, none⟩)] [(2, true)] 0 rfl (by kernel_rfl) (cc (W_congresslaw19_fixed h20) (cc h21 c0)) ?_
    exact J1_0 _ (Option.some.inj hF1).symm
  · replace hF1 := ifn h21 hF1
    refine rg [(0, .v (.sl S36) x0), (1, vu x1), (2, vi x2), (19, vb (decide (((List.length x0 : Nat) : Int) > 100)))] [] [(0, ⟨[], vb t8, none⟩)] [(2, false)] 0 rfl (by kernel_rfl) (cc (W_congresslaw19_fixed h20) (cc h21 c0)) ?_
    exact J1_0 _ (Option.some.inj hF1).symm
noncomputable def F_congresslaw19_SchedFair_b5 (t3 : ((List S36.ty) × (List S36.ty) × Int)) (s5 : (Int × Int × Int)) : Option ((Int × Int × Int) ⊕ Int) :=
  if (decide (s5.2.2 < ((List.length t3.1 : Nat) : Int))) = true then if 0 ≤ s5.2.2 ∧ s5.2.2 < ((List.length t3.1 : Nat) : Int) then (show Option Int from if (decide ((((((List.getD t3.1 (Int.toNat s5.2.2) S36.dflt).2).2).2).1) ≤ s5.2.1)) = true then some (IntKind.wrap .i64 (s5.1 + 1)) else some s5.1).bind (fun r6 => if 0 ≤ s5.2.2 ∧ s5.2.2 < ((List.length t3.1 : Nat) : Int) then (some (Sum.inl (r6, ((((List.getD t3.1 (Int.toNat s5.2.2) S36.dflt).2).2).2).1, IntKind.wrap .i64 (s5.2.2 + 1)))) else none) else none else some (Sum.inr s5.1)
noncomputable def F_congresslaw19_SchedFair_b3 (t1 : (List Int)) (t3 : ((List S36.ty) × (List S36.ty) × Int)) (s3 : Int) : Option (Int ⊕ (Bool ⊕ Unit)) :=
  if (decide (s3 < ((List.length t1 : Nat) : Int))) = true then if 0 ≤ s3 ∧ s3 < ((List.length t1 : Nat) : Int) then (F_congressref19_Of t3.1 (List.getD t1 (Int.toNat s3) 0)).bind fun t4 => (if (((List.length t4 : Nat) : Int) != 1) = true then some (Sum.inr (Sum.inl false)) else some (Sum.inl (IntKind.wrap .i64 (s3 + 1)))) else none else some (Sum.inr (Sum.inr ()))
noncomputable def F_congresslaw19_SchedFair (x0 : (List S36.ty)) (x1 : Int) : Option Bool :=
  (F_sched_Sessions x0).bind fun t1 => ((show Option Bool from (F_congresslaw19_fixed ).bind fun t5 => (if (!t5) = true then some true else if (decide (((List.length x0 : Nat) : Int) > 100)) = true then some true else some (decide (((List.length t1 : Nat) : Int) > 16)))).bind (fun r1 => if (r1) = true then (F_congresslaw19_fixed ).bind fun t2 => (some t2) else (F_sched_Fill x0 x1 ((List.length t1 : Nat) : Int)).bind fun t3 => ((show Option Bool from if (((List.length t3.1 : Nat) : Int) != ((List.length t1 : Nat) : Int)) = true then some true else some (((List.length t3.2.1 : Nat) : Int) != (IntKind.wrap .i64 (((List.length x0 : Nat) : Int) - ((List.length t1 : Nat) : Int))))).bind (fun r2 => if (r2) = true then some false else (loopO (F_congresslaw19_SchedFair_b3 t1 t3) 0).bind (Sum.elim some (fun j31 => (show Option Bool from if (decide (((List.length t3.1 : Nat) : Int) > 0)) = true then if 0 ≤ (IntKind.wrap .i64 (((List.length t3.1 : Nat) : Int) - 1)) ∧ (IntKind.wrap .i64 (((List.length t3.1 : Nat) : Int) - 1)) < ((List.length t3.1 : Nat) : Int) then (some (t3.2.2 != (((((List.getD t3.1 (Int.toNat (IntKind.wrap .i64 (((List.length t3.1 : Nat) : Int) - 1))) S36.dflt).2).2).2).1))) else none else some false).bind (fun r4 => if (r4) = true then some false else (loopO (F_congresslaw19_SchedFair_b5 t3) (0, x1, 0)).bind (fun r5 => some (decide (r5 ≤ 1))))))))))
theorem W_congresslaw19_SchedFair {x0 : (List S36.ty)} {x1 : Int} {y : Bool} (hF0 : F_congresslaw19_SchedFair x0 x1 = some y) : Pure Try.prog 5 [.v (.sl S36) x0, vu x1] (vb y) := by
  unfold F_congresslaw19_SchedFair at hF0
  refine pure_of_run @Try.call5 @Try.func5 rfl rfl fun w M ho => ?_
  refine sq rfl (rg [(0, .v (.sl S36) x0), (1, vu x1)] [] [] [] 0 rfl (by kernel_rfl) c0 (sq rfl ?_))
  obtain ⟨t1, h1, hF0⟩ := obd hF0
  refine rg [(0, .v (.sl S36) x0), (1, vu x1), (5, .v (.sl (.int .u64)) t1)] [] [(1, ⟨[.v (.sl S36)], .v (.sl (.int .u64)) t1, none⟩)] [] 0 rfl (by kernel_rfl) (cc (W_sched_Sessions h1) c0) (sq rfl (sq rfl ?_))
  obtain ⟨r1, hF1, hF0⟩ := obd hF0
  refine run_cut (fun r1' => r1 = r1') (fun r1 => [(0, .v (.sl S36) x0), (1, vu x1), (5, .v (.sl (.int .u64)) t1), (26, vb r1)]) (fun r1 => []) (fun r1' h2 => ?_) (fun J1_0 => ?_)
  · subst h2
    refine run_if rfl rfl (fun h3 => ?_) (fun h3 => ?_)
    · replace hF0 := ift h3 hF0
      refine sq rfl ?_
      obtain ⟨t2, h4, hF0⟩ := obd hF0
      refine rg [(4, vb t2)] [] [(0, ⟨[], vb t2, none⟩)] [] 0 rfl (by kernel_rfl) (cc (W_congresslaw19_fixed h4) c0) ?_
      obtain rfl := Option.some.inj hF0
      exact ret_pure (q := [vb t2]) [.bool] rfl rfl (by kernel_rfl)
    · replace hF0 := ifn h3 hF0
      refine sk rfl (sq rfl ?_)
      obtain ⟨t3, h5, hF0⟩ := obd hF0
      refine rg [(0, .v (.sl S36) x0), (1, vu x1), (5, .v (.sl (.int .u64)) t1), (6, .v (.sl S36) t3.1), (7, .v (.sl S36) t3.2.1), (8, vu t3.2.2)] [] [(4, ⟨[.v (.sl S36), .v (.int .u64), .v (.int .i64)], .tup [.v (.sl S36) t3.1, .v (.sl S36) t3.2.1, vu t3.2.2], none⟩)] [] 0 rfl (by kernel_rfl) (cc (W_sched_Fill h5) c0) (sq rfl (sq rfl ?_))
      obtain ⟨r2, hF1, hF0⟩ := obd hF0
      refine run_cut (fun r2' => r2 = r2') (fun r2 => [(1, vu x1), (5, .v (.sl (.int .u64)) t1), (6, .v (.sl S36) t3.1), (8, vu t3.2.2), (51, vb r2)]) (fun r2 => []) (fun r2' h6 => ?_) (fun J2_0 => ?_)
      · subst h6
        refine run_if rfl rfl (fun h7 => ?_) (fun h7 => ?_)
        · replace hF0 := ift h7 hF0
          refine sq rfl (rg [(4, vb false)] [] [] [] 0 rfl (by kernel_rfl) c0 ?_)
          obtain rfl := Option.some.inj hF0
          exact ret_pure (q := [vb false]) [.bool] rfl rfl (by kernel_rfl)
        · replace hF0 := ifn h7 hF0
          refine sk rfl (sq rfl (sq rfl (rg [(1, vu x1), (5, .v (.sl (.int .u64)) t1), (6, .v (.sl S36) t3.1), (8, vu t3.2.2), (9, vi 0)] [] [] [] 0 rfl (by kernel_rfl) c0 (bk rfl ?_))))
          obtain ⟨r3, hl3, hF0⟩ := obd hF0
          refine run_cutx 0 rfl (fun j31 => r3 = Sum.inr j31) (fun j31 => [(1, vu x1), (6, .v (.sl S36) t3.1), (8, vu t3.2.2)]) (fun j31 => []) (fun j31 h8 => ?_) (fun J3_1 => ?_)
          · subst h8
            replace hF0 := sumR hF0
            refine sq rfl (sq rfl ?_)
            obtain ⟨r4, hF1, hF0⟩ := obd hF0
            refine run_cut (fun r4' => r4 = r4') (fun r4 => [(1, vu x1), (6, .v (.sl S36) t3.1), (79, vb r4)]) (fun r4 => []) (fun r4' h9 => ?_) (fun J4_0 => ?_)
            · subst h9
              refine run_if rfl rfl (fun h10 => ?_) (fun h10 => ?_)
              · replace hF0 := ift h10 hF0
                refine sq rfl (rg [(4, vb false)] [] [] [] 0 rfl (by kernel_rfl) c0 ?_)
                obtain rfl := Option.some.inj hF0
                exact ret_pure (q := [vb false]) [.bool] rfl rfl (by kernel_rfl)
              · replace hF0 := ifn h10 hF0
                refine sk rfl (sq rfl (rg [(1, vu x1), (6, .v (.sl S36) t3.1), (10, vi 0)] [] [] [] 0 rfl (by kernel_rfl) c0 (sq rfl (rg [(6, .v (.sl S36) t3.1), (10, vi 0), (11, vu x1)] [] [] [] 0 rfl (by kernel_rfl) c0 (sq rfl (sq rfl (rg [(6, .v (.sl S36) t3.1), (10, vi 0), (11, vu x1), (12, vi 0)] [] [] [] 0 rfl (by kernel_rfl) c0 (bk rfl ?_))))))))
                obtain ⟨r5, hl5, hF0⟩ := obd hF0
                refine run_cutx 2 rfl (fun r5' => r5 = r5') (fun r5 => [(10, vi r5)]) (fun r5 => []) (fun r5' h11 => ?_) (fun J5_0 => ?_)
                · subst h11
                  refine sq rfl (rg [(4, vb (decide (r5 ≤ 1)))] [] [] [] 0 rfl (by kernel_rfl) c0 ?_)
                  obtain rfl := Option.some.inj hF0
                  exact ret_pure (q := [vb (decide (r5 ≤ 1))]) [.bool] rfl rfl (by kernel_rfl)
                refine run_loop rfl (run_loopO hl5 (fun s5 => [(6, .v (.sl S36) t3.1), (10, vi s5.1), (11, vu s5.2.1), (12, vi s5.2.2)]) (fun s5 => []) rfl rfl (fun s5 o5 hF1 ih5 hr5 => ?_))
                unfold F_congresslaw19_SchedFair_b5 at hF1
                refine run_again (sq rfl (sq rfl (rg [(6, .v (.sl S36) t3.1), (10, vi s5.1), (11, vu s5.2.1), (12, vi s5.2.2), (84, vb (decide (s5.2.2 < ((List.length t3.1 : Nat) : Int))))] [] [] [] 0 rfl (by kernel_rfl) c0 ?_)))
                refine run_if rfl rfl (fun h12 => ?_) (fun h12 => ?_)
                · replace hF1 := ift h12 hF1
                  refine sk rfl (sq rfl (bk rfl (sq rfl (sq rfl ?_))))
                  obtain ⟨h13, hF1⟩ := ifg hF1
                  refine rg [(6, .v (.sl S36) t3.1), (10, vi s5.1), (12, vi s5.2.2), (93, vb (decide ((((((List.getD t3.1 (Int.toNat s5.2.2) S36.dflt).2).2).2).1) ≤ s5.2.1)))] [] [] [] 0 rfl (by kernel_rfl) (cc h13 c0) ?_
                  obtain ⟨r6, hF2, hF1⟩ := obd hF1
                  refine run_cut (fun r6' => r6 = r6') (fun r6 => [(6, .v (.sl S36) t3.1), (10, vi r6), (12, vi s5.2.2)]) (fun r6 => []) (fun r6' h14 => ?_) (fun J6_0 => ?_)
                  · subst h14
                    obtain ⟨h15, hF1⟩ := ifg hF1
                    refine rg [(6, .v (.sl S36) t3.1), (10, vi r6), (11, vu (((((List.getD t3.1 (Int.toNat s5.2.2) S36.dflt).2).2).2).1)), (12, vi s5.2.2)] [] [] [] 0 rfl (by kernel_rfl) (cc h15 c0) (eb (rg [(6, .v (.sl S36) t3.1), (10, vi r6), (11, vu (((((List.getD t3.1 (Int.toNat s5.2.2) S36.dflt).2).2).2).1)), (12, vi (IntKind.wrap .i64 (s5.2.2 + 1)))] [] [] [] 0 rfl (by kernel_rfl) c0 ?_))
                    exact ih5 _ (Option.some.inj hF1).symm
                  refine run_if rfl rfl (fun h16 => ?_) (fun h16 => ?_)
                  · replace hF2 := ift h16 hF2
                    refine rg [(6, .v (.sl S36) t3.1), (10, vi (IntKind.wrap .i64 (s5.1 + 1))), (12, vi s5.2.2)] [] [] [] 0 rfl (by kernel_rfl) c0 ?_
                    exact J6_0 _ (Option.some.inj hF2).symm
                  · replace hF2 := ifn h16 hF2
                    refine sk rfl (tm (ρ' := [(6, .v (.sl S36) t3.1), (10, vi s5.1), (12, vi s5.2.2)]) (H' := []) (by kernel_rfl) (by kernel_rfl) rfl ?_)
                    exact J6_0 _ (Option.some.inj hF2).symm
                · replace hF1 := ifn h12 hF1
                  refine run_exit rfl rfl (tm (ρ' := [(10, vi s5.1)]) (H' := []) (by kernel_rfl) (by kernel_rfl) rfl ?_)
                  exact J5_0 _ (inrI hr5 hF1).symm
            rcases Bool.eq_false_or_eq_true (decide (((List.length t3.1 : Nat) : Int) > 0)) with h17 | h17
            · replace hF1 := ift h17 hF1
              obtain ⟨h18, hF1⟩ := ifg hF1
              refine rg [(1, vu x1), (6, .v (.sl S36) t3.1), (79, vb (t3.2.2 != (((((List.getD t3.1 (Int.toNat (IntKind.wrap .i64 (((List.length t3.1 : Nat) : Int) - 1))) S36.dflt).2).2).2).1)))] [] [] [(3, true)] 0 rfl (by kernel_rfl) (cc h17 (cc h18 c0)) ?_
              exact J4_0 _ (Option.some.inj hF1).symm
            · replace hF1 := ifn h17 hF1
              refine rg [(1, vu x1), (6, .v (.sl S36) t3.1), (79, vb false)] [] [] [(3, false)] 0 rfl (by kernel_rfl) (cc h17 c0) ?_
              exact J4_0 _ (Option.some.inj hF1).symm
          refine run_loop rfl (run_loopO hl3 (fun s3 => [(1, vu x1), (5, .v (.sl (.int .u64)) t1), (6, .v (.sl S36) t3.1), (8, vu t3.2.2), (9, vi s3)]) (fun s3 => []) rfl rfl (fun s3 o3 hF1 ih3 hr3 => ?_))
          unfold F_congresslaw19_SchedFair_b3 at hF1
          refine run_again (sq rfl (sq rfl (rg [(1, vu x1), (5, .v (.sl (.int .u64)) t1), (6, .v (.sl S36) t3.1), (8, vu t3.2.2), (9, vi s3), (55, vb (decide (s3 < ((List.length t1 : Nat) : Int))))] [] [] [] 0 rfl (by kernel_rfl) c0 ?_)))
          refine run_if rfl rfl (fun h19 => ?_) (fun h19 => ?_)
          · replace hF1 := ift h19 hF1
            refine sk rfl (sq rfl (bk rfl (sq rfl ?_)))
            obtain ⟨h20, hF1⟩ := ifg hF1
            obtain ⟨t4, h21, hF1⟩ := obd hF1
            refine rg [(1, vu x1), (5, .v (.sl (.int .u64)) t1), (6, .v (.sl S36) t3.1), (8, vu t3.2.2), (9, vi s3), (65, vb (((List.length t4 : Nat) : Int) != 1))] [] [(5, ⟨[.v (.sl S36), .v (.int .u64)], .row 0, some ([], [(0, .row 36 S36 t4)])⟩)] [] 0 rfl (by kernel_rfl) (cc h20 (cc (W_congressref19_Of h21) c0)) ?_
            refine run_if rfl rfl (fun h22 => ?_) (fun h22 => ?_)
            · replace hF1 := ift h22 hF1
              refine sq rfl (rg [(4, vb false)] [] [] [] 0 rfl (by kernel_rfl) c0 ?_)
              have e3 := inrI hr3 hF1
              subst e3
              replace hF0 := sumL hF0
              obtain rfl := Option.some.inj hF0
              exact ret_pure (q := [vb false]) [.bool] rfl rfl (by kernel_rfl)
            · replace hF1 := ifn h22 hF1
              refine sk rfl (eb (rg [(1, vu x1), (5, .v (.sl (.int .u64)) t1), (6, .v (.sl S36) t3.1), (8, vu t3.2.2), (9, vi (IntKind.wrap .i64 (s3 + 1)))] [] [] [] 0 rfl (by kernel_rfl) c0 ?_))
              exact ih3 _ (Option.some.inj hF1).symm
          · replace hF1 := ifn h19 hF1
            refine run_exit rfl rfl (tm (ρ' := [(1, vu x1), (6, .v (.sl S36) t3.1), (8, vu t3.2.2)]) (H' := []) (by kernel_rfl) (by kernel_rfl) rfl ?_)
            exact J3_1 _ (inrI hr3 hF1).symm
      rcases Bool.eq_false_or_eq_true (((List.length t3.1 : Nat) : Int) != ((List.length t1 : Nat) : Int)) with h23 | h23
      · replace hF1 := ift h23 hF1
        refine rg [(1, vu x1), (5, .v (.sl (.int .u64)) t1), (6, .v (.sl S36) t3.1), (8, vu t3.2.2), (51, vb true)] [] [] [(5, true)] 0 rfl (by kernel_rfl) (cc h23 c0) ?_
        exact J2_0 _ (Option.some.inj hF1).symm
      · replace hF1 := ifn h23 hF1
        refine rg [(1, vu x1), (5, .v (.sl (.int .u64)) t1), (6, .v (.sl S36) t3.1), (8, vu t3.2.2), (51, vb (((List.length t3.2.1 : Nat) : Int) != (IntKind.wrap .i64 (((List.length x0 : Nat) : Int) - ((List.length t1 : Nat) : Int)))))] [] [] [(5, false)] 0 rfl (by kernel_rfl) (cc h23 c0) ?_
        exact J2_0 _ (Option.some.inj hF1).symm
  obtain ⟨t5, h24, hF1⟩ := obd hF1
  rcases Bool.eq_false_or_eq_true (!t5) with h25 | h25
  · replace hF1 := ift h25 hF1
    refine rg [(0, .v (.sl S36) x0), (1, vu x1), (5, .v (.sl (.int .u64)) t1), (26, vb true)] [] [(0, ⟨[], vb t5, none⟩)] [(2, true)] 0 rfl (by kernel_rfl) (cc (W_congresslaw19_fixed h24) (cc h25 c0)) ?_
    exact J1_0 _ (Option.some.inj hF1).symm
  · replace hF1 := ifn h25 hF1
    rcases Bool.eq_false_or_eq_true (decide (((List.length x0 : Nat) : Int) > 100)) with h26 | h26
    · replace hF1 := ift h26 hF1
      refine rg [(0, .v (.sl S36) x0), (1, vu x1), (5, .v (.sl (.int .u64)) t1), (26, vb true)] [] [(0, ⟨[], vb t5, none⟩)] [(2, false), (7, true)] 0 rfl (by kernel_rfl) (cc (W_congresslaw19_fixed h24) (cc h25 (cc h26 c0))) ?_
      exact J1_0 _ (Option.some.inj hF1).symm
    · replace hF1 := ifn h26 hF1
      refine rg [(0, .v (.sl S36) x0), (1, vu x1), (5, .v (.sl (.int .u64)) t1), (26, vb (decide (((List.length t1 : Nat) : Int) > 16)))] [] [(0, ⟨[], vb t5, none⟩)] [(2, false), (7, false)] 0 rfl (by kernel_rfl) (cc (W_congresslaw19_fixed h24) (cc h25 (cc h26 c0))) ?_
      exact J1_0 _ (Option.some.inj hF1).symm
noncomputable def F_congresslaw19_SchedParts (x0 : (List S36.ty)) (x1 : Int) (x2 : (List Int)) : Option Bool :=
  (show Option Bool from (F_congresslaw19_fixed ).bind fun t7 => (if (!t7) = true then some true else if (decide (((List.length x0 : Nat) : Int) > 100)) = true then some true else if (decide ((List.getD x2 (Int.toNat 0) 0) < 0)) = true then some true else if (decide ((List.getD x2 (Int.toNat 0) 0) > 8)) = true then some true else if (decide ((List.getD x2 (Int.toNat 1) 0) < 0)) = true then some true else some (decide ((List.getD x2 (Int.toNat 1) 0) > 8)))).bind (fun r1 => if (r1) = true then (F_congresslaw19_fixed ).bind fun t1 => (some t1) else (F_sched_Fill x0 x1 (List.getD x2 (Int.toNat 0) 0)).bind fun t2 => ((F_sched_Fill t2.2.1 t2.2.2 (List.getD x2 (Int.toNat 1) 0)).bind fun t3 => ((F_sched_Fill x0 x1 (IntKind.wrap .i64 ((List.getD x2 (Int.toNat 0) 0) + (List.getD x2 (Int.toNat 1) 0)))).bind fun t4 => ((show Option Bool from if apOk (0 + (List.length t2.1)) 56 then (if apOk (List.length ([] ++ t2.1) + (List.length t3.1)) 56 then (F_congressref04_Entries (([] ++ t2.1) ++ t3.1) t4.1).bind fun t5 => (if (t5) = true then (F_congressref04_Entries t3.2.1 t4.2.1).bind fun t6 => (if (t6) = true then some (t3.2.2 == t4.2.2) else some false) else some false) else none) else none).bind (fun r2 => some r2)))))
theorem W_congresslaw19_SchedParts {x0 : (List S36.ty)} {x1 : Int} {x2 : (List Int)} {y : Bool} (hF0 : F_congresslaw19_SchedParts x0 x1 x2 = some y) : Pure Try.prog 6 [.v (.sl S36) x0, vu x1, .v (.arr 2 (.int .i64)) x2] (vb y) := by
  unfold F_congresslaw19_SchedParts at hF0
  refine pure_of_run @Try.call6 @Try.func6 rfl rfl fun w M ho => ?_
  refine sq rfl (rg [(0, .v (.sl S36) x0), (1, vu x1), (5, .ptr 0 [] 0)] [(0, .var 38 (.arr 2 (.int .i64)) x2)] [] [] 0 rfl (by kernel_rfl) c0 (sq rfl (rG [(0, .v (.sl S36) x0), (1, vu x1), (7, vi (List.getD x2 (Int.toNat 0) 0)), (8, vi (List.getD x2 (Int.toNat 1) 0))] [] [] [] 1 rfl rfl (by kernel_rfl) (cc (show 0 ≤ (0 : Int) ∧ (0 : Int) < ((2 : Nat) : Int) from (by decide)) (cc (@rfl Nat (0 + Int.toNat 0 * 1)) (cc (show okP (.arr 2 (.int .i64)) x2 [.i (Int.toNat 0)] from ⟨okI (by decide), trivial⟩) (cc (show 0 ≤ (1 : Int) ∧ (1 : Int) < ((2 : Nat) : Int) from (by decide)) (cc (@rfl Nat (0 + Int.toNat 1 * 1)) (cc (show okP (.arr 2 (.int .i64)) x2 [.i (Int.toNat 1)] from ⟨okI (by decide), trivial⟩) c0)))))) (sq rfl (sq rfl ?_)))))
  obtain ⟨r1, hF1, hF0⟩ := obd hF0
  refine run_cut (fun r1' => r1 = r1') (fun r1 => [(0, .v (.sl S36) x0), (1, vu x1), (7, vi (List.getD x2 (Int.toNat 0) 0)), (8, vi (List.getD x2 (Int.toNat 1) 0)), (44, vb r1)]) (fun r1 => []) (fun r1' h1 => ?_) (fun J1_0 => ?_)
  · subst h1
    refine run_if rfl rfl (fun h2 => ?_) (fun h2 => ?_)
    · replace hF0 := ift h2 hF0
      refine sq rfl ?_
      obtain ⟨t1, h3, hF0⟩ := obd hF0
      refine rg [(6, vb t1)] [] [(0, ⟨[], vb t1, none⟩)] [] 0 rfl (by kernel_rfl) (cc (W_congresslaw19_fixed h3) c0) ?_
      obtain rfl := Option.some.inj hF0
      exact ret_pure (q := [vb t1]) [.bool] rfl rfl (by kernel_rfl)
    · replace hF0 := ifn h2 hF0
      refine sk rfl (sq rfl ?_)
      obtain ⟨t2, h4, hF0⟩ := obd hF0
      refine rg [(0, .v (.sl S36) x0), (1, vu x1), (7, vi (List.getD x2 (Int.toNat 0) 0)), (8, vi (List.getD x2 (Int.toNat 1) 0)), (9, .v (.sl S36) t2.1), (10, .v (.sl S36) t2.2.1), (11, vu t2.2.2)] [] [(3, ⟨[.v (.sl S36), .v (.int .u64), .v (.int .i64)], .tup [.v (.sl S36) t2.1, .v (.sl S36) t2.2.1, vu t2.2.2], none⟩)] [] 0 rfl (by kernel_rfl) (cc (W_sched_Fill h4) c0) (sq rfl ?_)
      obtain ⟨t3, h5, hF0⟩ := obd hF0
      refine rg [(0, .v (.sl S36) x0), (1, vu x1), (7, vi (List.getD x2 (Int.toNat 0) 0)), (8, vi (List.getD x2 (Int.toNat 1) 0)), (9, .v (.sl S36) t2.1), (12, .v (.sl S36) t3.1), (13, .v (.sl S36) t3.2.1), (14, vu t3.2.2)] [] [(3, ⟨[.v (.sl S36), .v (.int .u64), .v (.int .i64)], .tup [.v (.sl S36) t3.1, .v (.sl S36) t3.2.1, vu t3.2.2], none⟩)] [] 0 rfl (by kernel_rfl) (cc (W_sched_Fill h5) c0) (sq rfl ?_)
      obtain ⟨t4, h6, hF0⟩ := obd hF0
      refine rg [(9, .v (.sl S36) t2.1), (12, .v (.sl S36) t3.1), (13, .v (.sl S36) t3.2.1), (14, vu t3.2.2), (15, .v (.sl S36) t4.1), (16, .v (.sl S36) t4.2.1), (17, vu t4.2.2)] [] [(5, ⟨[.v (.sl S36), .v (.int .u64), .v (.int .i64)], .tup [.v (.sl S36) t4.1, .v (.sl S36) t4.2.1, vu t4.2.2], none⟩)] [] 0 rfl (by kernel_rfl) (cc (W_sched_Fill h6) c0) (sq rfl ?_)
      obtain ⟨r2, hF1, hF0⟩ := obd hF0
      refine run_cut (fun r2' => r2 = r2') (fun r2 => [(6, vb r2)]) (fun r2 => []) (fun r2' h7 => ?_) (fun J2_0 => ?_)
      · subst h7
        obtain rfl := Option.some.inj hF0
        exact ret_pure (q := [vb r2]) [.bool] rfl rfl (by kernel_rfl)
      obtain ⟨h8, hF1⟩ := ifg hF1
      obtain ⟨h9, hF1⟩ := ifg hF1
      obtain ⟨t5, h10, hF1⟩ := obd hF1
      rcases Bool.eq_false_or_eq_true (t5) with h11 | h11
      · replace hF1 := ift h11 hF1
        obtain ⟨t6, h12, hF1⟩ := obd hF1
        rcases Bool.eq_false_or_eq_true (t6) with h13 | h13
        · replace hF1 := ift h13 hF1
          refine rg [(6, vb (t3.2.2 == t4.2.2))] [] [(6, ⟨[.v (.sl S36), .v (.sl S36)], vb t5, none⟩), (10, ⟨[.v (.sl S36), .v (.sl S36)], vb t6, none⟩)] [(7, true), (12, true)] 0 rfl (by kernel_rfl) (cc h8.1 (cc h8.2 (cc h9.1 (cc h9.2 (cc (W_congressref04_Entries h10) (cc h11 (cc (W_congressref04_Entries h12) (cc h13 c0)))))))) ?_
          exact J2_0 _ (Option.some.inj hF1).symm
        · replace hF1 := ifn h13 hF1
          refine rg [(6, vb false)] [] [(6, ⟨[.v (.sl S36), .v (.sl S36)], vb t5, none⟩), (10, ⟨[.v (.sl S36), .v (.sl S36)], vb t6, none⟩)] [(7, true), (12, false)] 0 rfl (by kernel_rfl) (cc h8.1 (cc h8.2 (cc h9.1 (cc h9.2 (cc (W_congressref04_Entries h10) (cc h11 (cc (W_congressref04_Entries h12) (cc h13 c0)))))))) ?_
          exact J2_0 _ (Option.some.inj hF1).symm
      · replace hF1 := ifn h11 hF1
        refine rg [(6, vb false)] [] [(6, ⟨[.v (.sl S36), .v (.sl S36)], vb t5, none⟩)] [(7, false)] 0 rfl (by kernel_rfl) (cc h8.1 (cc h8.2 (cc h9.1 (cc h9.2 (cc (W_congressref04_Entries h10) (cc h11 c0)))))) ?_
        exact J2_0 _ (Option.some.inj hF1).symm
  obtain ⟨t7, h14, hF1⟩ := obd hF1
  rcases Bool.eq_false_or_eq_true (!t7) with h15 | h15
  · replace hF1 := ift h15 hF1
    refine rg [(0, .v (.sl S36) x0), (1, vu x1), (7, vi (List.getD x2 (Int.toNat 0) 0)), (8, vi (List.getD x2 (Int.toNat 1) 0)), (44, vb true)] [] [(0, ⟨[], vb t7, none⟩)] [(2, true)] 0 rfl (by kernel_rfl) (cc (W_congresslaw19_fixed h14) (cc h15 c0)) ?_
    exact J1_0 _ (Option.some.inj hF1).symm
  · replace hF1 := ifn h15 hF1
    rcases Bool.eq_false_or_eq_true (decide (((List.length x0 : Nat) : Int) > 100)) with h16 | h16
    · replace hF1 := ift h16 hF1
      refine rg [(0, .v (.sl S36) x0), (1, vu x1), (7, vi (List.getD x2 (Int.toNat 0) 0)), (8, vi (List.getD x2 (Int.toNat 1) 0)), (44, vb true)] [] [(0, ⟨[], vb t7, none⟩)] [(2, false), (7, true)] 0 rfl (by kernel_rfl) (cc (W_congresslaw19_fixed h14) (cc h15 (cc h16 c0))) ?_
      exact J1_0 _ (Option.some.inj hF1).symm
    · replace hF1 := ifn h16 hF1
      rcases Bool.eq_false_or_eq_true (decide ((List.getD x2 (Int.toNat 0) 0) < 0)) with h17 | h17
      · replace hF1 := ift h17 hF1
        refine rg [(0, .v (.sl S36) x0), (1, vu x1), (7, vi (List.getD x2 (Int.toNat 0) 0)), (8, vi (List.getD x2 (Int.toNat 1) 0)), (44, vb true)] [] [(0, ⟨[], vb t7, none⟩)] [(2, false), (7, false), (11, true)] 0 rfl (by kernel_rfl) (cc (W_congresslaw19_fixed h14) (cc h15 (cc h16 (cc h17 c0)))) ?_
        exact J1_0 _ (Option.some.inj hF1).symm
      · replace hF1 := ifn h17 hF1
        rcases Bool.eq_false_or_eq_true (decide ((List.getD x2 (Int.toNat 0) 0) > 8)) with h18 | h18
        · replace hF1 := ift h18 hF1
          refine rg [(0, .v (.sl S36) x0), (1, vu x1), (7, vi (List.getD x2 (Int.toNat 0) 0)), (8, vi (List.getD x2 (Int.toNat 1) 0)), (44, vb true)] [] [(0, ⟨[], vb t7, none⟩)] [(2, false), (7, false), (11, false), (15, true)] 0 rfl (by kernel_rfl) (cc (W_congresslaw19_fixed h14) (cc h15 (cc h16 (cc h17 (cc h18 c0))))) ?_
          exact J1_0 _ (Option.some.inj hF1).symm
        · replace hF1 := ifn h18 hF1
          rcases Bool.eq_false_or_eq_true (decide ((List.getD x2 (Int.toNat 1) 0) < 0)) with h19 | h19
          · replace hF1 := ift h19 hF1
            refine rg [(0, .v (.sl S36) x0), (1, vu x1), (7, vi (List.getD x2 (Int.toNat 0) 0)), (8, vi (List.getD x2 (Int.toNat 1) 0)), (44, vb true)] [] [(0, ⟨[], vb t7, none⟩)] [(2, false), (7, false), (11, false), (15, false), (19, true)] 0 rfl (by kernel_rfl) (cc (W_congresslaw19_fixed h14) (cc h15 (cc h16 (cc h17 (cc h18 (cc h19 c0)))))) ?_
            exact J1_0 _ (Option.some.inj hF1).symm
          · replace hF1 := ifn h19 hF1
            refine rg [(0, .v (.sl S36) x0), (1, vu x1), (7, vi (List.getD x2 (Int.toNat 0) 0)), (8, vi (List.getD x2 (Int.toNat 1) 0)), (44, vb (decide ((List.getD x2 (Int.toNat 1) 0) > 8)))] [] [(0, ⟨[], vb t7, none⟩)] [(2, false), (7, false), (11, false), (15, false), (19, false)] 0 rfl (by kernel_rfl) (cc (W_congresslaw19_fixed h14) (cc h15 (cc h16 (cc h17 (cc h18 (cc h19 c0)))))) ?_
            exact J1_0 _ (Option.some.inj hF1).symm
end Go.Proofs.Ytjnaphniplfpkaa
