/- Functions of the program as plain functions, and that the code comes to them; printed by wip/e/gene.py. -/
import Derived.Test.YtjnaphniplfpkaaEI
set_option maxRecDepth 4000
set_option linter.unusedVariables false
namespace Go.Proofs.Ytjnaphniplfpkaa
open Go.RowKit
noncomputable def F_cmp_isNaN_uint64 (x0 : Int) : Option Bool :=
  some (x0 != x0)
theorem W_cmp_isNaN_uint64 {x0 : Int} {y : Bool} (hF0 : F_cmp_isNaN_uint64 x0 = some y) : Pure Try.prog 45 [vu x0] (vb y) := by
  unfold F_cmp_isNaN_uint64 at hF0
  refine pure_of_run @Try.call45 @Try.func45 rfl rfl fun w M ho => ?_
  refine sq rfl (rg [(0, vu x0)] [] [] [] 0 rfl (by kernel_rfl) c0 (sq rfl (rg [(2, vb (x0 != x0))] [] [] [] 0 rfl (by kernel_rfl) c0 ?_)))
  obtain rfl := Option.some.inj hF0
  exact ret_pure (q := [vb (x0 != x0)]) [.bool] rfl rfl (by kernel_rfl)
noncomputable def F_cmp_Less_uint64 (x0 : Int) (x1 : Int) : Option Bool :=
  (show Option Bool from (F_cmp_isNaN_uint64 x0).bind fun t1 => (if (t1) = true then (F_cmp_isNaN_uint64 x1).bind fun t2 => (if (!t2) = true then some true else some (decide (x0 < x1))) else some (decide (x0 < x1)))).bind (fun r1 => some r1)
theorem W_cmp_Less_uint64 {x0 : Int} {x1 : Int} {y : Bool} (hF0 : F_cmp_Less_uint64 x0 x1 = some y) : Pure Try.prog 35 [vu x0, vu x1] (vb y) := by
  unfold F_cmp_Less_uint64 at hF0
  refine pure_of_run @Try.call35 @Try.func35 rfl rfl fun w M ho => ?_
  refine sq rfl (rg [(0, vu x0), (1, vu x1)] [] [] [] 0 rfl (by kernel_rfl) c0 (sq rfl ?_))
  obtain ⟨r1, hF1, hF0⟩ := obd hF0
  refine run_cut (fun r1' => r1 = r1') (fun r1 => [(4, vb r1)]) (fun r1 => []) (fun r1' h1 => ?_) (fun J1_0 => ?_)
  · subst h1
    obtain rfl := Option.some.inj hF0
    exact ret_pure (q := [vb r1]) [.bool] rfl rfl (by kernel_rfl)
  obtain ⟨t1, h2, hF1⟩ := obd hF1
  rcases Bool.eq_false_or_eq_true (t1) with h3 | h3
  · replace hF1 := ift h3 hF1
    obtain ⟨t2, h4, hF1⟩ := obd hF1
    rcases Bool.eq_false_or_eq_true (!t2) with h5 | h5
    · replace hF1 := ift h5 hF1
      refine rg [(4, vb true)] [] [(1, ⟨[.v (.int .u64)], vb t1, none⟩), (4, ⟨[.v (.int .u64)], vb t2, none⟩)] [(2, true), (7, true)] 0 rfl (by kernel_rfl) (cc (W_cmp_isNaN_uint64 h2) (cc h3 (cc (W_cmp_isNaN_uint64 h4) (cc h5 c0)))) ?_
      exact J1_0 _ (Option.some.inj hF1).symm
    · replace hF1 := ifn h5 hF1
      refine rg [(4, vb (decide (x0 < x1)))] [] [(1, ⟨[.v (.int .u64)], vb t1, none⟩), (4, ⟨[.v (.int .u64)], vb t2, none⟩)] [(2, true), (7, false)] 0 rfl (by kernel_rfl) (cc (W_cmp_isNaN_uint64 h2) (cc h3 (cc (W_cmp_isNaN_uint64 h4) (cc h5 c0)))) ?_
      exact J1_0 _ (Option.some.inj hF1).symm
  · replace hF1 := ifn h3 hF1
    refine rg [(4, vb (decide (x0 < x1)))] [] [(1, ⟨[.v (.int .u64)], vb t1, none⟩)] [(2, false)] 0 rfl (by kernel_rfl) (cc (W_cmp_isNaN_uint64 h2) (cc h3 c0)) ?_
    exact J1_0 _ (Option.some.inj hF1).symm
noncomputable def F_slices_insertionSortOrdered_uint64_b2 (x1 : Int) (s2 : (Int × (List Int))) : Option ((Int × (List Int)) ⊕ (List Int)) :=
  (show Option Bool from if (decide (s2.1 > x1)) = true then if 0 ≤ s2.1 ∧ s2.1 < ((List.length s2.2 : Nat) : Int) then (if 0 ≤ (IntKind.wrap .i64 (s2.1 - 1)) ∧ (IntKind.wrap .i64 (s2.1 - 1)) < ((List.length s2.2 : Nat) : Int) then (F_cmp_Less_uint64 (List.getD s2.2 (Int.toNat s2.1) 0) (List.getD s2.2 (Int.toNat (IntKind.wrap .i64 (s2.1 - 1))) 0)).bind fun t1 => (some t1) else none) else none else some false).bind (fun r3 => if (r3) = true then if 0 ≤ (IntKind.wrap .i64 (s2.1 - 1)) ∧ (IntKind.wrap .i64 (s2.1 - 1)) < ((List.length s2.2 : Nat) : Int) then (if 0 ≤ s2.1 ∧ s2.1 < ((List.length s2.2 : Nat) : Int) then (if 0 ≤ s2.1 ∧ s2.1 < ((List.length s2.2 : Nat) : Int) then (if 0 ≤ (IntKind.wrap .i64 (s2.1 - 1)) ∧ (IntKind.wrap .i64 (s2.1 - 1)) < ((List.length (List.set s2.2 (Int.toNat s2.1) (List.getD s2.2 (Int.toNat (IntKind.wrap .i64 (s2.1 - 1))) 0)) : Nat) : Int) then (some (Sum.inl (IntKind.wrap .i64 (s2.1 - 1), List.set (List.set s2.2 (Int.toNat s2.1) (List.getD s2.2 (Int.toNat (IntKind.wrap .i64 (s2.1 - 1))) 0)) (Int.toNat (IntKind.wrap .i64 (s2.1 - 1))) (List.getD s2.2 (Int.toNat s2.1) 0)))) else none) else none) else none) else none else some (Sum.inr s2.2))
noncomputable def F_slices_insertionSortOrdered_uint64_b1 (x1 : Int) (x2 : Int) (s1 : (Int × (List Int))) : Option ((Int × (List Int)) ⊕ (List Int)) :=
  if (decide (s1.1 < x2)) = true then (loopO (F_slices_insertionSortOrdered_uint64_b2 x1) (s1.1, s1.2)).bind (fun r2 => some (Sum.inl (IntKind.wrap .i64 (s1.1 + 1), r2))) else some (Sum.inr s1.2)
noncomputable def F_slices_insertionSortOrdered_uint64 (x0 : (List Int)) (x1 : Int) (x2 : Int) : Option (List Int) :=
  (loopO (F_slices_insertionSortOrdered_uint64_b1 x1 x2) (IntKind.wrap .i64 (x1 + 1), x0)).bind (fun r1 => some r1)
theorem W_slices_insertionSortOrdered_uint64 {x0 : (List Int)} {x1 : Int} {x2 : Int} {y : (List Int)} (hF0 : F_slices_insertionSortOrdered_uint64 x0 x1 x2 = some y) : Mut Try.prog 29 1 [.row 0, vi x1, vi x2] [(0, .row 23 (.int .u64) x0)] (.tup []) [(0, .row 23 (.int .u64) y)] := by
  unfold F_slices_insertionSortOrdered_uint64 at hF0
  refine mut_of_run @Try.call29 @Try.func29 rfl rfl fun b => ?_
  refine sq rfl (rg [(0, .row 0), (1, vi x1), (2, vi x2), (6, vi (IntKind.wrap .i64 (x1 + 1)))] [(0, .row 23 (.int .u64) x0)] [] [] 1 rfl (by kernel_rfl) c0 (bk rfl ?_))
  obtain ⟨r1, hl1, hF0⟩ := obd hF0
  refine run_cutx 0 rfl (fun r1' => r1 = r1') (fun r1 => []) (fun r1 => [(0, .row 23 (.int .u64) r1)]) (fun r1' h1 => ?_) (fun J1_0 => ?_)
  · subst h1
    obtain rfl := Option.some.inj hF0
    exact fall_mut (q := []) [] [0] rfl (by kernel_rfl) rfl (by kernel_rfl)
  refine run_loop rfl (run_loopO hl1 (fun s1 => [(0, .row 0), (1, vi x1), (2, vi x2), (6, vi s1.1)]) (fun s1 => [(0, .row 23 (.int .u64) s1.2)]) rfl rfl (fun s1 o1 hF1 ih1 hr1 => ?_))
  unfold F_slices_insertionSortOrdered_uint64_b1 at hF1
  refine run_again (sq rfl (sq rfl (rg [(0, .row 0), (1, vi x1), (2, vi x2), (6, vi s1.1), (12, vb (decide (s1.1 < x2)))] [(0, .row 23 (.int .u64) s1.2)] [] [] 1 rfl (by kernel_rfl) c0 ?_)))
  refine run_if rfl rfl (fun h2 => ?_) (fun h2 => ?_)
  · replace hF1 := ift h2 hF1
    refine sk rfl (sq rfl (bk rfl (sq rfl (rg [(0, .row 0), (1, vi x1), (2, vi x2), (6, vi s1.1), (7, vi s1.1)] [(0, .row 23 (.int .u64) s1.2)] [] [] 1 rfl (by kernel_rfl) c0 (bk rfl ?_)))))
    obtain ⟨r2, hl2, hF1⟩ := obd hF1
    refine run_cutx 2 rfl (fun r2' => r2 = r2') (fun r2 => [(0, .row 0), (1, vi x1), (2, vi x2), (6, vi s1.1)]) (fun r2 => [(0, .row 23 (.int .u64) r2)]) (fun r2' h3 => ?_) (fun J2_0 => ?_)
    · subst h3
      refine eb (rg [(0, .row 0), (1, vi x1), (2, vi x2), (6, vi (IntKind.wrap .i64 (s1.1 + 1)))] [(0, .row 23 (.int .u64) r2)] [] [] 1 rfl (by kernel_rfl) c0 ?_)
      exact ih1 _ (Option.some.inj hF1).symm
    refine run_loop rfl (run_loopO hl2 (fun s2 => [(0, .row 0), (1, vi x1), (2, vi x2), (6, vi s1.1), (7, vi s2.1)]) (fun s2 => [(0, .row 23 (.int .u64) s2.2)]) rfl rfl (fun s2 o2 hF2 ih2 hr2 => ?_))
    unfold F_slices_insertionSortOrdered_uint64_b2 at hF2
    refine run_again (sq rfl (sq rfl ?_))
    obtain ⟨r3, hF3, hF2⟩ := obd hF2
    refine run_cut (fun r3' => r3 = r3') (fun r3 => [(0, .row 0), (1, vi x1), (2, vi x2), (6, vi s1.1), (7, vi s2.1), (30, vb r3)]) (fun r3 => [(0, .row 23 (.int .u64) s2.2)]) (fun r3' h4 => ?_) (fun J3_0 => ?_)
    · subst h4
      refine run_if rfl rfl (fun h5 => ?_) (fun h5 => ?_)
      · replace hF2 := ift h5 hF2
        refine sk rfl (sq rfl (bk rfl ?_))
        obtain ⟨h6, hF2⟩ := ifg hF2
        obtain ⟨h7, hF2⟩ := ifg hF2
        obtain ⟨h8, hF2⟩ := ifg hF2
        obtain ⟨h9, hF2⟩ := ifg hF2
        refine rG [(0, .row 0), (1, vi x1), (2, vi x2), (6, vi s1.1), (7, vi s2.1)] [(0, .row 23 (.int .u64) (List.set (List.set s2.2 (Int.toNat s2.1) (List.getD s2.2 (Int.toNat (IntKind.wrap .i64 (s2.1 - 1))) 0)) (Int.toNat (IntKind.wrap .i64 (s2.1 - 1))) (List.getD s2.2 (Int.toNat s2.1) 0)))] [] [] 1 rfl rfl (by kernel_rfl) (cc h6 (cc (@rfl Nat (Int.toNat (IntKind.wrap .i64 (s2.1 - 1)) * 1)) (cc (oo h6 trivial) (cc h7 (cc (@rfl Nat (Int.toNat s2.1 * 1)) (cc (oo h7 trivial) (cc h8 (cc (@rfl Nat (Int.toNat s2.1 * 1)) (cc (oo h8 trivial) (cc h9 (cc (@rfl Nat (Int.toNat (IntKind.wrap .i64 (s2.1 - 1)) * 1)) (cc (oo h9 trivial) c0)))))))))))) (eb (rg [(0, .row 0), (1, vi x1), (2, vi x2), (6, vi s1.1), (7, vi (IntKind.wrap .i64 (s2.1 - 1)))] [(0, .row 23 (.int .u64) (List.set (List.set s2.2 (Int.toNat s2.1) (List.getD s2.2 (Int.toNat (IntKind.wrap .i64 (s2.1 - 1))) 0)) (Int.toNat (IntKind.wrap .i64 (s2.1 - 1))) (List.getD s2.2 (Int.toNat s2.1) 0)))] [] [] 1 rfl (by kernel_rfl) c0 ?_))
        exact ih2 _ (Option.some.inj hF2).symm
      · replace hF2 := ifn h5 hF2
        refine run_exit rfl rfl (tm (ρ' := [(0, .row 0), (1, vi x1), (2, vi x2), (6, vi s1.1)]) (H' := [(0, .row 23 (.int .u64) s2.2)]) (by kernel_rfl) (by kernel_rfl) rfl ?_)
        exact J2_0 _ (inrI hr2 hF2).symm
    rcases Bool.eq_false_or_eq_true (decide (s2.1 > x1)) with h10 | h10
    · replace hF3 := ift h10 hF3
      obtain ⟨h11, hF3⟩ := ifg hF3
      obtain ⟨h12, hF3⟩ := ifg hF3
      obtain ⟨t1, h13, hF3⟩ := obd hF3
      refine rG [(0, .row 0), (1, vi x1), (2, vi x2), (6, vi s1.1), (7, vi s2.1), (30, vb t1)] [(0, .row 23 (.int .u64) s2.2)] [(13, ⟨[.v (.int .u64), .v (.int .u64)], vb t1, none⟩)] [(3, true)] 1 rfl rfl (by kernel_rfl) (cc h10 (cc h11 (cc (@rfl Nat (Int.toNat s2.1 * 1)) (cc (oo h11 trivial) (cc h12 (cc (@rfl Nat (Int.toNat (IntKind.wrap .i64 (s2.1 - 1)) * 1)) (cc (oo h12 trivial) (cc (W_cmp_Less_uint64 h13) c0)))))))) ?_
      exact J3_0 _ (Option.some.inj hF3).symm
    · replace hF3 := ifn h10 hF3
      refine rG [(0, .row 0), (1, vi x1), (2, vi x2), (6, vi s1.1), (7, vi s2.1), (30, vb false)] [(0, .row 23 (.int .u64) s2.2)] [] [(3, false)] 1 rfl rfl (by kernel_rfl) (cc h10 c0) ?_
      exact J3_0 _ (Option.some.inj hF3).symm
  · replace hF1 := ifn h2 hF1
    refine run_exit rfl rfl (tm (ρ' := []) (H' := [(0, .row 23 (.int .u64) s1.2)]) (by kernel_rfl) (by kernel_rfl) rfl ?_)
    exact J1_0 _ (inrI hr1 hF1).symm
noncomputable def F_slices_siftDownOrdered_uint64_b1 (x2 : Int) (x3 : Int) (s1 : (Int × (List Int))) : Option ((Int × (List Int)) ⊕ ((List Int) ⊕ (List Int))) :=
  if (decide ((IntKind.wrap .i64 ((IntKind.wrap .i64 ((2 : Int) * s1.1)) + 1)) ≥ x2)) = true then some (Sum.inr (Sum.inl s1.2)) else (show Option Bool from if (decide ((IntKind.wrap .i64 ((IntKind.wrap .i64 ((IntKind.wrap .i64 ((2 : Int) * s1.1)) + 1)) + 1)) < x2)) = true then if 0 ≤ (IntKind.wrap .i64 (x3 + (IntKind.wrap .i64 ((IntKind.wrap .i64 ((2 : Int) * s1.1)) + 1)))) ∧ (IntKind.wrap .i64 (x3 + (IntKind.wrap .i64 ((IntKind.wrap .i64 ((2 : Int) * s1.1)) + 1)))) < ((List.length s1.2 : Nat) : Int) then (if 0 ≤ (IntKind.wrap .i64 ((IntKind.wrap .i64 (x3 + (IntKind.wrap .i64 ((IntKind.wrap .i64 ((2 : Int) * s1.1)) + 1)))) + 1)) ∧ (IntKind.wrap .i64 ((IntKind.wrap .i64 (x3 + (IntKind.wrap .i64 ((IntKind.wrap .i64 ((2 : Int) * s1.1)) + 1)))) + 1)) < ((List.length s1.2 : Nat) : Int) then (F_cmp_Less_uint64 (List.getD s1.2 (Int.toNat (IntKind.wrap .i64 (x3 + (IntKind.wrap .i64 ((IntKind.wrap .i64 ((2 : Int) * s1.1)) + 1))))) 0) (List.getD s1.2 (Int.toNat (IntKind.wrap .i64 ((IntKind.wrap .i64 (x3 + (IntKind.wrap .i64 ((IntKind.wrap .i64 ((2 : Int) * s1.1)) + 1)))) + 1))) 0)).bind fun t2 => (some t2) else none) else none else some false).bind (fun r2 => (show Option Int from if (r2) = true then some (IntKind.wrap .i64 ((IntKind.wrap .i64 ((IntKind.wrap .i64 ((2 : Int) * s1.1)) + 1)) + 1)) else some (IntKind.wrap .i64 ((IntKind.wrap .i64 ((2 : Int) * s1.1)) + 1))).bind (fun r3 => if 0 ≤ (IntKind.wrap .i64 (x3 + s1.1)) ∧ (IntKind.wrap .i64 (x3 + s1.1)) < ((List.length s1.2 : Nat) : Int) then (if 0 ≤ (IntKind.wrap .i64 (x3 + r3)) ∧ (IntKind.wrap .i64 (x3 + r3)) < ((List.length s1.2 : Nat) : Int) then (F_cmp_Less_uint64 (List.getD s1.2 (Int.toNat (IntKind.wrap .i64 (x3 + s1.1))) 0) (List.getD s1.2 (Int.toNat (IntKind.wrap .i64 (x3 + r3))) 0)).bind fun t1 => (if (!t1) = true then some (Sum.inr (Sum.inr s1.2)) else if 0 ≤ (IntKind.wrap .i64 (x3 + r3)) ∧ (IntKind.wrap .i64 (x3 + r3)) < ((List.length s1.2 : Nat) : Int) then (if 0 ≤ (IntKind.wrap .i64 (x3 + s1.1)) ∧ (IntKind.wrap .i64 (x3 + s1.1)) < ((List.length s1.2 : Nat) : Int) then (if 0 ≤ (IntKind.wrap .i64 (x3 + s1.1)) ∧ (IntKind.wrap .i64 (x3 + s1.1)) < ((List.length s1.2 : Nat) : Int) then (if 0 ≤ (IntKind.wrap .i64 (x3 + r3)) ∧ (IntKind.wrap .i64 (x3 + r3)) < ((List.length (List.set s1.2 (Int.toNat (IntKind.wrap .i64 (x3 + s1.1))) (List.getD s1.2 (Int.toNat (IntKind.wrap .i64 (x3 + r3))) 0)) : Nat) : Int) then (some (Sum.inl (r3, List.set (List.set s1.2 (Int.toNat (IntKind.wrap .i64 (x3 + s1.1))) (List.getD s1.2 (Int.toNat (IntKind.wrap .i64 (x3 + r3))) 0)) (Int.toNat (IntKind.wrap .i64 (x3 + r3))) (List.getD s1.2 (Int.toNat (IntKind.wrap .i64 (x3 + s1.1))) 0)))) else none) else none) else none) else none) else none) else none))
noncomputable def F_slices_siftDownOrdered_uint64 (x0 : (List Int)) (x1 : Int) (x2 : Int) (x3 : Int) : Option (List Int) :=
  (loopO (F_slices_siftDownOrdered_uint64_b1 x2 x3) (x1, x0)).bind (Sum.elim (fun j10 => some j10) some)
theorem W_slices_siftDownOrdered_uint64 {x0 : (List Int)} {x1 : Int} {x2 : Int} {x3 : Int} {y : (List Int)} (hF0 : F_slices_siftDownOrdered_uint64 x0 x1 x2 x3 = some y) : Mut Try.prog 40 1 [.row 0, vi x1, vi x2, vi x3] [(0, .row 23 (.int .u64) x0)] (.tup []) [(0, .row 23 (.int .u64) y)] := by
  unfold F_slices_siftDownOrdered_uint64 at hF0
  refine mut_of_run @Try.call40 @Try.func40 rfl rfl fun b => ?_
  refine sq rfl (rg [(0, .row 0), (2, vi x2), (3, vi x3), (8, vi x1)] [(0, .row 23 (.int .u64) x0)] [] [] 1 rfl (by kernel_rfl) c0 (bk rfl ?_))
  obtain ⟨r1, hl1, hF0⟩ := obd hF0
  refine run_cutx 0 rfl (fun j10 => r1 = Sum.inl j10) (fun j10 => []) (fun j10 => [(0, .row 23 (.int .u64) j10)]) (fun j10 h1 => ?_) (fun J1_0 => ?_)
  · subst h1
    replace hF0 := sumL hF0
    obtain rfl := Option.some.inj hF0
    exact fall_mut (q := []) [] [0] rfl (by kernel_rfl) rfl (by kernel_rfl)
  refine run_loop rfl (run_loopO hl1 (fun s1 => [(0, .row 0), (2, vi x2), (3, vi x3), (8, vi s1.1)]) (fun s1 => [(0, .row 23 (.int .u64) s1.2)]) rfl rfl (fun s1 o1 hF1 ih1 hr1 => ?_))
  unfold F_slices_siftDownOrdered_uint64_b1 at hF1
  refine run_again (bk rfl (sq rfl (rg [(0, .row 0), (2, vi x2), (3, vi x3), (8, vi s1.1), (9, vi (IntKind.wrap .i64 ((IntKind.wrap .i64 ((2 : Int) * s1.1)) + 1)))] [(0, .row 23 (.int .u64) s1.2)] [] [] 1 rfl (by kernel_rfl) c0 (sq rfl (sq rfl (rg [(0, .row 0), (2, vi x2), (3, vi x3), (8, vi s1.1), (9, vi (IntKind.wrap .i64 ((IntKind.wrap .i64 ((2 : Int) * s1.1)) + 1))), (16, vb (decide ((IntKind.wrap .i64 ((IntKind.wrap .i64 ((2 : Int) * s1.1)) + 1)) ≥ x2)))] [(0, .row 23 (.int .u64) s1.2)] [] [] 1 rfl (by kernel_rfl) c0 ?_))))))
  refine run_if rfl rfl (fun h2 => ?_) (fun h2 => ?_)
  · replace hF1 := ift h2 hF1
    refine run_exit rfl rfl (tm (ρ' := []) (H' := [(0, .row 23 (.int .u64) s1.2)]) (by kernel_rfl) (by kernel_rfl) rfl ?_)
    exact J1_0 _ (inrI hr1 hF1).symm
  · replace hF1 := ifn h2 hF1
    refine sk rfl (sq rfl (sq rfl ?_))
    obtain ⟨r2, hF2, hF1⟩ := obd hF1
    refine run_cut (fun r2' => r2 = r2') (fun r2 => [(0, .row 0), (2, vi x2), (3, vi x3), (8, vi s1.1), (9, vi (IntKind.wrap .i64 ((IntKind.wrap .i64 ((2 : Int) * s1.1)) + 1))), (36, vb r2)]) (fun r2 => [(0, .row 23 (.int .u64) s1.2)]) (fun r2' h3 => ?_) (fun J2_0 => ?_)
    · subst h3
      obtain ⟨r3, hF2, hF1⟩ := obd hF1
      refine run_cut (fun r3' => r3 = r3') (fun r3 => [(0, .row 0), (2, vi x2), (3, vi x3), (8, vi s1.1), (9, vi r3)]) (fun r3 => [(0, .row 23 (.int .u64) s1.2)]) (fun r3' h4 => ?_) (fun J3_0 => ?_)
      · subst h4
        refine sq rfl (sq rfl ?_)
        obtain ⟨h5, hF1⟩ := ifg hF1
        obtain ⟨h6, hF1⟩ := ifg hF1
        obtain ⟨t1, h7, hF1⟩ := obd hF1
        refine rG [(0, .row 0), (2, vi x2), (3, vi x3), (8, vi s1.1), (9, vi r3), (52, vb (!t1))] [(0, .row 23 (.int .u64) s1.2)] [(12, ⟨[.v (.int .u64), .v (.int .u64)], vb t1, none⟩)] [] 1 rfl rfl (by kernel_rfl) (cc h5 (cc (@rfl Nat (Int.toNat (IntKind.wrap .i64 (x3 + s1.1)) * 1)) (cc (oo h5 trivial) (cc h6 (cc (@rfl Nat (Int.toNat (IntKind.wrap .i64 (x3 + r3)) * 1)) (cc (oo h6 trivial) (cc (W_cmp_Less_uint64 h7) c0))))))) ?_
        refine run_if rfl rfl (fun h8 => ?_) (fun h8 => ?_)
        · replace hF1 := ift h8 hF1
          refine tm (ρ' := []) (H' := [(0, .row 23 (.int .u64) s1.2)]) (by kernel_rfl) (by kernel_rfl) rfl ?_
          have e1 := inrI hr1 hF1
          subst e1
          replace hF0 := sumR hF0
          obtain rfl := Option.some.inj hF0
          exact ret_mut (q := []) [] [0] rfl rfl (by kernel_rfl) rfl (by kernel_rfl)
        · replace hF1 := ifn h8 hF1
          refine sk rfl (sq rfl ?_)
          obtain ⟨h9, hF1⟩ := ifg hF1
          obtain ⟨h10, hF1⟩ := ifg hF1
          obtain ⟨h11, hF1⟩ := ifg hF1
          obtain ⟨h12, hF1⟩ := ifg hF1
          refine rG [(0, .row 0), (2, vi x2), (3, vi x3), (9, vi r3)] [(0, .row 23 (.int .u64) (List.set (List.set s1.2 (Int.toNat (IntKind.wrap .i64 (x3 + s1.1))) (List.getD s1.2 (Int.toNat (IntKind.wrap .i64 (x3 + r3))) 0)) (Int.toNat (IntKind.wrap .i64 (x3 + r3))) (List.getD s1.2 (Int.toNat (IntKind.wrap .i64 (x3 + s1.1))) 0)))] [] [] 1 rfl rfl (by kernel_rfl) (cc h9 (cc (@rfl Nat (Int.toNat (IntKind.wrap .i64 (x3 + r3)) * 1)) (cc (oo h9 trivial) (cc h10 (cc (@rfl Nat (Int.toNat (IntKind.wrap .i64 (x3 + s1.1)) * 1)) (cc (oo h10 trivial) (cc h11 (cc (@rfl Nat (Int.toNat (IntKind.wrap .i64 (x3 + s1.1)) * 1)) (cc (oo h11 trivial) (cc h12 (cc (@rfl Nat (Int.toNat (IntKind.wrap .i64 (x3 + r3)) * 1)) (cc (oo h12 trivial) c0)))))))))))) (rg [(0, .row 0), (2, vi x2), (3, vi x3), (8, vi r3)] [(0, .row 23 (.int .u64) (List.set (List.set s1.2 (Int.toNat (IntKind.wrap .i64 (x3 + s1.1))) (List.getD s1.2 (Int.toNat (IntKind.wrap .i64 (x3 + r3))) 0)) (Int.toNat (IntKind.wrap .i64 (x3 + r3))) (List.getD s1.2 (Int.toNat (IntKind.wrap .i64 (x3 + s1.1))) 0)))] [] [] 1 rfl (by kernel_rfl) c0 (eb ?_))
          exact ih1 _ (Option.some.inj hF1).symm
      refine run_if rfl rfl (fun h13 => ?_) (fun h13 => ?_)
      · replace hF2 := ift h13 hF2
        refine rg [(0, .row 0), (2, vi x2), (3, vi x3), (8, vi s1.1), (9, vi (IntKind.wrap .i64 ((IntKind.wrap .i64 ((IntKind.wrap .i64 ((2 : Int) * s1.1)) + 1)) + 1)))] [(0, .row 23 (.int .u64) s1.2)] [] [] 1 rfl (by kernel_rfl) c0 ?_
        exact J3_0 _ (Option.some.inj hF2).symm
      · replace hF2 := ifn h13 hF2
        refine sk rfl (tm (ρ' := [(0, .row 0), (2, vi x2), (3, vi x3), (8, vi s1.1), (9, vi (IntKind.wrap .i64 ((IntKind.wrap .i64 ((2 : Int) * s1.1)) + 1)))]) (H' := [(0, .row 23 (.int .u64) s1.2)]) (by kernel_rfl) (by kernel_rfl) rfl ?_)
        exact J3_0 _ (Option.some.inj hF2).symm
    rcases Bool.eq_false_or_eq_true (decide ((IntKind.wrap .i64 ((IntKind.wrap .i64 ((IntKind.wrap .i64 ((2 : Int) * s1.1)) + 1)) + 1)) < x2)) with h14 | h14
    · replace hF2 := ift h14 hF2
      obtain ⟨h15, hF2⟩ := ifg hF2
      obtain ⟨h16, hF2⟩ := ifg hF2
      obtain ⟨t2, h17, hF2⟩ := obd hF2
      refine rG [(0, .row 0), (2, vi x2), (3, vi x3), (8, vi s1.1), (9, vi (IntKind.wrap .i64 ((IntKind.wrap .i64 ((2 : Int) * s1.1)) + 1))), (36, vb t2)] [(0, .row 23 (.int .u64) s1.2)] [(18, ⟨[.v (.int .u64), .v (.int .u64)], vb t2, none⟩)] [(4, true)] 1 rfl rfl (by kernel_rfl) (cc h14 (cc h15 (cc (@rfl Nat (Int.toNat (IntKind.wrap .i64 (x3 + (IntKind.wrap .i64 ((IntKind.wrap .i64 ((2 : Int) * s1.1)) + 1)))) * 1)) (cc (oo h15 trivial) (cc h16 (cc (@rfl Nat (Int.toNat (IntKind.wrap .i64 ((IntKind.wrap .i64 (x3 + (IntKind.wrap .i64 ((IntKind.wrap .i64 ((2 : Int) * s1.1)) + 1)))) + 1)) * 1)) (cc (oo h16 trivial) (cc (W_cmp_Less_uint64 h17) c0)))))))) ?_
      exact J2_0 _ (Option.some.inj hF2).symm
    · replace hF2 := ifn h14 hF2
      refine rG [(0, .row 0), (2, vi x2), (3, vi x3), (8, vi s1.1), (9, vi (IntKind.wrap .i64 ((IntKind.wrap .i64 ((2 : Int) * s1.1)) + 1))), (36, vb false)] [(0, .row 23 (.int .u64) s1.2)] [] [(4, false)] 1 rfl rfl (by kernel_rfl) (cc h14 c0) ?_
      exact J2_0 _ (Option.some.inj hF2).symm
noncomputable def F_slices_heapSortOrdered_uint64_b2 (x1 : Int) (s2 : (Int × (List Int))) : Option ((Int × (List Int)) ⊕ (List Int)) :=
  if (decide (s2.1 ≥ 0)) = true then if 0 ≤ (IntKind.wrap .i64 (x1 + s2.1)) ∧ (IntKind.wrap .i64 (x1 + s2.1)) < ((List.length s2.2 : Nat) : Int) then (if 0 ≤ x1 ∧ x1 < ((List.length s2.2 : Nat) : Int) then (if 0 ≤ x1 ∧ x1 < ((List.length s2.2 : Nat) : Int) then (if 0 ≤ (IntKind.wrap .i64 (x1 + s2.1)) ∧ (IntKind.wrap .i64 (x1 + s2.1)) < ((List.length (List.set s2.2 (Int.toNat x1) (List.getD s2.2 (Int.toNat (IntKind.wrap .i64 (x1 + s2.1))) 0)) : Nat) : Int) then (F_slices_siftDownOrdered_uint64 (List.set (List.set s2.2 (Int.toNat x1) (List.getD s2.2 (Int.toNat (IntKind.wrap .i64 (x1 + s2.1))) 0)) (Int.toNat (IntKind.wrap .i64 (x1 + s2.1))) (List.getD s2.2 (Int.toNat x1) 0)) 0 s2.1 x1).bind fun t1 => (some (Sum.inl (IntKind.wrap .i64 (s2.1 - 1), t1))) else none) else none) else none) else none else some (Sum.inr s2.2)
noncomputable def F_slices_heapSortOrdered_uint64_b1 (x1 : Int) (x2 : Int) (s1 : (Int × (List Int))) : Option ((Int × (List Int)) ⊕ (List Int)) :=
  if (decide (s1.1 ≥ 0)) = true then (F_slices_siftDownOrdered_uint64 s1.2 s1.1 (IntKind.wrap .i64 (x2 - x1)) x1).bind fun t2 => (some (Sum.inl (IntKind.wrap .i64 (s1.1 - 1), t2))) else some (Sum.inr s1.2)
noncomputable def F_slices_heapSortOrdered_uint64 (x0 : (List Int)) (x1 : Int) (x2 : Int) : Option (List Int) :=
  (loopO (F_slices_heapSortOrdered_uint64_b1 x1 x2) (IntKind.wrap .i64 (Int.tdiv (IntKind.wrap .i64 ((IntKind.wrap .i64 (x2 - x1)) - 1)) 2), x0)).bind (fun r1 => (loopO (F_slices_heapSortOrdered_uint64_b2 x1) (IntKind.wrap .i64 ((IntKind.wrap .i64 (x2 - x1)) - 1), r1)).bind (fun r2 => some r2))
theorem W_slices_heapSortOrdered_uint64 {x0 : (List Int)} {x1 : Int} {x2 : Int} {y : (List Int)} (hF0 : F_slices_heapSortOrdered_uint64 x0 x1 x2 = some y) : Mut Try.prog 30 1 [.row 0, vi x1, vi x2] [(0, .row 23 (.int .u64) x0)] (.tup []) [(0, .row 23 (.int .u64) y)] := by
  unfold F_slices_heapSortOrdered_uint64 at hF0
  refine mut_of_run @Try.call30 @Try.func30 rfl rfl fun b => ?_
  refine sq rfl (rg [(0, .row 0), (1, vi x1), (2, vi x2), (6, vi x1)] [(0, .row 23 (.int .u64) x0)] [] [] 1 rfl (by kernel_rfl) c0 (sq rfl (rg [(0, .row 0), (1, vi x1), (2, vi x2), (6, vi x1), (7, vi 0)] [(0, .row 23 (.int .u64) x0)] [] [] 1 rfl (by kernel_rfl) c0 (sq rfl (rg [(0, .row 0), (6, vi x1), (7, vi 0), (8, vi (IntKind.wrap .i64 (x2 - x1)))] [(0, .row 23 (.int .u64) x0)] [] [] 1 rfl (by kernel_rfl) c0 (sq rfl (sq rfl (rg [(0, .row 0), (6, vi x1), (7, vi 0), (8, vi (IntKind.wrap .i64 (x2 - x1))), (9, vi (IntKind.wrap .i64 (Int.tdiv (IntKind.wrap .i64 ((IntKind.wrap .i64 (x2 - x1)) - 1)) 2)))] [(0, .row 23 (.int .u64) x0)] [] [] 1 rfl (by kernel_rfl) (cc (show 2 ≠ (0 : Int) from (by decide)) c0) (bk rfl ?_)))))))))
  obtain ⟨r1, hl1, hF0⟩ := obd hF0
  refine run_cutx 0 rfl (fun r1' => r1 = r1') (fun r1 => [(0, .row 0), (6, vi x1), (7, vi 0), (8, vi (IntKind.wrap .i64 (x2 - x1)))]) (fun r1 => [(0, .row 23 (.int .u64) r1)]) (fun r1' h1 => ?_) (fun J1_0 => ?_)
  · subst h1
    refine sq rfl (rg [(0, .row 0), (6, vi x1), (7, vi 0), (10, vi (IntKind.wrap .i64 ((IntKind.wrap .i64 (x2 - x1)) - 1)))] [(0, .row 23 (.int .u64) r1)] [] [] 1 rfl (by kernel_rfl) c0 (bk rfl ?_))
    obtain ⟨r2, hl2, hF0⟩ := obd hF0
    refine run_cutx 2 rfl (fun r2' => r2 = r2') (fun r2 => []) (fun r2 => [(0, .row 23 (.int .u64) r2)]) (fun r2' h2 => ?_) (fun J2_0 => ?_)
    · subst h2
      obtain rfl := Option.some.inj hF0
      exact fall_mut (q := []) [] [0] rfl (by kernel_rfl) rfl (by kernel_rfl)
    refine run_loop rfl (run_loopO hl2 (fun s2 => [(0, .row 0), (6, vi x1), (7, vi 0), (10, vi s2.1)]) (fun s2 => [(0, .row 23 (.int .u64) s2.2)]) rfl rfl (fun s2 o2 hF1 ih2 hr2 => ?_))
    unfold F_slices_heapSortOrdered_uint64_b2 at hF1
    refine run_again (sq rfl (sq rfl (rg [(0, .row 0), (6, vi x1), (7, vi 0), (10, vi s2.1), (30, vb (decide (s2.1 ≥ 0)))] [(0, .row 23 (.int .u64) s2.2)] [] [] 1 rfl (by kernel_rfl) c0 ?_)))
    refine run_if rfl rfl (fun h3 => ?_) (fun h3 => ?_)
    · replace hF1 := ift h3 hF1
      refine sk rfl (sq rfl (bk rfl (sq rfl ?_)))
      obtain ⟨h4, hF1⟩ := ifg hF1
      obtain ⟨h5, hF1⟩ := ifg hF1
      obtain ⟨h6, hF1⟩ := ifg hF1
      obtain ⟨h7, hF1⟩ := ifg hF1
      refine rG [(0, .row 0), (6, vi x1), (7, vi 0), (10, vi s2.1)] [(0, .row 23 (.int .u64) (List.set (List.set s2.2 (Int.toNat x1) (List.getD s2.2 (Int.toNat (IntKind.wrap .i64 (x1 + s2.1))) 0)) (Int.toNat (IntKind.wrap .i64 (x1 + s2.1))) (List.getD s2.2 (Int.toNat x1) 0)))] [] [] 1 rfl rfl (by kernel_rfl) (cc h4 (cc (@rfl Nat (Int.toNat (IntKind.wrap .i64 (x1 + s2.1)) * 1)) (cc (oo h4 trivial) (cc h5 (cc (@rfl Nat (Int.toNat x1 * 1)) (cc (oo h5 trivial) (cc h6 (cc (@rfl Nat (Int.toNat x1 * 1)) (cc (oo h6 trivial) (cc h7 (cc (@rfl Nat (Int.toNat (IntKind.wrap .i64 (x1 + s2.1)) * 1)) (cc (oo h7 trivial) c0)))))))))))) ?_
      obtain ⟨t1, h8, hF1⟩ := obd hF1
      refine rg [(0, .row 0), (6, vi x1), (7, vi 0), (10, vi s2.1)] [(0, .row 23 (.int .u64) t1)] [(4, ⟨[.v .unit, .v (.int .i64), .v (.int .i64), .v (.int .i64)], .tup [], some ([0], [(0, .row 23 (.int .u64) t1)])⟩)] [] 1 rfl (by kernel_rfl) (cc (W_slices_siftDownOrdered_uint64 h8) c0) (eb (rg [(0, .row 0), (6, vi x1), (7, vi 0), (10, vi (IntKind.wrap .i64 (s2.1 - 1)))] [(0, .row 23 (.int .u64) t1)] [] [] 1 rfl (by kernel_rfl) c0 ?_))
      exact ih2 _ (Option.some.inj hF1).symm
    · replace hF1 := ifn h3 hF1
      refine run_exit rfl rfl (tm (ρ' := []) (H' := [(0, .row 23 (.int .u64) s2.2)]) (by kernel_rfl) (by kernel_rfl) rfl ?_)
      exact J2_0 _ (inrI hr2 hF1).symm
  refine run_loop rfl (run_loopO hl1 (fun s1 => [(0, .row 0), (6, vi x1), (7, vi 0), (8, vi (IntKind.wrap .i64 (x2 - x1))), (9, vi s1.1)]) (fun s1 => [(0, .row 23 (.int .u64) s1.2)]) rfl rfl (fun s1 o1 hF1 ih1 hr1 => ?_))
  unfold F_slices_heapSortOrdered_uint64_b1 at hF1
  refine run_again (sq rfl (sq rfl (rg [(0, .row 0), (6, vi x1), (7, vi 0), (8, vi (IntKind.wrap .i64 (x2 - x1))), (9, vi s1.1), (19, vb (decide (s1.1 ≥ 0)))] [(0, .row 23 (.int .u64) s1.2)] [] [] 1 rfl (by kernel_rfl) c0 ?_)))
  refine run_if rfl rfl (fun h9 => ?_) (fun h9 => ?_)
  · replace hF1 := ift h9 hF1
    refine sk rfl (sq rfl (bk rfl ?_))
    obtain ⟨t2, h10, hF1⟩ := obd hF1
    refine rg [(0, .row 0), (6, vi x1), (7, vi 0), (8, vi (IntKind.wrap .i64 (x2 - x1))), (9, vi s1.1)] [(0, .row 23 (.int .u64) t2)] [(4, ⟨[.v .unit, .v (.int .i64), .v (.int .i64), .v (.int .i64)], .tup [], some ([0], [(0, .row 23 (.int .u64) t2)])⟩)] [] 1 rfl (by kernel_rfl) (cc (W_slices_siftDownOrdered_uint64 h10) c0) (eb (rg [(0, .row 0), (6, vi x1), (7, vi 0), (8, vi (IntKind.wrap .i64 (x2 - x1))), (9, vi (IntKind.wrap .i64 (s1.1 - 1)))] [(0, .row 23 (.int .u64) t2)] [] [] 1 rfl (by kernel_rfl) c0 ?_))
    exact ih1 _ (Option.some.inj hF1).symm
  · replace hF1 := ifn h9 hF1
    refine run_exit rfl rfl (tm (ρ' := [(0, .row 0), (6, vi x1), (7, vi 0), (8, vi (IntKind.wrap .i64 (x2 - x1)))]) (H' := [(0, .row 23 (.int .u64) s1.2)]) (by kernel_rfl) (by kernel_rfl) rfl ?_)
    exact J1_0 _ (inrI hr1 hF1).symm
noncomputable def F_slices_reverseRangeOrdered_uint64_b1 (s1 : (Int × Int × (List Int))) : Option ((Int × Int × (List Int)) ⊕ (List Int)) :=
  if (decide (s1.1 < s1.2.1)) = true then if 0 ≤ s1.2.1 ∧ s1.2.1 < ((List.length s1.2.2 : Nat) : Int) then (if 0 ≤ s1.1 ∧ s1.1 < ((List.length s1.2.2 : Nat) : Int) then (if 0 ≤ s1.1 ∧ s1.1 < ((List.length s1.2.2 : Nat) : Int) then (if 0 ≤ s1.2.1 ∧ s1.2.1 < ((List.length (List.set s1.2.2 (Int.toNat s1.1) (List.getD s1.2.2 (Int.toNat s1.2.1) 0)) : Nat) : Int) then (some (Sum.inl (IntKind.wrap .i64 (s1.1 + 1), IntKind.wrap .i64 (s1.2.1 - 1), List.set (List.set s1.2.2 (Int.toNat s1.1) (List.getD s1.2.2 (Int.toNat s1.2.1) 0)) (Int.toNat s1.2.1) (List.getD s1.2.2 (Int.toNat s1.1) 0)))) else none) else none) else none) else none else some (Sum.inr s1.2.2)
noncomputable def F_slices_reverseRangeOrdered_uint64 (x0 : (List Int)) (x1 : Int) (x2 : Int) : Option (List Int) :=
  (loopO (F_slices_reverseRangeOrdered_uint64_b1) (x1, IntKind.wrap .i64 (x2 - 1), x0)).bind (fun r1 => some r1)
theorem W_slices_reverseRangeOrdered_uint64 {x0 : (List Int)} {x1 : Int} {x2 : Int} {y : (List Int)} (hF0 : F_slices_reverseRangeOrdered_uint64 x0 x1 x2 = some y) : Mut Try.prog 33 1 [.row 0, vi x1, vi x2] [(0, .row 23 (.int .u64) x0)] (.tup []) [(0, .row 23 (.int .u64) y)] := by
  unfold F_slices_reverseRangeOrdered_uint64 at hF0
  refine mut_of_run @Try.call33 @Try.func33 rfl rfl fun b => ?_
  refine sq rfl (rg [(0, .row 0), (2, vi x2), (6, vi x1)] [(0, .row 23 (.int .u64) x0)] [] [] 1 rfl (by kernel_rfl) c0 (sq rfl (rg [(0, .row 0), (6, vi x1), (7, vi (IntKind.wrap .i64 (x2 - 1)))] [(0, .row 23 (.int .u64) x0)] [] [] 1 rfl (by kernel_rfl) c0 (bk rfl ?_))))
  obtain ⟨r1, hl1, hF0⟩ := obd hF0
  refine run_cutx 0 rfl (fun r1' => r1 = r1') (fun r1 => []) (fun r1 => [(0, .row 23 (.int .u64) r1)]) (fun r1' h1 => ?_) (fun J1_0 => ?_)
  · subst h1
    obtain rfl := Option.some.inj hF0
    exact fall_mut (q := []) [] [0] rfl (by kernel_rfl) rfl (by kernel_rfl)
  refine run_loop rfl (run_loopO hl1 (fun s1 => [(0, .row 0), (6, vi s1.1), (7, vi s1.2.1)]) (fun s1 => [(0, .row 23 (.int .u64) s1.2.2)]) rfl rfl (fun s1 o1 hF1 ih1 hr1 => ?_))
  unfold F_slices_reverseRangeOrdered_uint64_b1 at hF1
  refine run_again (sq rfl (sq rfl (rg [(0, .row 0), (6, vi s1.1), (7, vi s1.2.1), (13, vb (decide (s1.1 < s1.2.1)))] [(0, .row 23 (.int .u64) s1.2.2)] [] [] 1 rfl (by kernel_rfl) c0 ?_)))
  refine run_if rfl rfl (fun h2 => ?_) (fun h2 => ?_)
  · replace hF1 := ift h2 hF1
    refine sk rfl (bk rfl (sq rfl ?_))
    obtain ⟨h3, hF1⟩ := ifg hF1
    obtain ⟨h4, hF1⟩ := ifg hF1
    obtain ⟨h5, hF1⟩ := ifg hF1
    obtain ⟨h6, hF1⟩ := ifg hF1
    refine rG [(0, .row 0), (6, vi s1.1), (7, vi s1.2.1)] [(0, .row 23 (.int .u64) (List.set (List.set s1.2.2 (Int.toNat s1.1) (List.getD s1.2.2 (Int.toNat s1.2.1) 0)) (Int.toNat s1.2.1) (List.getD s1.2.2 (Int.toNat s1.1) 0)))] [] [] 1 rfl rfl (by kernel_rfl) (cc h3 (cc (@rfl Nat (Int.toNat s1.2.1 * 1)) (cc (oo h3 trivial) (cc h4 (cc (@rfl Nat (Int.toNat s1.1 * 1)) (cc (oo h4 trivial) (cc h5 (cc (@rfl Nat (Int.toNat s1.1 * 1)) (cc (oo h5 trivial) (cc h6 (cc (@rfl Nat (Int.toNat s1.2.1 * 1)) (cc (oo h6 trivial) c0)))))))))))) (sq rfl (rg [(0, .row 0), (6, vi (IntKind.wrap .i64 (s1.1 + 1))), (7, vi s1.2.1)] [(0, .row 23 (.int .u64) (List.set (List.set s1.2.2 (Int.toNat s1.1) (List.getD s1.2.2 (Int.toNat s1.2.1) 0)) (Int.toNat s1.2.1) (List.getD s1.2.2 (Int.toNat s1.1) 0)))] [] [] 1 rfl (by kernel_rfl) c0 (rg [(0, .row 0), (6, vi (IntKind.wrap .i64 (s1.1 + 1))), (7, vi (IntKind.wrap .i64 (s1.2.1 - 1)))] [(0, .row 23 (.int .u64) (List.set (List.set s1.2.2 (Int.toNat s1.1) (List.getD s1.2.2 (Int.toNat s1.2.1) 0)) (Int.toNat s1.2.1) (List.getD s1.2.2 (Int.toNat s1.1) 0)))] [] [] 1 rfl (by kernel_rfl) c0 (eb ?_))))
    exact ih1 _ (Option.some.inj hF1).symm
  · replace hF1 := ifn h2 hF1
    refine run_exit rfl rfl (tm (ρ' := []) (H' := [(0, .row 23 (.int .u64) s1.2.2)]) (by kernel_rfl) (by kernel_rfl) rfl ?_)
    exact J1_0 _ (inrI hr1 hF1).symm
noncomputable def F_slices_partialInsertionSortOrdered_uint64_b4 (x2 : Int) (s4 : (Int × (List Int))) : Option ((Int × (List Int)) ⊕ (List Int)) :=
  if (decide (s4.1 < x2)) = true then if 0 ≤ s4.1 ∧ s4.1 < ((List.length s4.2 : Nat) : Int) then (if 0 ≤ (IntKind.wrap .i64 (s4.1 - 1)) ∧ (IntKind.wrap .i64 (s4.1 - 1)) < ((List.length s4.2 : Nat) : Int) then (F_cmp_Less_uint64 (List.getD s4.2 (Int.toNat s4.1) 0) (List.getD s4.2 (Int.toNat (IntKind.wrap .i64 (s4.1 - 1))) 0)).bind fun t1 => (if (!t1) = true then some (Sum.inr s4.2) else if 0 ≤ (IntKind.wrap .i64 (s4.1 - 1)) ∧ (IntKind.wrap .i64 (s4.1 - 1)) < ((List.length s4.2 : Nat) : Int) then (if 0 ≤ s4.1 ∧ s4.1 < ((List.length s4.2 : Nat) : Int) then (if 0 ≤ s4.1 ∧ s4.1 < ((List.length s4.2 : Nat) : Int) then (if 0 ≤ (IntKind.wrap .i64 (s4.1 - 1)) ∧ (IntKind.wrap .i64 (s4.1 - 1)) < ((List.length (List.set s4.2 (Int.toNat s4.1) (List.getD s4.2 (Int.toNat (IntKind.wrap .i64 (s4.1 - 1))) 0)) : Nat) : Int) then (some (Sum.inl (IntKind.wrap .i64 (s4.1 + 1), List.set (List.set s4.2 (Int.toNat s4.1) (List.getD s4.2 (Int.toNat (IntKind.wrap .i64 (s4.1 - 1))) 0)) (Int.toNat (IntKind.wrap .i64 (s4.1 - 1))) (List.getD s4.2 (Int.toNat s4.1) 0)))) else none) else none) else none) else none) else none) else none else some (Sum.inr s4.2)
noncomputable def F_slices_partialInsertionSortOrdered_uint64_b5 (s5 : (Int × (List Int))) : Option ((Int × (List Int)) ⊕ (List Int)) :=
  if (decide (s5.1 ≥ 1)) = true then if 0 ≤ s5.1 ∧ s5.1 < ((List.length s5.2 : Nat) : Int) then (if 0 ≤ (IntKind.wrap .i64 (s5.1 - 1)) ∧ (IntKind.wrap .i64 (s5.1 - 1)) < ((List.length s5.2 : Nat) : Int) then (F_cmp_Less_uint64 (List.getD s5.2 (Int.toNat s5.1) 0) (List.getD s5.2 (Int.toNat (IntKind.wrap .i64 (s5.1 - 1))) 0)).bind fun t2 => (if (!t2) = true then some (Sum.inr s5.2) else if 0 ≤ (IntKind.wrap .i64 (s5.1 - 1)) ∧ (IntKind.wrap .i64 (s5.1 - 1)) < ((List.length s5.2 : Nat) : Int) then (if 0 ≤ s5.1 ∧ s5.1 < ((List.length s5.2 : Nat) : Int) then (if 0 ≤ s5.1 ∧ s5.1 < ((List.length s5.2 : Nat) : Int) then (if 0 ≤ (IntKind.wrap .i64 (s5.1 - 1)) ∧ (IntKind.wrap .i64 (s5.1 - 1)) < ((List.length (List.set s5.2 (Int.toNat s5.1) (List.getD s5.2 (Int.toNat (IntKind.wrap .i64 (s5.1 - 1))) 0)) : Nat) : Int) then (some (Sum.inl (IntKind.wrap .i64 (s5.1 - 1), List.set (List.set s5.2 (Int.toNat s5.1) (List.getD s5.2 (Int.toNat (IntKind.wrap .i64 (s5.1 - 1))) 0)) (Int.toNat (IntKind.wrap .i64 (s5.1 - 1))) (List.getD s5.2 (Int.toNat s5.1) 0)))) else none) else none) else none) else none) else none) else none else some (Sum.inr s5.2)
noncomputable def F_slices_partialInsertionSortOrdered_uint64_b2 (s1 : (Int × Int × (List Int))) (x2 : Int) (s2 : Int) : Option (Int ⊕ Int) :=
  (show Option Bool from if (decide (s2 < x2)) = true then if 0 ≤ s2 ∧ s2 < ((List.length s1.2.2 : Nat) : Int) then (if 0 ≤ (IntKind.wrap .i64 (s2 - 1)) ∧ (IntKind.wrap .i64 (s2 - 1)) < ((List.length s1.2.2 : Nat) : Int) then (F_cmp_Less_uint64 (List.getD s1.2.2 (Int.toNat s2) 0) (List.getD s1.2.2 (Int.toNat (IntKind.wrap .i64 (s2 - 1))) 0)).bind fun t3 => (some (!t3)) else none) else none else some false).bind (fun r6 => if (r6) = true then some (Sum.inl (IntKind.wrap .i64 (s2 + 1))) else some (Sum.inr s2))
noncomputable def F_slices_partialInsertionSortOrdered_uint64_b1 (x1 : Int) (x2 : Int) (s1 : (Int × Int × (List Int))) : Option ((Int × Int × (List Int)) ⊕ ((Bool × (List Int)) ⊕ (List Int))) :=
  if (decide (s1.2.1 < 5)) = true then (loopO (F_slices_partialInsertionSortOrdered_uint64_b2 s1 x2) s1.1).bind (fun r2 => if (r2 == x2) = true then some (Sum.inr (Sum.inl (true, s1.2.2))) else if (decide ((IntKind.wrap .i64 (x2 - x1)) < 50)) = true then some (Sum.inr (Sum.inl (false, s1.2.2))) else if 0 ≤ (IntKind.wrap .i64 (r2 - 1)) ∧ (IntKind.wrap .i64 (r2 - 1)) < ((List.length s1.2.2 : Nat) : Int) then (if 0 ≤ r2 ∧ r2 < ((List.length s1.2.2 : Nat) : Int) then (if 0 ≤ r2 ∧ r2 < ((List.length s1.2.2 : Nat) : Int) then (if 0 ≤ (IntKind.wrap .i64 (r2 - 1)) ∧ (IntKind.wrap .i64 (r2 - 1)) < ((List.length (List.set s1.2.2 (Int.toNat r2) (List.getD s1.2.2 (Int.toNat (IntKind.wrap .i64 (r2 - 1))) 0)) : Nat) : Int) then (show Option (List Int) from if (decide ((IntKind.wrap .i64 (r2 - x1)) ≥ 2)) = true then (loopO (F_slices_partialInsertionSortOrdered_uint64_b5) (IntKind.wrap .i64 (r2 - 1), List.set (List.set s1.2.2 (Int.toNat r2) (List.getD s1.2.2 (Int.toNat (IntKind.wrap .i64 (r2 - 1))) 0)) (Int.toNat (IntKind.wrap .i64 (r2 - 1))) (List.getD s1.2.2 (Int.toNat r2) 0))).bind (fun r5 => some r5) else some (List.set (List.set s1.2.2 (Int.toNat r2) (List.getD s1.2.2 (Int.toNat (IntKind.wrap .i64 (r2 - 1))) 0)) (Int.toNat (IntKind.wrap .i64 (r2 - 1))) (List.getD s1.2.2 (Int.toNat r2) 0))).bind (fun r3 => if (decide ((IntKind.wrap .i64 (x2 - r2)) ≥ 2)) = true then (loopO (F_slices_partialInsertionSortOrdered_uint64_b4 x2) (IntKind.wrap .i64 (r2 + 1), r3)).bind (fun r4 => some (Sum.inl (r2, IntKind.wrap .i64 (s1.2.1 + 1), r4))) else some (Sum.inl (r2, IntKind.wrap .i64 (s1.2.1 + 1), r3))) else none) else none) else none) else none) else some (Sum.inr (Sum.inr s1.2.2))
noncomputable def F_slices_partialInsertionSortOrdered_uint64 (x0 : (List Int)) (x1 : Int) (x2 : Int) : Option (Bool × (List Int)) :=
  (loopO (F_slices_partialInsertionSortOrdered_uint64_b1 x1 x2) (IntKind.wrap .i64 (x1 + 1), 0, x0)).bind (Sum.elim some (fun j11 => some (false, j11)))
theorem W_slices_partialInsertionSortOrdered_uint64 {x0 : (List Int)} {x1 : Int} {x2 : Int} {y : (Bool × (List Int))} (hF0 : F_slices_partialInsertionSortOrdered_uint64 x0 x1 x2 = some y) : Mut Try.prog 34 1 [.row 0, vi x1, vi x2] [(0, .row 23 (.int .u64) x0)] (vb y.1) [(0, .row 23 (.int .u64) y.2)] := by
  unfold F_slices_partialInsertionSortOrdered_uint64 at hF0
  refine mut_of_run @Try.call34 @Try.func34 rfl rfl fun b => ?_
  refine sq rfl (rg [(0, .row 0), (1, vi x1), (2, vi x2)] [(0, .row 23 (.int .u64) x0)] [] [] 1 rfl (by kernel_rfl) c0 (sq rfl (rg [(0, .row 0), (1, vi x1), (2, vi x2), (7, vi (IntKind.wrap .i64 (x1 + 1)))] [(0, .row 23 (.int .u64) x0)] [] [] 1 rfl (by kernel_rfl) c0 (sq rfl (sq rfl (rg [(0, .row 0), (1, vi x1), (2, vi x2), (7, vi (IntKind.wrap .i64 (x1 + 1))), (8, vi 0)] [(0, .row 23 (.int .u64) x0)] [] [] 1 rfl (by kernel_rfl) c0 (bk rfl ?_)))))))
  obtain ⟨r1, hl1, hF0⟩ := obd hF0
  refine run_cutx 0 rfl (fun j11 => r1 = Sum.inr j11) (fun j11 => []) (fun j11 => [(0, .row 23 (.int .u64) j11)]) (fun j11 h1 => ?_) (fun J1_1 => ?_)
  · subst h1
    replace hF0 := sumR hF0
    refine sq rfl (rg [(6, vb false)] [(0, .row 23 (.int .u64) j11)] [] [] 1 rfl (by kernel_rfl) c0 ?_)
    obtain rfl := Option.some.inj hF0
    exact ret_mut (q := [vb false]) [some .bool] [0] rfl rfl (by kernel_rfl) rfl (by kernel_rfl)
  refine run_loop rfl (run_loopO hl1 (fun s1 => [(0, .row 0), (1, vi x1), (2, vi x2), (7, vi s1.1), (8, vi s1.2.1)]) (fun s1 => [(0, .row 23 (.int .u64) s1.2.2)]) rfl rfl (fun s1 o1 hF1 ih1 hr1 => ?_))
  unfold F_slices_partialInsertionSortOrdered_uint64_b1 at hF1
  refine run_again (sq rfl (sq rfl (rg [(0, .row 0), (1, vi x1), (2, vi x2), (7, vi s1.1), (8, vi s1.2.1), (14, vb (decide (s1.2.1 < 5)))] [(0, .row 23 (.int .u64) s1.2.2)] [] [] 1 rfl (by kernel_rfl) c0 ?_)))
  refine run_if rfl rfl (fun h2 => ?_) (fun h2 => ?_)
  · replace hF1 := ift h2 hF1
    refine sk rfl (sq rfl (bk rfl (sq rfl (bk rfl (tm (ρ' := [(0, .row 0), (1, vi x1), (2, vi x2), (7, vi s1.1), (8, vi s1.2.1)]) (H' := [(0, .row 23 (.int .u64) s1.2.2)]) (by kernel_rfl) (by kernel_rfl) rfl ?_)))))
    obtain ⟨r2, hl2, hF1⟩ := obd hF1
    refine run_cutx 2 rfl (fun r2' => r2 = r2') (fun r2 => [(0, .row 0), (1, vi x1), (2, vi x2), (7, vi r2), (8, vi s1.2.1)]) (fun r2 => [(0, .row 23 (.int .u64) s1.2.2)]) (fun r2' h3 => ?_) (fun J2_0 => ?_)
    · subst h3
      refine sq rfl (sq rfl (rg [(0, .row 0), (1, vi x1), (2, vi x2), (7, vi r2), (8, vi s1.2.1), (37, vb (r2 == x2))] [(0, .row 23 (.int .u64) s1.2.2)] [] [] 1 rfl (by kernel_rfl) c0 ?_))
      refine run_if rfl rfl (fun h4 => ?_) (fun h4 => ?_)
      · replace hF1 := ift h4 hF1
        refine sq rfl (rg [(6, vb true)] [(0, .row 23 (.int .u64) s1.2.2)] [] [] 1 rfl (by kernel_rfl) c0 ?_)
        have e1 := inrI hr1 hF1
        subst e1
        replace hF0 := sumL hF0
        obtain rfl := Option.some.inj hF0
        exact ret_mut (q := [vb true]) [some .bool] [0] rfl rfl (by kernel_rfl) rfl (by kernel_rfl)
      · replace hF1 := ifn h4 hF1
        refine sk rfl (sq rfl (sq rfl (rg [(0, .row 0), (1, vi x1), (2, vi x2), (7, vi r2), (8, vi s1.2.1), (41, vb (decide ((IntKind.wrap .i64 (x2 - x1)) < 50)))] [(0, .row 23 (.int .u64) s1.2.2)] [] [] 1 rfl (by kernel_rfl) c0 ?_)))
        refine run_if rfl rfl (fun h5 => ?_) (fun h5 => ?_)
        · replace hF1 := ift h5 hF1
          refine sq rfl (rg [(6, vb false)] [(0, .row 23 (.int .u64) s1.2.2)] [] [] 1 rfl (by kernel_rfl) c0 ?_)
          have e1 := inrI hr1 hF1
          subst e1
          replace hF0 := sumL hF0
          obtain rfl := Option.some.inj hF0
          exact ret_mut (q := [vb false]) [some .bool] [0] rfl rfl (by kernel_rfl) rfl (by kernel_rfl)
        · replace hF1 := ifn h5 hF1
          refine sk rfl (sq rfl ?_)
          obtain ⟨h6, hF1⟩ := ifg hF1
          obtain ⟨h7, hF1⟩ := ifg hF1
          obtain ⟨h8, hF1⟩ := ifg hF1
          obtain ⟨h9, hF1⟩ := ifg hF1
          refine rG [(0, .row 0), (1, vi x1), (2, vi x2), (7, vi r2), (8, vi s1.2.1)] [(0, .row 23 (.int .u64) (List.set (List.set s1.2.2 (Int.toNat r2) (List.getD s1.2.2 (Int.toNat (IntKind.wrap .i64 (r2 - 1))) 0)) (Int.toNat (IntKind.wrap .i64 (r2 - 1))) (List.getD s1.2.2 (Int.toNat r2) 0)))] [] [] 1 rfl rfl (by kernel_rfl) (cc h6 (cc (@rfl Nat (Int.toNat (IntKind.wrap .i64 (r2 - 1)) * 1)) (cc (oo h6 trivial) (cc h7 (cc (@rfl Nat (Int.toNat r2 * 1)) (cc (oo h7 trivial) (cc h8 (cc (@rfl Nat (Int.toNat r2 * 1)) (cc (oo h8 trivial) (cc h9 (cc (@rfl Nat (Int.toNat (IntKind.wrap .i64 (r2 - 1)) * 1)) (cc (oo h9 trivial) c0)))))))))))) (sq rfl (sq rfl (rg [(0, .row 0), (1, vi x1), (2, vi x2), (7, vi r2), (8, vi s1.2.1), (61, vb (decide ((IntKind.wrap .i64 (r2 - x1)) ≥ 2)))] [(0, .row 23 (.int .u64) (List.set (List.set s1.2.2 (Int.toNat r2) (List.getD s1.2.2 (Int.toNat (IntKind.wrap .i64 (r2 - 1))) 0)) (Int.toNat (IntKind.wrap .i64 (r2 - 1))) (List.getD s1.2.2 (Int.toNat r2) 0)))] [] [] 1 rfl (by kernel_rfl) c0 ?_)))
          obtain ⟨r3, hF2, hF1⟩ := obd hF1
          refine run_cut (fun r3' => r3 = r3') (fun r3 => [(0, .row 0), (1, vi x1), (2, vi x2), (7, vi r2), (8, vi s1.2.1)]) (fun r3 => [(0, .row 23 (.int .u64) r3)]) (fun r3' h10 => ?_) (fun J3_0 => ?_)
          · subst h10
            refine sq rfl (rg [(0, .row 0), (1, vi x1), (2, vi x2), (7, vi r2), (8, vi s1.2.1), (98, vb (decide ((IntKind.wrap .i64 (x2 - r2)) ≥ 2)))] [(0, .row 23 (.int .u64) r3)] [] [] 1 rfl (by kernel_rfl) c0 ?_)
            refine run_if rfl rfl (fun h11 => ?_) (fun h11 => ?_)
            · replace hF1 := ift h11 hF1
              refine sq rfl (rg [(0, .row 0), (1, vi x1), (2, vi x2), (7, vi r2), (8, vi s1.2.1), (10, vi (IntKind.wrap .i64 (r2 + 1)))] [(0, .row 23 (.int .u64) r3)] [] [] 1 rfl (by kernel_rfl) c0 (bk rfl ?_))
              obtain ⟨r4, hl4, hF1⟩ := obd hF1
              refine run_cutx 6 rfl (fun r4' => r4 = r4') (fun r4 => [(0, .row 0), (1, vi x1), (2, vi x2), (7, vi r2), (8, vi s1.2.1)]) (fun r4 => [(0, .row 23 (.int .u64) r4)]) (fun r4' h12 => ?_) (fun J4_0 => ?_)
              · subst h12
                refine eb (rg [(0, .row 0), (1, vi x1), (2, vi x2), (7, vi r2), (8, vi (IntKind.wrap .i64 (s1.2.1 + 1)))] [(0, .row 23 (.int .u64) r4)] [] [] 1 rfl (by kernel_rfl) c0 ?_)
                exact ih1 _ (Option.some.inj hF1).symm
              refine run_loop rfl (run_loopO hl4 (fun s4 => [(0, .row 0), (1, vi x1), (2, vi x2), (7, vi r2), (8, vi s1.2.1), (10, vi s4.1)]) (fun s4 => [(0, .row 23 (.int .u64) s4.2)]) rfl rfl (fun s4 o4 hF2 ih4 hr4 => ?_))
              unfold F_slices_partialInsertionSortOrdered_uint64_b4 at hF2
              refine run_again (sq rfl (sq rfl (rg [(0, .row 0), (1, vi x1), (2, vi x2), (7, vi r2), (8, vi s1.2.1), (10, vi s4.1), (103, vb (decide (s4.1 < x2)))] [(0, .row 23 (.int .u64) s4.2)] [] [] 1 rfl (by kernel_rfl) c0 ?_)))
              refine run_if rfl rfl (fun h13 => ?_) (fun h13 => ?_)
              · replace hF2 := ift h13 hF2
                refine sk rfl (sq rfl (bk rfl (sq rfl (sq rfl ?_))))
                obtain ⟨h14, hF2⟩ := ifg hF2
                obtain ⟨h15, hF2⟩ := ifg hF2
                obtain ⟨t1, h16, hF2⟩ := obd hF2
                refine rG [(0, .row 0), (1, vi x1), (2, vi x2), (7, vi r2), (8, vi s1.2.1), (10, vi s4.1), (116, vb (!t1))] [(0, .row 23 (.int .u64) s4.2)] [(9, ⟨[.v (.int .u64), .v (.int .u64)], vb t1, none⟩)] [] 1 rfl rfl (by kernel_rfl) (cc h14 (cc (@rfl Nat (Int.toNat s4.1 * 1)) (cc (oo h14 trivial) (cc h15 (cc (@rfl Nat (Int.toNat (IntKind.wrap .i64 (s4.1 - 1)) * 1)) (cc (oo h15 trivial) (cc (W_cmp_Less_uint64 h16) c0))))))) ?_
                refine run_if rfl rfl (fun h17 => ?_) (fun h17 => ?_)
                · replace hF2 := ift h17 hF2
                  refine run_exit rfl rfl (tm (ρ' := [(0, .row 0), (1, vi x1), (2, vi x2), (7, vi r2), (8, vi s1.2.1)]) (H' := [(0, .row 23 (.int .u64) s4.2)]) (by kernel_rfl) (by kernel_rfl) rfl ?_)
                  exact J4_0 _ (inrI hr4 hF2).symm
                · replace hF2 := ifn h17 hF2
                  refine sk rfl ?_
                  obtain ⟨h18, hF2⟩ := ifg hF2
                  obtain ⟨h19, hF2⟩ := ifg hF2
                  obtain ⟨h20, hF2⟩ := ifg hF2
                  obtain ⟨h21, hF2⟩ := ifg hF2
                  refine rG [(0, .row 0), (1, vi x1), (2, vi x2), (7, vi r2), (8, vi s1.2.1), (10, vi s4.1)] [(0, .row 23 (.int .u64) (List.set (List.set s4.2 (Int.toNat s4.1) (List.getD s4.2 (Int.toNat (IntKind.wrap .i64 (s4.1 - 1))) 0)) (Int.toNat (IntKind.wrap .i64 (s4.1 - 1))) (List.getD s4.2 (Int.toNat s4.1) 0)))] [] [] 1 rfl rfl (by kernel_rfl) (cc h18 (cc (@rfl Nat (Int.toNat (IntKind.wrap .i64 (s4.1 - 1)) * 1)) (cc (oo h18 trivial) (cc h19 (cc (@rfl Nat (Int.toNat s4.1 * 1)) (cc (oo h19 trivial) (cc h20 (cc (@rfl Nat (Int.toNat s4.1 * 1)) (cc (oo h20 trivial) (cc h21 (cc (@rfl Nat (Int.toNat (IntKind.wrap .i64 (s4.1 - 1)) * 1)) (cc (oo h21 trivial) c0)))))))))))) (eb (rg [(0, .row 0), (1, vi x1), (2, vi x2), (7, vi r2), (8, vi s1.2.1), (10, vi (IntKind.wrap .i64 (s4.1 + 1)))] [(0, .row 23 (.int .u64) (List.set (List.set s4.2 (Int.toNat s4.1) (List.getD s4.2 (Int.toNat (IntKind.wrap .i64 (s4.1 - 1))) 0)) (Int.toNat (IntKind.wrap .i64 (s4.1 - 1))) (List.getD s4.2 (Int.toNat s4.1) 0)))] [] [] 1 rfl (by kernel_rfl) c0 ?_))
                  exact ih4 _ (Option.some.inj hF2).symm
              · replace hF2 := ifn h13 hF2
                refine run_exit rfl rfl (tm (ρ' := [(0, .row 0), (1, vi x1), (2, vi x2), (7, vi r2), (8, vi s1.2.1)]) (H' := [(0, .row 23 (.int .u64) s4.2)]) (by kernel_rfl) (by kernel_rfl) rfl ?_)
                exact J4_0 _ (inrI hr4 hF2).symm
            · replace hF1 := ifn h11 hF1
              refine sk rfl (eb (rg [(0, .row 0), (1, vi x1), (2, vi x2), (7, vi r2), (8, vi (IntKind.wrap .i64 (s1.2.1 + 1)))] [(0, .row 23 (.int .u64) r3)] [] [] 1 rfl (by kernel_rfl) c0 ?_))
              exact ih1 _ (Option.some.inj hF1).symm
          refine run_if rfl rfl (fun h22 => ?_) (fun h22 => ?_)
          · replace hF2 := ift h22 hF2
            refine sq rfl (rg [(0, .row 0), (1, vi x1), (2, vi x2), (7, vi r2), (8, vi s1.2.1), (9, vi (IntKind.wrap .i64 (r2 - 1)))] [(0, .row 23 (.int .u64) (List.set (List.set s1.2.2 (Int.toNat r2) (List.getD s1.2.2 (Int.toNat (IntKind.wrap .i64 (r2 - 1))) 0)) (Int.toNat (IntKind.wrap .i64 (r2 - 1))) (List.getD s1.2.2 (Int.toNat r2) 0)))] [] [] 1 rfl (by kernel_rfl) c0 (bk rfl ?_))
            obtain ⟨r5, hl5, hF2⟩ := obd hF2
            refine run_cutx 4 rfl (fun r5' => r5 = r5') (fun r5 => [(0, .row 0), (1, vi x1), (2, vi x2), (7, vi r2), (8, vi s1.2.1)]) (fun r5 => [(0, .row 23 (.int .u64) r5)]) (fun r5' h23 => ?_) (fun J5_0 => ?_)
            · subst h23
              exact J3_0 _ (Option.some.inj hF2).symm
            refine run_loop rfl (run_loopO hl5 (fun s5 => [(0, .row 0), (1, vi x1), (2, vi x2), (7, vi r2), (8, vi s1.2.1), (9, vi s5.1)]) (fun s5 => [(0, .row 23 (.int .u64) s5.2)]) rfl rfl (fun s5 o5 hF3 ih5 hr5 => ?_))
            unfold F_slices_partialInsertionSortOrdered_uint64_b5 at hF3
            refine run_again (sq rfl (sq rfl (rg [(0, .row 0), (1, vi x1), (2, vi x2), (7, vi r2), (8, vi s1.2.1), (9, vi s5.1), (65, vb (decide (s5.1 ≥ 1)))] [(0, .row 23 (.int .u64) s5.2)] [] [] 1 rfl (by kernel_rfl) c0 ?_)))
            refine run_if rfl rfl (fun h24 => ?_) (fun h24 => ?_)
            · replace hF3 := ift h24 hF3
              refine sk rfl (sq rfl (bk rfl (sq rfl (sq rfl ?_))))
              obtain ⟨h25, hF3⟩ := ifg hF3
              obtain ⟨h26, hF3⟩ := ifg hF3
              obtain ⟨t2, h27, hF3⟩ := obd hF3
              refine rG [(0, .row 0), (1, vi x1), (2, vi x2), (7, vi r2), (8, vi s1.2.1), (9, vi s5.1), (78, vb (!t2))] [(0, .row 23 (.int .u64) s5.2)] [(9, ⟨[.v (.int .u64), .v (.int .u64)], vb t2, none⟩)] [] 1 rfl rfl (by kernel_rfl) (cc h25 (cc (@rfl Nat (Int.toNat s5.1 * 1)) (cc (oo h25 trivial) (cc h26 (cc (@rfl Nat (Int.toNat (IntKind.wrap .i64 (s5.1 - 1)) * 1)) (cc (oo h26 trivial) (cc (W_cmp_Less_uint64 h27) c0))))))) ?_
              refine run_if rfl rfl (fun h28 => ?_) (fun h28 => ?_)
              · replace hF3 := ift h28 hF3
                refine run_exit rfl rfl (tm (ρ' := [(0, .row 0), (1, vi x1), (2, vi x2), (7, vi r2), (8, vi s1.2.1)]) (H' := [(0, .row 23 (.int .u64) s5.2)]) (by kernel_rfl) (by kernel_rfl) rfl ?_)
                exact J5_0 _ (inrI hr5 hF3).symm
              · replace hF3 := ifn h28 hF3
                refine sk rfl ?_
                obtain ⟨h29, hF3⟩ := ifg hF3
                obtain ⟨h30, hF3⟩ := ifg hF3
                obtain ⟨h31, hF3⟩ := ifg hF3
                obtain ⟨h32, hF3⟩ := ifg hF3
                refine rG [(0, .row 0), (1, vi x1), (2, vi x2), (7, vi r2), (8, vi s1.2.1), (9, vi s5.1)] [(0, .row 23 (.int .u64) (List.set (List.set s5.2 (Int.toNat s5.1) (List.getD s5.2 (Int.toNat (IntKind.wrap .i64 (s5.1 - 1))) 0)) (Int.toNat (IntKind.wrap .i64 (s5.1 - 1))) (List.getD s5.2 (Int.toNat s5.1) 0)))] [] [] 1 rfl rfl (by kernel_rfl) (cc h29 (cc (@rfl Nat (Int.toNat (IntKind.wrap .i64 (s5.1 - 1)) * 1)) (cc (oo h29 trivial) (cc h30 (cc (@rfl Nat (Int.toNat s5.1 * 1)) (cc (oo h30 trivial) (cc h31 (cc (@rfl Nat (Int.toNat s5.1 * 1)) (cc (oo h31 trivial) (cc h32 (cc (@rfl Nat (Int.toNat (IntKind.wrap .i64 (s5.1 - 1)) * 1)) (cc (oo h32 trivial) c0)))))))))))) (eb (rg [(0, .row 0), (1, vi x1), (2, vi x2), (7, vi r2), (8, vi s1.2.1), (9, vi (IntKind.wrap .i64 (s5.1 - 1)))] [(0, .row 23 (.int .u64) (List.set (List.set s5.2 (Int.toNat s5.1) (List.getD s5.2 (Int.toNat (IntKind.wrap .i64 (s5.1 - 1))) 0)) (Int.toNat (IntKind.wrap .i64 (s5.1 - 1))) (List.getD s5.2 (Int.toNat s5.1) 0)))] [] [] 1 rfl (by kernel_rfl) c0 ?_))
                exact ih5 _ (Option.some.inj hF3).symm
            · replace hF3 := ifn h24 hF3
              refine run_exit rfl rfl (tm (ρ' := [(0, .row 0), (1, vi x1), (2, vi x2), (7, vi r2), (8, vi s1.2.1)]) (H' := [(0, .row 23 (.int .u64) s5.2)]) (by kernel_rfl) (by kernel_rfl) rfl ?_)
              exact J5_0 _ (inrI hr5 hF3).symm
          · replace hF2 := ifn h22 hF2
            refine sk rfl (tm (ρ' := [(0, .row 0), (1, vi x1), (2, vi x2), (7, vi r2), (8, vi s1.2.1)]) (H' := [(0, .row 23 (.int .u64) (List.set (List.set s1.2.2 (Int.toNat r2) (List.getD s1.2.2 (Int.toNat (IntKind.wrap .i64 (r2 - 1))) 0)) (Int.toNat (IntKind.wrap .i64 (r2 - 1))) (List.getD s1.2.2 (Int.toNat r2) 0)))]) (by kernel_rfl) (by kernel_rfl) rfl ?_)
            exact J3_0 _ (Option.some.inj hF2).symm
    refine run_loop rfl (run_loopO hl2 (fun s2 => [(0, .row 0), (1, vi x1), (2, vi x2), (7, vi s2), (8, vi s1.2.1)]) (fun s2 => [(0, .row 23 (.int .u64) s1.2.2)]) rfl rfl (fun s2 o2 hF2 ih2 hr2 => ?_))
    unfold F_slices_partialInsertionSortOrdered_uint64_b2 at hF2
    refine run_again (sq rfl (sq rfl ?_))
    obtain ⟨r6, hF3, hF2⟩ := obd hF2
    refine run_cut (fun r6' => r6 = r6') (fun r6 => [(0, .row 0), (1, vi x1), (2, vi x2), (7, vi s2), (8, vi s1.2.1), (32, vb r6)]) (fun r6 => [(0, .row 23 (.int .u64) s1.2.2)]) (fun r6' h33 => ?_) (fun J6_0 => ?_)
    · subst h33
      refine run_if rfl rfl (fun h34 => ?_) (fun h34 => ?_)
      · replace hF2 := ift h34 hF2
        refine sk rfl (bk rfl (rg [(0, .row 0), (1, vi x1), (2, vi x2), (7, vi (IntKind.wrap .i64 (s2 + 1))), (8, vi s1.2.1)] [(0, .row 23 (.int .u64) s1.2.2)] [] [] 1 rfl (by kernel_rfl) c0 (eb ?_)))
        exact ih2 _ (Option.some.inj hF2).symm
      · replace hF2 := ifn h34 hF2
        refine run_exit rfl rfl (tm (ρ' := [(0, .row 0), (1, vi x1), (2, vi x2), (7, vi s2), (8, vi s1.2.1)]) (H' := [(0, .row 23 (.int .u64) s1.2.2)]) (by kernel_rfl) (by kernel_rfl) rfl ?_)
        exact J2_0 _ (inrI hr2 hF2).symm
    rcases Bool.eq_false_or_eq_true (decide (s2 < x2)) with h35 | h35
    · replace hF3 := ift h35 hF3
      obtain ⟨h36, hF3⟩ := ifg hF3
      obtain ⟨h37, hF3⟩ := ifg hF3
      obtain ⟨t3, h38, hF3⟩ := obd hF3
      refine rG [(0, .row 0), (1, vi x1), (2, vi x2), (7, vi s2), (8, vi s1.2.1), (32, vb (!t3))] [(0, .row 23 (.int .u64) s1.2.2)] [(13, ⟨[.v (.int .u64), .v (.int .u64)], vb t3, none⟩)] [(3, true)] 1 rfl rfl (by kernel_rfl) (cc h35 (cc h36 (cc (@rfl Nat (Int.toNat s2 * 1)) (cc (oo h36 trivial) (cc h37 (cc (@rfl Nat (Int.toNat (IntKind.wrap .i64 (s2 - 1)) * 1)) (cc (oo h37 trivial) (cc (W_cmp_Less_uint64 h38) c0)))))))) ?_
      exact J6_0 _ (Option.some.inj hF3).symm
    · replace hF3 := ifn h35 hF3
      refine rG [(0, .row 0), (1, vi x1), (2, vi x2), (7, vi s2), (8, vi s1.2.1), (32, vb false)] [(0, .row 23 (.int .u64) s1.2.2)] [] [(3, false)] 1 rfl rfl (by kernel_rfl) (cc h35 c0) ?_
      exact J6_0 _ (Option.some.inj hF3).symm
  · replace hF1 := ifn h2 hF1
    refine run_exit rfl rfl (tm (ρ' := []) (H' := [(0, .row 23 (.int .u64) s1.2.2)]) (by kernel_rfl) (by kernel_rfl) rfl ?_)
    exact J1_1 _ (inrI hr1 hF1).symm
noncomputable def F_slices_partitionEqualOrdered_uint64_b3 (r2 : Int) (s1 : (Int × Int × (List Int))) (x1 : Int) (s3 : Int) : Option (Int ⊕ Int) :=
  (show Option Bool from if (decide (r2 ≤ s3)) = true then if 0 ≤ x1 ∧ x1 < ((List.length s1.2.2 : Nat) : Int) then (if 0 ≤ s3 ∧ s3 < ((List.length s1.2.2 : Nat) : Int) then (F_cmp_Less_uint64 (List.getD s1.2.2 (Int.toNat x1) 0) (List.getD s1.2.2 (Int.toNat s3) 0)).bind fun t1 => (some t1) else none) else none else some false).bind (fun r4 => if (r4) = true then some (Sum.inl (IntKind.wrap .i64 (s3 - 1))) else some (Sum.inr s3))
noncomputable def F_slices_partitionEqualOrdered_uint64_b2 (s1 : (Int × Int × (List Int))) (x1 : Int) (s2 : Int) : Option (Int ⊕ Int) :=
  (show Option Bool from if (decide (s2 ≤ s1.2.1)) = true then if 0 ≤ x1 ∧ x1 < ((List.length s1.2.2 : Nat) : Int) then (if 0 ≤ s2 ∧ s2 < ((List.length s1.2.2 : Nat) : Int) then (F_cmp_Less_uint64 (List.getD s1.2.2 (Int.toNat x1) 0) (List.getD s1.2.2 (Int.toNat s2) 0)).bind fun t2 => (some (!t2)) else none) else none else some false).bind (fun r5 => if (r5) = true then some (Sum.inl (IntKind.wrap .i64 (s2 + 1))) else some (Sum.inr s2))
noncomputable def F_slices_partitionEqualOrdered_uint64_b1 (x1 : Int) (s1 : (Int × Int × (List Int))) : Option ((Int × Int × (List Int)) ⊕ (Int × (List Int))) :=
  (loopO (F_slices_partitionEqualOrdered_uint64_b2 s1 x1) s1.1).bind (fun r2 => (loopO (F_slices_partitionEqualOrdered_uint64_b3 r2 s1 x1) s1.2.1).bind (fun r3 => if (decide (r2 > r3)) = true then some (Sum.inr (r2, s1.2.2)) else if 0 ≤ r3 ∧ r3 < ((List.length s1.2.2 : Nat) : Int) then (if 0 ≤ r2 ∧ r2 < ((List.length s1.2.2 : Nat) : Int) then (if 0 ≤ r2 ∧ r2 < ((List.length s1.2.2 : Nat) : Int) then (if 0 ≤ r3 ∧ r3 < ((List.length (List.set s1.2.2 (Int.toNat r2) (List.getD s1.2.2 (Int.toNat r3) 0)) : Nat) : Int) then (some (Sum.inl (IntKind.wrap .i64 (r2 + 1), IntKind.wrap .i64 (r3 - 1), List.set (List.set s1.2.2 (Int.toNat r2) (List.getD s1.2.2 (Int.toNat r3) 0)) (Int.toNat r3) (List.getD s1.2.2 (Int.toNat r2) 0)))) else none) else none) else none) else none))
noncomputable def F_slices_partitionEqualOrdered_uint64 (x0 : (List Int)) (x1 : Int) (x2 : Int) (x3 : Int) : Option (Int × (List Int)) :=
  if 0 ≤ x3 ∧ x3 < ((List.length x0 : Nat) : Int) then (if 0 ≤ x1 ∧ x1 < ((List.length x0 : Nat) : Int) then (if 0 ≤ x1 ∧ x1 < ((List.length x0 : Nat) : Int) then (if 0 ≤ x3 ∧ x3 < ((List.length (List.set x0 (Int.toNat x1) (List.getD x0 (Int.toNat x3) 0)) : Nat) : Int) then (loopO (F_slices_partitionEqualOrdered_uint64_b1 x1) (IntKind.wrap .i64 (x1 + 1), IntKind.wrap .i64 (x2 - 1), List.set (List.set x0 (Int.toNat x1) (List.getD x0 (Int.toNat x3) 0)) (Int.toNat x3) (List.getD x0 (Int.toNat x1) 0))).bind (fun r1 => some (r1.1, r1.2)) else none) else none) else none) else none
theorem W_slices_partitionEqualOrdered_uint64 {x0 : (List Int)} {x1 : Int} {x2 : Int} {x3 : Int} {y : (Int × (List Int))} (hF0 : F_slices_partitionEqualOrdered_uint64 x0 x1 x2 x3 = some y) : Mut Try.prog 36 1 [.row 0, vi x1, vi x2, vi x3] [(0, .row 23 (.int .u64) x0)] (vi y.1) [(0, .row 23 (.int .u64) y.2)] := by
  unfold F_slices_partitionEqualOrdered_uint64 at hF0
  refine mut_of_run @Try.call36 @Try.func36 rfl rfl fun b => ?_
  refine sq rfl (rg [(0, .row 0), (1, vi x1), (2, vi x2), (3, vi x3)] [(0, .row 23 (.int .u64) x0)] [] [] 1 rfl (by kernel_rfl) c0 (sq rfl ?_))
  obtain ⟨h1, hF0⟩ := ifg hF0
  obtain ⟨h2, hF0⟩ := ifg hF0
  obtain ⟨h3, hF0⟩ := ifg hF0
  obtain ⟨h4, hF0⟩ := ifg hF0
  refine rG [(0, .row 0), (1, vi x1), (2, vi x2)] [(0, .row 23 (.int .u64) (List.set (List.set x0 (Int.toNat x1) (List.getD x0 (Int.toNat x3) 0)) (Int.toNat x3) (List.getD x0 (Int.toNat x1) 0)))] [] [] 1 rfl rfl (by kernel_rfl) (cc h1 (cc (@rfl Nat (Int.toNat x3 * 1)) (cc (oo h1 trivial) (cc h2 (cc (@rfl Nat (Int.toNat x1 * 1)) (cc (oo h2 trivial) (cc h3 (cc (@rfl Nat (Int.toNat x1 * 1)) (cc (oo h3 trivial) (cc h4 (cc (@rfl Nat (Int.toNat x3 * 1)) (cc (oo h4 trivial) c0)))))))))))) (sq rfl (rg [(0, .row 0), (1, vi x1), (9, vi (IntKind.wrap .i64 (x1 + 1))), (10, vi (IntKind.wrap .i64 (x2 - 1)))] [(0, .row 23 (.int .u64) (List.set (List.set x0 (Int.toNat x1) (List.getD x0 (Int.toNat x3) 0)) (Int.toNat x3) (List.getD x0 (Int.toNat x1) 0)))] [] [] 1 rfl (by kernel_rfl) c0 (sq rfl (bk rfl ?_))))
  obtain ⟨r1, hl1, hF0⟩ := obd hF0
  refine run_cutx 0 rfl (fun r1' => r1 = r1') (fun r1 => [(9, vi r1.1)]) (fun r1 => [(0, .row 23 (.int .u64) r1.2)]) (fun r1' h5 => ?_) (fun J1_0 => ?_)
  · subst h5
    refine sq rfl (rg [(8, vi r1.1)] [(0, .row 23 (.int .u64) r1.2)] [] [] 1 rfl (by kernel_rfl) c0 ?_)
    obtain rfl := Option.some.inj hF0
    exact ret_mut (q := [vi r1.1]) [some (.int .i64)] [0] rfl rfl (by kernel_rfl) rfl (by kernel_rfl)
  refine run_loop rfl (run_loopO hl1 (fun s1 => [(0, .row 0), (1, vi x1), (9, vi s1.1), (10, vi s1.2.1)]) (fun s1 => [(0, .row 23 (.int .u64) s1.2.2)]) rfl rfl (fun s1 o1 hF1 ih1 hr1 => ?_))
  unfold F_slices_partitionEqualOrdered_uint64_b1 at hF1
  refine run_again (bk rfl (sq rfl (bk rfl ?_)))
  obtain ⟨r2, hl2, hF1⟩ := obd hF1
  refine run_cutx 2 rfl (fun r2' => r2 = r2') (fun r2 => [(0, .row 0), (1, vi x1), (9, vi r2), (10, vi s1.2.1)]) (fun r2 => [(0, .row 23 (.int .u64) s1.2.2)]) (fun r2' h6 => ?_) (fun J2_0 => ?_)
  · subst h6
    refine sq rfl (bk rfl ?_)
    obtain ⟨r3, hl3, hF1⟩ := obd hF1
    refine run_cutx 4 rfl (fun r3' => r3 = r3') (fun r3 => [(0, .row 0), (1, vi x1), (9, vi r2), (10, vi r3)]) (fun r3 => [(0, .row 23 (.int .u64) s1.2.2)]) (fun r3' h7 => ?_) (fun J3_0 => ?_)
    · subst h7
      refine sq rfl (sq rfl (rg [(0, .row 0), (1, vi x1), (9, vi r2), (10, vi r3), (64, vb (decide (r2 > r3)))] [(0, .row 23 (.int .u64) s1.2.2)] [] [] 1 rfl (by kernel_rfl) c0 ?_))
      refine run_if rfl rfl (fun h8 => ?_) (fun h8 => ?_)
      · replace hF1 := ift h8 hF1
        refine run_exit rfl rfl (tm (ρ' := [(9, vi r2)]) (H' := [(0, .row 23 (.int .u64) s1.2.2)]) (by kernel_rfl) (by kernel_rfl) rfl ?_)
        exact J1_0 _ (inrI hr1 hF1).symm
      · replace hF1 := ifn h8 hF1
        refine sk rfl (sq rfl ?_)
        obtain ⟨h9, hF1⟩ := ifg hF1
        obtain ⟨h10, hF1⟩ := ifg hF1
        obtain ⟨h11, hF1⟩ := ifg hF1
        obtain ⟨h12, hF1⟩ := ifg hF1
        refine rG [(0, .row 0), (1, vi x1), (9, vi r2), (10, vi r3)] [(0, .row 23 (.int .u64) (List.set (List.set s1.2.2 (Int.toNat r2) (List.getD s1.2.2 (Int.toNat r3) 0)) (Int.toNat r3) (List.getD s1.2.2 (Int.toNat r2) 0)))] [] [] 1 rfl rfl (by kernel_rfl) (cc h9 (cc (@rfl Nat (Int.toNat r3 * 1)) (cc (oo h9 trivial) (cc h10 (cc (@rfl Nat (Int.toNat r2 * 1)) (cc (oo h10 trivial) (cc h11 (cc (@rfl Nat (Int.toNat r2 * 1)) (cc (oo h11 trivial) (cc h12 (cc (@rfl Nat (Int.toNat r3 * 1)) (cc (oo h12 trivial) c0)))))))))))) (sq rfl (rg [(0, .row 0), (1, vi x1), (9, vi (IntKind.wrap .i64 (r2 + 1))), (10, vi r3)] [(0, .row 23 (.int .u64) (List.set (List.set s1.2.2 (Int.toNat r2) (List.getD s1.2.2 (Int.toNat r3) 0)) (Int.toNat r3) (List.getD s1.2.2 (Int.toNat r2) 0)))] [] [] 1 rfl (by kernel_rfl) c0 (rg [(0, .row 0), (1, vi x1), (9, vi (IntKind.wrap .i64 (r2 + 1))), (10, vi (IntKind.wrap .i64 (r3 - 1)))] [(0, .row 23 (.int .u64) (List.set (List.set s1.2.2 (Int.toNat r2) (List.getD s1.2.2 (Int.toNat r3) 0)) (Int.toNat r3) (List.getD s1.2.2 (Int.toNat r2) 0)))] [] [] 1 rfl (by kernel_rfl) c0 (eb ?_))))
        exact ih1 _ (Option.some.inj hF1).symm
    refine run_loop rfl (run_loopO hl3 (fun s3 => [(0, .row 0), (1, vi x1), (9, vi r2), (10, vi s3)]) (fun s3 => [(0, .row 23 (.int .u64) s1.2.2)]) rfl rfl (fun s3 o3 hF2 ih3 hr3 => ?_))
    unfold F_slices_partitionEqualOrdered_uint64_b3 at hF2
    refine run_again (sq rfl (sq rfl ?_))
    obtain ⟨r4, hF3, hF2⟩ := obd hF2
    refine run_cut (fun r4' => r4 = r4') (fun r4 => [(0, .row 0), (1, vi x1), (9, vi r2), (10, vi s3), (59, vb r4)]) (fun r4 => [(0, .row 23 (.int .u64) s1.2.2)]) (fun r4' h13 => ?_) (fun J4_0 => ?_)
    · subst h13
      refine run_if rfl rfl (fun h14 => ?_) (fun h14 => ?_)
      · replace hF2 := ift h14 hF2
        refine sk rfl (bk rfl (rg [(0, .row 0), (1, vi x1), (9, vi r2), (10, vi (IntKind.wrap .i64 (s3 - 1)))] [(0, .row 23 (.int .u64) s1.2.2)] [] [] 1 rfl (by kernel_rfl) c0 (eb ?_)))
        exact ih3 _ (Option.some.inj hF2).symm
      · replace hF2 := ifn h14 hF2
        refine run_exit rfl rfl (tm (ρ' := [(0, .row 0), (1, vi x1), (9, vi r2), (10, vi s3)]) (H' := [(0, .row 23 (.int .u64) s1.2.2)]) (by kernel_rfl) (by kernel_rfl) rfl ?_)
        exact J3_0 _ (inrI hr3 hF2).symm
    rcases Bool.eq_false_or_eq_true (decide (r2 ≤ s3)) with h15 | h15
    · replace hF3 := ift h15 hF3
      obtain ⟨h16, hF3⟩ := ifg hF3
      obtain ⟨h17, hF3⟩ := ifg hF3
      obtain ⟨t1, h18, hF3⟩ := obd hF3
      refine rG [(0, .row 0), (1, vi x1), (9, vi r2), (10, vi s3), (59, vb t1)] [(0, .row 23 (.int .u64) s1.2.2)] [(12, ⟨[.v (.int .u64), .v (.int .u64)], vb t1, none⟩)] [(3, true)] 1 rfl rfl (by kernel_rfl) (cc h15 (cc h16 (cc (@rfl Nat (Int.toNat x1 * 1)) (cc (oo h16 trivial) (cc h17 (cc (@rfl Nat (Int.toNat s3 * 1)) (cc (oo h17 trivial) (cc (W_cmp_Less_uint64 h18) c0)))))))) ?_
      exact J4_0 _ (Option.some.inj hF3).symm
    · replace hF3 := ifn h15 hF3
      refine rG [(0, .row 0), (1, vi x1), (9, vi r2), (10, vi s3), (59, vb false)] [(0, .row 23 (.int .u64) s1.2.2)] [] [(3, false)] 1 rfl rfl (by kernel_rfl) (cc h15 c0) ?_
      exact J4_0 _ (Option.some.inj hF3).symm
  refine run_loop rfl (run_loopO hl2 (fun s2 => [(0, .row 0), (1, vi x1), (9, vi s2), (10, vi s1.2.1)]) (fun s2 => [(0, .row 23 (.int .u64) s1.2.2)]) rfl rfl (fun s2 o2 hF2 ih2 hr2 => ?_))
  unfold F_slices_partitionEqualOrdered_uint64_b2 at hF2
  refine run_again (sq rfl (sq rfl ?_))
  obtain ⟨r5, hF3, hF2⟩ := obd hF2
  refine run_cut (fun r5' => r5 = r5') (fun r5 => [(0, .row 0), (1, vi x1), (9, vi s2), (10, vi s1.2.1), (43, vb r5)]) (fun r5 => [(0, .row 23 (.int .u64) s1.2.2)]) (fun r5' h19 => ?_) (fun J5_0 => ?_)
  · subst h19
    refine run_if rfl rfl (fun h20 => ?_) (fun h20 => ?_)
    · replace hF2 := ift h20 hF2
      refine sk rfl (bk rfl (rg [(0, .row 0), (1, vi x1), (9, vi (IntKind.wrap .i64 (s2 + 1))), (10, vi s1.2.1)] [(0, .row 23 (.int .u64) s1.2.2)] [] [] 1 rfl (by kernel_rfl) c0 (eb ?_)))
      exact ih2 _ (Option.some.inj hF2).symm
    · replace hF2 := ifn h20 hF2
      refine run_exit rfl rfl (tm (ρ' := [(0, .row 0), (1, vi x1), (9, vi s2), (10, vi s1.2.1)]) (H' := [(0, .row 23 (.int .u64) s1.2.2)]) (by kernel_rfl) (by kernel_rfl) rfl ?_)
      exact J2_0 _ (inrI hr2 hF2).symm
  rcases Bool.eq_false_or_eq_true (decide (s2 ≤ s1.2.1)) with h21 | h21
  · replace hF3 := ift h21 hF3
    obtain ⟨h22, hF3⟩ := ifg hF3
    obtain ⟨h23, hF3⟩ := ifg hF3
    obtain ⟨t2, h24, hF3⟩ := obd hF3
    refine rG [(0, .row 0), (1, vi x1), (9, vi s2), (10, vi s1.2.1), (43, vb (!t2))] [(0, .row 23 (.int .u64) s1.2.2)] [(12, ⟨[.v (.int .u64), .v (.int .u64)], vb t2, none⟩)] [(3, true)] 1 rfl rfl (by kernel_rfl) (cc h21 (cc h22 (cc (@rfl Nat (Int.toNat x1 * 1)) (cc (oo h22 trivial) (cc h23 (cc (@rfl Nat (Int.toNat s2 * 1)) (cc (oo h23 trivial) (cc (W_cmp_Less_uint64 h24) c0)))))))) ?_
    exact J5_0 _ (Option.some.inj hF3).symm
  · replace hF3 := ifn h21 hF3
    refine rG [(0, .row 0), (1, vi x1), (9, vi s2), (10, vi s1.2.1), (43, vb false)] [(0, .row 23 (.int .u64) s1.2.2)] [] [(3, false)] 1 rfl rfl (by kernel_rfl) (cc h21 c0) ?_
    exact J5_0 _ (Option.some.inj hF3).symm
noncomputable def F_slices_partitionOrdered_uint64_b5 (r4 : Int) (s3 : (Int × Int × (List Int))) (x1 : Int) (s5 : Int) : Option (Int ⊕ Int) :=
  (show Option Bool from if (decide (r4 ≤ s5)) = true then if 0 ≤ s5 ∧ s5 < ((List.length s3.2.2 : Nat) : Int) then (if 0 ≤ x1 ∧ x1 < ((List.length s3.2.2 : Nat) : Int) then (F_cmp_Less_uint64 (List.getD s3.2.2 (Int.toNat s5) 0) (List.getD s3.2.2 (Int.toNat x1) 0)).bind fun t1 => (some (!t1)) else none) else none else some false).bind (fun r6 => if (r6) = true then some (Sum.inl (IntKind.wrap .i64 (s5 - 1))) else some (Sum.inr s5))
noncomputable def F_slices_partitionOrdered_uint64_b4 (s3 : (Int × Int × (List Int))) (x1 : Int) (s4 : Int) : Option (Int ⊕ Int) :=
  (show Option Bool from if (decide (s4 ≤ s3.2.1)) = true then if 0 ≤ s4 ∧ s4 < ((List.length s3.2.2 : Nat) : Int) then (if 0 ≤ x1 ∧ x1 < ((List.length s3.2.2 : Nat) : Int) then (F_cmp_Less_uint64 (List.getD s3.2.2 (Int.toNat s4) 0) (List.getD s3.2.2 (Int.toNat x1) 0)).bind fun t2 => (some t2) else none) else none else some false).bind (fun r7 => if (r7) = true then some (Sum.inl (IntKind.wrap .i64 (s4 + 1))) else some (Sum.inr s4))
noncomputable def F_slices_partitionOrdered_uint64_b3 (x1 : Int) (s3 : (Int × Int × (List Int))) : Option ((Int × Int × (List Int)) ⊕ (Int × (List Int))) :=
  (loopO (F_slices_partitionOrdered_uint64_b4 s3 x1) s3.1).bind (fun r4 => (loopO (F_slices_partitionOrdered_uint64_b5 r4 s3 x1) s3.2.1).bind (fun r5 => if (decide (r4 > r5)) = true then some (Sum.inr (r5, s3.2.2)) else if 0 ≤ r5 ∧ r5 < ((List.length s3.2.2 : Nat) : Int) then (if 0 ≤ r4 ∧ r4 < ((List.length s3.2.2 : Nat) : Int) then (if 0 ≤ r4 ∧ r4 < ((List.length s3.2.2 : Nat) : Int) then (if 0 ≤ r5 ∧ r5 < ((List.length (List.set s3.2.2 (Int.toNat r4) (List.getD s3.2.2 (Int.toNat r5) 0)) : Nat) : Int) then (some (Sum.inl (IntKind.wrap .i64 (r4 + 1), IntKind.wrap .i64 (r5 - 1), List.set (List.set s3.2.2 (Int.toNat r4) (List.getD s3.2.2 (Int.toNat r5) 0)) (Int.toNat r5) (List.getD s3.2.2 (Int.toNat r4) 0)))) else none) else none) else none) else none))
noncomputable def F_slices_partitionOrdered_uint64_b2 (r1 : Int) (x0 : (List Int)) (x1 : Int) (x3 : Int) (s2 : Int) : Option (Int ⊕ Int) :=
  (show Option Bool from if (decide (r1 ≤ s2)) = true then if 0 ≤ s2 ∧ s2 < ((List.length (List.set (List.set x0 (Int.toNat x1) (List.getD x0 (Int.toNat x3) 0)) (Int.toNat x3) (List.getD x0 (Int.toNat x1) 0)) : Nat) : Int) then (if 0 ≤ x1 ∧ x1 < ((List.length (List.set (List.set x0 (Int.toNat x1) (List.getD x0 (Int.toNat x3) 0)) (Int.toNat x3) (List.getD x0 (Int.toNat x1) 0)) : Nat) : Int) then (F_cmp_Less_uint64 (List.getD (List.set (List.set x0 (Int.toNat x1) (List.getD x0 (Int.toNat x3) 0)) (Int.toNat x3) (List.getD x0 (Int.toNat x1) 0)) (Int.toNat s2) 0) (List.getD (List.set (List.set x0 (Int.toNat x1) (List.getD x0 (Int.toNat x3) 0)) (Int.toNat x3) (List.getD x0 (Int.toNat x1) 0)) (Int.toNat x1) 0)).bind fun t3 => (some (!t3)) else none) else none else some false).bind (fun r8 => if (r8) = true then some (Sum.inl (IntKind.wrap .i64 (s2 - 1))) else some (Sum.inr s2))
noncomputable def F_slices_partitionOrdered_uint64_b1 (x0 : (List Int)) (x1 : Int) (x2 : Int) (x3 : Int) (s1 : Int) : Option (Int ⊕ Int) :=
  (show Option Bool from if (decide (s1 ≤ (IntKind.wrap .i64 (x2 - 1)))) = true then if 0 ≤ s1 ∧ s1 < ((List.length (List.set (List.set x0 (Int.toNat x1) (List.getD x0 (Int.toNat x3) 0)) (Int.toNat x3) (List.getD x0 (Int.toNat x1) 0)) : Nat) : Int) then (if 0 ≤ x1 ∧ x1 < ((List.length (List.set (List.set x0 (Int.toNat x1) (List.getD x0 (Int.toNat x3) 0)) (Int.toNat x3) (List.getD x0 (Int.toNat x1) 0)) : Nat) : Int) then (F_cmp_Less_uint64 (List.getD (List.set (List.set x0 (Int.toNat x1) (List.getD x0 (Int.toNat x3) 0)) (Int.toNat x3) (List.getD x0 (Int.toNat x1) 0)) (Int.toNat s1) 0) (List.getD (List.set (List.set x0 (Int.toNat x1) (List.getD x0 (Int.toNat x3) 0)) (Int.toNat x3) (List.getD x0 (Int.toNat x1) 0)) (Int.toNat x1) 0)).bind fun t4 => (some t4) else none) else none else some false).bind (fun r9 => if (r9) = true then some (Sum.inl (IntKind.wrap .i64 (s1 + 1))) else some (Sum.inr s1))
noncomputable def F_slices_partitionOrdered_uint64 (x0 : (List Int)) (x1 : Int) (x2 : Int) (x3 : Int) : Option (Int × Bool × (List Int)) :=
  if 0 ≤ x3 ∧ x3 < ((List.length x0 : Nat) : Int) then (if 0 ≤ x1 ∧ x1 < ((List.length x0 : Nat) : Int) then (if 0 ≤ x1 ∧ x1 < ((List.length x0 : Nat) : Int) then (if 0 ≤ x3 ∧ x3 < ((List.length (List.set x0 (Int.toNat x1) (List.getD x0 (Int.toNat x3) 0)) : Nat) : Int) then (loopO (F_slices_partitionOrdered_uint64_b1 x0 x1 x2 x3) (IntKind.wrap .i64 (x1 + 1))).bind (fun r1 => (loopO (F_slices_partitionOrdered_uint64_b2 r1 x0 x1 x3) (IntKind.wrap .i64 (x2 - 1))).bind (fun r2 => if (decide (r1 > r2)) = true then if 0 ≤ x1 ∧ x1 < ((List.length (List.set (List.set x0 (Int.toNat x1) (List.getD x0 (Int.toNat x3) 0)) (Int.toNat x3) (List.getD x0 (Int.toNat x1) 0)) : Nat) : Int) then (if 0 ≤ r2 ∧ r2 < ((List.length (List.set (List.set x0 (Int.toNat x1) (List.getD x0 (Int.toNat x3) 0)) (Int.toNat x3) (List.getD x0 (Int.toNat x1) 0)) : Nat) : Int) then (if 0 ≤ r2 ∧ r2 < ((List.length (List.set (List.set x0 (Int.toNat x1) (List.getD x0 (Int.toNat x3) 0)) (Int.toNat x3) (List.getD x0 (Int.toNat x1) 0)) : Nat) : Int) then (if 0 ≤ x1 ∧ x1 < ((List.length (List.set (List.set (List.set x0 (Int.toNat x1) (List.getD x0 (Int.toNat x3) 0)) (Int.toNat x3) (List.getD x0 (Int.toNat x1) 0)) (Int.toNat r2) (List.getD (List.set (List.set x0 (Int.toNat x1) (List.getD x0 (Int.toNat x3) 0)) (Int.toNat x3) (List.getD x0 (Int.toNat x1) 0)) (Int.toNat x1) 0)) : Nat) : Int) then (some (r2, true, List.set (List.set (List.set (List.set x0 (Int.toNat x1) (List.getD x0 (Int.toNat x3) 0)) (Int.toNat x3) (List.getD x0 (Int.toNat x1) 0)) (Int.toNat r2) (List.getD (List.set (List.set x0 (Int.toNat x1) (List.getD x0 (Int.toNat x3) 0)) (Int.toNat x3) (List.getD x0 (Int.toNat x1) 0)) (Int.toNat x1) 0)) (Int.toNat x1) (List.getD (List.set (List.set x0 (Int.toNat x1) (List.getD x0 (Int.toNat x3) 0)) (Int.toNat x3) (List.getD x0 (Int.toNat x1) 0)) (Int.toNat r2) 0))) else none) else none) else none) else none else if 0 ≤ r2 ∧ r2 < ((List.length (List.set (List.set x0 (Int.toNat x1) (List.getD x0 (Int.toNat x3) 0)) (Int.toNat x3) (List.getD x0 (Int.toNat x1) 0)) : Nat) : Int) then (if 0 ≤ r1 ∧ r1 < ((List.length (List.set (List.set x0 (Int.toNat x1) (List.getD x0 (Int.toNat x3) 0)) (Int.toNat x3) (List.getD x0 (Int.toNat x1) 0)) : Nat) : Int) then (if 0 ≤ r1 ∧ r1 < ((List.length (List.set (List.set x0 (Int.toNat x1) (List.getD x0 (Int.toNat x3) 0)) (Int.toNat x3) (List.getD x0 (Int.toNat x1) 0)) : Nat) : Int) then (if 0 ≤ r2 ∧ r2 < ((List.length (List.set (List.set (List.set x0 (Int.toNat x1) (List.getD x0 (Int.toNat x3) 0)) (Int.toNat x3) (List.getD x0 (Int.toNat x1) 0)) (Int.toNat r1) (List.getD (List.set (List.set x0 (Int.toNat x1) (List.getD x0 (Int.toNat x3) 0)) (Int.toNat x3) (List.getD x0 (Int.toNat x1) 0)) (Int.toNat r2) 0)) : Nat) : Int) then (loopO (F_slices_partitionOrdered_uint64_b3 x1) (IntKind.wrap .i64 (r1 + 1), IntKind.wrap .i64 (r2 - 1), List.set (List.set (List.set (List.set x0 (Int.toNat x1) (List.getD x0 (Int.toNat x3) 0)) (Int.toNat x3) (List.getD x0 (Int.toNat x1) 0)) (Int.toNat r1) (List.getD (List.set (List.set x0 (Int.toNat x1) (List.getD x0 (Int.toNat x3) 0)) (Int.toNat x3) (List.getD x0 (Int.toNat x1) 0)) (Int.toNat r2) 0)) (Int.toNat r2) (List.getD (List.set (List.set x0 (Int.toNat x1) (List.getD x0 (Int.toNat x3) 0)) (Int.toNat x3) (List.getD x0 (Int.toNat x1) 0)) (Int.toNat r1) 0))).bind (fun r3 => if 0 ≤ x1 ∧ x1 < ((List.length r3.2 : Nat) : Int) then (if 0 ≤ r3.1 ∧ r3.1 < ((List.length r3.2 : Nat) : Int) then (if 0 ≤ r3.1 ∧ r3.1 < ((List.length r3.2 : Nat) : Int) then (if 0 ≤ x1 ∧ x1 < ((List.length (List.set r3.2 (Int.toNat r3.1) (List.getD r3.2 (Int.toNat x1) 0)) : Nat) : Int) then (some (r3.1, false, List.set (List.set r3.2 (Int.toNat r3.1) (List.getD r3.2 (Int.toNat x1) 0)) (Int.toNat x1) (List.getD r3.2 (Int.toNat r3.1) 0))) else none) else none) else none) else none) else none) else none) else none) else none)) else none) else none) else none) else none
theorem W_slices_partitionOrdered_uint64 {x0 : (List Int)} {x1 : Int} {x2 : Int} {x3 : Int} {y : (Int × Bool × (List Int))} (hF0 : F_slices_partitionOrdered_uint64 x0 x1 x2 x3 = some y) : Mut Try.prog 37 1 [.row 0, vi x1, vi x2, vi x3] [(0, .row 23 (.int .u64) x0)] (.tup [vi y.1, vb y.2.1]) [(0, .row 23 (.int .u64) y.2.2)] := by
  unfold F_slices_partitionOrdered_uint64 at hF0
  refine mut_of_run @Try.call37 @Try.func37 rfl rfl fun b => ?_
  refine sq rfl (rg [(0, .row 0), (1, vi x1), (2, vi x2), (3, vi x3)] [(0, .row 23 (.int .u64) x0)] [] [] 1 rfl (by kernel_rfl) c0 (sq rfl ?_))
  obtain ⟨h1, hF0⟩ := ifg hF0
  obtain ⟨h2, hF0⟩ := ifg hF0
  obtain ⟨h3, hF0⟩ := ifg hF0
  obtain ⟨h4, hF0⟩ := ifg hF0
  refine rG [(0, .row 0), (1, vi x1), (2, vi x2)] [(0, .row 23 (.int .u64) (List.set (List.set x0 (Int.toNat x1) (List.getD x0 (Int.toNat x3) 0)) (Int.toNat x3) (List.getD x0 (Int.toNat x1) 0)))] [] [] 1 rfl rfl (by kernel_rfl) (cc h1 (cc (@rfl Nat (Int.toNat x3 * 1)) (cc (oo h1 trivial) (cc h2 (cc (@rfl Nat (Int.toNat x1 * 1)) (cc (oo h2 trivial) (cc h3 (cc (@rfl Nat (Int.toNat x1 * 1)) (cc (oo h3 trivial) (cc h4 (cc (@rfl Nat (Int.toNat x3 * 1)) (cc (oo h4 trivial) c0)))))))))))) (sq rfl (rg [(0, .row 0), (1, vi x1), (10, vi (IntKind.wrap .i64 (x1 + 1))), (11, vi (IntKind.wrap .i64 (x2 - 1)))] [(0, .row 23 (.int .u64) (List.set (List.set x0 (Int.toNat x1) (List.getD x0 (Int.toNat x3) 0)) (Int.toNat x3) (List.getD x0 (Int.toNat x1) 0)))] [] [] 1 rfl (by kernel_rfl) c0 (sq rfl (bk rfl ?_))))
  obtain ⟨r1, hl1, hF0⟩ := obd hF0
  refine run_cutx 0 rfl (fun r1' => r1 = r1') (fun r1 => [(0, .row 0), (1, vi x1), (10, vi r1), (11, vi (IntKind.wrap .i64 (x2 - 1)))]) (fun r1 => [(0, .row 23 (.int .u64) (List.set (List.set x0 (Int.toNat x1) (List.getD x0 (Int.toNat x3) 0)) (Int.toNat x3) (List.getD x0 (Int.toNat x1) 0)))]) (fun r1' h5 => ?_) (fun J1_0 => ?_)
  · subst h5
    refine sq rfl (bk rfl ?_)
    obtain ⟨r2, hl2, hF0⟩ := obd hF0
    refine run_cutx 2 rfl (fun r2' => r2 = r2') (fun r2 => [(0, .row 0), (1, vi x1), (10, vi r1), (11, vi r2)]) (fun r2 => [(0, .row 23 (.int .u64) (List.set (List.set x0 (Int.toNat x1) (List.getD x0 (Int.toNat x3) 0)) (Int.toNat x3) (List.getD x0 (Int.toNat x1) 0)))]) (fun r2' h6 => ?_) (fun J2_0 => ?_)
    · subst h6
      refine sq rfl (sq rfl (rg [(0, .row 0), (1, vi x1), (10, vi r1), (11, vi r2), (65, vb (decide (r1 > r2)))] [(0, .row 23 (.int .u64) (List.set (List.set x0 (Int.toNat x1) (List.getD x0 (Int.toNat x3) 0)) (Int.toNat x3) (List.getD x0 (Int.toNat x1) 0)))] [] [] 1 rfl (by kernel_rfl) c0 ?_))
      refine run_if rfl rfl (fun h7 => ?_) (fun h7 => ?_)
      · replace hF0 := ift h7 hF0
        refine sq rfl ?_
        obtain ⟨h8, hF0⟩ := ifg hF0
        obtain ⟨h9, hF0⟩ := ifg hF0
        obtain ⟨h10, hF0⟩ := ifg hF0
        obtain ⟨h11, hF0⟩ := ifg hF0
        refine rG [(11, vi r2)] [(0, .row 23 (.int .u64) (List.set (List.set (List.set (List.set x0 (Int.toNat x1) (List.getD x0 (Int.toNat x3) 0)) (Int.toNat x3) (List.getD x0 (Int.toNat x1) 0)) (Int.toNat r2) (List.getD (List.set (List.set x0 (Int.toNat x1) (List.getD x0 (Int.toNat x3) 0)) (Int.toNat x3) (List.getD x0 (Int.toNat x1) 0)) (Int.toNat x1) 0)) (Int.toNat x1) (List.getD (List.set (List.set x0 (Int.toNat x1) (List.getD x0 (Int.toNat x3) 0)) (Int.toNat x3) (List.getD x0 (Int.toNat x1) 0)) (Int.toNat r2) 0)))] [] [] 1 rfl rfl (by kernel_rfl) (cc h8 (cc (@rfl Nat (Int.toNat x1 * 1)) (cc (oo h8 trivial) (cc h9 (cc (@rfl Nat (Int.toNat r2 * 1)) (cc (oo h9 trivial) (cc h10 (cc (@rfl Nat (Int.toNat r2 * 1)) (cc (oo h10 trivial) (cc h11 (cc (@rfl Nat (Int.toNat x1 * 1)) (cc (oo h11 trivial) c0)))))))))))) (sq rfl (rg [(8, vi r2), (9, vb true)] [(0, .row 23 (.int .u64) (List.set (List.set (List.set (List.set x0 (Int.toNat x1) (List.getD x0 (Int.toNat x3) 0)) (Int.toNat x3) (List.getD x0 (Int.toNat x1) 0)) (Int.toNat r2) (List.getD (List.set (List.set x0 (Int.toNat x1) (List.getD x0 (Int.toNat x3) 0)) (Int.toNat x3) (List.getD x0 (Int.toNat x1) 0)) (Int.toNat x1) 0)) (Int.toNat x1) (List.getD (List.set (List.set x0 (Int.toNat x1) (List.getD x0 (Int.toNat x3) 0)) (Int.toNat x3) (List.getD x0 (Int.toNat x1) 0)) (Int.toNat r2) 0)))] [] [] 1 rfl (by kernel_rfl) c0 ?_))
        obtain rfl := Option.some.inj hF0
        exact ret_mut (q := [vi r2, vb true]) [some (.int .i64), some .bool] [0] rfl rfl (by kernel_rfl) rfl (by kernel_rfl)
      · replace hF0 := ifn h7 hF0
        refine sk rfl (sq rfl ?_)
        obtain ⟨h12, hF0⟩ := ifg hF0
        obtain ⟨h13, hF0⟩ := ifg hF0
        obtain ⟨h14, hF0⟩ := ifg hF0
        obtain ⟨h15, hF0⟩ := ifg hF0
        refine rG [(0, .row 0), (1, vi x1), (10, vi r1), (11, vi r2)] [(0, .row 23 (.int .u64) (List.set (List.set (List.set (List.set x0 (Int.toNat x1) (List.getD x0 (Int.toNat x3) 0)) (Int.toNat x3) (List.getD x0 (Int.toNat x1) 0)) (Int.toNat r1) (List.getD (List.set (List.set x0 (Int.toNat x1) (List.getD x0 (Int.toNat x3) 0)) (Int.toNat x3) (List.getD x0 (Int.toNat x1) 0)) (Int.toNat r2) 0)) (Int.toNat r2) (List.getD (List.set (List.set x0 (Int.toNat x1) (List.getD x0 (Int.toNat x3) 0)) (Int.toNat x3) (List.getD x0 (Int.toNat x1) 0)) (Int.toNat r1) 0)))] [] [] 1 rfl rfl (by kernel_rfl) (cc h12 (cc (@rfl Nat (Int.toNat r2 * 1)) (cc (oo h12 trivial) (cc h13 (cc (@rfl Nat (Int.toNat r1 * 1)) (cc (oo h13 trivial) (cc h14 (cc (@rfl Nat (Int.toNat r1 * 1)) (cc (oo h14 trivial) (cc h15 (cc (@rfl Nat (Int.toNat r2 * 1)) (cc (oo h15 trivial) c0)))))))))))) (sq rfl (rg [(0, .row 0), (1, vi x1), (10, vi (IntKind.wrap .i64 (r1 + 1))), (11, vi r2)] [(0, .row 23 (.int .u64) (List.set (List.set (List.set (List.set x0 (Int.toNat x1) (List.getD x0 (Int.toNat x3) 0)) (Int.toNat x3) (List.getD x0 (Int.toNat x1) 0)) (Int.toNat r1) (List.getD (List.set (List.set x0 (Int.toNat x1) (List.getD x0 (Int.toNat x3) 0)) (Int.toNat x3) (List.getD x0 (Int.toNat x1) 0)) (Int.toNat r2) 0)) (Int.toNat r2) (List.getD (List.set (List.set x0 (Int.toNat x1) (List.getD x0 (Int.toNat x3) 0)) (Int.toNat x3) (List.getD x0 (Int.toNat x1) 0)) (Int.toNat r1) 0)))] [] [] 1 rfl (by kernel_rfl) c0 (sq rfl (rg [(0, .row 0), (1, vi x1), (10, vi (IntKind.wrap .i64 (r1 + 1))), (11, vi (IntKind.wrap .i64 (r2 - 1)))] [(0, .row 23 (.int .u64) (List.set (List.set (List.set (List.set x0 (Int.toNat x1) (List.getD x0 (Int.toNat x3) 0)) (Int.toNat x3) (List.getD x0 (Int.toNat x1) 0)) (Int.toNat r1) (List.getD (List.set (List.set x0 (Int.toNat x1) (List.getD x0 (Int.toNat x3) 0)) (Int.toNat x3) (List.getD x0 (Int.toNat x1) 0)) (Int.toNat r2) 0)) (Int.toNat r2) (List.getD (List.set (List.set x0 (Int.toNat x1) (List.getD x0 (Int.toNat x3) 0)) (Int.toNat x3) (List.getD x0 (Int.toNat x1) 0)) (Int.toNat r1) 0)))] [] [] 1 rfl (by kernel_rfl) c0 (sq rfl (bk rfl ?_))))))
        obtain ⟨r3, hl3, hF0⟩ := obd hF0
        refine run_cutx 4 rfl (fun r3' => r3 = r3') (fun r3 => [(0, .row 0), (1, vi x1), (11, vi r3.1)]) (fun r3 => [(0, .row 23 (.int .u64) r3.2)]) (fun r3' h16 => ?_) (fun J3_0 => ?_)
        · subst h16
          refine sq rfl ?_
          obtain ⟨h17, hF0⟩ := ifg hF0
          obtain ⟨h18, hF0⟩ := ifg hF0
          obtain ⟨h19, hF0⟩ := ifg hF0
          obtain ⟨h20, hF0⟩ := ifg hF0
          refine rG [(11, vi r3.1)] [(0, .row 23 (.int .u64) (List.set (List.set r3.2 (Int.toNat r3.1) (List.getD r3.2 (Int.toNat x1) 0)) (Int.toNat x1) (List.getD r3.2 (Int.toNat r3.1) 0)))] [] [] 1 rfl rfl (by kernel_rfl) (cc h17 (cc (@rfl Nat (Int.toNat x1 * 1)) (cc (oo h17 trivial) (cc h18 (cc (@rfl Nat (Int.toNat r3.1 * 1)) (cc (oo h18 trivial) (cc h19 (cc (@rfl Nat (Int.toNat r3.1 * 1)) (cc (oo h19 trivial) (cc h20 (cc (@rfl Nat (Int.toNat x1 * 1)) (cc (oo h20 trivial) c0)))))))))))) (sq rfl (rg [(8, vi r3.1), (9, vb false)] [(0, .row 23 (.int .u64) (List.set (List.set r3.2 (Int.toNat r3.1) (List.getD r3.2 (Int.toNat x1) 0)) (Int.toNat x1) (List.getD r3.2 (Int.toNat r3.1) 0)))] [] [] 1 rfl (by kernel_rfl) c0 ?_))
          obtain rfl := Option.some.inj hF0
          exact ret_mut (q := [vi r3.1, vb false]) [some (.int .i64), some .bool] [0] rfl rfl (by kernel_rfl) rfl (by kernel_rfl)
        refine run_loop rfl (run_loopO hl3 (fun s3 => [(0, .row 0), (1, vi x1), (10, vi s3.1), (11, vi s3.2.1)]) (fun s3 => [(0, .row 23 (.int .u64) s3.2.2)]) rfl rfl (fun s3 o3 hF1 ih3 hr3 => ?_))
        unfold F_slices_partitionOrdered_uint64_b3 at hF1
        refine run_again (bk rfl (sq rfl (bk rfl ?_)))
        obtain ⟨r4, hl4, hF1⟩ := obd hF1
        refine run_cutx 6 rfl (fun r4' => r4 = r4') (fun r4 => [(0, .row 0), (1, vi x1), (10, vi r4), (11, vi s3.2.1)]) (fun r4 => [(0, .row 23 (.int .u64) s3.2.2)]) (fun r4' h21 => ?_) (fun J4_0 => ?_)
        · subst h21
          refine sq rfl (bk rfl ?_)
          obtain ⟨r5, hl5, hF1⟩ := obd hF1
          refine run_cutx 8 rfl (fun r5' => r5 = r5') (fun r5 => [(0, .row 0), (1, vi x1), (10, vi r4), (11, vi r5)]) (fun r5 => [(0, .row 23 (.int .u64) s3.2.2)]) (fun r5' h22 => ?_) (fun J5_0 => ?_)
          · subst h22
            refine sq rfl (sq rfl (rg [(0, .row 0), (1, vi x1), (10, vi r4), (11, vi r5), (134, vb (decide (r4 > r5)))] [(0, .row 23 (.int .u64) s3.2.2)] [] [] 1 rfl (by kernel_rfl) c0 ?_))
            refine run_if rfl rfl (fun h23 => ?_) (fun h23 => ?_)
            · replace hF1 := ift h23 hF1
              refine run_exit rfl rfl (tm (ρ' := [(0, .row 0), (1, vi x1), (11, vi r5)]) (H' := [(0, .row 23 (.int .u64) s3.2.2)]) (by kernel_rfl) (by kernel_rfl) rfl ?_)
              exact J3_0 _ (inrI hr3 hF1).symm
            · replace hF1 := ifn h23 hF1
              refine sk rfl (sq rfl ?_)
              obtain ⟨h24, hF1⟩ := ifg hF1
              obtain ⟨h25, hF1⟩ := ifg hF1
              obtain ⟨h26, hF1⟩ := ifg hF1
              obtain ⟨h27, hF1⟩ := ifg hF1
              refine rG [(0, .row 0), (1, vi x1), (10, vi r4), (11, vi r5)] [(0, .row 23 (.int .u64) (List.set (List.set s3.2.2 (Int.toNat r4) (List.getD s3.2.2 (Int.toNat r5) 0)) (Int.toNat r5) (List.getD s3.2.2 (Int.toNat r4) 0)))] [] [] 1 rfl rfl (by kernel_rfl) (cc h24 (cc (@rfl Nat (Int.toNat r5 * 1)) (cc (oo h24 trivial) (cc h25 (cc (@rfl Nat (Int.toNat r4 * 1)) (cc (oo h25 trivial) (cc h26 (cc (@rfl Nat (Int.toNat r4 * 1)) (cc (oo h26 trivial) (cc h27 (cc (@rfl Nat (Int.toNat r5 * 1)) (cc (oo h27 trivial) c0)))))))))))) (sq rfl (rg [(0, .row 0), (1, vi x1), (10, vi (IntKind.wrap .i64 (r4 + 1))), (11, vi r5)] [(0, .row 23 (.int .u64) (List.set (List.set s3.2.2 (Int.toNat r4) (List.getD s3.2.2 (Int.toNat r5) 0)) (Int.toNat r5) (List.getD s3.2.2 (Int.toNat r4) 0)))] [] [] 1 rfl (by kernel_rfl) c0 (rg [(0, .row 0), (1, vi x1), (10, vi (IntKind.wrap .i64 (r4 + 1))), (11, vi (IntKind.wrap .i64 (r5 - 1)))] [(0, .row 23 (.int .u64) (List.set (List.set s3.2.2 (Int.toNat r4) (List.getD s3.2.2 (Int.toNat r5) 0)) (Int.toNat r5) (List.getD s3.2.2 (Int.toNat r4) 0)))] [] [] 1 rfl (by kernel_rfl) c0 (eb ?_))))
              exact ih3 _ (Option.some.inj hF1).symm
          refine run_loop rfl (run_loopO hl5 (fun s5 => [(0, .row 0), (1, vi x1), (10, vi r4), (11, vi s5)]) (fun s5 => [(0, .row 23 (.int .u64) s3.2.2)]) rfl rfl (fun s5 o5 hF2 ih5 hr5 => ?_))
          unfold F_slices_partitionOrdered_uint64_b5 at hF2
          refine run_again (sq rfl (sq rfl ?_))
          obtain ⟨r6, hF3, hF2⟩ := obd hF2
          refine run_cut (fun r6' => r6 = r6') (fun r6 => [(0, .row 0), (1, vi x1), (10, vi r4), (11, vi s5), (129, vb r6)]) (fun r6 => [(0, .row 23 (.int .u64) s3.2.2)]) (fun r6' h28 => ?_) (fun J6_0 => ?_)
          · subst h28
            refine run_if rfl rfl (fun h29 => ?_) (fun h29 => ?_)
            · replace hF2 := ift h29 hF2
              refine sk rfl (bk rfl (rg [(0, .row 0), (1, vi x1), (10, vi r4), (11, vi (IntKind.wrap .i64 (s5 - 1)))] [(0, .row 23 (.int .u64) s3.2.2)] [] [] 1 rfl (by kernel_rfl) c0 (eb ?_)))
              exact ih5 _ (Option.some.inj hF2).symm
            · replace hF2 := ifn h29 hF2
              refine run_exit rfl rfl (tm (ρ' := [(0, .row 0), (1, vi x1), (10, vi r4), (11, vi s5)]) (H' := [(0, .row 23 (.int .u64) s3.2.2)]) (by kernel_rfl) (by kernel_rfl) rfl ?_)
              exact J5_0 _ (inrI hr5 hF2).symm
          rcases Bool.eq_false_or_eq_true (decide (r4 ≤ s5)) with h30 | h30
          · replace hF3 := ift h30 hF3
            obtain ⟨h31, hF3⟩ := ifg hF3
            obtain ⟨h32, hF3⟩ := ifg hF3
            obtain ⟨t1, h33, hF3⟩ := obd hF3
            refine rG [(0, .row 0), (1, vi x1), (10, vi r4), (11, vi s5), (129, vb (!t1))] [(0, .row 23 (.int .u64) s3.2.2)] [(12, ⟨[.v (.int .u64), .v (.int .u64)], vb t1, none⟩)] [(3, true)] 1 rfl rfl (by kernel_rfl) (cc h30 (cc h31 (cc (@rfl Nat (Int.toNat s5 * 1)) (cc (oo h31 trivial) (cc h32 (cc (@rfl Nat (Int.toNat x1 * 1)) (cc (oo h32 trivial) (cc (W_cmp_Less_uint64 h33) c0)))))))) ?_
            exact J6_0 _ (Option.some.inj hF3).symm
          · replace hF3 := ifn h30 hF3
            refine rG [(0, .row 0), (1, vi x1), (10, vi r4), (11, vi s5), (129, vb false)] [(0, .row 23 (.int .u64) s3.2.2)] [] [(3, false)] 1 rfl rfl (by kernel_rfl) (cc h30 c0) ?_
            exact J6_0 _ (Option.some.inj hF3).symm
        refine run_loop rfl (run_loopO hl4 (fun s4 => [(0, .row 0), (1, vi x1), (10, vi s4), (11, vi s3.2.1)]) (fun s4 => [(0, .row 23 (.int .u64) s3.2.2)]) rfl rfl (fun s4 o4 hF2 ih4 hr4 => ?_))
        unfold F_slices_partitionOrdered_uint64_b4 at hF2
        refine run_again (sq rfl (sq rfl ?_))
        obtain ⟨r7, hF3, hF2⟩ := obd hF2
        refine run_cut (fun r7' => r7 = r7') (fun r7 => [(0, .row 0), (1, vi x1), (10, vi s4), (11, vi s3.2.1), (112, vb r7)]) (fun r7 => [(0, .row 23 (.int .u64) s3.2.2)]) (fun r7' h34 => ?_) (fun J7_0 => ?_)
        · subst h34
          refine run_if rfl rfl (fun h35 => ?_) (fun h35 => ?_)
          · replace hF2 := ift h35 hF2
            refine sk rfl (bk rfl (rg [(0, .row 0), (1, vi x1), (10, vi (IntKind.wrap .i64 (s4 + 1))), (11, vi s3.2.1)] [(0, .row 23 (.int .u64) s3.2.2)] [] [] 1 rfl (by kernel_rfl) c0 (eb ?_)))
            exact ih4 _ (Option.some.inj hF2).symm
          · replace hF2 := ifn h35 hF2
            refine run_exit rfl rfl (tm (ρ' := [(0, .row 0), (1, vi x1), (10, vi s4), (11, vi s3.2.1)]) (H' := [(0, .row 23 (.int .u64) s3.2.2)]) (by kernel_rfl) (by kernel_rfl) rfl ?_)
            exact J4_0 _ (inrI hr4 hF2).symm
        rcases Bool.eq_false_or_eq_true (decide (s4 ≤ s3.2.1)) with h36 | h36
        · replace hF3 := ift h36 hF3
          obtain ⟨h37, hF3⟩ := ifg hF3
          obtain ⟨h38, hF3⟩ := ifg hF3
          obtain ⟨t2, h39, hF3⟩ := obd hF3
          refine rG [(0, .row 0), (1, vi x1), (10, vi s4), (11, vi s3.2.1), (112, vb t2)] [(0, .row 23 (.int .u64) s3.2.2)] [(12, ⟨[.v (.int .u64), .v (.int .u64)], vb t2, none⟩)] [(3, true)] 1 rfl rfl (by kernel_rfl) (cc h36 (cc h37 (cc (@rfl Nat (Int.toNat s4 * 1)) (cc (oo h37 trivial) (cc h38 (cc (@rfl Nat (Int.toNat x1 * 1)) (cc (oo h38 trivial) (cc (W_cmp_Less_uint64 h39) c0)))))))) ?_
          exact J7_0 _ (Option.some.inj hF3).symm
        · replace hF3 := ifn h36 hF3
          refine rG [(0, .row 0), (1, vi x1), (10, vi s4), (11, vi s3.2.1), (112, vb false)] [(0, .row 23 (.int .u64) s3.2.2)] [] [(3, false)] 1 rfl rfl (by kernel_rfl) (cc h36 c0) ?_
          exact J7_0 _ (Option.some.inj hF3).symm
    refine run_loop rfl (run_loopO hl2 (fun s2 => [(0, .row 0), (1, vi x1), (10, vi r1), (11, vi s2)]) (fun s2 => [(0, .row 23 (.int .u64) (List.set (List.set x0 (Int.toNat x1) (List.getD x0 (Int.toNat x3) 0)) (Int.toNat x3) (List.getD x0 (Int.toNat x1) 0)))]) rfl rfl (fun s2 o2 hF1 ih2 hr2 => ?_))
    unfold F_slices_partitionOrdered_uint64_b2 at hF1
    refine run_again (sq rfl (sq rfl ?_))
    obtain ⟨r8, hF2, hF1⟩ := obd hF1
    refine run_cut (fun r8' => r8 = r8') (fun r8 => [(0, .row 0), (1, vi x1), (10, vi r1), (11, vi s2), (60, vb r8)]) (fun r8 => [(0, .row 23 (.int .u64) (List.set (List.set x0 (Int.toNat x1) (List.getD x0 (Int.toNat x3) 0)) (Int.toNat x3) (List.getD x0 (Int.toNat x1) 0)))]) (fun r8' h40 => ?_) (fun J8_0 => ?_)
    · subst h40
      refine run_if rfl rfl (fun h41 => ?_) (fun h41 => ?_)
      · replace hF1 := ift h41 hF1
        refine sk rfl (bk rfl (rg [(0, .row 0), (1, vi x1), (10, vi r1), (11, vi (IntKind.wrap .i64 (s2 - 1)))] [(0, .row 23 (.int .u64) (List.set (List.set x0 (Int.toNat x1) (List.getD x0 (Int.toNat x3) 0)) (Int.toNat x3) (List.getD x0 (Int.toNat x1) 0)))] [] [] 1 rfl (by kernel_rfl) c0 (eb ?_)))
        exact ih2 _ (Option.some.inj hF1).symm
      · replace hF1 := ifn h41 hF1
        refine run_exit rfl rfl (tm (ρ' := [(0, .row 0), (1, vi x1), (10, vi r1), (11, vi s2)]) (H' := [(0, .row 23 (.int .u64) (List.set (List.set x0 (Int.toNat x1) (List.getD x0 (Int.toNat x3) 0)) (Int.toNat x3) (List.getD x0 (Int.toNat x1) 0)))]) (by kernel_rfl) (by kernel_rfl) rfl ?_)
        exact J2_0 _ (inrI hr2 hF1).symm
    rcases Bool.eq_false_or_eq_true (decide (r1 ≤ s2)) with h42 | h42
    · replace hF2 := ift h42 hF2
      obtain ⟨h43, hF2⟩ := ifg hF2
      obtain ⟨h44, hF2⟩ := ifg hF2
      obtain ⟨t3, h45, hF2⟩ := obd hF2
      refine rG [(0, .row 0), (1, vi x1), (10, vi r1), (11, vi s2), (60, vb (!t3))] [(0, .row 23 (.int .u64) (List.set (List.set x0 (Int.toNat x1) (List.getD x0 (Int.toNat x3) 0)) (Int.toNat x3) (List.getD x0 (Int.toNat x1) 0)))] [(12, ⟨[.v (.int .u64), .v (.int .u64)], vb t3, none⟩)] [(3, true)] 1 rfl rfl (by kernel_rfl) (cc h42 (cc h43 (cc (@rfl Nat (Int.toNat s2 * 1)) (cc (oo h43 trivial) (cc h44 (cc (@rfl Nat (Int.toNat x1 * 1)) (cc (oo h44 trivial) (cc (W_cmp_Less_uint64 h45) c0)))))))) ?_
      exact J8_0 _ (Option.some.inj hF2).symm
    · replace hF2 := ifn h42 hF2
      refine rG [(0, .row 0), (1, vi x1), (10, vi r1), (11, vi s2), (60, vb false)] [(0, .row 23 (.int .u64) (List.set (List.set x0 (Int.toNat x1) (List.getD x0 (Int.toNat x3) 0)) (Int.toNat x3) (List.getD x0 (Int.toNat x1) 0)))] [] [(3, false)] 1 rfl rfl (by kernel_rfl) (cc h42 c0) ?_
      exact J8_0 _ (Option.some.inj hF2).symm
  refine run_loop rfl (run_loopO hl1 (fun s1 => [(0, .row 0), (1, vi x1), (10, vi s1), (11, vi (IntKind.wrap .i64 (x2 - 1)))]) (fun s1 => [(0, .row 23 (.int .u64) (List.set (List.set x0 (Int.toNat x1) (List.getD x0 (Int.toNat x3) 0)) (Int.toNat x3) (List.getD x0 (Int.toNat x1) 0)))]) rfl rfl (fun s1 o1 hF1 ih1 hr1 => ?_))
  unfold F_slices_partitionOrdered_uint64_b1 at hF1
  refine run_again (sq rfl (sq rfl ?_))
  obtain ⟨r9, hF2, hF1⟩ := obd hF1
  refine run_cut (fun r9' => r9 = r9') (fun r9 => [(0, .row 0), (1, vi x1), (10, vi s1), (11, vi (IntKind.wrap .i64 (x2 - 1))), (43, vb r9)]) (fun r9 => [(0, .row 23 (.int .u64) (List.set (List.set x0 (Int.toNat x1) (List.getD x0 (Int.toNat x3) 0)) (Int.toNat x3) (List.getD x0 (Int.toNat x1) 0)))]) (fun r9' h46 => ?_) (fun J9_0 => ?_)
  · subst h46
    refine run_if rfl rfl (fun h47 => ?_) (fun h47 => ?_)
    · replace hF1 := ift h47 hF1
      refine sk rfl (bk rfl (rg [(0, .row 0), (1, vi x1), (10, vi (IntKind.wrap .i64 (s1 + 1))), (11, vi (IntKind.wrap .i64 (x2 - 1)))] [(0, .row 23 (.int .u64) (List.set (List.set x0 (Int.toNat x1) (List.getD x0 (Int.toNat x3) 0)) (Int.toNat x3) (List.getD x0 (Int.toNat x1) 0)))] [] [] 1 rfl (by kernel_rfl) c0 (eb ?_)))
      exact ih1 _ (Option.some.inj hF1).symm
    · replace hF1 := ifn h47 hF1
      refine run_exit rfl rfl (tm (ρ' := [(0, .row 0), (1, vi x1), (10, vi s1), (11, vi (IntKind.wrap .i64 (x2 - 1)))]) (H' := [(0, .row 23 (.int .u64) (List.set (List.set x0 (Int.toNat x1) (List.getD x0 (Int.toNat x3) 0)) (Int.toNat x3) (List.getD x0 (Int.toNat x1) 0)))]) (by kernel_rfl) (by kernel_rfl) rfl ?_)
      exact J1_0 _ (inrI hr1 hF1).symm
  rcases Bool.eq_false_or_eq_true (decide (s1 ≤ (IntKind.wrap .i64 (x2 - 1)))) with h48 | h48
  · replace hF2 := ift h48 hF2
    obtain ⟨h49, hF2⟩ := ifg hF2
    obtain ⟨h50, hF2⟩ := ifg hF2
    obtain ⟨t4, h51, hF2⟩ := obd hF2
    refine rG [(0, .row 0), (1, vi x1), (10, vi s1), (11, vi (IntKind.wrap .i64 (x2 - 1))), (43, vb t4)] [(0, .row 23 (.int .u64) (List.set (List.set x0 (Int.toNat x1) (List.getD x0 (Int.toNat x3) 0)) (Int.toNat x3) (List.getD x0 (Int.toNat x1) 0)))] [(12, ⟨[.v (.int .u64), .v (.int .u64)], vb t4, none⟩)] [(3, true)] 1 rfl rfl (by kernel_rfl) (cc h48 (cc h49 (cc (@rfl Nat (Int.toNat s1 * 1)) (cc (oo h49 trivial) (cc h50 (cc (@rfl Nat (Int.toNat x1 * 1)) (cc (oo h50 trivial) (cc (W_cmp_Less_uint64 h51) c0)))))))) ?_
    exact J9_0 _ (Option.some.inj hF2).symm
  · replace hF2 := ifn h48 hF2
    refine rG [(0, .row 0), (1, vi x1), (10, vi s1), (11, vi (IntKind.wrap .i64 (x2 - 1))), (43, vb false)] [(0, .row 23 (.int .u64) (List.set (List.set x0 (Int.toNat x1) (List.getD x0 (Int.toNat x3) 0)) (Int.toNat x3) (List.getD x0 (Int.toNat x1) 0)))] [] [(3, false)] 1 rfl rfl (by kernel_rfl) (cc h48 c0) ?_
    exact J9_0 _ (Option.some.inj hF2).symm
noncomputable def F_slices_order2Ordered_uint64 (x0 : (List Int)) (x1 : Int) (x2 : Int) (x3 : Int) : Option (Int × Int × Int) :=
  if 0 ≤ x2 ∧ x2 < ((List.length x0 : Nat) : Int) then (if 0 ≤ x1 ∧ x1 < ((List.length x0 : Nat) : Int) then (F_cmp_Less_uint64 (List.getD x0 (Int.toNat x2) 0) (List.getD x0 (Int.toNat x1) 0)).bind fun t1 => (if (t1) = true then some (x2, x1, IntKind.wrap .i64 (x3 + 1)) else some (x1, x2, x3)) else none) else none
theorem W_slices_order2Ordered_uint64 {x0 : (List Int)} {x1 : Int} {x2 : Int} {x3 : Int} {y : (Int × Int × Int)} (hF0 : F_slices_order2Ordered_uint64 x0 x1 x2 x3 = some y) : Mut Try.prog 46 1 [.v (.sl (.int .u64)) x0, vi x1, vi x2, .ptr 0 [] 0] [(0, .var 3 (.int .i64) x3)] (.tup [vi y.1, vi y.2.1]) [(0, .var 3 (.int .i64) y.2.2)] := by
  unfold F_slices_order2Ordered_uint64 at hF0
  refine mut_of_run @Try.call46 @Try.func46 rfl rfl fun b => ?_
  refine sq rfl (rg [(0, .v (.sl (.int .u64)) x0), (1, vi x1), (2, vi x2), (3, .ptr 0 [] 0)] [(0, .var 3 (.int .i64) x3)] [] [] 1 rfl (by kernel_rfl) c0 (sq rfl (sq rfl ?_)))
  obtain ⟨h1, hF0⟩ := ifg hF0
  obtain ⟨h2, hF0⟩ := ifg hF0
  obtain ⟨t1, h3, hF0⟩ := obd hF0
  refine rG [(1, vi x1), (2, vi x2), (3, .ptr 0 [] 0), (18, vb t1)] [(0, .var 3 (.int .i64) x3)] [(8, ⟨[.v (.int .u64), .v (.int .u64)], vb t1, none⟩)] [] 1 rfl rfl (by kernel_rfl) (cc h1 (cc h2 (cc (W_cmp_Less_uint64 h3) c0))) ?_
  refine run_if rfl rfl (fun h4 => ?_) (fun h4 => ?_)
  · replace hF0 := ift h4 hF0
    refine sq rfl (rg [(1, vi x1), (2, vi x2)] [(0, .var 3 (.int .i64) (IntKind.wrap .i64 (x3 + 1)))] [] [] 1 rfl (by kernel_rfl) c0 (sq rfl (rg [(8, vi x2), (9, vi x1)] [(0, .var 3 (.int .i64) (IntKind.wrap .i64 (x3 + 1)))] [] [] 1 rfl (by kernel_rfl) c0 ?_)))
    obtain rfl := Option.some.inj hF0
    exact ret_mut (q := [vi x2, vi x1]) [some (.int .i64), some (.int .i64)] [0] rfl rfl (by kernel_rfl) rfl (by kernel_rfl)
  · replace hF0 := ifn h4 hF0
    refine sk rfl (sq rfl (rg [(8, vi x1), (9, vi x2)] [(0, .var 3 (.int .i64) x3)] [] [] 1 rfl (by kernel_rfl) c0 ?_))
    obtain rfl := Option.some.inj hF0
    exact ret_mut (q := [vi x1, vi x2]) [some (.int .i64), some (.int .i64)] [0] rfl rfl (by kernel_rfl) rfl (by kernel_rfl)
noncomputable def F_slices_medianOrdered_uint64 (x0 : (List Int)) (x1 : Int) (x2 : Int) (x3 : Int) (x4 : Int) : Option (Int × Int) :=
  (F_slices_order2Ordered_uint64 x0 x1 x2 x4).bind fun t1 => ((F_slices_order2Ordered_uint64 x0 t1.2.1 x3 t1.2.2).bind fun t2 => ((F_slices_order2Ordered_uint64 x0 t1.1 t2.1 t2.2.2).bind fun t3 => (some (t3.2.1, t3.2.2))))
theorem W_slices_medianOrdered_uint64 {x0 : (List Int)} {x1 : Int} {x2 : Int} {x3 : Int} {x4 : Int} {y : (Int × Int)} (hF0 : F_slices_medianOrdered_uint64 x0 x1 x2 x3 x4 = some y) : Mut Try.prog 44 1 [.v (.sl (.int .u64)) x0, vi x1, vi x2, vi x3, .ptr 0 [] 0] [(0, .var 3 (.int .i64) x4)] (vi y.1) [(0, .var 3 (.int .i64) y.2)] := by
  unfold F_slices_medianOrdered_uint64 at hF0
  refine mut_of_run @Try.call44 @Try.func44 rfl rfl fun b => ?_
  refine sq rfl (rg [(0, .v (.sl (.int .u64)) x0), (1, vi x1), (2, vi x2), (3, vi x3), (4, .ptr 0 [] 0)] [(0, .var 3 (.int .i64) x4)] [] [] 1 rfl (by kernel_rfl) c0 (sq rfl ?_))
  obtain ⟨t1, h1, hF0⟩ := obd hF0
  refine rg [(0, .v (.sl (.int .u64)) x0), (1, vi t1.1), (2, vi t1.2.1), (3, vi x3), (4, .ptr 0 [] 0)] [(0, .var 3 (.int .i64) t1.2.2)] [(4, ⟨[.v (.sl (.int .u64)), .v (.int .i64), .v (.int .i64), .v .unit], .tup [vi t1.1, vi t1.2.1], some ([0], [(0, .var 3 (.int .i64) t1.2.2)])⟩)] [] 1 rfl (by kernel_rfl) (cc (W_slices_order2Ordered_uint64 h1) c0) (sq rfl ?_)
  obtain ⟨t2, h2, hF0⟩ := obd hF0
  refine rg [(0, .v (.sl (.int .u64)) x0), (1, vi t1.1), (2, vi t2.1), (4, .ptr 0 [] 0)] [(0, .var 3 (.int .i64) t2.2.2)] [(4, ⟨[.v (.sl (.int .u64)), .v (.int .i64), .v (.int .i64), .v .unit], .tup [vi t2.1, vi t2.2.1], some ([0], [(0, .var 3 (.int .i64) t2.2.2)])⟩)] [] 1 rfl (by kernel_rfl) (cc (W_slices_order2Ordered_uint64 h2) c0) (sq rfl ?_)
  obtain ⟨t3, h3, hF0⟩ := obd hF0
  refine rg [(2, vi t3.2.1)] [(0, .var 3 (.int .i64) t3.2.2)] [(4, ⟨[.v (.sl (.int .u64)), .v (.int .i64), .v (.int .i64), .v .unit], .tup [vi t3.1, vi t3.2.1], some ([0], [(0, .var 3 (.int .i64) t3.2.2)])⟩)] [] 1 rfl (by kernel_rfl) (cc (W_slices_order2Ordered_uint64 h3) c0) (sq rfl (rg [(10, vi t3.2.1)] [(0, .var 3 (.int .i64) t3.2.2)] [] [] 1 rfl (by kernel_rfl) c0 ?_))
  obtain rfl := Option.some.inj hF0
  exact ret_mut (q := [vi t3.2.1]) [some (.int .i64)] [0] rfl rfl (by kernel_rfl) rfl (by kernel_rfl)
noncomputable def F_slices_medianAdjacentOrdered_uint64 (x0 : (List Int)) (x1 : Int) (x2 : Int) : Option (Int × Int) :=
  (F_slices_medianOrdered_uint64 x0 (IntKind.wrap .i64 (x1 - 1)) x1 (IntKind.wrap .i64 (x1 + 1)) x2).bind fun t1 => (some (t1.1, t1.2))
theorem W_slices_medianAdjacentOrdered_uint64 {x0 : (List Int)} {x1 : Int} {x2 : Int} {y : (Int × Int)} (hF0 : F_slices_medianAdjacentOrdered_uint64 x0 x1 x2 = some y) : Mut Try.prog 43 1 [.v (.sl (.int .u64)) x0, vi x1, .ptr 0 [] 0] [(0, .var 3 (.int .i64) x2)] (vi y.1) [(0, .var 3 (.int .i64) y.2)] := by
  unfold F_slices_medianAdjacentOrdered_uint64 at hF0
  refine mut_of_run @Try.call43 @Try.func43 rfl rfl fun b => ?_
  refine sq rfl (rg [(0, .v (.sl (.int .u64)) x0), (1, vi x1), (2, .ptr 0 [] 0)] [(0, .var 3 (.int .i64) x2)] [] [] 1 rfl (by kernel_rfl) c0 (sq rfl ?_))
  obtain ⟨t1, h1, hF0⟩ := obd hF0
  refine rg [(6, vi t1.1)] [(0, .var 3 (.int .i64) t1.2)] [(7, ⟨[.v (.sl (.int .u64)), .v (.int .i64), .v (.int .i64), .v (.int .i64), .v .unit], vi t1.1, some ([0], [(0, .var 3 (.int .i64) t1.2)])⟩)] [] 1 rfl (by kernel_rfl) (cc (W_slices_medianOrdered_uint64 h1) c0) ?_
  obtain rfl := Option.some.inj hF0
  exact ret_mut (q := [vi t1.1]) [some (.int .i64)] [0] rfl rfl (by kernel_rfl) rfl (by kernel_rfl)
noncomputable def F_slices_choosePivotOrdered_uint64 (x0 : (List Int)) (x1 : Int) (x2 : Int) : Option (Int × Int) :=
  (show Option (Int × Int) from if (decide ((IntKind.wrap .i64 (x2 - x1)) ≥ 8)) = true then if (decide ((IntKind.wrap .i64 (x2 - x1)) ≥ 50)) = true then (F_slices_medianAdjacentOrdered_uint64 x0 (IntKind.wrap .i64 (x1 + (IntKind.wrap .i64 ((IntKind.wrap .i64 (Int.tdiv (IntKind.wrap .i64 (x2 - x1)) 4)) * 1)))) 0).bind fun t1 => ((F_slices_medianAdjacentOrdered_uint64 x0 (IntKind.wrap .i64 (x1 + (IntKind.wrap .i64 ((IntKind.wrap .i64 (Int.tdiv (IntKind.wrap .i64 (x2 - x1)) 4)) * 2)))) t1.2).bind fun t2 => ((F_slices_medianAdjacentOrdered_uint64 x0 (IntKind.wrap .i64 (x1 + (IntKind.wrap .i64 ((IntKind.wrap .i64 (Int.tdiv (IntKind.wrap .i64 (x2 - x1)) 4)) * 3)))) t2.2).bind fun t3 => ((F_slices_medianOrdered_uint64 x0 t1.1 t2.1 t3.1 t3.2).bind fun t4 => (some (t4.1, t4.2))))) else (F_slices_medianOrdered_uint64 x0 (IntKind.wrap .i64 (x1 + (IntKind.wrap .i64 ((IntKind.wrap .i64 (Int.tdiv (IntKind.wrap .i64 (x2 - x1)) 4)) * 1)))) (IntKind.wrap .i64 (x1 + (IntKind.wrap .i64 ((IntKind.wrap .i64 (Int.tdiv (IntKind.wrap .i64 (x2 - x1)) 4)) * 2)))) (IntKind.wrap .i64 (x1 + (IntKind.wrap .i64 ((IntKind.wrap .i64 (Int.tdiv (IntKind.wrap .i64 (x2 - x1)) 4)) * 3)))) 0).bind fun t5 => (some (t5.1, t5.2)) else some (IntKind.wrap .i64 (x1 + (IntKind.wrap .i64 ((IntKind.wrap .i64 (Int.tdiv (IntKind.wrap .i64 (x2 - x1)) 4)) * 2))), 0)).bind (fun r1 => if (r1.2 == 0) = true then some (r1.1, 1) else if (r1.2 == 12) = true then some (r1.1, 2) else some (r1.1, 0))
theorem W_slices_choosePivotOrdered_uint64 {x0 : (List Int)} {x1 : Int} {x2 : Int} {y : (Int × Int)} (hF0 : F_slices_choosePivotOrdered_uint64 x0 x1 x2 = some y) : Pure Try.prog 32 [.v (.sl (.int .u64)) x0, vi x1, vi x2] (.tup [vi y.1, vi y.2]) := by
  unfold F_slices_choosePivotOrdered_uint64 at hF0
  refine pure_of_run @Try.call32 @Try.func32 rfl rfl fun w M ho => ?_
  refine sq rfl (rg [(0, .v (.sl (.int .u64)) x0), (1, vi x1), (2, vi x2)] [] [] [] 0 rfl (by kernel_rfl) c0 (sq rfl (rg [(0, .v (.sl (.int .u64)) x0), (1, vi x1), (8, vi (IntKind.wrap .i64 (x2 - x1)))] [] [] [] 0 rfl (by kernel_rfl) c0 (sq rfl (rg [(0, .v (.sl (.int .u64)) x0), (1, vi x1), (8, vi (IntKind.wrap .i64 (x2 - x1))), (9, .ptr 0 [] 0)] [(0, .var 3 (.int .i64) 0)] [] [] 0 rfl (by kernel_rfl) c0 (sq rfl (rg [(0, .v (.sl (.int .u64)) x0), (1, vi x1), (8, vi (IntKind.wrap .i64 (x2 - x1))), (9, .ptr 0 [] 0), (10, vi (IntKind.wrap .i64 (x1 + (IntKind.wrap .i64 ((IntKind.wrap .i64 (Int.tdiv (IntKind.wrap .i64 (x2 - x1)) 4)) * 1)))))] [(0, .var 3 (.int .i64) 0)] [] [] 1 rfl (by kernel_rfl) (cc (show 4 ≠ (0 : Int) from (by decide)) c0) (sq rfl (rg [(0, .v (.sl (.int .u64)) x0), (1, vi x1), (8, vi (IntKind.wrap .i64 (x2 - x1))), (9, .ptr 0 [] 0), (10, vi (IntKind.wrap .i64 (x1 + (IntKind.wrap .i64 ((IntKind.wrap .i64 (Int.tdiv (IntKind.wrap .i64 (x2 - x1)) 4)) * 1))))), (11, vi (IntKind.wrap .i64 (x1 + (IntKind.wrap .i64 ((IntKind.wrap .i64 (Int.tdiv (IntKind.wrap .i64 (x2 - x1)) 4)) * 2)))))] [(0, .var 3 (.int .i64) 0)] [] [] 1 rfl (by kernel_rfl) (cc (show 4 ≠ (0 : Int) from (by decide)) c0) (sq rfl (rg [(0, .v (.sl (.int .u64)) x0), (8, vi (IntKind.wrap .i64 (x2 - x1))), (9, .ptr 0 [] 0), (10, vi (IntKind.wrap .i64 (x1 + (IntKind.wrap .i64 ((IntKind.wrap .i64 (Int.tdiv (IntKind.wrap .i64 (x2 - x1)) 4)) * 1))))), (11, vi (IntKind.wrap .i64 (x1 + (IntKind.wrap .i64 ((IntKind.wrap .i64 (Int.tdiv (IntKind.wrap .i64 (x2 - x1)) 4)) * 2))))), (12, vi (IntKind.wrap .i64 (x1 + (IntKind.wrap .i64 ((IntKind.wrap .i64 (Int.tdiv (IntKind.wrap .i64 (x2 - x1)) 4)) * 3)))))] [(0, .var 3 (.int .i64) 0)] [] [] 1 rfl (by kernel_rfl) (cc (show 4 ≠ (0 : Int) from (by decide)) c0) (sq rfl (sq rfl (rg [(0, .v (.sl (.int .u64)) x0), (8, vi (IntKind.wrap .i64 (x2 - x1))), (9, .ptr 0 [] 0), (10, vi (IntKind.wrap .i64 (x1 + (IntKind.wrap .i64 ((IntKind.wrap .i64 (Int.tdiv (IntKind.wrap .i64 (x2 - x1)) 4)) * 1))))), (11, vi (IntKind.wrap .i64 (x1 + (IntKind.wrap .i64 ((IntKind.wrap .i64 (Int.tdiv (IntKind.wrap .i64 (x2 - x1)) 4)) * 2))))), (12, vi (IntKind.wrap .i64 (x1 + (IntKind.wrap .i64 ((IntKind.wrap .i64 (Int.tdiv (IntKind.wrap .i64 (x2 - x1)) 4)) * 3))))), (32, vb (decide ((IntKind.wrap .i64 (x2 - x1)) ≥ 8)))] [(0, .var 3 (.int .i64) 0)] [] [] 1 rfl (by kernel_rfl) c0 ?_))))))))))))))
  obtain ⟨r1, hF1, hF0⟩ := obd hF0
  refine run_cut (fun r1' => r1 = r1') (fun r1 => [(9, .ptr 0 [] 0), (11, vi r1.1)]) (fun r1 => [(0, .var 3 (.int .i64) r1.2)]) (fun r1' h1 => ?_) (fun J1_0 => ?_)
  · subst h1
    refine sq rfl (rg [(11, vi r1.1), (49, vi r1.2)] [] [] [] 1 rfl (by kernel_rfl) c0 (bk rfl (sq rfl (rg [(11, vi r1.1), (49, vi r1.2), (51, vb (r1.2 == 0))] [] [] [] 0 rfl (by kernel_rfl) c0 ?_))))
    refine run_if rfl rfl (fun h2 => ?_) (fun h2 => ?_)
    · replace hF0 := ift h2 hF0
      refine sq rfl (rg [(6, vi r1.1), (7, vi 1)] [] [] [] 0 rfl (by kernel_rfl) c0 ?_)
      obtain rfl := Option.some.inj hF0
      exact ret_pure (q := [vi r1.1, vi 1]) [(.int .i64), (.int .i64)] rfl rfl (by kernel_rfl)
    · replace hF0 := ifn h2 hF0
      refine sq rfl (rg [(11, vi r1.1), (54, vb (r1.2 == 12))] [] [] [] 0 rfl (by kernel_rfl) c0 ?_)
      refine run_if rfl rfl (fun h3 => ?_) (fun h3 => ?_)
      · replace hF0 := ift h3 hF0
        refine sq rfl (rg [(6, vi r1.1), (7, vi 2)] [] [] [] 0 rfl (by kernel_rfl) c0 ?_)
        obtain rfl := Option.some.inj hF0
        exact ret_pure (q := [vi r1.1, vi 2]) [(.int .i64), (.int .i64)] rfl rfl (by kernel_rfl)
      · replace hF0 := ifn h3 hF0
        refine sq rfl (rg [(6, vi r1.1), (7, vi 0)] [] [] [] 0 rfl (by kernel_rfl) c0 ?_)
        obtain rfl := Option.some.inj hF0
        exact ret_pure (q := [vi r1.1, vi 0]) [(.int .i64), (.int .i64)] rfl rfl (by kernel_rfl)
  refine run_if rfl rfl (fun h4 => ?_) (fun h4 => ?_)
  · replace hF1 := ift h4 hF1
    refine sq rfl (sq rfl (rg [(0, .v (.sl (.int .u64)) x0), (9, .ptr 0 [] 0), (10, vi (IntKind.wrap .i64 (x1 + (IntKind.wrap .i64 ((IntKind.wrap .i64 (Int.tdiv (IntKind.wrap .i64 (x2 - x1)) 4)) * 1))))), (11, vi (IntKind.wrap .i64 (x1 + (IntKind.wrap .i64 ((IntKind.wrap .i64 (Int.tdiv (IntKind.wrap .i64 (x2 - x1)) 4)) * 2))))), (12, vi (IntKind.wrap .i64 (x1 + (IntKind.wrap .i64 ((IntKind.wrap .i64 (Int.tdiv (IntKind.wrap .i64 (x2 - x1)) 4)) * 3))))), (34, vb (decide ((IntKind.wrap .i64 (x2 - x1)) ≥ 50)))] [(0, .var 3 (.int .i64) 0)] [] [] 1 rfl (by kernel_rfl) c0 ?_))
    refine run_if rfl rfl (fun h5 => ?_) (fun h5 => ?_)
    · replace hF1 := ift h5 hF1
      refine sq rfl ?_
      obtain ⟨t1, h6, hF1⟩ := obd hF1
      refine rg [(0, .v (.sl (.int .u64)) x0), (9, .ptr 0 [] 0), (10, vi t1.1), (11, vi (IntKind.wrap .i64 (x1 + (IntKind.wrap .i64 ((IntKind.wrap .i64 (Int.tdiv (IntKind.wrap .i64 (x2 - x1)) 4)) * 2))))), (12, vi (IntKind.wrap .i64 (x1 + (IntKind.wrap .i64 ((IntKind.wrap .i64 (Int.tdiv (IntKind.wrap .i64 (x2 - x1)) 4)) * 3)))))] [(0, .var 3 (.int .i64) t1.2)] [(2, ⟨[.v (.sl (.int .u64)), .v (.int .i64), .v .unit], vi t1.1, some ([0], [(0, .var 3 (.int .i64) t1.2)])⟩)] [] 1 rfl (by kernel_rfl) (cc (W_slices_medianAdjacentOrdered_uint64 h6) c0) (sq rfl ?_)
      obtain ⟨t2, h7, hF1⟩ := obd hF1
      refine rg [(0, .v (.sl (.int .u64)) x0), (9, .ptr 0 [] 0), (10, vi t1.1), (11, vi t2.1), (12, vi (IntKind.wrap .i64 (x1 + (IntKind.wrap .i64 ((IntKind.wrap .i64 (Int.tdiv (IntKind.wrap .i64 (x2 - x1)) 4)) * 3)))))] [(0, .var 3 (.int .i64) t2.2)] [(2, ⟨[.v (.sl (.int .u64)), .v (.int .i64), .v .unit], vi t2.1, some ([0], [(0, .var 3 (.int .i64) t2.2)])⟩)] [] 1 rfl (by kernel_rfl) (cc (W_slices_medianAdjacentOrdered_uint64 h7) c0) ?_
      obtain ⟨t3, h8, hF1⟩ := obd hF1
      refine rg [(0, .v (.sl (.int .u64)) x0), (9, .ptr 0 [] 0), (10, vi t1.1), (11, vi t2.1), (12, vi t3.1)] [(0, .var 3 (.int .i64) t3.2)] [(2, ⟨[.v (.sl (.int .u64)), .v (.int .i64), .v .unit], vi t3.1, some ([0], [(0, .var 3 (.int .i64) t3.2)])⟩)] [] 1 rfl (by kernel_rfl) (cc (W_slices_medianAdjacentOrdered_uint64 h8) c0) ?_
      obtain ⟨t4, h9, hF1⟩ := obd hF1
      refine rg [(9, .ptr 0 [] 0), (11, vi t4.1)] [(0, .var 3 (.int .i64) t4.2)] [(4, ⟨[.v (.sl (.int .u64)), .v (.int .i64), .v (.int .i64), .v (.int .i64), .v .unit], vi t4.1, some ([0], [(0, .var 3 (.int .i64) t4.2)])⟩)] [] 1 rfl (by kernel_rfl) (cc (W_slices_medianOrdered_uint64 h9) c0) ?_
      exact J1_0 _ (Option.some.inj hF1).symm
    · replace hF1 := ifn h5 hF1
      refine sk rfl ?_
      obtain ⟨t5, h10, hF1⟩ := obd hF1
      refine rg [(9, .ptr 0 [] 0), (11, vi t5.1)] [(0, .var 3 (.int .i64) t5.2)] [(4, ⟨[.v (.sl (.int .u64)), .v (.int .i64), .v (.int .i64), .v (.int .i64), .v .unit], vi t5.1, some ([0], [(0, .var 3 (.int .i64) t5.2)])⟩)] [] 1 rfl (by kernel_rfl) (cc (W_slices_medianOrdered_uint64 h10) c0) ?_
      exact J1_0 _ (Option.some.inj hF1).symm
  · replace hF1 := ifn h4 hF1
    refine sk rfl (tm (ρ' := [(9, .ptr 0 [] 0), (11, vi (IntKind.wrap .i64 (x1 + (IntKind.wrap .i64 ((IntKind.wrap .i64 (Int.tdiv (IntKind.wrap .i64 (x2 - x1)) 4)) * 2)))))]) (H' := [(0, .var 3 (.int .i64) 0)]) (by kernel_rfl) (by kernel_rfl) rfl ?_)
    exact J1_0 _ (Option.some.inj hF1).symm
noncomputable def F_slices_xorshift_Next (x0 : Int) : Option (Int × Int) :=
  some (bits .xor .u64 (bits .xor .u64 (bits .xor .u64 x0 (IntKind.wrap .u64 (x0 * 2 ^ min (Int.toNat 13) 64))) (Int.fdiv (bits .xor .u64 x0 (IntKind.wrap .u64 (x0 * 2 ^ min (Int.toNat 13) 64))) (2 ^ min (Int.toNat 7) 64))) (IntKind.wrap .u64 ((bits .xor .u64 (bits .xor .u64 x0 (IntKind.wrap .u64 (x0 * 2 ^ min (Int.toNat 13) 64))) (Int.fdiv (bits .xor .u64 x0 (IntKind.wrap .u64 (x0 * 2 ^ min (Int.toNat 13) 64))) (2 ^ min (Int.toNat 7) 64))) * 2 ^ min (Int.toNat 17) 64)), bits .xor .u64 (bits .xor .u64 (bits .xor .u64 x0 (IntKind.wrap .u64 (x0 * 2 ^ min (Int.toNat 13) 64))) (Int.fdiv (bits .xor .u64 x0 (IntKind.wrap .u64 (x0 * 2 ^ min (Int.toNat 13) 64))) (2 ^ min (Int.toNat 7) 64))) (IntKind.wrap .u64 ((bits .xor .u64 (bits .xor .u64 x0 (IntKind.wrap .u64 (x0 * 2 ^ min (Int.toNat 13) 64))) (Int.fdiv (bits .xor .u64 x0 (IntKind.wrap .u64 (x0 * 2 ^ min (Int.toNat 13) 64))) (2 ^ min (Int.toNat 7) 64))) * 2 ^ min (Int.toNat 17) 64)))
theorem W_slices_xorshift_Next {x0 : Int} {y : (Int × Int)} (hF0 : F_slices_xorshift_Next x0 = some y) : Mut Try.prog 42 1 [.ptr 0 [] 0] [(0, .var 65 (.int .u64) x0)] (vu y.1) [(0, .var 65 (.int .u64) y.2)] := by
  unfold F_slices_xorshift_Next at hF0
  refine mut_of_run @Try.call42 @Try.func42 rfl rfl fun b => ?_
  refine sq rfl (rg [(0, .ptr 0 [] 0)] [(0, .var 65 (.int .u64) x0)] [] [] 1 rfl (by kernel_rfl) c0 (sq rfl (rG [(0, .ptr 0 [] 0)] [(0, .var 65 (.int .u64) (bits .xor .u64 x0 (IntKind.wrap .u64 (x0 * 2 ^ min (Int.toNat 13) 64))))] [] [] 1 rfl rfl (by kernel_rfl) (cc (show (0 : Int) ≤ 13 from (by decide)) c0) (sq rfl (rG [(0, .ptr 0 [] 0)] [(0, .var 65 (.int .u64) (bits .xor .u64 (bits .xor .u64 x0 (IntKind.wrap .u64 (x0 * 2 ^ min (Int.toNat 13) 64))) (Int.fdiv (bits .xor .u64 x0 (IntKind.wrap .u64 (x0 * 2 ^ min (Int.toNat 13) 64))) (2 ^ min (Int.toNat 7) 64))))] [] [] 1 rfl rfl (by kernel_rfl) (cc (show (0 : Int) ≤ 7 from (by decide)) c0) (sq rfl (rG [(0, .ptr 0 [] 0)] [(0, .var 65 (.int .u64) (bits .xor .u64 (bits .xor .u64 (bits .xor .u64 x0 (IntKind.wrap .u64 (x0 * 2 ^ min (Int.toNat 13) 64))) (Int.fdiv (bits .xor .u64 x0 (IntKind.wrap .u64 (x0 * 2 ^ min (Int.toNat 13) 64))) (2 ^ min (Int.toNat 7) 64))) (IntKind.wrap .u64 ((bits .xor .u64 (bits .xor .u64 x0 (IntKind.wrap .u64 (x0 * 2 ^ min (Int.toNat 13) 64))) (Int.fdiv (bits .xor .u64 x0 (IntKind.wrap .u64 (x0 * 2 ^ min (Int.toNat 13) 64))) (2 ^ min (Int.toNat 7) 64))) * 2 ^ min (Int.toNat 17) 64))))] [] [] 1 rfl rfl (by kernel_rfl) (cc (show (0 : Int) ≤ 17 from (by decide)) c0) (sq rfl (rg [(2, vu (bits .xor .u64 (bits .xor .u64 (bits .xor .u64 x0 (IntKind.wrap .u64 (x0 * 2 ^ min (Int.toNat 13) 64))) (Int.fdiv (bits .xor .u64 x0 (IntKind.wrap .u64 (x0 * 2 ^ min (Int.toNat 13) 64))) (2 ^ min (Int.toNat 7) 64))) (IntKind.wrap .u64 ((bits .xor .u64 (bits .xor .u64 x0 (IntKind.wrap .u64 (x0 * 2 ^ min (Int.toNat 13) 64))) (Int.fdiv (bits .xor .u64 x0 (IntKind.wrap .u64 (x0 * 2 ^ min (Int.toNat 13) 64))) (2 ^ min (Int.toNat 7) 64))) * 2 ^ min (Int.toNat 17) 64))))] [(0, .var 65 (.int .u64) (bits .xor .u64 (bits .xor .u64 (bits .xor .u64 x0 (IntKind.wrap .u64 (x0 * 2 ^ min (Int.toNat 13) 64))) (Int.fdiv (bits .xor .u64 x0 (IntKind.wrap .u64 (x0 * 2 ^ min (Int.toNat 13) 64))) (2 ^ min (Int.toNat 7) 64))) (IntKind.wrap .u64 ((bits .xor .u64 (bits .xor .u64 x0 (IntKind.wrap .u64 (x0 * 2 ^ min (Int.toNat 13) 64))) (Int.fdiv (bits .xor .u64 x0 (IntKind.wrap .u64 (x0 * 2 ^ min (Int.toNat 13) 64))) (2 ^ min (Int.toNat 7) 64))) * 2 ^ min (Int.toNat 17) 64))))] [] [] 1 rfl (by kernel_rfl) c0 ?_)))))))))
  obtain rfl := Option.some.inj hF0
  exact ret_mut (q := [vu (bits .xor .u64 (bits .xor .u64 (bits .xor .u64 x0 (IntKind.wrap .u64 (x0 * 2 ^ min (Int.toNat 13) 64))) (Int.fdiv (bits .xor .u64 x0 (IntKind.wrap .u64 (x0 * 2 ^ min (Int.toNat 13) 64))) (2 ^ min (Int.toNat 7) 64))) (IntKind.wrap .u64 ((bits .xor .u64 (bits .xor .u64 x0 (IntKind.wrap .u64 (x0 * 2 ^ min (Int.toNat 13) 64))) (Int.fdiv (bits .xor .u64 x0 (IntKind.wrap .u64 (x0 * 2 ^ min (Int.toNat 13) 64))) (2 ^ min (Int.toNat 7) 64))) * 2 ^ min (Int.toNat 17) 64)))]) [some (.int .u64)] [0] rfl rfl (by kernel_rfl) rfl (by kernel_rfl)
def KS0 : Str := [0, 1, 2, 2, 3, 3, 3, 3, 4, 4, 4, 4, 4, 4, 4, 4, 5, 5, 5, 5, 5, 5, 5, 5, 5, 5, 5, 5, 5, 5, 5, 5, 6, 6, 6, 6, 6, 6, 6, 6, 6, 6, 6, 6, 6, 6, 6, 6, 6, 6, 6, 6, 6, 6, 6, 6, 6, 6, 6, 6, 6, 6, 6, 6, 7, 7, 7, 7, 7, 7, 7, 7, 7, 7, 7, 7, 7, 7, 7, 7, 7, 7, 7, 7, 7, 7, 7, 7, 7, 7, 7, 7, 7, 7, 7, 7, 7, 7, 7, 7, 7, 7, 7, 7, 7, 7, 7, 7, 7, 7, 7, 7, 7, 7, 7, 7, 7, 7, 7, 7, 7, 7, 7, 7, 7, 7, 7, 7, 8, 8, 8, 8, 8, 8, 8, 8, 8, 8, 8, 8, 8, 8, 8, 8, 8, 8, 8, 8, 8, 8, 8, 8, 8, 8, 8, 8, 8, 8, 8, 8, 8, 8, 8, 8, 8, 8, 8, 8, 8, 8, 8, 8, 8, 8, 8, 8, 8, 8, 8, 8, 8, 8, 8, 8, 8, 8, 8, 8, 8, 8, 8, 8, 8, 8, 8, 8, 8, 8, 8, 8, 8, 8, 8, 8, 8, 8, 8, 8, 8, 8, 8, 8, 8, 8, 8, 8, 8, 8, 8, 8, 8, 8, 8, 8, 8, 8, 8, 8, 8, 8, 8, 8, 8, 8, 8, 8, 8, 8, 8, 8, 8, 8, 8, 8, 8, 8, 8, 8, 8, 8, 8, 8, 8, 8, 8, 8]
noncomputable def F_math_bits_Len64 (x0 : Int) : Option Int :=
  (show Option (Int × Int) from if (decide (x0 ≥ 4294967296)) = true then some (Int.fdiv x0 (2 ^ min (Int.toNat 32) 64), 32) else some (x0, 0)).bind (fun r1 => (show Option (Int × Int) from if (decide (r1.1 ≥ 65536)) = true then some (Int.fdiv r1.1 (2 ^ min (Int.toNat 16) 64), IntKind.wrap .i64 (r1.2 + 16)) else some (r1.1, r1.2)).bind (fun r2 => (show Option (Int × Int) from if (decide (r2.1 ≥ 256)) = true then some (Int.fdiv r2.1 (2 ^ min (Int.toNat 8) 64), IntKind.wrap .i64 (r2.2 + 8)) else some (r2.1, r2.2)).bind (fun r3 => if 0 ≤ (IntKind.wrap .u8 r3.1) ∧ (IntKind.wrap .u8 r3.1) < ((List.length KS0 : Nat) : Int) then (some (IntKind.wrap .i64 (r3.2 + (IntKind.wrap .i64 (((List.getD KS0 (Int.toNat (IntKind.wrap .u8 r3.1)) 0).toNat : Nat) : Int))))) else none)))
theorem W_math_bits_Len64 {x0 : Int} {y : Int} (hF0 : F_math_bits_Len64 x0 = some y) : Pure Try.prog 39 [vu x0] (vi y) := by
  unfold F_math_bits_Len64 at hF0
  refine pure_of_run @Try.call39 @Try.func39 rfl rfl fun w M ho => ?_
  refine sq rfl (rg [(0, vu x0), (2, vi 0)] [] [] [] 0 rfl (by kernel_rfl) c0 (sq rfl (sq rfl (rg [(0, vu x0), (2, vi 0), (4, vb (decide (x0 ≥ 4294967296)))] [] [] [] 0 rfl (by kernel_rfl) c0 ?_))))
  obtain ⟨r1, hF1, hF0⟩ := obd hF0
  refine run_cut (fun r1' => r1 = r1') (fun r1 => [(0, vu r1.1), (2, vi r1.2)]) (fun r1 => []) (fun r1' h1 => ?_) (fun J1_0 => ?_)
  · subst h1
    refine sq rfl (sq rfl (rg [(0, vu r1.1), (2, vi r1.2), (8, vb (decide (r1.1 ≥ 65536)))] [] [] [] 0 rfl (by kernel_rfl) c0 ?_))
    obtain ⟨r2, hF1, hF0⟩ := obd hF0
    refine run_cut (fun r2' => r2 = r2') (fun r2 => [(0, vu r2.1), (2, vi r2.2)]) (fun r2 => []) (fun r2' h2 => ?_) (fun J2_0 => ?_)
    · subst h2
      refine sq rfl (sq rfl (rg [(0, vu r2.1), (2, vi r2.2), (14, vb (decide (r2.1 ≥ 256)))] [] [] [] 0 rfl (by kernel_rfl) c0 ?_))
      obtain ⟨r3, hF1, hF0⟩ := obd hF0
      refine run_cut (fun r3' => r3 = r3') (fun r3 => [(0, vu r3.1), (2, vi r3.2)]) (fun r3 => []) (fun r3' h3 => ?_) (fun J3_0 => ?_)
      · subst h3
        refine sq rfl ?_
        obtain ⟨h4, hF0⟩ := ifg hF0
        refine rg [(2, vi (IntKind.wrap .i64 (r3.2 + (IntKind.wrap .i64 (((List.getD KS0 (Int.toNat (IntKind.wrap .u8 r3.1)) 0).toNat : Nat) : Int)))))] [] [] [] 0 rfl (by kernel_rfl) (cc h4 c0) ?_
        obtain rfl := Option.some.inj hF0
        exact ret_pure (q := [vi (IntKind.wrap .i64 (r3.2 + (IntKind.wrap .i64 (((List.getD KS0 (Int.toNat (IntKind.wrap .u8 r3.1)) 0).toNat : Nat) : Int))))]) [(.int .i64)] rfl rfl (by kernel_rfl)
      refine run_if rfl rfl (fun h5 => ?_) (fun h5 => ?_)
      · replace hF1 := ift h5 hF1
        refine sq rfl (rg [(0, vu (Int.fdiv r2.1 (2 ^ min (Int.toNat 8) 64))), (2, vi r2.2)] [] [] [] 0 rfl (by kernel_rfl) (cc (show (0 : Int) ≤ 8 from (by decide)) c0) (rg [(0, vu (Int.fdiv r2.1 (2 ^ min (Int.toNat 8) 64))), (2, vi (IntKind.wrap .i64 (r2.2 + 8)))] [] [] [] 0 rfl (by kernel_rfl) c0 ?_))
        exact J3_0 _ (Option.some.inj hF1).symm
      · replace hF1 := ifn h5 hF1
        refine sk rfl (tm (ρ' := [(0, vu r2.1), (2, vi r2.2)]) (H' := []) (by kernel_rfl) (by kernel_rfl) rfl ?_)
        exact J3_0 _ (Option.some.inj hF1).symm
    refine run_if rfl rfl (fun h6 => ?_) (fun h6 => ?_)
    · replace hF1 := ift h6 hF1
      refine sq rfl (rg [(0, vu (Int.fdiv r1.1 (2 ^ min (Int.toNat 16) 64))), (2, vi r1.2)] [] [] [] 0 rfl (by kernel_rfl) (cc (show (0 : Int) ≤ 16 from (by decide)) c0) (rg [(0, vu (Int.fdiv r1.1 (2 ^ min (Int.toNat 16) 64))), (2, vi (IntKind.wrap .i64 (r1.2 + 16)))] [] [] [] 0 rfl (by kernel_rfl) c0 ?_))
      exact J2_0 _ (Option.some.inj hF1).symm
    · replace hF1 := ifn h6 hF1
      refine sk rfl (tm (ρ' := [(0, vu r1.1), (2, vi r1.2)]) (H' := []) (by kernel_rfl) (by kernel_rfl) rfl ?_)
      exact J2_0 _ (Option.some.inj hF1).symm
  refine run_if rfl rfl (fun h7 => ?_) (fun h7 => ?_)
  · replace hF1 := ift h7 hF1
    refine sq rfl (rg [(0, vu (Int.fdiv x0 (2 ^ min (Int.toNat 32) 64)))] [] [] [] 0 rfl (by kernel_rfl) (cc (show (0 : Int) ≤ 32 from (by decide)) c0) (rg [(0, vu (Int.fdiv x0 (2 ^ min (Int.toNat 32) 64))), (2, vi 32)] [] [] [] 0 rfl (by kernel_rfl) c0 ?_))
    exact J1_0 _ (Option.some.inj hF1).symm
  · replace hF1 := ifn h7 hF1
    refine sk rfl (tm (ρ' := [(0, vu x0), (2, vi 0)]) (H' := []) (by kernel_rfl) (by kernel_rfl) rfl ?_)
    exact J1_0 _ (Option.some.inj hF1).symm
noncomputable def F_math_bits_Len32 (x0 : Int) : Option Int :=
  (show Option (Int × Int) from if (decide (x0 ≥ 65536)) = true then some (Int.fdiv x0 (2 ^ min (Int.toNat 16) 32), 16) else some (x0, 0)).bind (fun r1 => (show Option (Int × Int) from if (decide (r1.1 ≥ 256)) = true then some (Int.fdiv r1.1 (2 ^ min (Int.toNat 8) 32), IntKind.wrap .i64 (r1.2 + 8)) else some (r1.1, r1.2)).bind (fun r2 => if 0 ≤ (IntKind.wrap .u8 r2.1) ∧ (IntKind.wrap .u8 r2.1) < ((List.length KS0 : Nat) : Int) then (some (IntKind.wrap .i64 (r2.2 + (IntKind.wrap .i64 (((List.getD KS0 (Int.toNat (IntKind.wrap .u8 r2.1)) 0).toNat : Nat) : Int))))) else none))
theorem W_math_bits_Len32 {x0 : Int} {y : Int} (hF0 : F_math_bits_Len32 x0 = some y) : Pure Try.prog 38 [.v (.int .u32) x0] (vi y) := by
  unfold F_math_bits_Len32 at hF0
  refine pure_of_run @Try.call38 @Try.func38 rfl rfl fun w M ho => ?_
  refine sq rfl (rg [(0, .v (.int .u32) x0), (2, vi 0)] [] [] [] 0 rfl (by kernel_rfl) c0 (sq rfl (sq rfl (rg [(0, .v (.int .u32) x0), (2, vi 0), (4, vb (decide (x0 ≥ 65536)))] [] [] [] 0 rfl (by kernel_rfl) c0 ?_))))
  obtain ⟨r1, hF1, hF0⟩ := obd hF0
  refine run_cut (fun r1' => r1 = r1') (fun r1 => [(0, .v (.int .u32) r1.1), (2, vi r1.2)]) (fun r1 => []) (fun r1' h1 => ?_) (fun J1_0 => ?_)
  · subst h1
    refine sq rfl (sq rfl (rg [(0, .v (.int .u32) r1.1), (2, vi r1.2), (8, vb (decide (r1.1 ≥ 256)))] [] [] [] 0 rfl (by kernel_rfl) c0 ?_))
    obtain ⟨r2, hF1, hF0⟩ := obd hF0
    refine run_cut (fun r2' => r2 = r2') (fun r2 => [(0, .v (.int .u32) r2.1), (2, vi r2.2)]) (fun r2 => []) (fun r2' h2 => ?_) (fun J2_0 => ?_)
    · subst h2
      refine sq rfl ?_
      obtain ⟨h3, hF0⟩ := ifg hF0
      refine rg [(2, vi (IntKind.wrap .i64 (r2.2 + (IntKind.wrap .i64 (((List.getD KS0 (Int.toNat (IntKind.wrap .u8 r2.1)) 0).toNat : Nat) : Int)))))] [] [] [] 0 rfl (by kernel_rfl) (cc h3 c0) ?_
      obtain rfl := Option.some.inj hF0
      exact ret_pure (q := [vi (IntKind.wrap .i64 (r2.2 + (IntKind.wrap .i64 (((List.getD KS0 (Int.toNat (IntKind.wrap .u8 r2.1)) 0).toNat : Nat) : Int))))]) [(.int .i64)] rfl rfl (by kernel_rfl)
    refine run_if rfl rfl (fun h4 => ?_) (fun h4 => ?_)
    · replace hF1 := ift h4 hF1
      refine sq rfl (rg [(0, .v (.int .u32) (Int.fdiv r1.1 (2 ^ min (Int.toNat 8) 32))), (2, vi r1.2)] [] [] [] 0 rfl (by kernel_rfl) (cc (show (0 : Int) ≤ 8 from (by decide)) c0) (rg [(0, .v (.int .u32) (Int.fdiv r1.1 (2 ^ min (Int.toNat 8) 32))), (2, vi (IntKind.wrap .i64 (r1.2 + 8)))] [] [] [] 0 rfl (by kernel_rfl) c0 ?_))
      exact J2_0 _ (Option.some.inj hF1).symm
    · replace hF1 := ifn h4 hF1
      refine sk rfl (tm (ρ' := [(0, .v (.int .u32) r1.1), (2, vi r1.2)]) (H' := []) (by kernel_rfl) (by kernel_rfl) rfl ?_)
      exact J2_0 _ (Option.some.inj hF1).symm
  refine run_if rfl rfl (fun h5 => ?_) (fun h5 => ?_)
  · replace hF1 := ift h5 hF1
    refine sq rfl (rg [(0, .v (.int .u32) (Int.fdiv x0 (2 ^ min (Int.toNat 16) 32)))] [] [] [] 0 rfl (by kernel_rfl) (cc (show (0 : Int) ≤ 16 from (by decide)) c0) (rg [(0, .v (.int .u32) (Int.fdiv x0 (2 ^ min (Int.toNat 16) 32))), (2, vi 16)] [] [] [] 0 rfl (by kernel_rfl) c0 ?_))
    exact J1_0 _ (Option.some.inj hF1).symm
  · replace hF1 := ifn h5 hF1
    refine sk rfl (tm (ρ' := [(0, .v (.int .u32) x0), (2, vi 0)]) (H' := []) (by kernel_rfl) (by kernel_rfl) rfl ?_)
    exact J1_0 _ (Option.some.inj hF1).symm
noncomputable def F_math_bits_Len (x0 : Int) : Option Int :=
  (F_math_bits_Len64 x0).bind fun t1 => (some t1)
theorem W_math_bits_Len {x0 : Int} {y : Int} (hF0 : F_math_bits_Len x0 = some y) : Pure Try.prog 28 [vu x0] (vi y) := by
  unfold F_math_bits_Len at hF0
  refine pure_of_run @Try.call28 @Try.func28 rfl rfl fun w M ho => ?_
  refine sq rfl (rg [(0, vu x0)] [] [] [] 0 rfl (by kernel_rfl) c0 (sq rfl (run_cond (t := false) rfl (by kernel_rfl) (sk rfl (sq rfl ?_)))))
  obtain ⟨t1, h1, hF0⟩ := obd hF0
  refine rg [(2, vi t1)] [] [(1, ⟨[.v (.int .u64)], vi t1, none⟩)] [] 0 rfl (by kernel_rfl) (cc (W_math_bits_Len64 h1) c0) ?_
  obtain rfl := Option.some.inj hF0
  exact ret_pure (q := [vi t1]) [(.int .i64)] rfl rfl (by kernel_rfl)
noncomputable def F_slices_nextPowerOfTwo (x0 : Int) : Option Int :=
  (F_math_bits_Len (IntKind.wrap .u64 x0)).bind fun t1 => (if (0 : Int) ≤ t1 then (some (IntKind.wrap .u64 (1 * 2 ^ min (Int.toNat t1) 64))) else none)
theorem W_slices_nextPowerOfTwo {x0 : Int} {y : Int} (hF0 : F_slices_nextPowerOfTwo x0 = some y) : Pure Try.prog 41 [vi x0] (vu y) := by
  unfold F_slices_nextPowerOfTwo at hF0
  refine pure_of_run @Try.call41 @Try.func41 rfl rfl fun w M ho => ?_
  refine sq rfl (rg [(0, vi x0)] [] [] [] 0 rfl (by kernel_rfl) c0 (sq rfl ?_))
  obtain ⟨t1, h1, hF0⟩ := obd hF0
  obtain ⟨h2, hF0⟩ := ifg hF0
  refine rg [(2, vu (IntKind.wrap .u64 (1 * 2 ^ min (Int.toNat t1) 64)))] [] [(2, ⟨[.v (.int .u64)], vi t1, none⟩)] [] 0 rfl (by kernel_rfl) (cc (W_math_bits_Len h1) (cc h2 c0)) ?_
  obtain rfl := Option.some.inj hF0
  exact ret_pure (q := [vu (IntKind.wrap .u64 (1 * 2 ^ min (Int.toNat t1) 64))]) [(.int .u64)] rfl rfl (by kernel_rfl)
noncomputable def F_slices_breakPatternsOrdered_uint64_b1 (t1 : Int) (x1 : Int) (x2 : Int) (s1 : (Int × (List Int) × Int)) : Option ((Int × (List Int) × Int) ⊕ (List Int)) :=
  if (decide (s1.1 ≤ (IntKind.wrap .i64 ((IntKind.wrap .i64 (x1 + (IntKind.wrap .i64 ((IntKind.wrap .i64 (Int.tdiv (IntKind.wrap .i64 (x2 - x1)) 4)) * 2)))) + 1)))) = true then (F_slices_xorshift_Next s1.2.2).bind fun t2 => ((show Option Int from if (decide ((IntKind.wrap .i64 (bits .and .u64 t2.1 (IntKind.wrap .u64 (t1 - 1)))) ≥ (IntKind.wrap .i64 (x2 - x1)))) = true then some (IntKind.wrap .i64 ((IntKind.wrap .i64 (bits .and .u64 t2.1 (IntKind.wrap .u64 (t1 - 1)))) - (IntKind.wrap .i64 (x2 - x1)))) else some (IntKind.wrap .i64 (bits .and .u64 t2.1 (IntKind.wrap .u64 (t1 - 1))))).bind (fun r2 => if 0 ≤ (IntKind.wrap .i64 (x1 + r2)) ∧ (IntKind.wrap .i64 (x1 + r2)) < ((List.length s1.2.1 : Nat) : Int) then (if 0 ≤ s1.1 ∧ s1.1 < ((List.length s1.2.1 : Nat) : Int) then (if 0 ≤ s1.1 ∧ s1.1 < ((List.length s1.2.1 : Nat) : Int) then (if 0 ≤ (IntKind.wrap .i64 (x1 + r2)) ∧ (IntKind.wrap .i64 (x1 + r2)) < ((List.length (List.set s1.2.1 (Int.toNat s1.1) (List.getD s1.2.1 (Int.toNat (IntKind.wrap .i64 (x1 + r2))) 0)) : Nat) : Int) then (some (Sum.inl (IntKind.wrap .i64 (s1.1 + 1), List.set (List.set s1.2.1 (Int.toNat s1.1) (List.getD s1.2.1 (Int.toNat (IntKind.wrap .i64 (x1 + r2))) 0)) (Int.toNat (IntKind.wrap .i64 (x1 + r2))) (List.getD s1.2.1 (Int.toNat s1.1) 0), t2.2))) else none) else none) else none) else none)) else some (Sum.inr s1.2.1)
noncomputable def F_slices_breakPatternsOrdered_uint64 (x0 : (List Int)) (x1 : Int) (x2 : Int) : Option (List Int) :=
  if (decide ((IntKind.wrap .i64 (x2 - x1)) ≥ 8)) = true then (F_slices_nextPowerOfTwo (IntKind.wrap .i64 (x2 - x1))).bind fun t1 => ((loopO (F_slices_breakPatternsOrdered_uint64_b1 t1 x1 x2) (IntKind.wrap .i64 ((IntKind.wrap .i64 (x1 + (IntKind.wrap .i64 ((IntKind.wrap .i64 (Int.tdiv (IntKind.wrap .i64 (x2 - x1)) 4)) * 2)))) - 1), x0, IntKind.wrap .u64 (IntKind.wrap .i64 (x2 - x1)))).bind (fun r1 => some r1)) else some x0
theorem W_slices_breakPatternsOrdered_uint64 {x0 : (List Int)} {x1 : Int} {x2 : Int} {y : (List Int)} (hF0 : F_slices_breakPatternsOrdered_uint64 x0 x1 x2 = some y) : Mut Try.prog 31 1 [.row 0, vi x1, vi x2] [(0, .row 23 (.int .u64) x0)] (.tup []) [(0, .row 23 (.int .u64) y)] := by
  unfold F_slices_breakPatternsOrdered_uint64 at hF0
  refine mut_of_run @Try.call31 @Try.func31 rfl rfl fun b => ?_
  refine sq rfl (rg [(0, .row 0), (1, vi x1), (6, vi (IntKind.wrap .i64 (x2 - x1)))] [(0, .row 23 (.int .u64) x0)] [] [] 1 rfl (by kernel_rfl) c0 (sq rfl (rg [(0, .row 0), (1, vi x1), (6, vi (IntKind.wrap .i64 (x2 - x1))), (15, vb (decide ((IntKind.wrap .i64 (x2 - x1)) ≥ 8)))] [(0, .row 23 (.int .u64) x0)] [] [] 1 rfl (by kernel_rfl) c0 ?_)))
  refine run_if rfl rfl (fun h1 => ?_) (fun h1 => ?_)
  · replace hF0 := ift h1 hF0
    refine sq rfl (rg [(0, .row 0), (1, vi x1), (6, vi (IntKind.wrap .i64 (x2 - x1))), (7, .ptr 41 [] 0)] [(0, .row 23 (.int .u64) x0), (41, .var 65 (.int .u64) (IntKind.wrap .u64 (IntKind.wrap .i64 (x2 - x1))))] [] [] 1 rfl (by kernel_rfl) c0 (sq rfl ?_))
    obtain ⟨t1, h2, hF0⟩ := obd hF0
    refine rg [(0, .row 0), (1, vi x1), (6, vi (IntKind.wrap .i64 (x2 - x1))), (7, .ptr 41 [] 0), (8, vu t1)] [(0, .row 23 (.int .u64) x0), (41, .var 65 (.int .u64) (IntKind.wrap .u64 (IntKind.wrap .i64 (x2 - x1))))] [(1, ⟨[.v (.int .i64)], vu t1, none⟩)] [] 42 rfl (by kernel_rfl) (cc (W_slices_nextPowerOfTwo h2) c0) (sq rfl (rg [(0, .row 0), (1, vi x1), (6, vi (IntKind.wrap .i64 (x2 - x1))), (7, .ptr 41 [] 0), (8, vu t1), (9, vi (IntKind.wrap .i64 ((IntKind.wrap .i64 (x1 + (IntKind.wrap .i64 ((IntKind.wrap .i64 (Int.tdiv (IntKind.wrap .i64 (x2 - x1)) 4)) * 2)))) - 1)))] [(0, .row 23 (.int .u64) x0), (41, .var 65 (.int .u64) (IntKind.wrap .u64 (IntKind.wrap .i64 (x2 - x1))))] [] [] 42 rfl (by kernel_rfl) (cc (show 4 ≠ (0 : Int) from (by decide)) c0) (bk rfl ?_)))
    obtain ⟨r1, hl1, hF0⟩ := obd hF0
    refine run_cutx 0 rfl (fun r1' => r1 = r1') (fun r1 => []) (fun r1 => [(0, .row 23 (.int .u64) r1)]) (fun r1' h3 => ?_) (fun J1_0 => ?_)
    · subst h3
      obtain rfl := Option.some.inj hF0
      exact fall_mut (q := []) [] [0] rfl (by kernel_rfl) rfl (by kernel_rfl)
    refine run_loop rfl (run_loopO hl1 (fun s1 => [(0, .row 0), (1, vi x1), (6, vi (IntKind.wrap .i64 (x2 - x1))), (7, .ptr 41 [] 0), (8, vu t1), (9, vi s1.1)]) (fun s1 => [(0, .row 23 (.int .u64) s1.2.1), (41, .var 65 (.int .u64) s1.2.2)]) rfl rfl (fun s1 o1 hF1 ih1 hr1 => ?_))
    unfold F_slices_breakPatternsOrdered_uint64_b1 at hF1
    refine run_again (sq rfl (sq rfl (rg [(0, .row 0), (1, vi x1), (6, vi (IntKind.wrap .i64 (x2 - x1))), (7, .ptr 41 [] 0), (8, vu t1), (9, vi s1.1), (33, vb (decide (s1.1 ≤ (IntKind.wrap .i64 ((IntKind.wrap .i64 (x1 + (IntKind.wrap .i64 ((IntKind.wrap .i64 (Int.tdiv (IntKind.wrap .i64 (x2 - x1)) 4)) * 2)))) + 1)))))] [(0, .row 23 (.int .u64) s1.2.1), (41, .var 65 (.int .u64) s1.2.2)] [] [] 42 rfl (by kernel_rfl) (cc (show 4 ≠ (0 : Int) from (by decide)) c0) ?_)))
    refine run_if rfl rfl (fun h4 => ?_) (fun h4 => ?_)
    · replace hF1 := ift h4 hF1
      refine sk rfl (sq rfl (bk rfl (sq rfl ?_)))
      obtain ⟨t2, h5, hF1⟩ := obd hF1
      refine rg [(0, .row 0), (1, vi x1), (6, vi (IntKind.wrap .i64 (x2 - x1))), (7, .ptr 41 [] 0), (8, vu t1), (9, vi s1.1), (10, vi (IntKind.wrap .i64 (bits .and .u64 t2.1 (IntKind.wrap .u64 (t1 - 1)))))] [(0, .row 23 (.int .u64) s1.2.1), (41, .var 65 (.int .u64) t2.2)] [(0, ⟨[.v .unit], vu t2.1, some ([41], [(0, .var 65 (.int .u64) t2.2)])⟩)] [] 42 rfl (by kernel_rfl) (cc (W_slices_xorshift_Next h5) c0) (sq rfl (sq rfl (rg [(0, .row 0), (1, vi x1), (6, vi (IntKind.wrap .i64 (x2 - x1))), (7, .ptr 41 [] 0), (8, vu t1), (9, vi s1.1), (10, vi (IntKind.wrap .i64 (bits .and .u64 t2.1 (IntKind.wrap .u64 (t1 - 1))))), (43, vb (decide ((IntKind.wrap .i64 (bits .and .u64 t2.1 (IntKind.wrap .u64 (t1 - 1)))) ≥ (IntKind.wrap .i64 (x2 - x1)))))] [(0, .row 23 (.int .u64) s1.2.1), (41, .var 65 (.int .u64) t2.2)] [] [] 42 rfl (by kernel_rfl) c0 ?_)))
      obtain ⟨r2, hF2, hF1⟩ := obd hF1
      refine run_cut (fun r2' => r2 = r2') (fun r2 => [(0, .row 0), (1, vi x1), (6, vi (IntKind.wrap .i64 (x2 - x1))), (7, .ptr 41 [] 0), (8, vu t1), (9, vi s1.1), (10, vi r2)]) (fun r2 => [(0, .row 23 (.int .u64) s1.2.1), (41, .var 65 (.int .u64) t2.2)]) (fun r2' h6 => ?_) (fun J2_0 => ?_)
      · subst h6
        obtain ⟨h7, hF1⟩ := ifg hF1
        obtain ⟨h8, hF1⟩ := ifg hF1
        obtain ⟨h9, hF1⟩ := ifg hF1
        obtain ⟨h10, hF1⟩ := ifg hF1
        refine rG [(0, .row 0), (1, vi x1), (6, vi (IntKind.wrap .i64 (x2 - x1))), (7, .ptr 41 [] 0), (8, vu t1), (9, vi s1.1)] [(0, .row 23 (.int .u64) (List.set (List.set s1.2.1 (Int.toNat s1.1) (List.getD s1.2.1 (Int.toNat (IntKind.wrap .i64 (x1 + r2))) 0)) (Int.toNat (IntKind.wrap .i64 (x1 + r2))) (List.getD s1.2.1 (Int.toNat s1.1) 0))), (41, .var 65 (.int .u64) t2.2)] [] [] 42 rfl rfl (by kernel_rfl) (cc h7 (cc (@rfl Nat (Int.toNat (IntKind.wrap .i64 (x1 + r2)) * 1)) (cc (oo h7 trivial) (cc h8 (cc (@rfl Nat (Int.toNat s1.1 * 1)) (cc (oo h8 trivial) (cc h9 (cc (@rfl Nat (Int.toNat s1.1 * 1)) (cc (oo h9 trivial) (cc h10 (cc (@rfl Nat (Int.toNat (IntKind.wrap .i64 (x1 + r2)) * 1)) (cc (oo h10 trivial) c0)))))))))))) (eb (rg [(0, .row 0), (1, vi x1), (6, vi (IntKind.wrap .i64 (x2 - x1))), (7, .ptr 41 [] 0), (8, vu t1), (9, vi (IntKind.wrap .i64 (s1.1 + 1)))] [(0, .row 23 (.int .u64) (List.set (List.set s1.2.1 (Int.toNat s1.1) (List.getD s1.2.1 (Int.toNat (IntKind.wrap .i64 (x1 + r2))) 0)) (Int.toNat (IntKind.wrap .i64 (x1 + r2))) (List.getD s1.2.1 (Int.toNat s1.1) 0))), (41, .var 65 (.int .u64) t2.2)] [] [] 42 rfl (by kernel_rfl) c0 ?_))
        exact ih1 _ (Option.some.inj hF1).symm
      refine run_if rfl rfl (fun h11 => ?_) (fun h11 => ?_)
      · replace hF2 := ift h11 hF2
        refine rg [(0, .row 0), (1, vi x1), (6, vi (IntKind.wrap .i64 (x2 - x1))), (7, .ptr 41 [] 0), (8, vu t1), (9, vi s1.1), (10, vi (IntKind.wrap .i64 ((IntKind.wrap .i64 (bits .and .u64 t2.1 (IntKind.wrap .u64 (t1 - 1)))) - (IntKind.wrap .i64 (x2 - x1)))))] [(0, .row 23 (.int .u64) s1.2.1), (41, .var 65 (.int .u64) t2.2)] [] [] 42 rfl (by kernel_rfl) c0 ?_
        exact J2_0 _ (Option.some.inj hF2).symm
      · replace hF2 := ifn h11 hF2
        refine sk rfl (tm (ρ' := [(0, .row 0), (1, vi x1), (6, vi (IntKind.wrap .i64 (x2 - x1))), (7, .ptr 41 [] 0), (8, vu t1), (9, vi s1.1), (10, vi (IntKind.wrap .i64 (bits .and .u64 t2.1 (IntKind.wrap .u64 (t1 - 1)))))]) (H' := [(0, .row 23 (.int .u64) s1.2.1), (41, .var 65 (.int .u64) t2.2)]) (by kernel_rfl) (by kernel_rfl) rfl ?_)
        exact J2_0 _ (Option.some.inj hF2).symm
    · replace hF1 := ifn h4 hF1
      refine run_exit rfl rfl (tm (ρ' := []) (H' := [(0, .row 23 (.int .u64) s1.2.1)]) (by kernel_rfl) (by kernel_rfl) rfl ?_)
      exact J1_0 _ (inrI hr1 hF1).symm
  · replace hF0 := ifn h1 hF0
    refine sk rfl (tm (ρ' := []) (H' := [(0, .row 23 (.int .u64) x0)]) (by kernel_rfl) (by kernel_rfl) rfl ?_)
    obtain rfl := Option.some.inj hF0
    exact fall_mut (q := []) [] [0] rfl (by kernel_rfl) rfl (by kernel_rfl)
noncomputable def F_slices_pdqsortOrdered_uint64_s_b1 (q0 : ((List Int) → Int → Int → Int → Option (List Int))) (s1 : (Int × Int × Int × Bool × Bool × (List Int))) : Option ((Int × Int × Int × Bool × Bool × (List Int)) ⊕ (List Int)) :=
  if (decide ((IntKind.wrap .i64 (s1.2.1 - s1.1)) ≤ 12)) = true then (F_slices_insertionSortOrdered_uint64 s1.2.2.2.2.2 s1.1 s1.2.1).bind fun t1 => (some (Sum.inr t1)) else if (s1.2.2.1 == 0) = true then (F_slices_heapSortOrdered_uint64 s1.2.2.2.2.2 s1.1 s1.2.1).bind fun t2 => (some (Sum.inr t2)) else (show Option (Int × (List Int)) from if (!s1.2.2.2.1) = true then (F_slices_breakPatternsOrdered_uint64 s1.2.2.2.2.2 s1.1 s1.2.1).bind fun t11 => (some (IntKind.wrap .i64 (s1.2.2.1 - 1), t11)) else some (s1.2.2.1, s1.2.2.2.2.2)).bind (fun r2 => (F_slices_choosePivotOrdered_uint64 r2.2 s1.1 s1.2.1).bind fun t3 => ((show Option (Int × Int × (List Int)) from if (t3.2 == 2) = true then (F_slices_reverseRangeOrdered_uint64 r2.2 s1.1 s1.2.1).bind fun t10 => (some (IntKind.wrap .i64 ((IntKind.wrap .i64 (s1.2.1 - 1)) - (IntKind.wrap .i64 (t3.1 - s1.1))), 1, t10)) else some (t3.1, t3.2, r2.2)).bind (fun r3 => (show Option Bool from if (s1.2.2.2.1) = true then if (s1.2.2.2.2.1) = true then some (r3.2.1 == 1) else some false else some false).bind (fun r4 => (show Option ((List Int) ⊕ (List Int)) from if (r4) = true then (F_slices_partialInsertionSortOrdered_uint64 r3.2.2 s1.1 s1.2.1).bind fun t9 => (if (t9.1) = true then some (Sum.inl t9.2) else some (Sum.inr t9.2)) else some (Sum.inr r3.2.2)).bind (Sum.elim (fun y5 => some (Sum.inr y5)) (fun j51 => (show Option Bool from if (decide (s1.1 > 0)) = true then if 0 ≤ (IntKind.wrap .i64 (s1.1 - 1)) ∧ (IntKind.wrap .i64 (s1.1 - 1)) < ((List.length j51 : Nat) : Int) then (if 0 ≤ r3.1 ∧ r3.1 < ((List.length j51 : Nat) : Int) then (F_cmp_Less_uint64 (List.getD j51 (Int.toNat (IntKind.wrap .i64 (s1.1 - 1))) 0) (List.getD j51 (Int.toNat r3.1) 0)).bind fun t8 => (some (!t8)) else none) else none else some false).bind (fun r6 => if (r6) = true then (F_slices_partitionEqualOrdered_uint64 j51 s1.1 s1.2.1 r3.1).bind fun t4 => (some (Sum.inl (t4.1, s1.2.1, r2.1, s1.2.2.2.1, s1.2.2.2.2.1, t4.2))) else (F_slices_partitionOrdered_uint64 j51 s1.1 s1.2.1 r3.1).bind fun t5 => (if (decide ((IntKind.wrap .i64 (t5.1 - s1.1)) < (IntKind.wrap .i64 (s1.2.1 - t5.1)))) = true then (q0 t5.2.2 s1.1 t5.1 r2.1).bind fun t6 => (some (Sum.inl (IntKind.wrap .i64 (t5.1 + 1), s1.2.1, r2.1, decide ((IntKind.wrap .i64 (t5.1 - s1.1)) ≥ (IntKind.wrap .i64 (Int.tdiv (IntKind.wrap .i64 (s1.2.1 - s1.1)) 8))), t5.2.1, t6))) else (q0 t5.2.2 (IntKind.wrap .i64 (t5.1 + 1)) s1.2.1 r2.1).bind fun t7 => (some (Sum.inl (s1.1, t5.1, r2.1, decide ((IntKind.wrap .i64 (s1.2.1 - t5.1)) ≥ (IntKind.wrap .i64 (Int.tdiv (IntKind.wrap .i64 (s1.2.1 - s1.1)) 8))), t5.2.1, t7)))))))))))
noncomputable def F_slices_pdqsortOrdered_uint64_s (q0 : (List Int) → Int → Int → Int → Option (List Int)) (x0 : (List Int)) (x1 : Int) (x2 : Int) (x3 : Int) : Option (List Int) :=
  (loopO (F_slices_pdqsortOrdered_uint64_s_b1 q0) (x1, x2, x3, true, true, x0)).bind some
theorem W_slices_pdqsortOrdered_uint64_s {q0 : (List Int) → Int → Int → Int → Option (List Int)} (hq0 : ∀ {x0 : (List Int)} {x1 : Int} {x2 : Int} {x3 : Int} {y : (List Int)}, q0 x0 x1 x2 x3 = some y → Mut Try.prog 27 1 [.row 0, vi x1, vi x2, vi x3] [(0, .row 23 (.int .u64) x0)] (.tup []) [(0, .row 23 (.int .u64) y)]) {x0 : (List Int)} {x1 : Int} {x2 : Int} {x3 : Int} {y : (List Int)} (hF0 : F_slices_pdqsortOrdered_uint64_s q0 x0 x1 x2 x3 = some y) : Mut Try.prog 27 1 [.row 0, vi x1, vi x2, vi x3] [(0, .row 23 (.int .u64) x0)] (.tup []) [(0, .row 23 (.int .u64) y)] := by
  unfold F_slices_pdqsortOrdered_uint64_s at hF0
  refine mut_of_run @Try.call27 @Try.func27 rfl rfl fun b => ?_
  refine sq rfl (rg [(0, .row 0), (1, vi x1), (2, vi x2), (3, vi x3), (8, vb true)] [(0, .row 23 (.int .u64) x0)] [] [] 1 rfl (by kernel_rfl) c0 (sq rfl (rg [(0, .row 0), (1, vi x1), (2, vi x2), (3, vi x3), (8, vb true), (9, vb true)] [(0, .row 23 (.int .u64) x0)] [] [] 1 rfl (by kernel_rfl) c0 (bk rfl ?_))))
  obtain ⟨r1, hl1, hF0⟩ := obd hF0
  refine run_loop rfl (run_loopO hl1 (fun s1 => [(0, .row 0), (1, vi s1.1), (2, vi s1.2.1), (3, vi s1.2.2.1), (8, vb s1.2.2.2.1), (9, vb s1.2.2.2.2.1)]) (fun s1 => [(0, .row 23 (.int .u64) s1.2.2.2.2.2)]) rfl rfl (fun s1 o1 hF1 ih1 hr1 => ?_))
  unfold F_slices_pdqsortOrdered_uint64_s_b1 at hF1
  refine run_again (bk rfl (sq rfl (rg [(0, .row 0), (1, vi s1.1), (2, vi s1.2.1), (3, vi s1.2.2.1), (8, vb s1.2.2.2.1), (9, vb s1.2.2.2.2.1), (10, vi (IntKind.wrap .i64 (s1.2.1 - s1.1)))] [(0, .row 23 (.int .u64) s1.2.2.2.2.2)] [] [] 1 rfl (by kernel_rfl) c0 (sq rfl (sq rfl (rg [(0, .row 0), (1, vi s1.1), (2, vi s1.2.1), (3, vi s1.2.2.1), (8, vb s1.2.2.2.1), (9, vb s1.2.2.2.2.1), (10, vi (IntKind.wrap .i64 (s1.2.1 - s1.1))), (23, vb (decide ((IntKind.wrap .i64 (s1.2.1 - s1.1)) ≤ 12)))] [(0, .row 23 (.int .u64) s1.2.2.2.2.2)] [] [] 1 rfl (by kernel_rfl) c0 ?_))))))
  refine run_if rfl rfl (fun h1 => ?_) (fun h1 => ?_)
  · replace hF1 := ift h1 hF1
    refine sq rfl ?_
    obtain ⟨t1, h2, hF1⟩ := obd hF1
    refine rg [] [(0, .row 23 (.int .u64) t1)] [(3, ⟨[.v .unit, .v (.int .i64), .v (.int .i64)], .tup [], some ([0], [(0, .row 23 (.int .u64) t1)])⟩)] [] 1 rfl (by kernel_rfl) (cc (W_slices_insertionSortOrdered_uint64 h2) c0) ?_
    have e1 := inrI hr1 hF1
    subst e1
    obtain rfl := Option.some.inj hF0
    exact ret_mut (q := []) [] [0] rfl rfl (by kernel_rfl) rfl (by kernel_rfl)
  · replace hF1 := ifn h1 hF1
    refine sk rfl (sq rfl (sq rfl (rg [(0, .row 0), (1, vi s1.1), (2, vi s1.2.1), (3, vi s1.2.2.1), (8, vb s1.2.2.2.1), (9, vb s1.2.2.2.2.1), (10, vi (IntKind.wrap .i64 (s1.2.1 - s1.1))), (29, vb (s1.2.2.1 == 0))] [(0, .row 23 (.int .u64) s1.2.2.2.2.2)] [] [] 1 rfl (by kernel_rfl) c0 ?_)))
    refine run_if rfl rfl (fun h3 => ?_) (fun h3 => ?_)
    · replace hF1 := ift h3 hF1
      refine sq rfl ?_
      obtain ⟨t2, h4, hF1⟩ := obd hF1
      refine rg [] [(0, .row 23 (.int .u64) t2)] [(3, ⟨[.v .unit, .v (.int .i64), .v (.int .i64)], .tup [], some ([0], [(0, .row 23 (.int .u64) t2)])⟩)] [] 1 rfl (by kernel_rfl) (cc (W_slices_heapSortOrdered_uint64 h4) c0) ?_
      have e1 := inrI hr1 hF1
      subst e1
      obtain rfl := Option.some.inj hF0
      exact ret_mut (q := []) [] [0] rfl rfl (by kernel_rfl) rfl (by kernel_rfl)
    · replace hF1 := ifn h3 hF1
      refine sk rfl (sq rfl (sq rfl (rg [(0, .row 0), (1, vi s1.1), (2, vi s1.2.1), (3, vi s1.2.2.1), (8, vb s1.2.2.2.1), (9, vb s1.2.2.2.2.1), (10, vi (IntKind.wrap .i64 (s1.2.1 - s1.1))), (35, vb (!s1.2.2.2.1))] [(0, .row 23 (.int .u64) s1.2.2.2.2.2)] [] [] 1 rfl (by kernel_rfl) c0 ?_)))
      obtain ⟨r2, hF2, hF1⟩ := obd hF1
      refine run_cut (fun r2' => r2 = r2') (fun r2 => [(0, .row 0), (1, vi s1.1), (2, vi s1.2.1), (3, vi r2.1), (8, vb s1.2.2.2.1), (9, vb s1.2.2.2.2.1), (10, vi (IntKind.wrap .i64 (s1.2.1 - s1.1)))]) (fun r2 => [(0, .row 23 (.int .u64) r2.2)]) (fun r2' h5 => ?_) (fun J2_0 => ?_)
      · subst h5
        refine sq rfl ?_
        obtain ⟨t3, h6, hF1⟩ := obd hF1
        refine rg [(0, .row 0), (1, vi s1.1), (2, vi s1.2.1), (3, vi r2.1), (8, vb s1.2.2.2.1), (9, vb s1.2.2.2.2.1), (10, vi (IntKind.wrap .i64 (s1.2.1 - s1.1))), (11, vi t3.1), (12, vi t3.2)] [(0, .row 23 (.int .u64) r2.2)] [(3, ⟨[.v (.sl (.int .u64)), .v (.int .i64), .v (.int .i64)], .tup [vi t3.1, vi t3.2], none⟩)] [] 1 rfl (by kernel_rfl) (cc (W_slices_choosePivotOrdered_uint64 h6) c0) (sq rfl (sq rfl (rg [(0, .row 0), (1, vi s1.1), (2, vi s1.2.1), (3, vi r2.1), (8, vb s1.2.2.2.1), (9, vb s1.2.2.2.2.1), (10, vi (IntKind.wrap .i64 (s1.2.1 - s1.1))), (11, vi t3.1), (12, vi t3.2), (50, vb (t3.2 == 2))] [(0, .row 23 (.int .u64) r2.2)] [] [] 1 rfl (by kernel_rfl) c0 ?_)))
        obtain ⟨r3, hF2, hF1⟩ := obd hF1
        refine run_cut (fun r3' => r3 = r3') (fun r3 => [(0, .row 0), (1, vi s1.1), (2, vi s1.2.1), (3, vi r2.1), (8, vb s1.2.2.2.1), (9, vb s1.2.2.2.2.1), (10, vi (IntKind.wrap .i64 (s1.2.1 - s1.1))), (11, vi r3.1), (12, vi r3.2.1)]) (fun r3 => [(0, .row 23 (.int .u64) r3.2.2)]) (fun r3' h7 => ?_) (fun J3_0 => ?_)
        · subst h7
          refine sq rfl (sq rfl ?_)
          obtain ⟨r4, hF2, hF1⟩ := obd hF1
          refine run_cut (fun r4' => r4 = r4') (fun r4 => [(0, .row 0), (1, vi s1.1), (2, vi s1.2.1), (3, vi r2.1), (8, vb s1.2.2.2.1), (9, vb s1.2.2.2.2.1), (10, vi (IntKind.wrap .i64 (s1.2.1 - s1.1))), (11, vi r3.1), (68, vb r4)]) (fun r4 => [(0, .row 23 (.int .u64) r3.2.2)]) (fun r4' h8 => ?_) (fun J4_0 => ?_)
          · subst h8
            obtain ⟨r5, hF2, hF1⟩ := obd hF1
            refine run_cut (fun j51 => r5 = Sum.inr j51) (fun j51 => [(0, .row 0), (1, vi s1.1), (2, vi s1.2.1), (3, vi r2.1), (8, vb s1.2.2.2.1), (9, vb s1.2.2.2.2.1), (10, vi (IntKind.wrap .i64 (s1.2.1 - s1.1))), (11, vi r3.1)]) (fun j51 => [(0, .row 23 (.int .u64) j51)]) (fun j51 h9 => ?_) (fun J5_1 => ?_)
            · subst h9
              replace hF1 := sumR hF1
              refine sq rfl (sq rfl ?_)
              obtain ⟨r6, hF2, hF1⟩ := obd hF1
              refine run_cut (fun r6' => r6 = r6') (fun r6 => [(0, .row 0), (1, vi s1.1), (2, vi s1.2.1), (3, vi r2.1), (8, vb s1.2.2.2.1), (9, vb s1.2.2.2.2.1), (10, vi (IntKind.wrap .i64 (s1.2.1 - s1.1))), (11, vi r3.1), (87, vb r6)]) (fun r6 => [(0, .row 23 (.int .u64) j51)]) (fun r6' h10 => ?_) (fun J6_0 => ?_)
              · subst h10
                refine run_if rfl rfl (fun h11 => ?_) (fun h11 => ?_)
                · replace hF1 := ift h11 hF1
                  refine sq rfl ?_
                  obtain ⟨t4, h12, hF1⟩ := obd hF1
                  refine rg [(0, .row 0), (2, vi s1.2.1), (3, vi r2.1), (8, vb s1.2.2.2.1), (9, vb s1.2.2.2.2.1), (13, vi t4.1)] [(0, .row 23 (.int .u64) t4.2)] [(4, ⟨[.v .unit, .v (.int .i64), .v (.int .i64), .v (.int .i64)], vi t4.1, some ([0], [(0, .row 23 (.int .u64) t4.2)])⟩)] [] 1 rfl (by kernel_rfl) (cc (W_slices_partitionEqualOrdered_uint64 h12) c0) (sq rfl (rg [(0, .row 0), (1, vi t4.1), (2, vi s1.2.1), (3, vi r2.1), (8, vb s1.2.2.2.1), (9, vb s1.2.2.2.2.1)] [(0, .row 23 (.int .u64) t4.2)] [] [] 1 rfl (by kernel_rfl) c0 (run_exit rfl rfl ?_)))
                  exact ih1 _ (Option.some.inj hF1).symm
                · replace hF1 := ifn h11 hF1
                  refine sk rfl (sq rfl ?_)
                  obtain ⟨t5, h13, hF1⟩ := obd hF1
                  refine rg [(0, .row 0), (1, vi s1.1), (2, vi s1.2.1), (3, vi r2.1), (10, vi (IntKind.wrap .i64 (s1.2.1 - s1.1))), (14, vi t5.1), (15, vb t5.2.1)] [(0, .row 23 (.int .u64) t5.2.2)] [(4, ⟨[.v .unit, .v (.int .i64), .v (.int .i64), .v (.int .i64)], .tup [vi t5.1, vb t5.2.1], some ([0], [(0, .row 23 (.int .u64) t5.2.2)])⟩)] [] 1 rfl (by kernel_rfl) (cc (W_slices_partitionOrdered_uint64 h13) c0) (sq rfl (rg [(0, .row 0), (1, vi s1.1), (2, vi s1.2.1), (3, vi r2.1), (9, vb t5.2.1), (10, vi (IntKind.wrap .i64 (s1.2.1 - s1.1))), (14, vi t5.1)] [(0, .row 23 (.int .u64) t5.2.2)] [] [] 1 rfl (by kernel_rfl) c0 (sq rfl (rg [(0, .row 0), (1, vi s1.1), (2, vi s1.2.1), (3, vi r2.1), (9, vb t5.2.1), (10, vi (IntKind.wrap .i64 (s1.2.1 - s1.1))), (14, vi t5.1), (16, vi (IntKind.wrap .i64 (t5.1 - s1.1))), (17, vi (IntKind.wrap .i64 (s1.2.1 - t5.1)))] [(0, .row 23 (.int .u64) t5.2.2)] [] [] 1 rfl (by kernel_rfl) c0 (sq rfl (rg [(0, .row 0), (1, vi s1.1), (2, vi s1.2.1), (3, vi r2.1), (9, vb t5.2.1), (14, vi t5.1), (16, vi (IntKind.wrap .i64 (t5.1 - s1.1))), (17, vi (IntKind.wrap .i64 (s1.2.1 - t5.1))), (18, vi (IntKind.wrap .i64 (Int.tdiv (IntKind.wrap .i64 (s1.2.1 - s1.1)) 8)))] [(0, .row 23 (.int .u64) t5.2.2)] [] [] 1 rfl (by kernel_rfl) (cc (show 8 ≠ (0 : Int) from (by decide)) c0) (sq rfl (rg [(0, .row 0), (1, vi s1.1), (2, vi s1.2.1), (3, vi r2.1), (9, vb t5.2.1), (14, vi t5.1), (16, vi (IntKind.wrap .i64 (t5.1 - s1.1))), (17, vi (IntKind.wrap .i64 (s1.2.1 - t5.1))), (18, vi (IntKind.wrap .i64 (Int.tdiv (IntKind.wrap .i64 (s1.2.1 - s1.1)) 8))), (113, vb (decide ((IntKind.wrap .i64 (t5.1 - s1.1)) < (IntKind.wrap .i64 (s1.2.1 - t5.1)))))] [(0, .row 23 (.int .u64) t5.2.2)] [] [] 1 rfl (by kernel_rfl) c0 ?_))))))))
                  refine run_if rfl rfl (fun h14 => ?_) (fun h14 => ?_)
                  · replace hF1 := ift h14 hF1
                    refine sq rfl (rg [(0, .row 0), (1, vi s1.1), (2, vi s1.2.1), (3, vi r2.1), (8, vb (decide ((IntKind.wrap .i64 (t5.1 - s1.1)) ≥ (IntKind.wrap .i64 (Int.tdiv (IntKind.wrap .i64 (s1.2.1 - s1.1)) 8))))), (9, vb t5.2.1), (14, vi t5.1)] [(0, .row 23 (.int .u64) t5.2.2)] [] [] 1 rfl (by kernel_rfl) c0 (sq rfl ?_))
                    obtain ⟨t6, h15, hF1⟩ := obd hF1
                    refine rg [(0, .row 0), (2, vi s1.2.1), (3, vi r2.1), (8, vb (decide ((IntKind.wrap .i64 (t5.1 - s1.1)) ≥ (IntKind.wrap .i64 (Int.tdiv (IntKind.wrap .i64 (s1.2.1 - s1.1)) 8))))), (9, vb t5.2.1), (14, vi t5.1)] [(0, .row 23 (.int .u64) t6)] [(4, ⟨[.v .unit, .v (.int .i64), .v (.int .i64), .v (.int .i64)], .tup [], some ([0], [(0, .row 23 (.int .u64) t6)])⟩)] [] 1 rfl (by kernel_rfl) (cc (hq0 h15) c0) (rg [(0, .row 0), (1, vi (IntKind.wrap .i64 (t5.1 + 1))), (2, vi s1.2.1), (3, vi r2.1), (8, vb (decide ((IntKind.wrap .i64 (t5.1 - s1.1)) ≥ (IntKind.wrap .i64 (Int.tdiv (IntKind.wrap .i64 (s1.2.1 - s1.1)) 8))))), (9, vb t5.2.1)] [(0, .row 23 (.int .u64) t6)] [] [] 1 rfl (by kernel_rfl) c0 (eb ?_))
                    exact ih1 _ (Option.some.inj hF1).symm
                  · replace hF1 := ifn h14 hF1
                    refine sq rfl (rg [(0, .row 0), (1, vi s1.1), (2, vi s1.2.1), (3, vi r2.1), (8, vb (decide ((IntKind.wrap .i64 (s1.2.1 - t5.1)) ≥ (IntKind.wrap .i64 (Int.tdiv (IntKind.wrap .i64 (s1.2.1 - s1.1)) 8))))), (9, vb t5.2.1), (14, vi t5.1)] [(0, .row 23 (.int .u64) t5.2.2)] [] [] 1 rfl (by kernel_rfl) c0 (sq rfl ?_))
                    obtain ⟨t7, h16, hF1⟩ := obd hF1
                    refine rg [(0, .row 0), (1, vi s1.1), (3, vi r2.1), (8, vb (decide ((IntKind.wrap .i64 (s1.2.1 - t5.1)) ≥ (IntKind.wrap .i64 (Int.tdiv (IntKind.wrap .i64 (s1.2.1 - s1.1)) 8))))), (9, vb t5.2.1), (14, vi t5.1)] [(0, .row 23 (.int .u64) t7)] [(5, ⟨[.v .unit, .v (.int .i64), .v (.int .i64), .v (.int .i64)], .tup [], some ([0], [(0, .row 23 (.int .u64) t7)])⟩)] [] 1 rfl (by kernel_rfl) (cc (hq0 h16) c0) (rg [(0, .row 0), (1, vi s1.1), (2, vi t5.1), (3, vi r2.1), (8, vb (decide ((IntKind.wrap .i64 (s1.2.1 - t5.1)) ≥ (IntKind.wrap .i64 (Int.tdiv (IntKind.wrap .i64 (s1.2.1 - s1.1)) 8))))), (9, vb t5.2.1)] [(0, .row 23 (.int .u64) t7)] [] [] 1 rfl (by kernel_rfl) c0 (eb ?_))
                    exact ih1 _ (Option.some.inj hF1).symm
              rcases Bool.eq_false_or_eq_true (decide (s1.1 > 0)) with h17 | h17
              · replace hF2 := ift h17 hF2
                obtain ⟨h18, hF2⟩ := ifg hF2
                obtain ⟨h19, hF2⟩ := ifg hF2
                obtain ⟨t8, h20, hF2⟩ := obd hF2
                refine rG [(0, .row 0), (1, vi s1.1), (2, vi s1.2.1), (3, vi r2.1), (8, vb s1.2.2.2.1), (9, vb s1.2.2.2.2.1), (10, vi (IntKind.wrap .i64 (s1.2.1 - s1.1))), (11, vi r3.1), (87, vb (!t8))] [(0, .row 23 (.int .u64) j51)] [(12, ⟨[.v (.int .u64), .v (.int .u64)], vb t8, none⟩)] [(2, true)] 1 rfl rfl (by kernel_rfl) (cc h17 (cc h18 (cc (@rfl Nat (Int.toNat (IntKind.wrap .i64 (s1.1 - 1)) * 1)) (cc (oo h18 trivial) (cc h19 (cc (@rfl Nat (Int.toNat r3.1 * 1)) (cc (oo h19 trivial) (cc (W_cmp_Less_uint64 h20) c0)))))))) ?_
                exact J6_0 _ (Option.some.inj hF2).symm
              · replace hF2 := ifn h17 hF2
                refine rG [(0, .row 0), (1, vi s1.1), (2, vi s1.2.1), (3, vi r2.1), (8, vb s1.2.2.2.1), (9, vb s1.2.2.2.2.1), (10, vi (IntKind.wrap .i64 (s1.2.1 - s1.1))), (11, vi r3.1), (87, vb false)] [(0, .row 23 (.int .u64) j51)] [] [(2, false)] 1 rfl rfl (by kernel_rfl) (cc h17 c0) ?_
                exact J6_0 _ (Option.some.inj hF2).symm
            refine run_if rfl rfl (fun h21 => ?_) (fun h21 => ?_)
            · replace hF2 := ift h21 hF2
              refine sq rfl ?_
              obtain ⟨t9, h22, hF2⟩ := obd hF2
              refine rg [(0, .row 0), (1, vi s1.1), (2, vi s1.2.1), (3, vi r2.1), (8, vb s1.2.2.2.1), (9, vb s1.2.2.2.2.1), (10, vi (IntKind.wrap .i64 (s1.2.1 - s1.1))), (11, vi r3.1), (72, vb t9.1)] [(0, .row 23 (.int .u64) t9.2)] [(3, ⟨[.v .unit, .v (.int .i64), .v (.int .i64)], vb t9.1, some ([0], [(0, .row 23 (.int .u64) t9.2)])⟩)] [] 1 rfl (by kernel_rfl) (cc (W_slices_partialInsertionSortOrdered_uint64 h22) c0) ?_
              refine run_if rfl rfl (fun h23 => ?_) (fun h23 => ?_)
              · replace hF2 := ift h23 hF2
                refine tm (ρ' := []) (H' := [(0, .row 23 (.int .u64) t9.2)]) (by kernel_rfl) (by kernel_rfl) rfl ?_
                have e5 := Option.some.inj hF2
                subst e5
                replace hF1 := sumL hF1
                have e1 := inrI hr1 hF1
                subst e1
                obtain rfl := Option.some.inj hF0
                exact ret_mut (q := []) [] [0] rfl rfl (by kernel_rfl) rfl (by kernel_rfl)
              · replace hF2 := ifn h23 hF2
                refine sk rfl (tm (ρ' := [(0, .row 0), (1, vi s1.1), (2, vi s1.2.1), (3, vi r2.1), (8, vb s1.2.2.2.1), (9, vb s1.2.2.2.2.1), (10, vi (IntKind.wrap .i64 (s1.2.1 - s1.1))), (11, vi r3.1)]) (H' := [(0, .row 23 (.int .u64) t9.2)]) (by kernel_rfl) (by kernel_rfl) rfl ?_)
                exact J5_1 _ (Option.some.inj hF2).symm
            · replace hF2 := ifn h21 hF2
              refine sk rfl (tm (ρ' := [(0, .row 0), (1, vi s1.1), (2, vi s1.2.1), (3, vi r2.1), (8, vb s1.2.2.2.1), (9, vb s1.2.2.2.2.1), (10, vi (IntKind.wrap .i64 (s1.2.1 - s1.1))), (11, vi r3.1)]) (H' := [(0, .row 23 (.int .u64) r3.2.2)]) (by kernel_rfl) (by kernel_rfl) rfl ?_)
              exact J5_1 _ (Option.some.inj hF2).symm
          rcases Bool.eq_false_or_eq_true (s1.2.2.2.1) with h24 | h24
          · replace hF2 := ift h24 hF2
            rcases Bool.eq_false_or_eq_true (s1.2.2.2.2.1) with h25 | h25
            · replace hF2 := ift h25 hF2
              refine rg [(0, .row 0), (1, vi s1.1), (2, vi s1.2.1), (3, vi r2.1), (8, vb s1.2.2.2.1), (9, vb s1.2.2.2.2.1), (10, vi (IntKind.wrap .i64 (s1.2.1 - s1.1))), (11, vi r3.1), (68, vb (r3.2.1 == 1))] [(0, .row 23 (.int .u64) r3.2.2)] [] [(1, true), (4, true)] 1 rfl (by kernel_rfl) (cc h24 (cc h25 c0)) ?_
              exact J4_0 _ (Option.some.inj hF2).symm
            · replace hF2 := ifn h25 hF2
              refine rg [(0, .row 0), (1, vi s1.1), (2, vi s1.2.1), (3, vi r2.1), (8, vb s1.2.2.2.1), (9, vb s1.2.2.2.2.1), (10, vi (IntKind.wrap .i64 (s1.2.1 - s1.1))), (11, vi r3.1), (68, vb false)] [(0, .row 23 (.int .u64) r3.2.2)] [] [(1, true), (4, false)] 1 rfl (by kernel_rfl) (cc h24 (cc h25 c0)) ?_
              exact J4_0 _ (Option.some.inj hF2).symm
          · replace hF2 := ifn h24 hF2
            refine rg [(0, .row 0), (1, vi s1.1), (2, vi s1.2.1), (3, vi r2.1), (8, vb s1.2.2.2.1), (9, vb s1.2.2.2.2.1), (10, vi (IntKind.wrap .i64 (s1.2.1 - s1.1))), (11, vi r3.1), (68, vb false)] [(0, .row 23 (.int .u64) r3.2.2)] [] [(1, false)] 1 rfl (by kernel_rfl) (cc h24 c0) ?_
            exact J4_0 _ (Option.some.inj hF2).symm
        refine run_if rfl rfl (fun h26 => ?_) (fun h26 => ?_)
        · replace hF2 := ift h26 hF2
          refine sq rfl ?_
          obtain ⟨t10, h27, hF2⟩ := obd hF2
          refine rg [(0, .row 0), (1, vi s1.1), (2, vi s1.2.1), (3, vi r2.1), (8, vb s1.2.2.2.1), (9, vb s1.2.2.2.2.1), (10, vi (IntKind.wrap .i64 (s1.2.1 - s1.1))), (11, vi t3.1)] [(0, .row 23 (.int .u64) t10)] [(3, ⟨[.v .unit, .v (.int .i64), .v (.int .i64)], .tup [], some ([0], [(0, .row 23 (.int .u64) t10)])⟩)] [] 1 rfl (by kernel_rfl) (cc (W_slices_reverseRangeOrdered_uint64 h27) c0) (sq rfl (rg [(0, .row 0), (1, vi s1.1), (2, vi s1.2.1), (3, vi r2.1), (8, vb s1.2.2.2.1), (9, vb s1.2.2.2.2.1), (10, vi (IntKind.wrap .i64 (s1.2.1 - s1.1))), (11, vi (IntKind.wrap .i64 ((IntKind.wrap .i64 (s1.2.1 - 1)) - (IntKind.wrap .i64 (t3.1 - s1.1)))))] [(0, .row 23 (.int .u64) t10)] [] [] 1 rfl (by kernel_rfl) c0 (rg [(0, .row 0), (1, vi s1.1), (2, vi s1.2.1), (3, vi r2.1), (8, vb s1.2.2.2.1), (9, vb s1.2.2.2.2.1), (10, vi (IntKind.wrap .i64 (s1.2.1 - s1.1))), (11, vi (IntKind.wrap .i64 ((IntKind.wrap .i64 (s1.2.1 - 1)) - (IntKind.wrap .i64 (t3.1 - s1.1))))), (12, vi 1)] [(0, .row 23 (.int .u64) t10)] [] [] 1 rfl (by kernel_rfl) c0 ?_)))
          exact J3_0 _ (Option.some.inj hF2).symm
        · replace hF2 := ifn h26 hF2
          refine sk rfl (tm (ρ' := [(0, .row 0), (1, vi s1.1), (2, vi s1.2.1), (3, vi r2.1), (8, vb s1.2.2.2.1), (9, vb s1.2.2.2.2.1), (10, vi (IntKind.wrap .i64 (s1.2.1 - s1.1))), (11, vi t3.1), (12, vi t3.2)]) (H' := [(0, .row 23 (.int .u64) r2.2)]) (by kernel_rfl) (by kernel_rfl) rfl ?_)
          exact J3_0 _ (Option.some.inj hF2).symm
      refine run_if rfl rfl (fun h28 => ?_) (fun h28 => ?_)
      · replace hF2 := ift h28 hF2
        refine sq rfl ?_
        obtain ⟨t11, h29, hF2⟩ := obd hF2
        refine rg [(0, .row 0), (1, vi s1.1), (2, vi s1.2.1), (3, vi s1.2.2.1), (8, vb s1.2.2.2.1), (9, vb s1.2.2.2.2.1), (10, vi (IntKind.wrap .i64 (s1.2.1 - s1.1)))] [(0, .row 23 (.int .u64) t11)] [(3, ⟨[.v .unit, .v (.int .i64), .v (.int .i64)], .tup [], some ([0], [(0, .row 23 (.int .u64) t11)])⟩)] [] 1 rfl (by kernel_rfl) (cc (W_slices_breakPatternsOrdered_uint64 h29) c0) (rg [(0, .row 0), (1, vi s1.1), (2, vi s1.2.1), (3, vi (IntKind.wrap .i64 (s1.2.2.1 - 1))), (8, vb s1.2.2.2.1), (9, vb s1.2.2.2.2.1), (10, vi (IntKind.wrap .i64 (s1.2.1 - s1.1)))] [(0, .row 23 (.int .u64) t11)] [] [] 1 rfl (by kernel_rfl) c0 ?_)
        exact J2_0 _ (Option.some.inj hF2).symm
      · replace hF2 := ifn h28 hF2
        refine sk rfl (tm (ρ' := [(0, .row 0), (1, vi s1.1), (2, vi s1.2.1), (3, vi s1.2.2.1), (8, vb s1.2.2.2.1), (9, vb s1.2.2.2.2.1), (10, vi (IntKind.wrap .i64 (s1.2.1 - s1.1)))]) (H' := [(0, .row 23 (.int .u64) s1.2.2.2.2.2)]) (by kernel_rfl) (by kernel_rfl) rfl ?_)
        exact J2_0 _ (Option.some.inj hF2).symm
noncomputable def F_slices_pdqsortOrdered_uint64_n : Nat → (List Int) → Int → Int → Int → Option (List Int)
  | 0 => fun _ _ _ _ => none
  | n + 1 => F_slices_pdqsortOrdered_uint64_s (F_slices_pdqsortOrdered_uint64_n n)
noncomputable def F_slices_pdqsortOrdered_uint64 (x0 : (List Int)) (x1 : Int) (x2 : Int) (x3 : Int) : Option (List Int) := F_slices_pdqsortOrdered_uint64_n (Int.toNat (x2 - x1) + 1) x0 x1 x2 x3
theorem W_slices_pdqsortOrdered_uint64_n : ∀ (n : Nat) {x0 : (List Int)} {x1 : Int} {x2 : Int} {x3 : Int} {y : (List Int)}, F_slices_pdqsortOrdered_uint64_n n x0 x1 x2 x3 = some y → Mut Try.prog 27 1 [.row 0, vi x1, vi x2, vi x3] [(0, .row 23 (.int .u64) x0)] (.tup []) [(0, .row 23 (.int .u64) y)]
  | 0, _, _, _, _, _, h => by cases h
  | n + 1, _, _, _, _, _, h => W_slices_pdqsortOrdered_uint64_s (W_slices_pdqsortOrdered_uint64_n n) h
theorem W_slices_pdqsortOrdered_uint64 {x0 : (List Int)} {x1 : Int} {x2 : Int} {x3 : Int} {y : (List Int)} (h : F_slices_pdqsortOrdered_uint64 x0 x1 x2 x3 = some y) : Mut Try.prog 27 1 [.row 0, vi x1, vi x2, vi x3] [(0, .row 23 (.int .u64) x0)] (.tup []) [(0, .row 23 (.int .u64) y)] := W_slices_pdqsortOrdered_uint64_n _ h
noncomputable def F_slices_Sort_uint64_uint64 (x0 : (List Int)) : Option (List Int) :=
  (F_math_bits_Len (IntKind.wrap .u64 ((List.length x0 : Nat) : Int))).bind fun t1 => ((F_slices_pdqsortOrdered_uint64 x0 0 ((List.length x0 : Nat) : Int) t1).bind fun t2 => (some t2))
theorem W_slices_Sort_uint64_uint64 {x0 : (List Int)} {y : (List Int)} (hF0 : F_slices_Sort_uint64_uint64 x0 = some y) : Mut Try.prog 25 1 [.row 0] [(0, .row 23 (.int .u64) x0)] (.tup []) [(0, .row 23 (.int .u64) y)] := by
  unfold F_slices_Sort_uint64_uint64 at hF0
  refine mut_of_run @Try.call25 @Try.func25 rfl rfl fun b => ?_
  refine sq rfl (rg [(0, .row 0), (2, vi ((List.length x0 : Nat) : Int))] [(0, .row 23 (.int .u64) x0)] [] [] 1 rfl (by kernel_rfl) c0 ?_)
  obtain ⟨t1, h1, hF0⟩ := obd hF0
  obtain ⟨t2, h2, hF0⟩ := obd hF0
  refine rg [] [(0, .row 23 (.int .u64) t2)] [(4, ⟨[.v (.int .u64)], vi t1, none⟩), (5, ⟨[.v .unit, .v (.int .i64), .v (.int .i64), .v (.int .i64)], .tup [], some ([0], [(0, .row 23 (.int .u64) t2)])⟩)] [] 1 rfl (by kernel_rfl) (cc (W_math_bits_Len h1) (cc (W_slices_pdqsortOrdered_uint64 h2) c0)) ?_
  obtain rfl := Option.some.inj hF0
  exact fall_mut (q := []) [] [0] rfl (by kernel_rfl) rfl (by kernel_rfl)
end Go.Proofs.Ytjnaphniplfpkaa
