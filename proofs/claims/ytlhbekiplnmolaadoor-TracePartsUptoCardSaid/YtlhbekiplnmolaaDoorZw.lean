/- Functions of the program as plain functions, and that the code comes to them; printed by wip/e/gene.py. -/
import Derived.Test.YtlhbekiplnmolaaDoorES
set_option maxRecDepth 100000
set_option linter.unusedVariables false
namespace Go.Proofs.YtlhbekiplnmolaaDoor
open Go.RowKit
abbrev S54 : Sh := (.st (.prod .any (.sl (.int .u8))))
abbrev O54 : Sh := (.st (.prod .oref .ref))
noncomputable def F_strings_Builder_WriteString (x0 : S54.ty) (x1 : Str) : Option (Int × Unit × S54.ty) :=
  (F_strings_Builder_copyCheck ((), x0.2)).bind fun t1 => (if List.length t1.2 + List.length x1 ≤ 140737488355328 then (some (((List.length x1 : Nat) : Int), (), ((), t1.2 ++ byI x1))) else none)
theorem W_strings_Builder_WriteString {x0 : S54.ty} {x1 : Str} {y : (Int × Unit × S54.ty)} (hF0 : F_strings_Builder_WriteString x0 x1 = some y) : Mut Tryd.prog 25 2 [.ptr 0 [] 0, vs x1] [(0, .var 54 O54 (0, 1)), (1, .row 5 (.int .u8) x0.2)] (.tup [vi y.1, .v .any y.2.1]) [(0, .var 54 O54 (0, 1000001)), (1000001, .row 5 (.int .u8) y.2.2.2)] := by
  unfold F_strings_Builder_WriteString at hF0
  refine mut_of_run @Tryd.call25 @Tryd.func25 rfl rfl fun b => ?_
  refine run_renF (ρ' := [(0, .ptr 0 [] 0), (1, vs x1)]) (H' := [(1000001, .row 5 (.int .u8) x0.2), (0, .var 54 O54 (0, 1000001))]) 1 1000001 rfl (by kernel_rfl) rfl rfl (by kernel_rfl) rfl (sq rfl (rg [(0, .ptr 0 [] 0), (1, vs x1)] [(0, .var 54 O54 (0, 1000001)), (1000001, .row 5 (.int .u8) x0.2)] [] [] 1020000 rfl (by kernel_rfl) c0 (sq rfl ?_)))
  obtain ⟨t1, h1, hF0⟩ := obd hF0
  refine rg [(0, .ptr 0 [] 0), (1, vs x1)] [(0, .var 54 O54 (0, 2020021)), (2020021, .row 5 (.int .u8) t1.2)] [(1, ⟨[.v .unit], .tup [], some ([0, 1000001], [(0, .var 54 O54 (0, 1000001)), (1000001, .row 5 (.int .u8) t1.2)])⟩)] [] 1020000 rfl (by kernel_rfl) (cc (W_strings_Builder_copyCheck h1) c0) (run_renF (ρ' := [(0, .ptr 0 [] 0), (1, vs x1)]) (H' := [(1000001, .row 5 (.int .u8) t1.2), (0, .var 54 O54 (0, 1000001))]) 2020021 1000001 rfl (by kernel_rfl) rfl rfl (by kernel_rfl) rfl (sq rfl ?_))
  obtain ⟨h2, hF0⟩ := ifg hF0
  refine rg [(1, vs x1)] [(0, .var 54 O54 (0, 1020120)), (1020120, .row 5 (.int .u8) (t1.2 ++ byI x1))] [] [] 1020000 rfl (by kernel_rfl) (cc h2 c0) (run_renF (ρ' := [(1, vs x1)]) (H' := [(1000001, .row 5 (.int .u8) (t1.2 ++ byI x1)), (0, .var 54 O54 (0, 1000001))]) 1020120 1000001 rfl (by kernel_rfl) rfl rfl (by kernel_rfl) rfl (sq rfl (rg [(4, vi ((List.length x1 : Nat) : Int)), (5, .v .any ())] [(0, .var 54 O54 (0, 1000001)), (1000001, .row 5 (.int .u8) (t1.2 ++ byI x1))] [] [] 1020000 rfl (by kernel_rfl) c0 ?_)))
  obtain rfl := Option.some.inj hF0
  exact ret_mut (q := [vi ((List.length x1 : Nat) : Int), .v .any ()]) [some (.int .i64), some .any] [0, 1000001] rfl rfl (by kernel_rfl) rfl (by kernel_rfl)
noncomputable def F_strconv_FormatUint (x0 : Int) (x1 : Int) : Option Str :=
  (F_internal_strconv_FormatUint x0 x1).bind fun t1 => (some t1)
theorem W_strconv_FormatUint {x0 : Int} {x1 : Int} {y : Str} (hF0 : F_strconv_FormatUint x0 x1 = some y) : Pure Tryd.prog 33 [vu x0, vi x1] (vs y) := by
  unfold F_strconv_FormatUint at hF0
  refine pure_of_run @Tryd.call33 @Tryd.func33 rfl rfl fun w M ho => ?_
  refine sq rfl (rg [(0, vu x0), (1, vi x1)] [] [] [] 1020000 rfl (by kernel_rfl) c0 (sq rfl ?_))
  obtain ⟨t1, h1, hF0⟩ := obd hF0
  refine rg [(4, vs t1)] [] [(2, ⟨[.v (.int .u64), .v (.int .i64)], vs t1, none⟩)] [] 1020000 rfl (by kernel_rfl) (cc (W_internal_strconv_FormatUint h1) c0) ?_
  obtain rfl := Option.some.inj hF0
  exact ret_pure (q := [vs t1]) [.str] rfl rfl (by kernel_rfl)
noncomputable def F_trace_digits (x0 : Int) : Option Str :=
  (F_strconv_FormatUint x0 10).bind fun t1 => (some t1)
theorem W_trace_digits {x0 : Int} {y : Str} (hF0 : F_trace_digits x0 = some y) : Pure Tryd.prog 21 [vu x0] (vs y) := by
  unfold F_trace_digits at hF0
  refine pure_of_run @Tryd.call21 @Tryd.func21 rfl rfl fun w M ho => ?_
  refine sq rfl (rg [(0, vu x0)] [] [] [] 1020000 rfl (by kernel_rfl) c0 (sq rfl ?_))
  obtain ⟨t1, h1, hF0⟩ := obd hF0
  refine rg [(2, vs t1)] [] [(1, ⟨[.v (.int .u64), .v (.int .i64)], vs t1, none⟩)] [] 1020000 rfl (by kernel_rfl) (cc (W_strconv_FormatUint h1) c0) ?_
  obtain rfl := Option.some.inj hF0
  exact ret_pure (q := [vs t1]) [.str] rfl rfl (by kernel_rfl)
noncomputable def F_trace_signed (x0 : Int) : Option Str :=
  (F_strconv_Itoa x0).bind fun t1 => (some t1)
theorem W_trace_signed {x0 : Int} {y : Str} (hF0 : F_trace_signed x0 = some y) : Pure Tryd.prog 20 [vi x0] (vs y) := by
  unfold F_trace_signed at hF0
  refine pure_of_run @Tryd.call20 @Tryd.func20 rfl rfl fun w M ho => ?_
  refine sq rfl (rg [(0, vi x0)] [] [] [] 1020000 rfl (by kernel_rfl) c0 (sq rfl ?_))
  obtain ⟨t1, h1, hF0⟩ := obd hF0
  refine rg [(2, vs t1)] [] [(1, ⟨[.v (.int .i64)], vs t1, none⟩)] [] 1020000 rfl (by kernel_rfl) (cc (W_strconv_Itoa h1) c0) ?_
  obtain rfl := Option.some.inj hF0
  exact ret_pure (q := [vs t1]) [.str] rfl rfl (by kernel_rfl)
abbrev S27 : Sh := (.st (.prod (.int .u32) (.prod (.int .u32) (.int .u32))))
abbrev S29 : Sh := (.st (.prod (.int .i64) (.prod (.int .i64) (.int .u64))))
abbrev S31 : Sh := (.st (.prod (.int .u64) (.prod (.int .i64) (.prod (.int .i64) (.prod (.int .u64) (.prod (.int .u64) (.prod (.int .i64) (.prod S27 (.prod S27 (.prod S29 (.prod .str .str)))))))))))
abbrev S33 : Sh := (.st (.prod (.int .i64) S31))
abbrev S35 : Sh := (.st (.prod (.int .i64) (.prod (.int .i64) (.prod (.int .u32) S33))))
noncomputable def F_trace_piece (x0 : S35.ty) : Option Str :=
  (F_strconv_Itoa x0.2.1).bind fun t1 => (if List.length t1 + List.length ([46] : Str) ≤ maxLen then (F_strconv_FormatUint x0.2.2.2.2.1 10).bind fun t2 => (if List.length (t1 ++ ([46] : Str)) + List.length t2 ≤ maxLen then (if List.length ((t1 ++ ([46] : Str)) ++ t2) + List.length ([32] : Str) ≤ maxLen then (some (((t1 ++ ([46] : Str)) ++ t2) ++ ([32] : Str))) else none) else none) else none)
theorem W_trace_piece {x0 : S35.ty} {y : Str} (hF0 : F_trace_piece x0 = some y) : Pure Tryd.prog 47 [.v S35 x0] (vs y) := by
  unfold F_trace_piece at hF0
  refine pure_of_run @Tryd.call47 @Tryd.func47 rfl rfl fun w M ho => ?_
  refine sq rfl (rg [(1, .ptr 1020000 [] 0)] [(1020000, .var 35 S35 x0)] [] [] 1020000 rfl (by kernel_rfl) c0 (sq rfl ?_))
  obtain ⟨t1, h1, hF0⟩ := obd hF0
  obtain ⟨h2, hF0⟩ := ifg hF0
  obtain ⟨t2, h3, hF0⟩ := obd hF0
  obtain ⟨h4, hF0⟩ := ifg hF0
  obtain ⟨h5, hF0⟩ := ifg hF0
  refine rG [(2, vs (((t1 ++ ([46] : Str)) ++ t2) ++ ([32] : Str)))] [] [(2, ⟨[.v (.int .i64)], vs t1, none⟩), (8, ⟨[.v (.int .u64), .v (.int .i64)], vs t2, none⟩)] [] 1020001 rfl rfl (by kernel_rfl) (cc (W_strconv_Itoa h1) (cc h2 (cc (W_strconv_FormatUint h3) (cc h4 (cc h5 c0))))) ?_
  obtain rfl := Option.some.inj hF0
  exact ret_pure (q := [vs (((t1 ++ ([46] : Str)) ++ t2) ++ ([32] : Str))]) [.str] rfl rfl (by kernel_rfl)
noncomputable def F_congressref20_Digits_b1 (s1 : (Int × Str)) : Option ((Int × Str) ⊕ (Int × Str)) :=
  if (decide (s1.1 > 9)) = true then if ((0 : Int) ≤ Int.tmod s1.1 10 ∧ (0 : Int) ≤ IntKind.wrap .u64 ((Int.tmod s1.1 10) + 1) ∧ Int.toNat (Int.tmod s1.1 10) ≤ Int.toNat (IntKind.wrap .u64 ((Int.tmod s1.1 10) + 1)) ∧ Int.toNat (IntKind.wrap .u64 ((Int.tmod s1.1 10) + 1)) ≤ List.length ([48, 49, 50, 51, 52, 53, 54, 55, 56, 57] : Str)) then (if List.length (List.drop (Int.toNat (Int.tmod s1.1 10)) (List.take (Int.toNat (IntKind.wrap .u64 ((Int.tmod s1.1 10) + 1))) ([48, 49, 50, 51, 52, 53, 54, 55, 56, 57] : Str))) + List.length s1.2 ≤ maxLen then (some (Sum.inl (IntKind.wrap .u64 (Int.tdiv s1.1 10), (List.drop (Int.toNat (Int.tmod s1.1 10)) (List.take (Int.toNat (IntKind.wrap .u64 ((Int.tmod s1.1 10) + 1))) ([48, 49, 50, 51, 52, 53, 54, 55, 56, 57] : Str))) ++ s1.2))) else none) else none else some (Sum.inr (s1.1, s1.2))
noncomputable def F_congressref20_Digits (x0 : Int) : Option Str :=
  (loopO (F_congressref20_Digits_b1) (x0, [])).bind (fun r1 => if ((0 : Int) ≤ r1.1 ∧ (0 : Int) ≤ IntKind.wrap .u64 (r1.1 + 1) ∧ Int.toNat r1.1 ≤ Int.toNat (IntKind.wrap .u64 (r1.1 + 1)) ∧ Int.toNat (IntKind.wrap .u64 (r1.1 + 1)) ≤ List.length ([48, 49, 50, 51, 52, 53, 54, 55, 56, 57] : Str)) then (if List.length (List.drop (Int.toNat r1.1) (List.take (Int.toNat (IntKind.wrap .u64 (r1.1 + 1))) ([48, 49, 50, 51, 52, 53, 54, 55, 56, 57] : Str))) + List.length r1.2 ≤ maxLen then (some ((List.drop (Int.toNat r1.1) (List.take (Int.toNat (IntKind.wrap .u64 (r1.1 + 1))) ([48, 49, 50, 51, 52, 53, 54, 55, 56, 57] : Str))) ++ r1.2)) else none) else none)
theorem W_congressref20_Digits {x0 : Int} {y : Str} (hF0 : F_congressref20_Digits x0 = some y) : Pure Tryd.prog 24 [vu x0] (vs y) := by
  unfold F_congressref20_Digits at hF0
  refine pure_of_run @Tryd.call24 @Tryd.func24 rfl rfl fun w M ho => ?_
  refine sq rfl (rg [(0, vu x0)] [] [] [] 1020000 rfl (by kernel_rfl) c0 (sq rfl (rg [(0, vu x0), (3, vs [])] [] [] [] 1020000 rfl (by kernel_rfl) c0 (sq rfl (bk rfl ?_)))))
  obtain ⟨r1, hl1, hF0⟩ := obd hF0
  refine run_cutx 0 rfl (fun r1' => r1 = r1') (fun r1 => [(0, vu r1.1), (3, vs r1.2)]) (fun r1 => []) (fun r1' h1 => ?_) (fun J1_0 => ?_)
  · subst h1
    refine sq rfl ?_
    obtain ⟨h2, hF0⟩ := ifg hF0
    obtain ⟨h3, hF0⟩ := ifg hF0
    refine rg [(2, vs ((List.drop (Int.toNat r1.1) (List.take (Int.toNat (IntKind.wrap .u64 (r1.1 + 1))) ([48, 49, 50, 51, 52, 53, 54, 55, 56, 57] : Str))) ++ r1.2))] [] [] [] 1020000 rfl (by kernel_rfl) (cc h2.1 (cc h2.2.1 (cc h2.2.2.1 (cc h2.2.2.2 (cc h3 c0))))) ?_
    obtain rfl := Option.some.inj hF0
    exact ret_pure (q := [vs ((List.drop (Int.toNat r1.1) (List.take (Int.toNat (IntKind.wrap .u64 (r1.1 + 1))) ([48, 49, 50, 51, 52, 53, 54, 55, 56, 57] : Str))) ++ r1.2)]) [.str] rfl rfl (by kernel_rfl)
  refine run_loop rfl (run_loopO hl1 (fun s1 => [(0, vu s1.1), (3, vs s1.2)]) (fun s1 => []) rfl rfl (fun s1 o1 hF1 ih1 hr1 => ?_))
  unfold F_congressref20_Digits_b1 at hF1
  refine run_again (sq rfl (sq rfl (rg [(0, vu s1.1), (3, vs s1.2), (5, vb (decide (s1.1 > 9)))] [] [] [] 1020000 rfl (by kernel_rfl) c0 ?_)))
  refine run_if rfl rfl (fun h4 => ?_) (fun h4 => ?_)
  · replace hF1 := ift h4 hF1
    refine sk rfl (bk rfl (sq rfl ?_))
    obtain ⟨h5, hF1⟩ := ifg hF1
    obtain ⟨h6, hF1⟩ := ifg hF1
    refine rg [(0, vu s1.1), (3, vs ((List.drop (Int.toNat (Int.tmod s1.1 10)) (List.take (Int.toNat (IntKind.wrap .u64 ((Int.tmod s1.1 10) + 1))) ([48, 49, 50, 51, 52, 53, 54, 55, 56, 57] : Str))) ++ s1.2))] [] [] [] 1020000 rfl (by kernel_rfl) (cc (show 10 ≠ (0 : Int) from (by decide)) (cc (show 10 ≠ (0 : Int) from (by decide)) (cc h5.1 (cc h5.2.1 (cc h5.2.2.1 (cc h5.2.2.2 (cc h6 c0))))))) (rg [(0, vu (IntKind.wrap .u64 (Int.tdiv s1.1 10))), (3, vs ((List.drop (Int.toNat (Int.tmod s1.1 10)) (List.take (Int.toNat (IntKind.wrap .u64 ((Int.tmod s1.1 10) + 1))) ([48, 49, 50, 51, 52, 53, 54, 55, 56, 57] : Str))) ++ s1.2))] [] [] [] 1020000 rfl (by kernel_rfl) (cc (show 10 ≠ (0 : Int) from (by decide)) c0) (eb ?_))
    exact ih1 _ (Option.some.inj hF1).symm
  · replace hF1 := ifn h4 hF1
    refine run_exit rfl rfl (tm (ρ' := [(0, vu s1.1), (3, vs s1.2)]) (H' := []) (by kernel_rfl) (by kernel_rfl) rfl ?_)
    exact J1_0 _ (inrI hr1 hF1).symm
noncomputable def F_congressref20_Signed (x0 : Int) : Option Str :=
  if (decide (x0 < 0)) = true then (F_congressref20_Digits (IntKind.wrap .u64 ((IntKind.wrap .u64 (IntKind.wrap .i64 (0 - (IntKind.wrap .i64 (x0 + 1))))) + 1))).bind fun t1 => (if List.length ([45] : Str) + List.length t1 ≤ maxLen then (some (([45] : Str) ++ t1)) else none) else (F_congressref20_Digits (IntKind.wrap .u64 x0)).bind fun t2 => (some t2)
theorem W_congressref20_Signed {x0 : Int} {y : Str} (hF0 : F_congressref20_Signed x0 = some y) : Pure Tryd.prog 23 [vi x0] (vs y) := by
  unfold F_congressref20_Signed at hF0
  refine pure_of_run @Tryd.call23 @Tryd.func23 rfl rfl fun w M ho => ?_
  refine sq rfl (rg [(0, vi x0)] [] [] [] 1020000 rfl (by kernel_rfl) c0 (sq rfl (sq rfl (rg [(0, vi x0), (4, vb (decide (x0 < 0)))] [] [] [] 1020000 rfl (by kernel_rfl) c0 ?_))))
  refine run_if rfl rfl (fun h1 => ?_) (fun h1 => ?_)
  · replace hF0 := ift h1 hF0
    refine sq rfl ?_
    obtain ⟨t1, h2, hF0⟩ := obd hF0
    obtain ⟨h3, hF0⟩ := ifg hF0
    refine rg [(2, vs (([45] : Str) ++ t1))] [] [(5, ⟨[.v (.int .u64)], vs t1, none⟩)] [] 1020000 rfl (by kernel_rfl) (cc (W_congressref20_Digits h2) (cc h3 c0)) ?_
    obtain rfl := Option.some.inj hF0
    exact ret_pure (q := [vs (([45] : Str) ++ t1)]) [.str] rfl rfl (by kernel_rfl)
  · replace hF0 := ifn h1 hF0
    refine sk rfl (sq rfl ?_)
    obtain ⟨t2, h4, hF0⟩ := obd hF0
    refine rg [(2, vs t2)] [] [(2, ⟨[.v (.int .u64)], vs t2, none⟩)] [] 1020000 rfl (by kernel_rfl) (cc (W_congressref20_Digits h4) c0) ?_
    obtain rfl := Option.some.inj hF0
    exact ret_pure (q := [vs t2]) [.str] rfl rfl (by kernel_rfl)
noncomputable def F_internal_stringslite_HasPrefix (x0 : Str) (x1 : Str) : Option Bool :=
  (show Option Bool from if (decide (((List.length x0 : Nat) : Int) ≥ ((List.length x1 : Nat) : Int))) = true then if ((0 : Int) ≤ ((List.length x1 : Nat) : Int) ∧ 0 ≤ Int.toNat ((List.length x1 : Nat) : Int) ∧ Int.toNat ((List.length x1 : Nat) : Int) ≤ List.length x0) then (some ((List.drop 0 (List.take (Int.toNat ((List.length x1 : Nat) : Int)) x0)) == x1)) else none else some false).bind (fun r1 => some r1)
theorem W_internal_stringslite_HasPrefix {x0 : Str} {x1 : Str} {y : Bool} (hF0 : F_internal_stringslite_HasPrefix x0 x1 = some y) : Pure Tryd.prog 57 [vs x0, vs x1] (vb y) := by
  unfold F_internal_stringslite_HasPrefix at hF0
  refine pure_of_run @Tryd.call57 @Tryd.func57 rfl rfl fun w M ho => ?_
  refine sq rfl (rg [(0, vs x0), (1, vs x1)] [] [] [] 1020000 rfl (by kernel_rfl) c0 (sq rfl ?_))
  obtain ⟨r1, hF1, hF0⟩ := obd hF0
  refine run_cut (fun r1' => r1 = r1') (fun r1 => [(4, vb r1)]) (fun r1 => []) (fun r1' h1 => ?_) (fun J1_0 => ?_)
  · subst h1
    obtain rfl := Option.some.inj hF0
    exact ret_pure (q := [vb r1]) [.bool] rfl rfl (by kernel_rfl)
  rcases Bool.eq_false_or_eq_true (decide (((List.length x0 : Nat) : Int) ≥ ((List.length x1 : Nat) : Int))) with h2 | h2
  · replace hF1 := ift h2 hF1
    obtain ⟨h3, hF1⟩ := ifg hF1
    refine rg [(4, vb ((List.drop 0 (List.take (Int.toNat ((List.length x1 : Nat) : Int)) x0)) == x1))] [] [] [(5, true)] 1020000 rfl (by kernel_rfl) (cc h2 (cc h3.1 (cc h3.2.1 (cc h3.2.2 c0)))) ?_
    exact J1_0 _ (Option.some.inj hF1).symm
  · replace hF1 := ifn h2 hF1
    refine rg [(4, vb false)] [] [] [(5, false)] 1020000 rfl (by kernel_rfl) (cc h2 c0) ?_
    exact J1_0 _ (Option.some.inj hF1).symm
noncomputable def F_strings_HasPrefix (x0 : Str) (x1 : Str) : Option Bool :=
  (F_internal_stringslite_HasPrefix x0 x1).bind fun t1 => (some t1)
theorem W_strings_HasPrefix {x0 : Str} {x1 : Str} {y : Bool} (hF0 : F_strings_HasPrefix x0 x1 = some y) : Pure Tryd.prog 46 [vs x0, vs x1] (vb y) := by
  unfold F_strings_HasPrefix at hF0
  refine pure_of_run @Tryd.call46 @Tryd.func46 rfl rfl fun w M ho => ?_
  refine sq rfl (rg [(0, vs x0), (1, vs x1)] [] [] [] 1020000 rfl (by kernel_rfl) c0 (sq rfl ?_))
  obtain ⟨t1, h1, hF0⟩ := obd hF0
  refine rg [(4, vb t1)] [] [(2, ⟨[.v .str, .v .str], vb t1, none⟩)] [] 1020000 rfl (by kernel_rfl) (cc (W_internal_stringslite_HasPrefix h1) c0) ?_
  obtain rfl := Option.some.inj hF0
  exact ret_pure (q := [vb t1]) [.bool] rfl rfl (by kernel_rfl)
noncomputable def F_cmp_isNaN_uint32 (x0 : Int) : Option Bool :=
  some (x0 != x0)
theorem W_cmp_isNaN_uint32 {x0 : Int} {y : Bool} (hF0 : F_cmp_isNaN_uint32 x0 = some y) : Pure Tryd.prog 56 [.v (.int .u32) x0] (vb y) := by
  unfold F_cmp_isNaN_uint32 at hF0
  refine pure_of_run @Tryd.call56 @Tryd.func56 rfl rfl fun w M ho => ?_
  refine sq rfl (rg [(0, .v (.int .u32) x0)] [] [] [] 1020000 rfl (by kernel_rfl) c0 (sq rfl (rg [(2, vb (x0 != x0))] [] [] [] 1020000 rfl (by kernel_rfl) c0 ?_)))
  obtain rfl := Option.some.inj hF0
  exact ret_pure (q := [vb (x0 != x0)]) [.bool] rfl rfl (by kernel_rfl)
noncomputable def F_cmp_Compare_uint32 (x0 : Int) (x1 : Int) : Option Int :=
  (F_cmp_isNaN_uint32 x0).bind fun t1 => ((F_cmp_isNaN_uint32 x1).bind fun t2 => (if (t1) = true then if (t2) = true then some 0 else some (-1) else if (t2) = true then some 1 else if (decide (x0 < x1)) = true then some (-1) else if (decide (x0 > x1)) = true then some 1 else some 0))
theorem W_cmp_Compare_uint32 {x0 : Int} {x1 : Int} {y : Int} (hF0 : F_cmp_Compare_uint32 x0 x1 = some y) : Pure Tryd.prog 45 [.v (.int .u32) x0, .v (.int .u32) x1] (vi y) := by
  unfold F_cmp_Compare_uint32 at hF0
  refine pure_of_run @Tryd.call45 @Tryd.func45 rfl rfl fun w M ho => ?_
  refine sq rfl (rg [(0, .v (.int .u32) x0), (1, .v (.int .u32) x1)] [] [] [] 1020000 rfl (by kernel_rfl) c0 (sq rfl ?_))
  obtain ⟨t1, h1, hF0⟩ := obd hF0
  refine rg [(0, .v (.int .u32) x0), (1, .v (.int .u32) x1), (5, vb t1)] [] [(1, ⟨[.v (.int .u32)], vb t1, none⟩)] [] 1020000 rfl (by kernel_rfl) (cc (W_cmp_isNaN_uint32 h1) c0) (sq rfl ?_)
  obtain ⟨t2, h2, hF0⟩ := obd hF0
  refine rg [(0, .v (.int .u32) x0), (1, .v (.int .u32) x1), (5, vb t1), (6, vb t2)] [] [(1, ⟨[.v (.int .u32)], vb t2, none⟩)] [] 1020000 rfl (by kernel_rfl) (cc (W_cmp_isNaN_uint32 h2) c0) (sq rfl (sq rfl (rg [(0, .v (.int .u32) x0), (1, .v (.int .u32) x1), (6, vb t2), (11, vb t1)] [] [] [] 1020000 rfl (by kernel_rfl) c0 ?_)))
  refine run_if rfl rfl (fun h3 => ?_) (fun h3 => ?_)
  · replace hF0 := ift h3 hF0
    refine sq rfl (sq rfl (rg [(12, vb t2)] [] [] [] 1020000 rfl (by kernel_rfl) c0 ?_))
    refine run_if rfl rfl (fun h4 => ?_) (fun h4 => ?_)
    · replace hF0 := ift h4 hF0
      refine sq rfl (rg [(4, vi 0)] [] [] [] 1020000 rfl (by kernel_rfl) c0 ?_)
      obtain rfl := Option.some.inj hF0
      exact ret_pure (q := [vi 0]) [(.int .i64)] rfl rfl (by kernel_rfl)
    · replace hF0 := ifn h4 hF0
      refine sk rfl (sq rfl (rg [(4, vi (-1))] [] [] [] 1020000 rfl (by kernel_rfl) c0 ?_))
      obtain rfl := Option.some.inj hF0
      exact ret_pure (q := [vi (-1)]) [(.int .i64)] rfl rfl (by kernel_rfl)
  · replace hF0 := ifn h3 hF0
    refine sk rfl (sq rfl (sq rfl (rg [(0, .v (.int .u32) x0), (1, .v (.int .u32) x1), (13, vb t2)] [] [] [] 1020000 rfl (by kernel_rfl) c0 ?_)))
    refine run_if rfl rfl (fun h5 => ?_) (fun h5 => ?_)
    · replace hF0 := ift h5 hF0
      refine sq rfl (rg [(4, vi 1)] [] [] [] 1020000 rfl (by kernel_rfl) c0 ?_)
      obtain rfl := Option.some.inj hF0
      exact ret_pure (q := [vi 1]) [(.int .i64)] rfl rfl (by kernel_rfl)
    · replace hF0 := ifn h5 hF0
      refine sk rfl (sq rfl (sq rfl (rg [(0, .v (.int .u32) x0), (1, .v (.int .u32) x1), (16, vb (decide (x0 < x1)))] [] [] [] 1020000 rfl (by kernel_rfl) c0 ?_)))
      refine run_if rfl rfl (fun h6 => ?_) (fun h6 => ?_)
      · replace hF0 := ift h6 hF0
        refine sq rfl (rg [(4, vi (-1))] [] [] [] 1020000 rfl (by kernel_rfl) c0 ?_)
        obtain rfl := Option.some.inj hF0
        exact ret_pure (q := [vi (-1)]) [(.int .i64)] rfl rfl (by kernel_rfl)
      · replace hF0 := ifn h6 hF0
        refine sk rfl (sq rfl (sq rfl (rg [(19, vb (decide (x0 > x1)))] [] [] [] 1020000 rfl (by kernel_rfl) c0 ?_)))
        refine run_if rfl rfl (fun h7 => ?_) (fun h7 => ?_)
        · replace hF0 := ift h7 hF0
          refine sq rfl (rg [(4, vi 1)] [] [] [] 1020000 rfl (by kernel_rfl) c0 ?_)
          obtain rfl := Option.some.inj hF0
          exact ret_pure (q := [vi 1]) [(.int .i64)] rfl rfl (by kernel_rfl)
        · replace hF0 := ifn h7 hF0
          refine sk rfl (sq rfl (rg [(4, vi 0)] [] [] [] 1020000 rfl (by kernel_rfl) c0 ?_))
          obtain rfl := Option.some.inj hF0
          exact ret_pure (q := [vi 0]) [(.int .i64)] rfl rfl (by kernel_rfl)
noncomputable def F_cmp_Or_int_b1 (x0 : (List Int)) (s1 : Int) : Option (Int ⊕ (Int ⊕ Unit)) :=
  if (decide (s1 < ((List.length x0 : Nat) : Int))) = true then if 0 ≤ s1 ∧ s1 < ((List.length x0 : Nat) : Int) then (if ((List.getD x0 (Int.toNat s1) 0) != 0) = true then some (Sum.inr (Sum.inl (List.getD x0 (Int.toNat s1) 0))) else some (Sum.inl (IntKind.wrap .i64 (s1 + 1)))) else none else some (Sum.inr (Sum.inr ()))
noncomputable def F_cmp_Or_int (x0 : (List Int)) : Option Int :=
  (loopO (F_cmp_Or_int_b1 x0) 0).bind (Sum.elim some (fun j11 => some 0))
theorem W_cmp_Or_int {x0 : (List Int)} {y : Int} (hF0 : F_cmp_Or_int x0 = some y) : Pure Tryd.prog 44 [.v (.sl (.int .i64)) x0] (vi y) := by
  unfold F_cmp_Or_int at hF0
  refine pure_of_run @Tryd.call44 @Tryd.func44 rfl rfl fun w M ho => ?_
  refine sq rfl (rg [(0, .v (.sl (.int .i64)) x0)] [] [] [] 1020000 rfl (by kernel_rfl) c0 (sq rfl (rg [(0, .v (.sl (.int .i64)) x0), (3, vi 0)] [] [] [] 1020000 rfl (by kernel_rfl) c0 (sq rfl (sq rfl (rg [(3, vi 0), (6, .v (.sl (.int .i64)) x0), (7, vi ((List.length x0 : Nat) : Int)), (8, vi 0)] [] [] [] 1020000 rfl (by kernel_rfl) c0 (bk rfl ?_)))))))
  obtain ⟨r1, hl1, hF0⟩ := obd hF0
  refine run_cutx 0 rfl (fun j11 => r1 = Sum.inr j11) (fun j11 => [(3, vi 0)]) (fun j11 => []) (fun j11 h1 => ?_) (fun J1_1 => ?_)
  · subst h1
    replace hF0 := sumR hF0
    refine sq rfl (rg [(2, vi 0)] [] [] [] 1020000 rfl (by kernel_rfl) c0 ?_)
    obtain rfl := Option.some.inj hF0
    exact ret_pure (q := [vi 0]) [(.int .i64)] rfl rfl (by kernel_rfl)
  refine run_loop rfl (run_loopO hl1 (fun s1 => [(3, vi 0), (6, .v (.sl (.int .i64)) x0), (7, vi ((List.length x0 : Nat) : Int)), (8, vi s1)]) (fun s1 => []) rfl rfl (fun s1 o1 hF1 ih1 hr1 => ?_))
  unfold F_cmp_Or_int_b1 at hF1
  refine run_again (sq rfl (rg [(3, vi 0), (6, .v (.sl (.int .i64)) x0), (7, vi ((List.length x0 : Nat) : Int)), (8, vi s1), (9, vb (decide (s1 < ((List.length x0 : Nat) : Int))))] [] [] [] 1020000 rfl (by kernel_rfl) c0 (sq rfl ?_)))
  refine run_if rfl rfl (fun h2 => ?_) (fun h2 => ?_)
  · replace hF1 := ift h2 hF1
    refine sk rfl (sq rfl (bk rfl (sq rfl ?_)))
    obtain ⟨h3, hF1⟩ := ifg hF1
    refine rg [(3, vi 0), (5, vi (List.getD x0 (Int.toNat s1) 0)), (6, .v (.sl (.int .i64)) x0), (7, vi ((List.length x0 : Nat) : Int)), (8, vi s1)] [] [] [] 1020000 rfl (by kernel_rfl) (cc h3 c0) (sq rfl (rg [(3, vi 0), (5, vi (List.getD x0 (Int.toNat s1) 0)), (6, .v (.sl (.int .i64)) x0), (7, vi ((List.length x0 : Nat) : Int)), (8, vi s1), (14, vb ((List.getD x0 (Int.toNat s1) 0) != 0))] [] [] [] 1020000 rfl (by kernel_rfl) c0 ?_))
    refine run_if rfl rfl (fun h4 => ?_) (fun h4 => ?_)
    · replace hF1 := ift h4 hF1
      refine sq rfl (rg [(2, vi (List.getD x0 (Int.toNat s1) 0))] [] [] [] 1020000 rfl (by kernel_rfl) c0 ?_)
      have e1 := inrI hr1 hF1
      subst e1
      replace hF0 := sumL hF0
      obtain rfl := Option.some.inj hF0
      exact ret_pure (q := [vi (List.getD x0 (Int.toNat s1) 0)]) [(.int .i64)] rfl rfl (by kernel_rfl)
    · replace hF1 := ifn h4 hF1
      refine sk rfl (eb (rg [(3, vi 0), (6, .v (.sl (.int .i64)) x0), (7, vi ((List.length x0 : Nat) : Int)), (8, vi (IntKind.wrap .i64 (s1 + 1)))] [] [] [] 1020000 rfl (by kernel_rfl) c0 ?_))
      exact ih1 _ (Option.some.inj hF1).symm
  · replace hF1 := ifn h2 hF1
    refine run_exit rfl rfl (tm (ρ' := [(3, vi 0)]) (H' := []) (by kernel_rfl) (by kernel_rfl) rfl ?_)
    exact J1_1 _ (inrI hr1 hF1).symm
noncomputable def F_ident_Compare (x0 : S27.ty) (x1 : S27.ty) : Option Int :=
  (F_cmp_Compare_uint32 x0.1 x1.1).bind fun t1 => ((F_cmp_Compare_uint32 x0.2.1 x1.2.1).bind fun t2 => ((F_cmp_Compare_uint32 x0.2.2 x1.2.2).bind fun t3 => ((F_cmp_Or_int [t1, t2, t3]).bind fun t4 => (some t4))))
theorem W_ident_Compare {x0 : S27.ty} {x1 : S27.ty} {y : Int} (hF0 : F_ident_Compare x0 x1 = some y) : Pure Tryd.prog 36 [.v S27 x0, .v S27 x1] (vi y) := by
  unfold F_ident_Compare at hF0
  refine pure_of_run @Tryd.call36 @Tryd.func36 rfl rfl fun w M ho => ?_
  refine sq rfl (rg [(2, .ptr 1020000 [] 0), (3, .ptr 1020020 [] 0)] [(1020000, .var 27 S27 x0), (1020020, .var 27 S27 x1)] [] [] 1020000 rfl (by kernel_rfl) c0 (sq rfl ?_))
  obtain ⟨t1, h1, hF0⟩ := obd hF0
  obtain ⟨t2, h2, hF0⟩ := obd hF0
  obtain ⟨t3, h3, hF0⟩ := obd hF0
  obtain ⟨t4, h4, hF0⟩ := obd hF0
  refine rG [(4, vi t4)] [] [(4, ⟨[.v (.int .u32), .v (.int .u32)], vi t1, none⟩), (9, ⟨[.v (.int .u32), .v (.int .u32)], vi t2, none⟩), (14, ⟨[.v (.int .u32), .v (.int .u32)], vi t3, none⟩), (15, ⟨[], .v (.sl (.int .i64)) [t1, t2, t3], none⟩), (16, ⟨[.v (.sl (.int .i64))], vi t4, none⟩)] [] 1020021 rfl rfl (by kernel_rfl) (cc (W_cmp_Compare_uint32 h1) (cc (W_cmp_Compare_uint32 h2) (cc (W_cmp_Compare_uint32 h3) (cc (W_cmp_Or_int h4) c0)))) ?_
  obtain rfl := Option.some.inj hF0
  exact ret_pure (q := [vi t4]) [(.int .i64)] rfl rfl (by kernel_rfl)
noncomputable def F_congressref26_Has_b1 (x0 : Str) (x1 : Str) (s1 : Int) : Option (Int ⊕ (Bool ⊕ Unit)) :=
  if (decide ((IntKind.wrap .i64 (s1 + ((List.length x1 : Nat) : Int))) ≤ ((List.length x0 : Nat) : Int))) = true then (show Option Bool from if (s1 == 0) = true then if ((0 : Int) ≤ s1 ∧ (0 : Int) ≤ IntKind.wrap .i64 (s1 + ((List.length x1 : Nat) : Int)) ∧ Int.toNat s1 ≤ Int.toNat (IntKind.wrap .i64 (s1 + ((List.length x1 : Nat) : Int))) ∧ Int.toNat (IntKind.wrap .i64 (s1 + ((List.length x1 : Nat) : Int))) ≤ List.length x0) then (some ((List.drop (Int.toNat s1) (List.take (Int.toNat (IntKind.wrap .i64 (s1 + ((List.length x1 : Nat) : Int)))) x0)) == x1)) else none else if 0 ≤ (IntKind.wrap .i64 (s1 - 1)) ∧ (IntKind.wrap .i64 (s1 - 1)) < ((List.length x0 : Nat) : Int) then (if ((((List.getD x0 (Int.toNat (IntKind.wrap .i64 (s1 - 1))) 0).toNat : Nat) : Int) == 32) = true then if ((0 : Int) ≤ s1 ∧ (0 : Int) ≤ IntKind.wrap .i64 (s1 + ((List.length x1 : Nat) : Int)) ∧ Int.toNat s1 ≤ Int.toNat (IntKind.wrap .i64 (s1 + ((List.length x1 : Nat) : Int))) ∧ Int.toNat (IntKind.wrap .i64 (s1 + ((List.length x1 : Nat) : Int))) ≤ List.length x0) then (some ((List.drop (Int.toNat s1) (List.take (Int.toNat (IntKind.wrap .i64 (s1 + ((List.length x1 : Nat) : Int)))) x0)) == x1)) else none else some false) else none).bind (fun r2 => if (r2) = true then some (Sum.inr (Sum.inl true)) else some (Sum.inl (IntKind.wrap .i64 (s1 + 1)))) else some (Sum.inr (Sum.inr ()))
noncomputable def F_congressref26_Has (x0 : Str) (x1 : Str) : Option Bool :=
  (loopO (F_congressref26_Has_b1 x0 x1) 0).bind (Sum.elim some (fun j11 => some false))
theorem W_congressref26_Has {x0 : Str} {x1 : Str} {y : Bool} (hF0 : F_congressref26_Has x0 x1 = some y) : Pure Tryd.prog 39 [vs x0, vs x1] (vb y) := by
  unfold F_congressref26_Has at hF0
  refine pure_of_run @Tryd.call39 @Tryd.func39 rfl rfl fun w M ho => ?_
  refine sq rfl (rg [(0, vs x0), (1, vs x1)] [] [] [] 1020000 rfl (by kernel_rfl) c0 (sq rfl (sq rfl (rg [(0, vs x0), (1, vs x1), (5, vi 0)] [] [] [] 1020000 rfl (by kernel_rfl) c0 (bk rfl ?_)))))
  obtain ⟨r1, hl1, hF0⟩ := obd hF0
  refine run_cutx 0 rfl (fun j11 => r1 = Sum.inr j11) (fun j11 => []) (fun j11 => []) (fun j11 h1 => ?_) (fun J1_1 => ?_)
  · subst h1
    replace hF0 := sumR hF0
    refine sq rfl (rg [(4, vb false)] [] [] [] 1020000 rfl (by kernel_rfl) c0 ?_)
    obtain rfl := Option.some.inj hF0
    exact ret_pure (q := [vb false]) [.bool] rfl rfl (by kernel_rfl)
  refine run_loop rfl (run_loopO hl1 (fun s1 => [(0, vs x0), (1, vs x1), (5, vi s1)]) (fun s1 => []) rfl rfl (fun s1 o1 hF1 ih1 hr1 => ?_))
  unfold F_congressref26_Has_b1 at hF1
  refine run_again (sq rfl (sq rfl (rg [(0, vs x0), (1, vs x1), (5, vi s1), (12, vb (decide ((IntKind.wrap .i64 (s1 + ((List.length x1 : Nat) : Int))) ≤ ((List.length x0 : Nat) : Int))))] [] [] [] 1020000 rfl (by kernel_rfl) c0 ?_)))
  refine run_if rfl rfl (fun h2 => ?_) (fun h2 => ?_)
  · replace hF1 := ift h2 hF1
    refine sk rfl (sq rfl (bk rfl (sq rfl ?_)))
    obtain ⟨r2, hF2, hF1⟩ := obd hF1
    refine run_cut (fun r2' => r2 = r2') (fun r2 => [(0, vs x0), (1, vs x1), (5, vi s1), (34, vb r2)]) (fun r2 => []) (fun r2' h3 => ?_) (fun J2_0 => ?_)
    · subst h3
      refine run_if rfl rfl (fun h4 => ?_) (fun h4 => ?_)
      · replace hF1 := ift h4 hF1
        refine sq rfl (rg [(4, vb true)] [] [] [] 1020000 rfl (by kernel_rfl) c0 ?_)
        have e1 := inrI hr1 hF1
        subst e1
        replace hF0 := sumL hF0
        obtain rfl := Option.some.inj hF0
        exact ret_pure (q := [vb true]) [.bool] rfl rfl (by kernel_rfl)
      · replace hF1 := ifn h4 hF1
        refine sk rfl (eb (rg [(0, vs x0), (1, vs x1), (5, vi (IntKind.wrap .i64 (s1 + 1)))] [] [] [] 1020000 rfl (by kernel_rfl) c0 ?_))
        exact ih1 _ (Option.some.inj hF1).symm
    rcases Bool.eq_false_or_eq_true (s1 == 0) with h5 | h5
    · replace hF2 := ift h5 hF2
      obtain ⟨h6, hF2⟩ := ifg hF2
      refine rg [(0, vs x0), (1, vs x1), (5, vi s1), (34, vb ((List.drop (Int.toNat s1) (List.take (Int.toNat (IntKind.wrap .i64 (s1 + ((List.length x1 : Nat) : Int)))) x0)) == x1))] [] [] [(2, true)] 1020000 rfl (by kernel_rfl) (cc h5 (cc h6.1 (cc h6.2.1 (cc h6.2.2.1 (cc h6.2.2.2 c0))))) ?_
      exact J2_0 _ (Option.some.inj hF2).symm
    · replace hF2 := ifn h5 hF2
      obtain ⟨h7, hF2⟩ := ifg hF2
      rcases Bool.eq_false_or_eq_true ((((List.getD x0 (Int.toNat (IntKind.wrap .i64 (s1 - 1))) 0).toNat : Nat) : Int) == 32) with h8 | h8
      · replace hF2 := ift h8 hF2
        obtain ⟨h9, hF2⟩ := ifg hF2
        refine rg [(0, vs x0), (1, vs x1), (5, vi s1), (34, vb ((List.drop (Int.toNat s1) (List.take (Int.toNat (IntKind.wrap .i64 (s1 + ((List.length x1 : Nat) : Int)))) x0)) == x1))] [] [] [(2, false), (9, true)] 1020000 rfl (by kernel_rfl) (cc h5 (cc h7 (cc h8 (cc h9.1 (cc h9.2.1 (cc h9.2.2.1 (cc h9.2.2.2 c0))))))) ?_
        exact J2_0 _ (Option.some.inj hF2).symm
      · replace hF2 := ifn h8 hF2
        refine rg [(0, vs x0), (1, vs x1), (5, vi s1), (34, vb false)] [] [] [(2, false), (9, false)] 1020000 rfl (by kernel_rfl) (cc h5 (cc h7 (cc h8 c0))) ?_
        exact J2_0 _ (Option.some.inj hF2).symm
  · replace hF1 := ifn h2 hF1
    refine run_exit rfl rfl (tm (ρ' := []) (H' := []) (by kernel_rfl) (by kernel_rfl) rfl ?_)
    exact J1_1 _ (inrI hr1 hF1).symm
abbrev S63 : Sh := (.st (.prod (.int .i64) (.prod (.int .i64) (.prod (.int .u32) (.int .u64)))))
noncomputable def F_trace_of (x0 : S35.ty) : Option S63.ty :=
  some (x0.2.1, (x0.2.2.2.1, (x0.2.2.1, x0.2.2.2.2.1)))
theorem W_trace_of {x0 : S35.ty} {y : S63.ty} (hF0 : F_trace_of x0 = some y) : Pure Tryd.prog 27 [.v S35 x0] (.v S63 y) := by
  unfold F_trace_of at hF0
  refine pure_of_run @Tryd.call27 @Tryd.func27 rfl rfl fun w M ho => ?_
  refine sq rfl (rg [(1, .ptr 1020000 [] 0), (2, .ptr 1020020 [] 0)] [(1020000, .var 35 S35 x0), (1020020, .var 63 S63 (0, (0, (0, 0))))] [] [] 1020000 rfl (by kernel_rfl) c0 (sq rfl (rg [(2, .ptr 1020020 [] 0)] [(1020020, .var 63 S63 (x0.2.1, (x0.2.2.2.1, (x0.2.2.1, x0.2.2.2.2.1))))] [] [] 1020021 rfl (by kernel_rfl) c0 ?_)))
  obtain rfl := Option.some.inj hF0
  exact ret_pure (q := [.v S63 (x0.2.1, (x0.2.2.2.1, (x0.2.2.1, x0.2.2.2.2.1)))]) [S63] rfl rfl (by kernel_rfl)
noncomputable def F_trace_Of_b1 (x0 : (List S35.ty)) (x1 : S35.ty) (s1 : (Int × (List S35.ty))) : Option ((Int × (List S35.ty)) ⊕ (List S35.ty)) :=
  if (decide (s1.1 < ((List.length x0 : Nat) : Int))) = true then if 0 ≤ s1.1 ∧ s1.1 < ((List.length x0 : Nat) : Int) then (F_trace_of (List.getD x0 (Int.toNat s1.1) S35.dflt)).bind fun t1 => ((F_trace_of x1).bind fun t2 => (if (Sh.eqb S63 t1 t2) = true then if apOk (List.length s1.2 + 1) 160 then (some (Sum.inl (IntKind.wrap .i64 (s1.1 + 1), s1.2 ++ [List.getD x0 (Int.toNat s1.1) S35.dflt]))) else none else some (Sum.inl (IntKind.wrap .i64 (s1.1 + 1), s1.2)))) else none else some (Sum.inr s1.2)
noncomputable def F_trace_Of (x0 : (List S35.ty)) (x1 : S35.ty) : Option (List S35.ty) :=
  (loopO (F_trace_Of_b1 x0 x1) (0, [])).bind (fun r1 => some r1)
theorem W_trace_Of {x0 : (List S35.ty)} {x1 : S35.ty} {y : (List S35.ty)} (hF0 : F_trace_Of x0 x1 = some y) : Pure Tryd.prog 17 [.v (.sl S35) x0, .v S35 x1] (.v (.sl S35) y) := by
  unfold F_trace_Of at hF0
  refine pure_of_run @Tryd.call17 @Tryd.func17 rfl rfl fun w M ho => ?_
  refine sq rfl (rg [(0, .v (.sl S35) x0), (3, .ptr 1020000 [] 0)] [(1020000, .var 35 S35 x1)] [] [] 1020000 rfl (by kernel_rfl) c0 (sq rfl (rg [(0, .v (.sl S35) x0), (3, .ptr 1020000 [] 0), (5, .v (.nl .any) ())] [(1020000, .var 35 S35 x1)] [] [] 1020001 rfl (by kernel_rfl) c0 (sq rfl (sq rfl (rg [(3, .ptr 1020000 [] 0), (5, .v (.nl .any) ()), (8, .v (.sl S35) x0), (9, vi ((List.length x0 : Nat) : Int)), (10, vi 0)] [(1020000, .var 35 S35 x1)] [] [] 1020001 rfl (by kernel_rfl) c0 (bk rfl (run_nilrow (ρ' := [(3, .ptr 1020000 [] 0), (5, .row 1105), (8, .v (.sl S35) x0), (9, vi ((List.length x0 : Nat) : Int)), (10, vi 0)]) 5 1105 35 S35 rfl (by kernel_rfl) (by kernel_rfl) ?_))))))))
  obtain ⟨r1, hl1, hF0⟩ := obd hF0
  refine run_cutx 0 rfl (fun r1' => r1 = r1') (fun r1 => [(5, .row 1105)]) (fun r1 => [(1105, .row 35 S35 r1)]) (fun r1' h1 => ?_) (fun J1_0 => ?_)
  · subst h1
    refine sq rfl (rg [(4, .row 1105)] [(1105, .row 35 S35 r1)] [] [] 1020000 rfl (by kernel_rfl) c0 ?_)
    obtain rfl := Option.some.inj hF0
    refine run_frz (ρ' := [(4, .v (.sl S35) r1)]) (H' := []) 1105 rfl rfl rfl (by kernel_rfl) (by kernel_rfl) ?_
    exact ret_pure (q := [.v (.sl S35) r1]) [(.sl S35)] rfl rfl (by kernel_rfl)
  refine run_loop rfl (run_loopO hl1 (fun s1 => [(3, .ptr 1020000 [] 0), (5, .row 1105), (8, .v (.sl S35) x0), (9, vi ((List.length x0 : Nat) : Int)), (10, vi s1.1)]) (fun s1 => [(1105, .row 35 S35 s1.2), (1020000, .var 35 S35 x1)]) rfl rfl (fun s1 o1 hF1 ih1 hr1 => ?_))
  unfold F_trace_Of_b1 at hF1
  refine run_again (sq rfl (rg [(3, .ptr 1020000 [] 0), (5, .row 1105), (8, .v (.sl S35) x0), (9, vi ((List.length x0 : Nat) : Int)), (10, vi s1.1), (11, vb (decide (s1.1 < ((List.length x0 : Nat) : Int))))] [(1105, .row 35 S35 s1.2), (1020000, .var 35 S35 x1)] [] [] 1020001 rfl (by kernel_rfl) c0 (sq rfl ?_)))
  refine run_if rfl rfl (fun h2 => ?_) (fun h2 => ?_)
  · replace hF1 := ift h2 hF1
    refine sk rfl (sq rfl (bk rfl (sq rfl ?_)))
    obtain ⟨h3, hF1⟩ := ifg hF1
    refine rg [(3, .ptr 1020000 [] 0), (5, .row 1105), (7, .ptr 1020041 [] 0), (8, .v (.sl S35) x0), (9, vi ((List.length x0 : Nat) : Int)), (10, vi s1.1)] [(1105, .row 35 S35 s1.2), (1020000, .var 35 S35 x1), (1020041, .var 35 S35 (List.getD x0 (Int.toNat s1.1) S35.dflt))] [] [] 1020001 rfl (by kernel_rfl) (cc h3 c0) (sq rfl ?_)
    obtain ⟨t1, h4, hF1⟩ := obd hF1
    obtain ⟨t2, h5, hF1⟩ := obd hF1
    refine rG [(3, .ptr 1020000 [] 0), (5, .row 1105), (7, .ptr 1020041 [] 0), (8, .v (.sl S35) x0), (9, vi ((List.length x0 : Nat) : Int)), (10, vi s1.1), (18, vb (Sh.eqb S63 t1 t2))] [(1105, .row 35 S35 s1.2), (1020000, .var 35 S35 x1), (1020041, .var 35 S35 (List.getD x0 (Int.toNat s1.1) S35.dflt))] [(1, ⟨[.v S35], .v S63 t1, none⟩), (3, ⟨[.v S35], .v S63 t2, none⟩)] [] 1020042 rfl rfl (by kernel_rfl) (cc (W_trace_of h4) (cc (W_trace_of h5) c0)) ?_
    refine run_if rfl rfl (fun h6 => ?_) (fun h6 => ?_)
    · replace hF1 := ift h6 hF1
      obtain ⟨h7, hF1⟩ := ifg hF1
      refine rg [(3, .ptr 1020000 [] 0), (5, .row 1020102), (8, .v (.sl S35) x0), (9, vi ((List.length x0 : Nat) : Int)), (10, vi s1.1)] [(1020000, .var 35 S35 x1), (1020102, .row 35 S35 (s1.2 ++ [List.getD x0 (Int.toNat s1.1) S35.dflt]))] [] [] 1020042 rfl (by kernel_rfl) (cc h7.1 (cc h7.2 c0)) (eb (rg [(3, .ptr 1020000 [] 0), (5, .row 1020102), (8, .v (.sl S35) x0), (9, vi ((List.length x0 : Nat) : Int)), (10, vi (IntKind.wrap .i64 (s1.1 + 1)))] [(1020000, .var 35 S35 x1), (1020102, .row 35 S35 (s1.2 ++ [List.getD x0 (Int.toNat s1.1) S35.dflt]))] [] [] 1020103 rfl (by kernel_rfl) c0 (run_ren (ρ' := [(3, .ptr 1020000 [] 0), (5, .row 1105), (8, .v (.sl S35) x0), (9, vi ((List.length x0 : Nat) : Int)), (10, vi (IntKind.wrap .i64 (s1.1 + 1)))]) (H' := [(1105, .row 35 S35 (s1.2 ++ [List.getD x0 (Int.toNat s1.1) S35.dflt])), (1020000, .var 35 S35 x1)]) 1020102 1105 rfl (by kernel_rfl) rfl (by kernel_rfl) rfl ?_)))
      exact ih1 _ (Option.some.inj hF1).symm
    · replace hF1 := ifn h6 hF1
      refine sk rfl (eb (rg [(3, .ptr 1020000 [] 0), (5, .row 1105), (8, .v (.sl S35) x0), (9, vi ((List.length x0 : Nat) : Int)), (10, vi (IntKind.wrap .i64 (s1.1 + 1)))] [(1105, .row 35 S35 s1.2), (1020000, .var 35 S35 x1)] [] [] 1020042 rfl (by kernel_rfl) c0 ?_))
      exact ih1 _ (Option.some.inj hF1).symm
  · replace hF1 := ifn h2 hF1
    refine run_exit rfl rfl (tm (ρ' := [(5, .row 1105)]) (H' := [(1105, .row 35 S35 s1.2)]) (by kernel_rfl) (by kernel_rfl) rfl ?_)
    exact J1_0 _ (inrI hr1 hF1).symm
noncomputable def F_trace_contradicts (x0 : S35.ty) (x1 : S35.ty) : Option Bool :=
  (show Option Bool from if (x0.2.2.2.2.2.1 != x1.2.2.2.2.2.1) = true then some true else if (x0.2.2.2.1 != x1.2.2.2.1) = true then some true else if (!(Sh.eqb S27 x0.2.2.2.2.2.2.2.2.2.2.1 x1.2.2.2.2.2.2.2.2.2.2.1)) = true then some true else some (x0.2.2.2.2.2.2.2.2.1 != x1.2.2.2.2.2.2.2.2.1)).bind (fun r1 => if (r1) = true then some false else if (x0.2.2.2.2.2.1 == 2) = true then (show Option Bool from if (Sh.eqb S27 x0.2.2.2.2.2.2.2.2.2.2.2.1 x1.2.2.2.2.2.2.2.2.2.2.2.1) = true then if (x0.2.2.2.2.2.2.2.2.2.1 != x1.2.2.2.2.2.2.2.2.2.1) = true then some true else some (!(x0.2.2.2.2.2.2.2.2.2.2.2.2.2.2 == x1.2.2.2.2.2.2.2.2.2.2.2.2.2.2)) else some false).bind (fun r2 => some r2) else if (x0.2.2.2.2.2.1 == 3) = true then (show Option Bool from if (Sh.eqb S29 x0.2.2.2.2.2.2.2.2.2.2.2.2.1 x1.2.2.2.2.2.2.2.2.2.2.2.2.1) = true then some (!(x0.2.2.2.2.2.2.2.2.2.2.2.2.2.1 == x1.2.2.2.2.2.2.2.2.2.2.2.2.2.1)) else some false).bind (fun r3 => some r3) else some false)
theorem W_trace_contradicts {x0 : S35.ty} {x1 : S35.ty} {y : Bool} (hF0 : F_trace_contradicts x0 x1 = some y) : Pure Tryd.prog 30 [.v S35 x0, .v S35 x1] (vb y) := by
  unfold F_trace_contradicts at hF0
  refine pure_of_run @Tryd.call30 @Tryd.func30 rfl rfl fun w M ho => ?_
  refine sq rfl (rg [(2, .ptr 1020000 [] 0), (3, .ptr 1020020 [] 0)] [(1020000, .var 35 S35 x0), (1020020, .var 35 S35 x1)] [] [] 1020000 rfl (by kernel_rfl) c0 (sq rfl (sq rfl ?_)))
  obtain ⟨r1, hF1, hF0⟩ := obd hF0
  refine run_cut (fun r1' => r1 = r1') (fun r1 => [(2, .ptr 1020000 [] 0), (3, .ptr 1020020 [] 0), (44, vb r1)]) (fun r1 => [(1020000, .var 35 S35 x0), (1020020, .var 35 S35 x1)]) (fun r1' h1 => ?_) (fun J1_0 => ?_)
  · subst h1
    refine run_if rfl rfl (fun h2 => ?_) (fun h2 => ?_)
    · replace hF0 := ift h2 hF0
      refine sq rfl (rg [(4, vb false)] [] [] [] 1020021 rfl (by kernel_rfl) c0 ?_)
      obtain rfl := Option.some.inj hF0
      exact ret_pure (q := [vb false]) [.bool] rfl rfl (by kernel_rfl)
    · replace hF0 := ifn h2 hF0
      refine sk rfl (sq rfl (sq rfl (rg [(2, .ptr 1020000 [] 0), (3, .ptr 1020020 [] 0), (48, vi x0.2.2.2.2.2.1)] [(1020000, .var 35 S35 x0), (1020020, .var 35 S35 x1)] [] [] 1020021 rfl (by kernel_rfl) c0 (bk rfl (sq rfl (rg [(2, .ptr 1020000 [] 0), (3, .ptr 1020020 [] 0), (48, vi x0.2.2.2.2.2.1), (49, vb (x0.2.2.2.2.2.1 == 2))] [(1020000, .var 35 S35 x0), (1020020, .var 35 S35 x1)] [] [] 1020021 rfl (by kernel_rfl) c0 ?_))))))
      refine run_if rfl rfl (fun h3 => ?_) (fun h3 => ?_)
      · replace hF0 := ift h3 hF0
        refine sq rfl ?_
        obtain ⟨r2, hF1, hF0⟩ := obd hF0
        refine run_cut (fun r2' => r2 = r2') (fun r2 => [(4, vb r2)]) (fun r2 => []) (fun r2' h4 => ?_) (fun J2_0 => ?_)
        · subst h4
          obtain rfl := Option.some.inj hF0
          exact ret_pure (q := [vb r2]) [.bool] rfl rfl (by kernel_rfl)
        rcases Bool.eq_false_or_eq_true (Sh.eqb S27 x0.2.2.2.2.2.2.2.2.2.2.2.1 x1.2.2.2.2.2.2.2.2.2.2.2.1) with h5 | h5
        · replace hF1 := ift h5 hF1
          rcases Bool.eq_false_or_eq_true (x0.2.2.2.2.2.2.2.2.2.1 != x1.2.2.2.2.2.2.2.2.2.1) with h6 | h6
          · replace hF1 := ift h6 hF1
            refine rg [(4, vb true)] [] [] [(9, true), (19, true)] 1020021 rfl (by kernel_rfl) (cc h5 (cc h6 c0)) ?_
            exact J2_0 _ (Option.some.inj hF1).symm
          · replace hF1 := ifn h6 hF1
            refine rg [(4, vb (!(x0.2.2.2.2.2.2.2.2.2.2.2.2.2.2 == x1.2.2.2.2.2.2.2.2.2.2.2.2.2.2)))] [] [] [(9, true), (19, false)] 1020021 rfl (by kernel_rfl) (cc h5 (cc h6 c0)) ?_
            exact J2_0 _ (Option.some.inj hF1).symm
        · replace hF1 := ifn h5 hF1
          refine rg [(4, vb false)] [] [] [(9, false)] 1020021 rfl (by kernel_rfl) (cc h5 c0) ?_
          exact J2_0 _ (Option.some.inj hF1).symm
      · replace hF0 := ifn h3 hF0
        refine sq rfl (rg [(2, .ptr 1020000 [] 0), (3, .ptr 1020020 [] 0), (82, vb (x0.2.2.2.2.2.1 == 3))] [(1020000, .var 35 S35 x0), (1020020, .var 35 S35 x1)] [] [] 1020021 rfl (by kernel_rfl) c0 ?_)
        refine run_if rfl rfl (fun h7 => ?_) (fun h7 => ?_)
        · replace hF0 := ift h7 hF0
          refine sq rfl ?_
          obtain ⟨r3, hF1, hF0⟩ := obd hF0
          refine run_cut (fun r3' => r3 = r3') (fun r3 => [(4, vb r3)]) (fun r3 => []) (fun r3' h8 => ?_) (fun J3_0 => ?_)
          · subst h8
            obtain rfl := Option.some.inj hF0
            exact ret_pure (q := [vb r3]) [.bool] rfl rfl (by kernel_rfl)
          rcases Bool.eq_false_or_eq_true (Sh.eqb S29 x0.2.2.2.2.2.2.2.2.2.2.2.2.1 x1.2.2.2.2.2.2.2.2.2.2.2.2.1) with h9 | h9
          · replace hF1 := ift h9 hF1
            refine rg [(4, vb (!(x0.2.2.2.2.2.2.2.2.2.2.2.2.2.1 == x1.2.2.2.2.2.2.2.2.2.2.2.2.2.1)))] [] [] [(9, true)] 1020021 rfl (by kernel_rfl) (cc h9 c0) ?_
            exact J3_0 _ (Option.some.inj hF1).symm
          · replace hF1 := ifn h9 hF1
            refine rg [(4, vb false)] [] [] [(9, false)] 1020021 rfl (by kernel_rfl) (cc h9 c0) ?_
            exact J3_0 _ (Option.some.inj hF1).symm
        · replace hF0 := ifn h7 hF0
          refine sk rfl (eb (sq rfl (rg [(4, vb false)] [] [] [] 1020021 rfl (by kernel_rfl) c0 ?_)))
          obtain rfl := Option.some.inj hF0
          exact ret_pure (q := [vb false]) [.bool] rfl rfl (by kernel_rfl)
  rcases Bool.eq_false_or_eq_true (x0.2.2.2.2.2.1 != x1.2.2.2.2.2.1) with h10 | h10
  · replace hF1 := ift h10 hF1
    refine rg [(2, .ptr 1020000 [] 0), (3, .ptr 1020020 [] 0), (44, vb true)] [(1020000, .var 35 S35 x0), (1020020, .var 35 S35 x1)] [] [(9, true)] 1020021 rfl (by kernel_rfl) (cc h10 c0) ?_
    exact J1_0 _ (Option.some.inj hF1).symm
  · replace hF1 := ifn h10 hF1
    rcases Bool.eq_false_or_eq_true (x0.2.2.2.1 != x1.2.2.2.1) with h11 | h11
    · replace hF1 := ift h11 hF1
      refine rg [(2, .ptr 1020000 [] 0), (3, .ptr 1020020 [] 0), (44, vb true)] [(1020000, .var 35 S35 x0), (1020020, .var 35 S35 x1)] [] [(9, false), (18, true)] 1020021 rfl (by kernel_rfl) (cc h10 (cc h11 c0)) ?_
      exact J1_0 _ (Option.some.inj hF1).symm
    · replace hF1 := ifn h11 hF1
      rcases Bool.eq_false_or_eq_true (!(Sh.eqb S27 x0.2.2.2.2.2.2.2.2.2.2.1 x1.2.2.2.2.2.2.2.2.2.2.1)) with h12 | h12
      · replace hF1 := ift h12 hF1
        refine rg [(2, .ptr 1020000 [] 0), (3, .ptr 1020020 [] 0), (44, vb true)] [(1020000, .var 35 S35 x0), (1020020, .var 35 S35 x1)] [] [(9, false), (18, false), (29, true)] 1020021 rfl (by kernel_rfl) (cc h10 (cc h11 (cc h12 c0))) ?_
        exact J1_0 _ (Option.some.inj hF1).symm
      · replace hF1 := ifn h12 hF1
        refine rg [(2, .ptr 1020000 [] 0), (3, .ptr 1020020 [] 0), (44, vb (x0.2.2.2.2.2.2.2.2.1 != x1.2.2.2.2.2.2.2.2.1))] [(1020000, .var 35 S35 x0), (1020020, .var 35 S35 x1)] [] [(9, false), (18, false), (29, false)] 1020021 rfl (by kernel_rfl) (cc h10 (cc h11 (cc h12 c0))) ?_
        exact J1_0 _ (Option.some.inj hF1).symm
noncomputable def F_trace_Agree_b2 (s1 : Int) (x0 : (List S35.ty)) (s2 : Int) : Option (Int ⊕ (Bool ⊕ Unit)) :=
  if (decide (s2 < ((List.length (List.drop 0 (List.take (Int.toNat s1) x0)) : Nat) : Int))) = true then if 0 ≤ s2 ∧ s2 < ((List.length (List.drop 0 (List.take (Int.toNat s1) x0)) : Nat) : Int) then (F_trace_contradicts (List.getD x0 (Int.toNat s1) S35.dflt) (List.getD (List.drop 0 (List.take (Int.toNat s1) x0)) (Int.toNat s2) S35.dflt)).bind fun t1 => (if (t1) = true then some (Sum.inr (Sum.inl false)) else some (Sum.inl (IntKind.wrap .i64 (s2 + 1)))) else none else some (Sum.inr (Sum.inr ()))
noncomputable def F_trace_Agree_b1 (x0 : (List S35.ty)) (s1 : Int) : Option (Int ⊕ (Bool ⊕ Unit)) :=
  if (decide (s1 < ((List.length x0 : Nat) : Int))) = true then if 0 ≤ s1 ∧ s1 < ((List.length x0 : Nat) : Int) then (if ((0 : Int) ≤ s1 ∧ 0 ≤ Int.toNat s1 ∧ Int.toNat s1 ≤ List.length x0) then (loopO (F_trace_Agree_b2 s1 x0) 0).bind (Sum.elim (fun y2 => some (Sum.inr (Sum.inl y2))) (fun j21 => some (Sum.inl (IntKind.wrap .i64 (s1 + 1))))) else none) else none else some (Sum.inr (Sum.inr ()))
noncomputable def F_trace_Agree (x0 : (List S35.ty)) : Option Bool :=
  (loopO (F_trace_Agree_b1 x0) 0).bind (Sum.elim some (fun j11 => some true))
theorem W_trace_Agree {x0 : (List S35.ty)} {y : Bool} (hF0 : F_trace_Agree x0 = some y) : Pure Tryd.prog 14 [.v (.sl S35) x0] (vb y) := by
  unfold F_trace_Agree at hF0
  refine pure_of_run @Tryd.call14 @Tryd.func14 rfl rfl fun w M ho => ?_
  refine sq rfl (rg [(0, .v (.sl S35) x0)] [] [] [] 1020000 rfl (by kernel_rfl) c0 (sq rfl (sq rfl (rg [(0, .v (.sl S35) x0), (7, .v (.sl S35) x0), (8, vi ((List.length x0 : Nat) : Int)), (9, vi 0)] [] [] [] 1020000 rfl (by kernel_rfl) c0 (bk rfl ?_)))))
  obtain ⟨r1, hl1, hF0⟩ := obd hF0
  refine run_cutx 0 rfl (fun j11 => r1 = Sum.inr j11) (fun j11 => []) (fun j11 => []) (fun j11 h1 => ?_) (fun J1_1 => ?_)
  · subst h1
    replace hF0 := sumR hF0
    refine sq rfl (rg [(2, vb true)] [] [] [] 1020000 rfl (by kernel_rfl) c0 ?_)
    obtain rfl := Option.some.inj hF0
    exact ret_pure (q := [vb true]) [.bool] rfl rfl (by kernel_rfl)
  refine run_loop rfl (run_loopO hl1 (fun s1 => [(0, .v (.sl S35) x0), (7, .v (.sl S35) x0), (8, vi ((List.length x0 : Nat) : Int)), (9, vi s1)]) (fun s1 => []) rfl rfl (fun s1 o1 hF1 ih1 hr1 => ?_))
  unfold F_trace_Agree_b1 at hF1
  refine run_again (sq rfl (rg [(0, .v (.sl S35) x0), (7, .v (.sl S35) x0), (8, vi ((List.length x0 : Nat) : Int)), (9, vi s1), (10, vb (decide (s1 < ((List.length x0 : Nat) : Int))))] [] [] [] 1020000 rfl (by kernel_rfl) c0 (sq rfl ?_)))
  refine run_if rfl rfl (fun h2 => ?_) (fun h2 => ?_)
  · replace hF1 := ift h2 hF1
    refine sk rfl (sq rfl (bk rfl (sq rfl ?_)))
    obtain ⟨h3, hF1⟩ := ifg hF1
    refine rg [(0, .v (.sl S35) x0), (3, vi s1), (4, .ptr 1020060 [] 0), (7, .v (.sl S35) x0), (8, vi ((List.length x0 : Nat) : Int)), (9, vi s1)] [(1020060, .var 35 S35 (List.getD x0 (Int.toNat s1) S35.dflt))] [] [] 1020000 rfl (by kernel_rfl) (cc h3 c0) (sq rfl ?_)
    obtain ⟨h4, hF1⟩ := ifg hF1
    refine rg [(0, .v (.sl S35) x0), (4, .ptr 1020060 [] 0), (7, .v (.sl S35) x0), (8, vi ((List.length x0 : Nat) : Int)), (9, vi s1), (16, .v (.sl S35) (List.drop 0 (List.take (Int.toNat s1) x0))), (17, vi ((List.length (List.drop 0 (List.take (Int.toNat s1) x0)) : Nat) : Int)), (18, vi 0)] [(1020060, .var 35 S35 (List.getD x0 (Int.toNat s1) S35.dflt))] [] [] 1020061 rfl (by kernel_rfl) (cc h4.1 (cc h4.2.1 (cc h4.2.2 c0))) (bk rfl ?_)
    obtain ⟨r2, hl2, hF1⟩ := obd hF1
    refine run_cutx 2 rfl (fun j21 => r2 = Sum.inr j21) (fun j21 => [(0, .v (.sl S35) x0), (7, .v (.sl S35) x0), (8, vi ((List.length x0 : Nat) : Int)), (9, vi s1)]) (fun j21 => []) (fun j21 h5 => ?_) (fun J2_1 => ?_)
    · subst h5
      replace hF1 := sumR hF1
      refine eb (rg [(0, .v (.sl S35) x0), (7, .v (.sl S35) x0), (8, vi ((List.length x0 : Nat) : Int)), (9, vi (IntKind.wrap .i64 (s1 + 1)))] [] [] [] 1020000 rfl (by kernel_rfl) c0 ?_)
      exact ih1 _ (Option.some.inj hF1).symm
    refine run_loop rfl (run_loopO hl2 (fun s2 => [(0, .v (.sl S35) x0), (4, .ptr 1020060 [] 0), (7, .v (.sl S35) x0), (8, vi ((List.length x0 : Nat) : Int)), (9, vi s1), (16, .v (.sl S35) (List.drop 0 (List.take (Int.toNat s1) x0))), (17, vi ((List.length (List.drop 0 (List.take (Int.toNat s1) x0)) : Nat) : Int)), (18, vi s2)]) (fun s2 => [(1020060, .var 35 S35 (List.getD x0 (Int.toNat s1) S35.dflt))]) rfl rfl (fun s2 o2 hF2 ih2 hr2 => ?_))
    unfold F_trace_Agree_b2 at hF2
    refine run_again (sq rfl (rg [(0, .v (.sl S35) x0), (4, .ptr 1020060 [] 0), (7, .v (.sl S35) x0), (8, vi ((List.length x0 : Nat) : Int)), (9, vi s1), (16, .v (.sl S35) (List.drop 0 (List.take (Int.toNat s1) x0))), (17, vi ((List.length (List.drop 0 (List.take (Int.toNat s1) x0)) : Nat) : Int)), (18, vi s2), (19, vb (decide (s2 < ((List.length (List.drop 0 (List.take (Int.toNat s1) x0)) : Nat) : Int))))] [(1020060, .var 35 S35 (List.getD x0 (Int.toNat s1) S35.dflt))] [] [] 1020061 rfl (by kernel_rfl) c0 (sq rfl ?_)))
    refine run_if rfl rfl (fun h6 => ?_) (fun h6 => ?_)
    · replace hF2 := ift h6 hF2
      refine sk rfl (sq rfl (bk rfl (sq rfl ?_)))
      obtain ⟨h7, hF2⟩ := ifg hF2
      refine rg [(0, .v (.sl S35) x0), (4, .ptr 1020060 [] 0), (6, .ptr 1020101 [] 0), (7, .v (.sl S35) x0), (8, vi ((List.length x0 : Nat) : Int)), (9, vi s1), (16, .v (.sl S35) (List.drop 0 (List.take (Int.toNat s1) x0))), (17, vi ((List.length (List.drop 0 (List.take (Int.toNat s1) x0)) : Nat) : Int)), (18, vi s2)] [(1020060, .var 35 S35 (List.getD x0 (Int.toNat s1) S35.dflt)), (1020101, .var 35 S35 (List.getD (List.drop 0 (List.take (Int.toNat s1) x0)) (Int.toNat s2) S35.dflt))] [] [] 1020061 rfl (by kernel_rfl) (cc h7 c0) (sq rfl ?_)
      obtain ⟨t1, h8, hF2⟩ := obd hF2
      refine rg [(0, .v (.sl S35) x0), (4, .ptr 1020060 [] 0), (7, .v (.sl S35) x0), (8, vi ((List.length x0 : Nat) : Int)), (9, vi s1), (16, .v (.sl S35) (List.drop 0 (List.take (Int.toNat s1) x0))), (17, vi ((List.length (List.drop 0 (List.take (Int.toNat s1) x0)) : Nat) : Int)), (18, vi s2), (24, vb t1)] [(1020060, .var 35 S35 (List.getD x0 (Int.toNat s1) S35.dflt))] [(2, ⟨[.v S35, .v S35], vb t1, none⟩)] [] 1020102 rfl (by kernel_rfl) (cc (W_trace_contradicts h8) c0) ?_
      refine run_if rfl rfl (fun h9 => ?_) (fun h9 => ?_)
      · replace hF2 := ift h9 hF2
        refine sq rfl (rg [(2, vb false)] [] [] [] 1020061 rfl (by kernel_rfl) c0 ?_)
        have e2 := inrI hr2 hF2
        subst e2
        replace hF1 := sumL hF1
        have e1 := inrI hr1 hF1
        subst e1
        replace hF0 := sumL hF0
        obtain rfl := Option.some.inj hF0
        exact ret_pure (q := [vb false]) [.bool] rfl rfl (by kernel_rfl)
      · replace hF2 := ifn h9 hF2
        refine sk rfl (eb (rg [(0, .v (.sl S35) x0), (4, .ptr 1020060 [] 0), (7, .v (.sl S35) x0), (8, vi ((List.length x0 : Nat) : Int)), (9, vi s1), (16, .v (.sl S35) (List.drop 0 (List.take (Int.toNat s1) x0))), (17, vi ((List.length (List.drop 0 (List.take (Int.toNat s1) x0)) : Nat) : Int)), (18, vi (IntKind.wrap .i64 (s2 + 1)))] [(1020060, .var 35 S35 (List.getD x0 (Int.toNat s1) S35.dflt))] [] [] 1020061 rfl (by kernel_rfl) c0 ?_))
        exact ih2 _ (Option.some.inj hF2).symm
    · replace hF2 := ifn h6 hF2
      refine run_exit rfl rfl (tm (ρ' := [(0, .v (.sl S35) x0), (7, .v (.sl S35) x0), (8, vi ((List.length x0 : Nat) : Int)), (9, vi s1)]) (H' := []) (by kernel_rfl) (by kernel_rfl) rfl ?_)
      exact J2_1 _ (inrI hr2 hF2).symm
  · replace hF1 := ifn h2 hF1
    refine run_exit rfl rfl (tm (ρ' := []) (H' := []) (by kernel_rfl) (by kernel_rfl) rfl ?_)
    exact J1_1 _ (inrI hr1 hF1).symm
noncomputable def F_congressref26_Whose (x0 : S35.ty) (x1 : S35.ty) : Option Bool :=
  (show Option Bool from if (x0.2.1 == x1.2.1) = true then if (x0.2.2.1 == x1.2.2.1) = true then if (x0.2.2.2.1 == x1.2.2.2.1) = true then some (x0.2.2.2.2.1 == x1.2.2.2.2.1) else some false else some false else some false).bind (fun r1 => some r1)
theorem W_congressref26_Whose {x0 : S35.ty} {x1 : S35.ty} {y : Bool} (hF0 : F_congressref26_Whose x0 x1 = some y) : Pure Tryd.prog 31 [.v S35 x0, .v S35 x1] (vb y) := by
  unfold F_congressref26_Whose at hF0
  refine pure_of_run @Tryd.call31 @Tryd.func31 rfl rfl fun w M ho => ?_
  refine sq rfl (rg [(2, .ptr 1020000 [] 0), (3, .ptr 1020020 [] 0)] [(1020000, .var 35 S35 x0), (1020020, .var 35 S35 x1)] [] [] 1020000 rfl (by kernel_rfl) c0 (sq rfl ?_))
  obtain ⟨r1, hF1, hF0⟩ := obd hF0
  refine run_cut (fun r1' => r1 = r1') (fun r1 => [(4, vb r1)]) (fun r1 => []) (fun r1' h1 => ?_) (fun J1_0 => ?_)
  · subst h1
    obtain rfl := Option.some.inj hF0
    exact ret_pure (q := [vb r1]) [.bool] rfl rfl (by kernel_rfl)
  rcases Bool.eq_false_or_eq_true (x0.2.1 == x1.2.1) with h2 | h2
  · replace hF1 := ift h2 hF1
    rcases Bool.eq_false_or_eq_true (x0.2.2.1 == x1.2.2.1) with h3 | h3
    · replace hF1 := ift h3 hF1
      rcases Bool.eq_false_or_eq_true (x0.2.2.2.1 == x1.2.2.2.1) with h4 | h4
      · replace hF1 := ift h4 hF1
        refine rg [(4, vb (x0.2.2.2.2.1 == x1.2.2.2.2.1))] [] [] [(5, true), (12, true), (21, true)] 1020021 rfl (by kernel_rfl) (cc h2 (cc h3 (cc h4 c0))) ?_
        exact J1_0 _ (Option.some.inj hF1).symm
      · replace hF1 := ifn h4 hF1
        refine rg [(4, vb false)] [] [] [(5, true), (12, true), (21, false)] 1020021 rfl (by kernel_rfl) (cc h2 (cc h3 (cc h4 c0))) ?_
        exact J1_0 _ (Option.some.inj hF1).symm
    · replace hF1 := ifn h3 hF1
      refine rg [(4, vb false)] [] [] [(5, true), (12, false)] 1020021 rfl (by kernel_rfl) (cc h2 (cc h3 c0)) ?_
      exact J1_0 _ (Option.some.inj hF1).symm
  · replace hF1 := ifn h2 hF1
    refine rg [(4, vb false)] [] [] [(5, false)] 1020021 rfl (by kernel_rfl) (cc h2 c0) ?_
    exact J1_0 _ (Option.some.inj hF1).symm
noncomputable def F_congressref26_Of_b1 (x0 : (List S35.ty)) (x1 : S35.ty) (s1 : (Int × (List S35.ty))) : Option ((Int × (List S35.ty)) ⊕ (List S35.ty)) :=
  if (decide (s1.1 < ((List.length x0 : Nat) : Int))) = true then if 0 ≤ s1.1 ∧ s1.1 < ((List.length x0 : Nat) : Int) then (F_congressref26_Whose (List.getD x0 (Int.toNat s1.1) S35.dflt) x1).bind fun t1 => (if (t1) = true then if 0 ≤ s1.1 ∧ s1.1 < ((List.length x0 : Nat) : Int) then (if apOk (List.length s1.2 + 1) 160 then (some (Sum.inl (IntKind.wrap .i64 (s1.1 + 1), s1.2 ++ [List.getD x0 (Int.toNat s1.1) S35.dflt]))) else none) else none else some (Sum.inl (IntKind.wrap .i64 (s1.1 + 1), s1.2))) else none else some (Sum.inr s1.2)
noncomputable def F_congressref26_Of (x0 : (List S35.ty)) (x1 : S35.ty) : Option (List S35.ty) :=
  (loopO (F_congressref26_Of_b1 x0 x1) (0, [])).bind (fun r1 => some r1)
theorem W_congressref26_Of {x0 : (List S35.ty)} {x1 : S35.ty} {y : (List S35.ty)} (hF0 : F_congressref26_Of x0 x1 = some y) : Pure Tryd.prog 18 [.v (.sl S35) x0, .v S35 x1] (.v (.sl S35) y) := by
  unfold F_congressref26_Of at hF0
  refine pure_of_run @Tryd.call18 @Tryd.func18 rfl rfl fun w M ho => ?_
  refine sq rfl (rg [(0, .v (.sl S35) x0), (3, .ptr 1020000 [] 0)] [(1020000, .var 35 S35 x1)] [] [] 1020000 rfl (by kernel_rfl) c0 (sq rfl (rg [(0, .v (.sl S35) x0), (3, .ptr 1020000 [] 0), (5, .row 1020001)] [(1020000, .var 35 S35 x1), (1020001, .row 35 S35 [])] [] [] 1020001 rfl (by kernel_rfl) c0 (sq rfl (sq rfl (rg [(0, .v (.sl S35) x0), (3, .ptr 1020000 [] 0), (5, .row 1020001), (6, vi 0)] [(1020000, .var 35 S35 x1), (1020001, .row 35 S35 [])] [] [] 1020002 rfl (by kernel_rfl) c0 (bk rfl (run_ren (ρ' := [(0, .v (.sl S35) x0), (3, .ptr 1020000 [] 0), (5, .row 1105), (6, vi 0)]) (H' := [(1105, .row 35 S35 []), (1020000, .var 35 S35 x1)]) 1020001 1105 rfl (by kernel_rfl) rfl (by kernel_rfl) rfl ?_))))))))
  obtain ⟨r1, hl1, hF0⟩ := obd hF0
  refine run_cutx 0 rfl (fun r1' => r1 = r1') (fun r1 => [(5, .row 1105)]) (fun r1 => [(1105, .row 35 S35 r1)]) (fun r1' h1 => ?_) (fun J1_0 => ?_)
  · subst h1
    refine sq rfl (rg [(4, .row 1105)] [(1105, .row 35 S35 r1)] [] [] 1020000 rfl (by kernel_rfl) c0 ?_)
    obtain rfl := Option.some.inj hF0
    refine run_frz (ρ' := [(4, .v (.sl S35) r1)]) (H' := []) 1105 rfl rfl rfl (by kernel_rfl) (by kernel_rfl) ?_
    exact ret_pure (q := [.v (.sl S35) r1]) [(.sl S35)] rfl rfl (by kernel_rfl)
  refine run_loop rfl (run_loopO hl1 (fun s1 => [(0, .v (.sl S35) x0), (3, .ptr 1020000 [] 0), (5, .row 1105), (6, vi s1.1)]) (fun s1 => [(1105, .row 35 S35 s1.2), (1020000, .var 35 S35 x1)]) rfl rfl (fun s1 o1 hF1 ih1 hr1 => ?_))
  unfold F_congressref26_Of_b1 at hF1
  refine run_again (sq rfl (sq rfl (rg [(0, .v (.sl S35) x0), (3, .ptr 1020000 [] 0), (5, .row 1105), (6, vi s1.1), (11, vb (decide (s1.1 < ((List.length x0 : Nat) : Int))))] [(1105, .row 35 S35 s1.2), (1020000, .var 35 S35 x1)] [] [] 1020001 rfl (by kernel_rfl) c0 ?_)))
  refine run_if rfl rfl (fun h2 => ?_) (fun h2 => ?_)
  · replace hF1 := ift h2 hF1
    refine sk rfl (sq rfl (bk rfl (sq rfl ?_)))
    obtain ⟨h3, hF1⟩ := ifg hF1
    obtain ⟨t1, h4, hF1⟩ := obd hF1
    refine rG [(0, .v (.sl S35) x0), (3, .ptr 1020000 [] 0), (5, .row 1105), (6, vi s1.1), (19, vb t1)] [(1105, .row 35 S35 s1.2), (1020000, .var 35 S35 x1)] [(5, ⟨[.v S35, .v S35], vb t1, none⟩)] [] 1020001 rfl rfl (by kernel_rfl) (cc h3 (cc (W_congressref26_Whose h4) c0)) ?_
    refine run_if rfl rfl (fun h5 => ?_) (fun h5 => ?_)
    · replace hF1 := ift h5 hF1
      obtain ⟨h6, hF1⟩ := ifg hF1
      obtain ⟨h7, hF1⟩ := ifg hF1
      refine rg [(0, .v (.sl S35) x0), (3, .ptr 1020000 [] 0), (5, .row 1020121), (6, vi s1.1)] [(1020000, .var 35 S35 x1), (1020121, .row 35 S35 (s1.2 ++ [List.getD x0 (Int.toNat s1.1) S35.dflt]))] [] [] 1020001 rfl (by kernel_rfl) (cc h6 (cc h7.1 (cc h7.2 c0))) (eb (rg [(0, .v (.sl S35) x0), (3, .ptr 1020000 [] 0), (5, .row 1020121), (6, vi (IntKind.wrap .i64 (s1.1 + 1)))] [(1020000, .var 35 S35 x1), (1020121, .row 35 S35 (s1.2 ++ [List.getD x0 (Int.toNat s1.1) S35.dflt]))] [] [] 1020122 rfl (by kernel_rfl) c0 (run_ren (ρ' := [(0, .v (.sl S35) x0), (3, .ptr 1020000 [] 0), (5, .row 1105), (6, vi (IntKind.wrap .i64 (s1.1 + 1)))]) (H' := [(1105, .row 35 S35 (s1.2 ++ [List.getD x0 (Int.toNat s1.1) S35.dflt])), (1020000, .var 35 S35 x1)]) 1020121 1105 rfl (by kernel_rfl) rfl (by kernel_rfl) rfl ?_)))
      exact ih1 _ (Option.some.inj hF1).symm
    · replace hF1 := ifn h5 hF1
      refine sk rfl (eb (rg [(0, .v (.sl S35) x0), (3, .ptr 1020000 [] 0), (5, .row 1105), (6, vi (IntKind.wrap .i64 (s1.1 + 1)))] [(1105, .row 35 S35 s1.2), (1020000, .var 35 S35 x1)] [] [] 1020001 rfl (by kernel_rfl) c0 ?_))
      exact ih1 _ (Option.some.inj hF1).symm
  · replace hF1 := ifn h2 hF1
    refine run_exit rfl rfl (tm (ρ' := [(5, .row 1105)]) (H' := [(1105, .row 35 S35 s1.2)]) (by kernel_rfl) (by kernel_rfl) rfl ?_)
    exact J1_0 _ (inrI hr1 hF1).symm
noncomputable def F_congressref26_Line (x0 : S35.ty) : Option Str :=
  (F_congressref20_Signed x0.1).bind fun t1 => (if List.length t1 + List.length ([32] : Str) ≤ maxLen then (F_congressref20_Signed x0.2.1).bind fun t2 => (if List.length (t1 ++ ([32] : Str)) + List.length t2 ≤ maxLen then (if List.length ((t1 ++ ([32] : Str)) ++ t2) + List.length ([32] : Str) ≤ maxLen then (F_congressref20_Digits (IntKind.wrap .u64 x0.2.2.1)).bind fun t3 => (if List.length (((t1 ++ ([32] : Str)) ++ t2) ++ ([32] : Str)) + List.length t3 ≤ maxLen then (if List.length ((((t1 ++ ([32] : Str)) ++ t2) ++ ([32] : Str)) ++ t3) + List.length ([32] : Str) ≤ maxLen then (F_congressref20_Signed x0.2.2.2.1).bind fun t4 => (if List.length (((((t1 ++ ([32] : Str)) ++ t2) ++ ([32] : Str)) ++ t3) ++ ([32] : Str)) + List.length t4 ≤ maxLen then (if List.length ((((((t1 ++ ([32] : Str)) ++ t2) ++ ([32] : Str)) ++ t3) ++ ([32] : Str)) ++ t4) + List.length ([32] : Str) ≤ maxLen then (F_congressref20_Digits x0.2.2.2.2.1).bind fun t5 => (if List.length (((((((t1 ++ ([32] : Str)) ++ t2) ++ ([32] : Str)) ++ t3) ++ ([32] : Str)) ++ t4) ++ ([32] : Str)) + List.length t5 ≤ maxLen then (if List.length ((((((((t1 ++ ([32] : Str)) ++ t2) ++ ([32] : Str)) ++ t3) ++ ([32] : Str)) ++ t4) ++ ([32] : Str)) ++ t5) + List.length ([32] : Str) ≤ maxLen then (if (x0.2.2.2.2.2.1 == 0) = true then (F_congressref20_Signed x0.2.2.2.2.2.2.1).bind fun t6 => (if List.length ([97, 110, 115, 119, 101, 114, 32] : Str) + List.length t6 ≤ maxLen then (if List.length (([97, 110, 115, 119, 101, 114, 32] : Str) ++ t6) + List.length ([32] : Str) ≤ maxLen then (F_congressref20_Digits x0.2.2.2.2.2.2.2.1).bind fun t7 => (if List.length ((([97, 110, 115, 119, 101, 114, 32] : Str) ++ t6) ++ ([32] : Str)) + List.length t7 ≤ maxLen then (if List.length (((([97, 110, 115, 119, 101, 114, 32] : Str) ++ t6) ++ ([32] : Str)) ++ t7) + List.length ([32] : Str) ≤ maxLen then (F_congressref20_Digits x0.2.2.2.2.2.2.2.2.1).bind fun t8 => (if List.length ((((([97, 110, 115, 119, 101, 114, 32] : Str) ++ t6) ++ ([32] : Str)) ++ t7) ++ ([32] : Str)) + List.length t8 ≤ maxLen then (if List.length (((((([97, 110, 115, 119, 101, 114, 32] : Str) ++ t6) ++ ([32] : Str)) ++ t7) ++ ([32] : Str)) ++ t8) + List.length ([32] : Str) ≤ maxLen then (F_congressref20_Signed x0.2.2.2.2.2.2.2.2.2.1).bind fun t9 => (if List.length ((((((([97, 110, 115, 119, 101, 114, 32] : Str) ++ t6) ++ ([32] : Str)) ++ t7) ++ ([32] : Str)) ++ t8) ++ ([32] : Str)) + List.length t9 ≤ maxLen then (if List.length (((((((((t1 ++ ([32] : Str)) ++ t2) ++ ([32] : Str)) ++ t3) ++ ([32] : Str)) ++ t4) ++ ([32] : Str)) ++ t5) ++ ([32] : Str)) + List.length (((((((([97, 110, 115, 119, 101, 114, 32] : Str) ++ t6) ++ ([32] : Str)) ++ t7) ++ ([32] : Str)) ++ t8) ++ ([32] : Str)) ++ t9) ≤ maxLen then (if List.length ((((((((((t1 ++ ([32] : Str)) ++ t2) ++ ([32] : Str)) ++ t3) ++ ([32] : Str)) ++ t4) ++ ([32] : Str)) ++ t5) ++ ([32] : Str)) ++ (((((((([97, 110, 115, 119, 101, 114, 32] : Str) ++ t6) ++ ([32] : Str)) ++ t7) ++ ([32] : Str)) ++ t8) ++ ([32] : Str)) ++ t9)) + List.length ([10] : Str) ≤ maxLen then (some (((((((((((t1 ++ ([32] : Str)) ++ t2) ++ ([32] : Str)) ++ t3) ++ ([32] : Str)) ++ t4) ++ ([32] : Str)) ++ t5) ++ ([32] : Str)) ++ (((((((([97, 110, 115, 119, 101, 114, 32] : Str) ++ t6) ++ ([32] : Str)) ++ t7) ++ ([32] : Str)) ++ t8) ++ ([32] : Str)) ++ t9)) ++ ([10] : Str))) else none) else none) else none) else none) else none) else none) else none) else none) else none) else if (x0.2.2.2.2.2.1 == 1) = true then (F_congressref20_Digits (IntKind.wrap .u64 x0.2.2.2.2.2.2.2.2.2.2.1.1)).bind fun t10 => (if List.length ([99, 111, 110, 102, 32] : Str) + List.length t10 ≤ maxLen then (if List.length (([99, 111, 110, 102, 32] : Str) ++ t10) + List.length ([32] : Str) ≤ maxLen then (F_congressref20_Digits (IntKind.wrap .u64 x0.2.2.2.2.2.2.2.2.2.2.1.2.1)).bind fun t11 => (if List.length ((([99, 111, 110, 102, 32] : Str) ++ t10) ++ ([32] : Str)) + List.length t11 ≤ maxLen then (if List.length (((([99, 111, 110, 102, 32] : Str) ++ t10) ++ ([32] : Str)) ++ t11) + List.length ([32] : Str) ≤ maxLen then (F_congressref20_Digits (IntKind.wrap .u64 x0.2.2.2.2.2.2.2.2.2.2.1.2.2)).bind fun t12 => (if List.length ((((([99, 111, 110, 102, 32] : Str) ++ t10) ++ ([32] : Str)) ++ t11) ++ ([32] : Str)) + List.length t12 ≤ maxLen then (if List.length (((((((((t1 ++ ([32] : Str)) ++ t2) ++ ([32] : Str)) ++ t3) ++ ([32] : Str)) ++ t4) ++ ([32] : Str)) ++ t5) ++ ([32] : Str)) + List.length (((((([99, 111, 110, 102, 32] : Str) ++ t10) ++ ([32] : Str)) ++ t11) ++ ([32] : Str)) ++ t12) ≤ maxLen then (if List.length ((((((((((t1 ++ ([32] : Str)) ++ t2) ++ ([32] : Str)) ++ t3) ++ ([32] : Str)) ++ t4) ++ ([32] : Str)) ++ t5) ++ ([32] : Str)) ++ (((((([99, 111, 110, 102, 32] : Str) ++ t10) ++ ([32] : Str)) ++ t11) ++ ([32] : Str)) ++ t12)) + List.length ([10] : Str) ≤ maxLen then (some (((((((((((t1 ++ ([32] : Str)) ++ t2) ++ ([32] : Str)) ++ t3) ++ ([32] : Str)) ++ t4) ++ ([32] : Str)) ++ t5) ++ ([32] : Str)) ++ (((((([99, 111, 110, 102, 32] : Str) ++ t10) ++ ([32] : Str)) ++ t11) ++ ([32] : Str)) ++ t12)) ++ ([10] : Str))) else none) else none) else none) else none) else none) else none) else none) else if (x0.2.2.2.2.2.1 == 2) = true then (F_congressref20_Signed x0.2.2.2.2.2.2.2.2.2.1).bind fun t13 => (if List.length ([118, 105, 101, 119, 32] : Str) + List.length t13 ≤ maxLen then (if List.length (([118, 105, 101, 119, 32] : Str) ++ t13) + List.length ([32] : Str) ≤ maxLen then (F_congressref20_Digits x0.2.2.2.2.2.2.2.2.1).bind fun t14 => (if List.length ((([118, 105, 101, 119, 32] : Str) ++ t13) ++ ([32] : Str)) + List.length t14 ≤ maxLen then (if List.length (((([118, 105, 101, 119, 32] : Str) ++ t13) ++ ([32] : Str)) ++ t14) + List.length ([32] : Str) ≤ maxLen then (if List.length ((((([118, 105, 101, 119, 32] : Str) ++ t13) ++ ([32] : Str)) ++ t14) ++ ([32] : Str)) + List.length x0.2.2.2.2.2.2.2.2.2.2.2.2.2.2 ≤ maxLen then (if List.length (((((((((t1 ++ ([32] : Str)) ++ t2) ++ ([32] : Str)) ++ t3) ++ ([32] : Str)) ++ t4) ++ ([32] : Str)) ++ t5) ++ ([32] : Str)) + List.length (((((([118, 105, 101, 119, 32] : Str) ++ t13) ++ ([32] : Str)) ++ t14) ++ ([32] : Str)) ++ x0.2.2.2.2.2.2.2.2.2.2.2.2.2.2) ≤ maxLen then (if List.length ((((((((((t1 ++ ([32] : Str)) ++ t2) ++ ([32] : Str)) ++ t3) ++ ([32] : Str)) ++ t4) ++ ([32] : Str)) ++ t5) ++ ([32] : Str)) ++ (((((([118, 105, 101, 119, 32] : Str) ++ t13) ++ ([32] : Str)) ++ t14) ++ ([32] : Str)) ++ x0.2.2.2.2.2.2.2.2.2.2.2.2.2.2)) + List.length ([10] : Str) ≤ maxLen then (some (((((((((((t1 ++ ([32] : Str)) ++ t2) ++ ([32] : Str)) ++ t3) ++ ([32] : Str)) ++ t4) ++ ([32] : Str)) ++ t5) ++ ([32] : Str)) ++ (((((([118, 105, 101, 119, 32] : Str) ++ t13) ++ ([32] : Str)) ++ t14) ++ ([32] : Str)) ++ x0.2.2.2.2.2.2.2.2.2.2.2.2.2.2)) ++ ([10] : Str))) else none) else none) else none) else none) else none) else none) else none) else if (x0.2.2.2.2.2.1 == 3) = true then (F_congressref20_Signed x0.2.2.2.2.2.2.2.2.2.1).bind fun t15 => (if List.length ([109, 101, 115, 115, 97, 103, 101, 32] : Str) + List.length t15 ≤ maxLen then (if List.length (([109, 101, 115, 115, 97, 103, 101, 32] : Str) ++ t15) + List.length ([32] : Str) ≤ maxLen then (F_congressref20_Signed x0.2.2.2.2.2.2.2.2.2.2.2.2.1.2.1).bind fun t16 => (if List.length ((([109, 101, 115, 115, 97, 103, 101, 32] : Str) ++ t15) ++ ([32] : Str)) + List.length t16 ≤ maxLen then (if List.length (((([109, 101, 115, 115, 97, 103, 101, 32] : Str) ++ t15) ++ ([32] : Str)) ++ t16) + List.length ([32] : Str) ≤ maxLen then (F_congressref20_Digits x0.2.2.2.2.2.2.2.2.2.2.2.2.1.2.2).bind fun t17 => (if List.length ((((([109, 101, 115, 115, 97, 103, 101, 32] : Str) ++ t15) ++ ([32] : Str)) ++ t16) ++ ([32] : Str)) + List.length t17 ≤ maxLen then (if List.length (((((([109, 101, 115, 115, 97, 103, 101, 32] : Str) ++ t15) ++ ([32] : Str)) ++ t16) ++ ([32] : Str)) ++ t17) + List.length ([32] : Str) ≤ maxLen then (F_congressref20_Digits x0.2.2.2.2.2.2.2.2.1).bind fun t18 => (if List.length ((((((([109, 101, 115, 115, 97, 103, 101, 32] : Str) ++ t15) ++ ([32] : Str)) ++ t16) ++ ([32] : Str)) ++ t17) ++ ([32] : Str)) + List.length t18 ≤ maxLen then (if List.length (((((((([109, 101, 115, 115, 97, 103, 101, 32] : Str) ++ t15) ++ ([32] : Str)) ++ t16) ++ ([32] : Str)) ++ t17) ++ ([32] : Str)) ++ t18) + List.length ([32, 61] : Str) ≤ maxLen then (if List.length ((((((((([109, 101, 115, 115, 97, 103, 101, 32] : Str) ++ t15) ++ ([32] : Str)) ++ t16) ++ ([32] : Str)) ++ t17) ++ ([32] : Str)) ++ t18) ++ ([32, 61] : Str)) + List.length x0.2.2.2.2.2.2.2.2.2.2.2.2.2.1 ≤ maxLen then (if List.length (((((((((t1 ++ ([32] : Str)) ++ t2) ++ ([32] : Str)) ++ t3) ++ ([32] : Str)) ++ t4) ++ ([32] : Str)) ++ t5) ++ ([32] : Str)) + List.length (((((((((([109, 101, 115, 115, 97, 103, 101, 32] : Str) ++ t15) ++ ([32] : Str)) ++ t16) ++ ([32] : Str)) ++ t17) ++ ([32] : Str)) ++ t18) ++ ([32, 61] : Str)) ++ x0.2.2.2.2.2.2.2.2.2.2.2.2.2.1) ≤ maxLen then (if List.length ((((((((((t1 ++ ([32] : Str)) ++ t2) ++ ([32] : Str)) ++ t3) ++ ([32] : Str)) ++ t4) ++ ([32] : Str)) ++ t5) ++ ([32] : Str)) ++ (((((((((([109, 101, 115, 115, 97, 103, 101, 32] : Str) ++ t15) ++ ([32] : Str)) ++ t16) ++ ([32] : Str)) ++ t17) ++ ([32] : Str)) ++ t18) ++ ([32, 61] : Str)) ++ x0.2.2.2.2.2.2.2.2.2.2.2.2.2.1)) + List.length ([10] : Str) ≤ maxLen then (some (((((((((((t1 ++ ([32] : Str)) ++ t2) ++ ([32] : Str)) ++ t3) ++ ([32] : Str)) ++ t4) ++ ([32] : Str)) ++ t5) ++ ([32] : Str)) ++ (((((((((([109, 101, 115, 115, 97, 103, 101, 32] : Str) ++ t15) ++ ([32] : Str)) ++ t16) ++ ([32] : Str)) ++ t17) ++ ([32] : Str)) ++ t18) ++ ([32, 61] : Str)) ++ x0.2.2.2.2.2.2.2.2.2.2.2.2.2.1)) ++ ([10] : Str))) else none) else none) else none) else none) else none) else none) else none) else none) else none) else none) else none) else if List.length (((((((((t1 ++ ([32] : Str)) ++ t2) ++ ([32] : Str)) ++ t3) ++ ([32] : Str)) ++ t4) ++ ([32] : Str)) ++ t5) ++ ([32] : Str)) + List.length ([10] : Str) ≤ maxLen then (some ((((((((((t1 ++ ([32] : Str)) ++ t2) ++ ([32] : Str)) ++ t3) ++ ([32] : Str)) ++ t4) ++ ([32] : Str)) ++ t5) ++ ([32] : Str)) ++ ([10] : Str))) else none) else none) else none) else none) else none) else none) else none) else none) else none) else none)
theorem W_congressref26_Line {x0 : S35.ty} {y : Str} (hF0 : F_congressref26_Line x0 = some y) : Pure Tryd.prog 9 [.v S35 x0] (vs y) := by
  unfold F_congressref26_Line at hF0
  refine pure_of_run @Tryd.call9 @Tryd.func9 rfl rfl fun w M ho => ?_
  refine sq rfl (rg [(1, .ptr 1020000 [] 0)] [(1020000, .var 35 S35 x0)] [] [] 1020000 rfl (by kernel_rfl) c0 (sq rfl ?_))
  obtain ⟨t1, h1, hF0⟩ := obd hF0
  obtain ⟨h2, hF0⟩ := ifg hF0
  obtain ⟨t2, h3, hF0⟩ := obd hF0
  obtain ⟨h4, hF0⟩ := ifg hF0
  obtain ⟨h5, hF0⟩ := ifg hF0
  obtain ⟨t3, h6, hF0⟩ := obd hF0
  obtain ⟨h7, hF0⟩ := ifg hF0
  obtain ⟨h8, hF0⟩ := ifg hF0
  obtain ⟨t4, h9, hF0⟩ := obd hF0
  obtain ⟨h10, hF0⟩ := ifg hF0
  obtain ⟨h11, hF0⟩ := ifg hF0
  obtain ⟨t5, h12, hF0⟩ := obd hF0
  obtain ⟨h13, hF0⟩ := ifg hF0
  obtain ⟨h14, hF0⟩ := ifg hF0
  refine rG [(1, .ptr 1020000 [] 0), (3, vs (((((((((t1 ++ ([32] : Str)) ++ t2) ++ ([32] : Str)) ++ t3) ++ ([32] : Str)) ++ t4) ++ ([32] : Str)) ++ t5) ++ ([32] : Str)))] [(1020000, .var 35 S35 x0)] [(2, ⟨[.v (.int .i64)], vs t1, none⟩), (6, ⟨[.v (.int .i64)], vs t2, none⟩), (12, ⟨[.v (.int .u64)], vs t3, none⟩), (18, ⟨[.v (.int .i64)], vs t4, none⟩), (25, ⟨[.v (.int .u64)], vs t5, none⟩)] [] 1020001 rfl rfl (by kernel_rfl) (cc (W_congressref20_Signed h1) (cc h2 (cc (W_congressref20_Signed h3) (cc h4 (cc h5 (cc (W_congressref20_Digits h6) (cc h7 (cc h8 (cc (W_congressref20_Signed h9) (cc h10 (cc h11 (cc (W_congressref20_Digits h12) (cc h13 (cc h14 c0)))))))))))))) (sq rfl (sq rfl (rg [(1, .ptr 1020000 [] 0), (3, vs (((((((((t1 ++ ([32] : Str)) ++ t2) ++ ([32] : Str)) ++ t3) ++ ([32] : Str)) ++ t4) ++ ([32] : Str)) ++ t5) ++ ([32] : Str))), (35, vi x0.2.2.2.2.2.1)] [(1020000, .var 35 S35 x0)] [] [] 1020001 rfl (by kernel_rfl) c0 (bk rfl (sq rfl (rg [(1, .ptr 1020000 [] 0), (3, vs (((((((((t1 ++ ([32] : Str)) ++ t2) ++ ([32] : Str)) ++ t3) ++ ([32] : Str)) ++ t4) ++ ([32] : Str)) ++ t5) ++ ([32] : Str))), (35, vi x0.2.2.2.2.2.1), (36, vb (x0.2.2.2.2.2.1 == 0))] [(1020000, .var 35 S35 x0)] [] [] 1020001 rfl (by kernel_rfl) c0 ?_))))))
  refine run_if rfl rfl (fun h15 => ?_) (fun h15 => ?_)
  · replace hF0 := ift h15 hF0
    obtain ⟨t6, h16, hF0⟩ := obd hF0
    obtain ⟨h17, hF0⟩ := ifg hF0
    obtain ⟨h18, hF0⟩ := ifg hF0
    obtain ⟨t7, h19, hF0⟩ := obd hF0
    obtain ⟨h20, hF0⟩ := ifg hF0
    obtain ⟨h21, hF0⟩ := ifg hF0
    obtain ⟨t8, h22, hF0⟩ := obd hF0
    obtain ⟨h23, hF0⟩ := ifg hF0
    obtain ⟨h24, hF0⟩ := ifg hF0
    obtain ⟨t9, h25, hF0⟩ := obd hF0
    obtain ⟨h26, hF0⟩ := ifg hF0
    obtain ⟨h27, hF0⟩ := ifg hF0
    refine rG [(3, vs ((((((((((t1 ++ ([32] : Str)) ++ t2) ++ ([32] : Str)) ++ t3) ++ ([32] : Str)) ++ t4) ++ ([32] : Str)) ++ t5) ++ ([32] : Str)) ++ (((((((([97, 110, 115, 119, 101, 114, 32] : Str) ++ t6) ++ ([32] : Str)) ++ t7) ++ ([32] : Str)) ++ t8) ++ ([32] : Str)) ++ t9)))] [] [(5, ⟨[.v (.int .i64)], vs t6, none⟩), (12, ⟨[.v (.int .u64)], vs t7, none⟩), (19, ⟨[.v (.int .u64)], vs t8, none⟩), (26, ⟨[.v (.int .i64)], vs t9, none⟩)] [] 1020001 rfl rfl (by kernel_rfl) (cc (W_congressref20_Signed h16) (cc h17 (cc h18 (cc (W_congressref20_Digits h19) (cc h20 (cc h21 (cc (W_congressref20_Digits h22) (cc h23 (cc h24 (cc (W_congressref20_Signed h25) (cc h26 (cc h27 c0)))))))))))) (eb (sq rfl ?_))
    obtain ⟨h28, hF0⟩ := ifg hF0
    refine rg [(2, vs (((((((((((t1 ++ ([32] : Str)) ++ t2) ++ ([32] : Str)) ++ t3) ++ ([32] : Str)) ++ t4) ++ ([32] : Str)) ++ t5) ++ ([32] : Str)) ++ (((((((([97, 110, 115, 119, 101, 114, 32] : Str) ++ t6) ++ ([32] : Str)) ++ t7) ++ ([32] : Str)) ++ t8) ++ ([32] : Str)) ++ t9)) ++ ([10] : Str)))] [] [] [] 1020000 rfl (by kernel_rfl) (cc h28 c0) ?_
    obtain rfl := Option.some.inj hF0
    exact ret_pure (q := [vs (((((((((((t1 ++ ([32] : Str)) ++ t2) ++ ([32] : Str)) ++ t3) ++ ([32] : Str)) ++ t4) ++ ([32] : Str)) ++ t5) ++ ([32] : Str)) ++ (((((((([97, 110, 115, 119, 101, 114, 32] : Str) ++ t6) ++ ([32] : Str)) ++ t7) ++ ([32] : Str)) ++ t8) ++ ([32] : Str)) ++ t9)) ++ ([10] : Str))]) [.str] rfl rfl (by kernel_rfl)
  · replace hF0 := ifn h15 hF0
    refine sq rfl (rg [(1, .ptr 1020000 [] 0), (3, vs (((((((((t1 ++ ([32] : Str)) ++ t2) ++ ([32] : Str)) ++ t3) ++ ([32] : Str)) ++ t4) ++ ([32] : Str)) ++ t5) ++ ([32] : Str))), (35, vi x0.2.2.2.2.2.1), (67, vb (x0.2.2.2.2.2.1 == 1))] [(1020000, .var 35 S35 x0)] [] [] 1020001 rfl (by kernel_rfl) c0 ?_)
    refine run_if rfl rfl (fun h29 => ?_) (fun h29 => ?_)
    · replace hF0 := ift h29 hF0
      obtain ⟨t10, h30, hF0⟩ := obd hF0
      obtain ⟨h31, hF0⟩ := ifg hF0
      obtain ⟨h32, hF0⟩ := ifg hF0
      obtain ⟨t11, h33, hF0⟩ := obd hF0
      obtain ⟨h34, hF0⟩ := ifg hF0
      obtain ⟨h35, hF0⟩ := ifg hF0
      obtain ⟨t12, h36, hF0⟩ := obd hF0
      obtain ⟨h37, hF0⟩ := ifg hF0
      obtain ⟨h38, hF0⟩ := ifg hF0
      refine rG [(3, vs ((((((((((t1 ++ ([32] : Str)) ++ t2) ++ ([32] : Str)) ++ t3) ++ ([32] : Str)) ++ t4) ++ ([32] : Str)) ++ t5) ++ ([32] : Str)) ++ (((((([99, 111, 110, 102, 32] : Str) ++ t10) ++ ([32] : Str)) ++ t11) ++ ([32] : Str)) ++ t12)))] [] [(7, ⟨[.v (.int .u64)], vs t10, none⟩), (16, ⟨[.v (.int .u64)], vs t11, none⟩), (25, ⟨[.v (.int .u64)], vs t12, none⟩)] [] 1020001 rfl rfl (by kernel_rfl) (cc (W_congressref20_Digits h30) (cc h31 (cc h32 (cc (W_congressref20_Digits h33) (cc h34 (cc h35 (cc (W_congressref20_Digits h36) (cc h37 (cc h38 c0))))))))) (eb (sq rfl ?_))
      obtain ⟨h39, hF0⟩ := ifg hF0
      refine rg [(2, vs (((((((((((t1 ++ ([32] : Str)) ++ t2) ++ ([32] : Str)) ++ t3) ++ ([32] : Str)) ++ t4) ++ ([32] : Str)) ++ t5) ++ ([32] : Str)) ++ (((((([99, 111, 110, 102, 32] : Str) ++ t10) ++ ([32] : Str)) ++ t11) ++ ([32] : Str)) ++ t12)) ++ ([10] : Str)))] [] [] [] 1020000 rfl (by kernel_rfl) (cc h39 c0) ?_
      obtain rfl := Option.some.inj hF0
      exact ret_pure (q := [vs (((((((((((t1 ++ ([32] : Str)) ++ t2) ++ ([32] : Str)) ++ t3) ++ ([32] : Str)) ++ t4) ++ ([32] : Str)) ++ t5) ++ ([32] : Str)) ++ (((((([99, 111, 110, 102, 32] : Str) ++ t10) ++ ([32] : Str)) ++ t11) ++ ([32] : Str)) ++ t12)) ++ ([10] : Str))]) [.str] rfl rfl (by kernel_rfl)
    · replace hF0 := ifn h29 hF0
      refine sq rfl (rg [(1, .ptr 1020000 [] 0), (3, vs (((((((((t1 ++ ([32] : Str)) ++ t2) ++ ([32] : Str)) ++ t3) ++ ([32] : Str)) ++ t4) ++ ([32] : Str)) ++ t5) ++ ([32] : Str))), (35, vi x0.2.2.2.2.2.1), (97, vb (x0.2.2.2.2.2.1 == 2))] [(1020000, .var 35 S35 x0)] [] [] 1020001 rfl (by kernel_rfl) c0 ?_)
      refine run_if rfl rfl (fun h40 => ?_) (fun h40 => ?_)
      · replace hF0 := ift h40 hF0
        obtain ⟨t13, h41, hF0⟩ := obd hF0
        obtain ⟨h42, hF0⟩ := ifg hF0
        obtain ⟨h43, hF0⟩ := ifg hF0
        obtain ⟨t14, h44, hF0⟩ := obd hF0
        obtain ⟨h45, hF0⟩ := ifg hF0
        obtain ⟨h46, hF0⟩ := ifg hF0
        obtain ⟨h47, hF0⟩ := ifg hF0
        obtain ⟨h48, hF0⟩ := ifg hF0
        refine rG [(3, vs ((((((((((t1 ++ ([32] : Str)) ++ t2) ++ ([32] : Str)) ++ t3) ++ ([32] : Str)) ++ t4) ++ ([32] : Str)) ++ t5) ++ ([32] : Str)) ++ (((((([118, 105, 101, 119, 32] : Str) ++ t13) ++ ([32] : Str)) ++ t14) ++ ([32] : Str)) ++ x0.2.2.2.2.2.2.2.2.2.2.2.2.2.2)))] [] [(5, ⟨[.v (.int .i64)], vs t13, none⟩), (12, ⟨[.v (.int .u64)], vs t14, none⟩)] [] 1020001 rfl rfl (by kernel_rfl) (cc (W_congressref20_Signed h41) (cc h42 (cc h43 (cc (W_congressref20_Digits h44) (cc h45 (cc h46 (cc h47 (cc h48 c0)))))))) (eb (sq rfl ?_))
        obtain ⟨h49, hF0⟩ := ifg hF0
        refine rg [(2, vs (((((((((((t1 ++ ([32] : Str)) ++ t2) ++ ([32] : Str)) ++ t3) ++ ([32] : Str)) ++ t4) ++ ([32] : Str)) ++ t5) ++ ([32] : Str)) ++ (((((([118, 105, 101, 119, 32] : Str) ++ t13) ++ ([32] : Str)) ++ t14) ++ ([32] : Str)) ++ x0.2.2.2.2.2.2.2.2.2.2.2.2.2.2)) ++ ([10] : Str)))] [] [] [] 1020000 rfl (by kernel_rfl) (cc h49 c0) ?_
        obtain rfl := Option.some.inj hF0
        exact ret_pure (q := [vs (((((((((((t1 ++ ([32] : Str)) ++ t2) ++ ([32] : Str)) ++ t3) ++ ([32] : Str)) ++ t4) ++ ([32] : Str)) ++ t5) ++ ([32] : Str)) ++ (((((([118, 105, 101, 119, 32] : Str) ++ t13) ++ ([32] : Str)) ++ t14) ++ ([32] : Str)) ++ x0.2.2.2.2.2.2.2.2.2.2.2.2.2.2)) ++ ([10] : Str))]) [.str] rfl rfl (by kernel_rfl)
      · replace hF0 := ifn h40 hF0
        refine sq rfl (rg [(1, .ptr 1020000 [] 0), (3, vs (((((((((t1 ++ ([32] : Str)) ++ t2) ++ ([32] : Str)) ++ t3) ++ ([32] : Str)) ++ t4) ++ ([32] : Str)) ++ t5) ++ ([32] : Str))), (120, vb (x0.2.2.2.2.2.1 == 3))] [(1020000, .var 35 S35 x0)] [] [] 1020001 rfl (by kernel_rfl) c0 ?_)
        refine run_if rfl rfl (fun h50 => ?_) (fun h50 => ?_)
        · replace hF0 := ift h50 hF0
          obtain ⟨t15, h51, hF0⟩ := obd hF0
          obtain ⟨h52, hF0⟩ := ifg hF0
          obtain ⟨h53, hF0⟩ := ifg hF0
          obtain ⟨t16, h54, hF0⟩ := obd hF0
          obtain ⟨h55, hF0⟩ := ifg hF0
          obtain ⟨h56, hF0⟩ := ifg hF0
          obtain ⟨t17, h57, hF0⟩ := obd hF0
          obtain ⟨h58, hF0⟩ := ifg hF0
          obtain ⟨h59, hF0⟩ := ifg hF0
          obtain ⟨t18, h60, hF0⟩ := obd hF0
          obtain ⟨h61, hF0⟩ := ifg hF0
          obtain ⟨h62, hF0⟩ := ifg hF0
          obtain ⟨h63, hF0⟩ := ifg hF0
          obtain ⟨h64, hF0⟩ := ifg hF0
          refine rG [(3, vs ((((((((((t1 ++ ([32] : Str)) ++ t2) ++ ([32] : Str)) ++ t3) ++ ([32] : Str)) ++ t4) ++ ([32] : Str)) ++ t5) ++ ([32] : Str)) ++ (((((((((([109, 101, 115, 115, 97, 103, 101, 32] : Str) ++ t15) ++ ([32] : Str)) ++ t16) ++ ([32] : Str)) ++ t17) ++ ([32] : Str)) ++ t18) ++ ([32, 61] : Str)) ++ x0.2.2.2.2.2.2.2.2.2.2.2.2.2.1)))] [] [(5, ⟨[.v (.int .i64)], vs t15, none⟩), (13, ⟨[.v (.int .i64)], vs t16, none⟩), (21, ⟨[.v (.int .u64)], vs t17, none⟩), (28, ⟨[.v (.int .u64)], vs t18, none⟩)] [] 1020001 rfl rfl (by kernel_rfl) (cc (W_congressref20_Signed h51) (cc h52 (cc h53 (cc (W_congressref20_Signed h54) (cc h55 (cc h56 (cc (W_congressref20_Digits h57) (cc h58 (cc h59 (cc (W_congressref20_Digits h60) (cc h61 (cc h62 (cc h63 (cc h64 c0)))))))))))))) (eb (sq rfl ?_))
          obtain ⟨h65, hF0⟩ := ifg hF0
          refine rg [(2, vs (((((((((((t1 ++ ([32] : Str)) ++ t2) ++ ([32] : Str)) ++ t3) ++ ([32] : Str)) ++ t4) ++ ([32] : Str)) ++ t5) ++ ([32] : Str)) ++ (((((((((([109, 101, 115, 115, 97, 103, 101, 32] : Str) ++ t15) ++ ([32] : Str)) ++ t16) ++ ([32] : Str)) ++ t17) ++ ([32] : Str)) ++ t18) ++ ([32, 61] : Str)) ++ x0.2.2.2.2.2.2.2.2.2.2.2.2.2.1)) ++ ([10] : Str)))] [] [] [] 1020000 rfl (by kernel_rfl) (cc h65 c0) ?_
          obtain rfl := Option.some.inj hF0
          exact ret_pure (q := [vs (((((((((((t1 ++ ([32] : Str)) ++ t2) ++ ([32] : Str)) ++ t3) ++ ([32] : Str)) ++ t4) ++ ([32] : Str)) ++ t5) ++ ([32] : Str)) ++ (((((((((([109, 101, 115, 115, 97, 103, 101, 32] : Str) ++ t15) ++ ([32] : Str)) ++ t16) ++ ([32] : Str)) ++ t17) ++ ([32] : Str)) ++ t18) ++ ([32, 61] : Str)) ++ x0.2.2.2.2.2.2.2.2.2.2.2.2.2.1)) ++ ([10] : Str))]) [.str] rfl rfl (by kernel_rfl)
        · replace hF0 := ifn h50 hF0
          refine sk rfl (eb (sq rfl ?_))
          obtain ⟨h66, hF0⟩ := ifg hF0
          refine rg [(2, vs ((((((((((t1 ++ ([32] : Str)) ++ t2) ++ ([32] : Str)) ++ t3) ++ ([32] : Str)) ++ t4) ++ ([32] : Str)) ++ t5) ++ ([32] : Str)) ++ ([10] : Str)))] [] [] [] 1020001 rfl (by kernel_rfl) (cc h66 c0) ?_
          obtain rfl := Option.some.inj hF0
          exact ret_pure (q := [vs ((((((((((t1 ++ ([32] : Str)) ++ t2) ++ ([32] : Str)) ++ t3) ++ ([32] : Str)) ++ t4) ++ ([32] : Str)) ++ t5) ++ ([32] : Str)) ++ ([10] : Str))]) [.str] rfl rfl (by kernel_rfl)
noncomputable def F_congressref26_Text_b1 (x0 : (List S35.ty)) (s1 : (Str × Int)) : Option ((Str × Int) ⊕ Str) :=
  if (decide (s1.2 < ((List.length x0 : Nat) : Int))) = true then if 0 ≤ s1.2 ∧ s1.2 < ((List.length x0 : Nat) : Int) then (F_congressref26_Line (List.getD x0 (Int.toNat s1.2) S35.dflt)).bind fun t1 => (if List.length s1.1 + List.length t1 ≤ maxLen then (some (Sum.inl (s1.1 ++ t1, IntKind.wrap .i64 (s1.2 + 1)))) else none) else none else some (Sum.inr s1.1)
noncomputable def F_congressref26_Text (x0 : (List S35.ty)) : Option Str :=
  (loopO (F_congressref26_Text_b1 x0) ([], 0)).bind (fun r1 => some r1)
theorem W_congressref26_Text {x0 : (List S35.ty)} {y : Str} (hF0 : F_congressref26_Text x0 = some y) : Pure Tryd.prog 11 [.v (.sl S35) x0] (vs y) := by
  unfold F_congressref26_Text at hF0
  refine pure_of_run @Tryd.call11 @Tryd.func11 rfl rfl fun w M ho => ?_
  refine sq rfl (rg [(0, .v (.sl S35) x0)] [] [] [] 1020000 rfl (by kernel_rfl) c0 (sq rfl (rg [(0, .v (.sl S35) x0), (3, vs [])] [] [] [] 1020000 rfl (by kernel_rfl) c0 (sq rfl (sq rfl (rg [(0, .v (.sl S35) x0), (3, vs []), (4, vi 0)] [] [] [] 1020000 rfl (by kernel_rfl) c0 (bk rfl ?_)))))))
  obtain ⟨r1, hl1, hF0⟩ := obd hF0
  refine run_cutx 0 rfl (fun r1' => r1 = r1') (fun r1 => [(3, vs r1)]) (fun r1 => []) (fun r1' h1 => ?_) (fun J1_0 => ?_)
  · subst h1
    refine sq rfl (rg [(2, vs r1)] [] [] [] 1020000 rfl (by kernel_rfl) c0 ?_)
    obtain rfl := Option.some.inj hF0
    exact ret_pure (q := [vs r1]) [.str] rfl rfl (by kernel_rfl)
  refine run_loop rfl (run_loopO hl1 (fun s1 => [(0, .v (.sl S35) x0), (3, vs s1.1), (4, vi s1.2)]) (fun s1 => []) rfl rfl (fun s1 o1 hF1 ih1 hr1 => ?_))
  unfold F_congressref26_Text_b1 at hF1
  refine run_again (sq rfl (sq rfl (rg [(0, .v (.sl S35) x0), (3, vs s1.1), (4, vi s1.2), (8, vb (decide (s1.2 < ((List.length x0 : Nat) : Int))))] [] [] [] 1020000 rfl (by kernel_rfl) c0 ?_)))
  refine run_if rfl rfl (fun h2 => ?_) (fun h2 => ?_)
  · replace hF1 := ift h2 hF1
    refine sk rfl (sq rfl (bk rfl ?_))
    obtain ⟨h3, hF1⟩ := ifg hF1
    obtain ⟨t1, h4, hF1⟩ := obd hF1
    obtain ⟨h5, hF1⟩ := ifg hF1
    refine rg [(0, .v (.sl S35) x0), (3, vs (s1.1 ++ t1)), (4, vi s1.2)] [] [(5, ⟨[.v S35], vs t1, none⟩)] [] 1020000 rfl (by kernel_rfl) (cc h3 (cc (W_congressref26_Line h4) (cc h5 c0))) (eb (rg [(0, .v (.sl S35) x0), (3, vs (s1.1 ++ t1)), (4, vi (IntKind.wrap .i64 (s1.2 + 1)))] [] [] [] 1020000 rfl (by kernel_rfl) c0 ?_))
    exact ih1 _ (Option.some.inj hF1).symm
  · replace hF1 := ifn h2 hF1
    refine run_exit rfl rfl (tm (ρ' := [(3, vs s1.1)]) (H' := []) (by kernel_rfl) (by kernel_rfl) rfl ?_)
    exact J1_0 _ (inrI hr1 hF1).symm
noncomputable def F_congressref25_Sights_b1 (x0 : (List S35.ty)) (x1 : (List S35.ty)) (s1 : Int) : Option (Int ⊕ (Bool ⊕ Unit)) :=
  if (decide (s1 < ((List.length x0 : Nat) : Int))) = true then if 0 ≤ s1 ∧ s1 < ((List.length x0 : Nat) : Int) then (if 0 ≤ s1 ∧ s1 < ((List.length x1 : Nat) : Int) then (if (!(Sh.eqb S35 (List.getD x0 (Int.toNat s1) S35.dflt) (List.getD x1 (Int.toNat s1) S35.dflt))) = true then some (Sum.inr (Sum.inl false)) else some (Sum.inl (IntKind.wrap .i64 (s1 + 1)))) else none) else none else some (Sum.inr (Sum.inr ()))
noncomputable def F_congressref25_Sights (x0 : (List S35.ty)) (x1 : (List S35.ty)) : Option Bool :=
  if (((List.length x0 : Nat) : Int) != ((List.length x1 : Nat) : Int)) = true then some false else (loopO (F_congressref25_Sights_b1 x0 x1) 0).bind (Sum.elim some (fun j11 => some true))
theorem W_congressref25_Sights {x0 : (List S35.ty)} {x1 : (List S35.ty)} {y : Bool} (hF0 : F_congressref25_Sights x0 x1 = some y) : Pure Tryd.prog 16 [.v (.sl S35) x0, .v (.sl S35) x1] (vb y) := by
  unfold F_congressref25_Sights at hF0
  refine pure_of_run @Tryd.call16 @Tryd.func16 rfl rfl fun w M ho => ?_
  refine sq rfl (rg [(0, .v (.sl S35) x0), (1, .v (.sl S35) x1)] [] [] [] 1020000 rfl (by kernel_rfl) c0 (sq rfl (sq rfl (rg [(0, .v (.sl S35) x0), (1, .v (.sl S35) x1), (10, vb (((List.length x0 : Nat) : Int) != ((List.length x1 : Nat) : Int)))] [] [] [] 1020000 rfl (by kernel_rfl) c0 ?_))))
  refine run_if rfl rfl (fun h1 => ?_) (fun h1 => ?_)
  · replace hF0 := ift h1 hF0
    refine sq rfl (rg [(4, vb false)] [] [] [] 1020000 rfl (by kernel_rfl) c0 ?_)
    obtain rfl := Option.some.inj hF0
    exact ret_pure (q := [vb false]) [.bool] rfl rfl (by kernel_rfl)
  · replace hF0 := ifn h1 hF0
    refine sk rfl (sq rfl (sq rfl (rg [(0, .v (.sl S35) x0), (1, .v (.sl S35) x1), (5, vi 0)] [] [] [] 1020000 rfl (by kernel_rfl) c0 (bk rfl ?_))))
    obtain ⟨r1, hl1, hF0⟩ := obd hF0
    refine run_cutx 0 rfl (fun j11 => r1 = Sum.inr j11) (fun j11 => []) (fun j11 => []) (fun j11 h2 => ?_) (fun J1_1 => ?_)
    · subst h2
      replace hF0 := sumR hF0
      refine sq rfl (rg [(4, vb true)] [] [] [] 1020000 rfl (by kernel_rfl) c0 ?_)
      obtain rfl := Option.some.inj hF0
      exact ret_pure (q := [vb true]) [.bool] rfl rfl (by kernel_rfl)
    refine run_loop rfl (run_loopO hl1 (fun s1 => [(0, .v (.sl S35) x0), (1, .v (.sl S35) x1), (5, vi s1)]) (fun s1 => []) rfl rfl (fun s1 o1 hF1 ih1 hr1 => ?_))
    unfold F_congressref25_Sights_b1 at hF1
    refine run_again (sq rfl (sq rfl (rg [(0, .v (.sl S35) x0), (1, .v (.sl S35) x1), (5, vi s1), (14, vb (decide (s1 < ((List.length x0 : Nat) : Int))))] [] [] [] 1020000 rfl (by kernel_rfl) c0 ?_)))
    refine run_if rfl rfl (fun h3 => ?_) (fun h3 => ?_)
    · replace hF1 := ift h3 hF1
      refine sk rfl (sq rfl (bk rfl (sq rfl ?_)))
      obtain ⟨h4, hF1⟩ := ifg hF1
      obtain ⟨h5, hF1⟩ := ifg hF1
      refine rG [(0, .v (.sl S35) x0), (1, .v (.sl S35) x1), (5, vi s1), (25, vb (!(Sh.eqb S35 (List.getD x0 (Int.toNat s1) S35.dflt) (List.getD x1 (Int.toNat s1) S35.dflt))))] [] [] [] 1020000 rfl rfl (by kernel_rfl) (cc h4 (cc h5 c0)) ?_
      refine run_if rfl rfl (fun h6 => ?_) (fun h6 => ?_)
      · replace hF1 := ift h6 hF1
        refine sq rfl (rg [(4, vb false)] [] [] [] 1020000 rfl (by kernel_rfl) c0 ?_)
        have e1 := inrI hr1 hF1
        subst e1
        replace hF0 := sumL hF0
        obtain rfl := Option.some.inj hF0
        exact ret_pure (q := [vb false]) [.bool] rfl rfl (by kernel_rfl)
      · replace hF1 := ifn h6 hF1
        refine sk rfl (eb (rg [(0, .v (.sl S35) x0), (1, .v (.sl S35) x1), (5, vi (IntKind.wrap .i64 (s1 + 1)))] [] [] [] 1020000 rfl (by kernel_rfl) c0 ?_))
        exact ih1 _ (Option.some.inj hF1).symm
    · replace hF1 := ifn h3 hF1
      refine run_exit rfl rfl (tm (ρ' := []) (H' := []) (by kernel_rfl) (by kernel_rfl) rfl ?_)
      exact J1_1 _ (inrI hr1 hF1).symm
noncomputable def F_congresslaw26_note (x0 : S31.ty) : Option S35.ty :=
  some (0, (0, (1, (0, (1, x0.2)))))
theorem W_congresslaw26_note {x0 : S31.ty} {y : S35.ty} (hF0 : F_congresslaw26_note x0 = some y) : Pure Tryd.prog 19 [.v S31 x0] (.v S35 y) := by
  unfold F_congresslaw26_note at hF0
  refine pure_of_run @Tryd.call19 @Tryd.func19 rfl rfl fun w M ho => ?_
  refine sq rfl (rg [(1, .ptr 1020000 [] 0), (2, .ptr 1020020 [] 0)] [(1020000, .var 31 S31 x0), (1020020, .var 35 S35 (0, (0, (0, (0, (0, (0, (0, (0, (0, (0, ((0, (0, 0)), ((0, (0, 0)), ((0, (0, 0)), ([], [])))))))))))))))] [] [] 1020000 rfl (by kernel_rfl) c0 (sq rfl (rg [(1, .ptr 1020000 [] 0), (2, .ptr 1020020 [] 0)] [(1020000, .var 31 S31 (1, x0.2)), (1020020, .var 35 S35 (0, (0, (0, (0, (0, (0, (0, (0, (0, (0, ((0, (0, 0)), ((0, (0, 0)), ((0, (0, 0)), ([], [])))))))))))))))] [] [] 1020021 rfl (by kernel_rfl) c0 (sq rfl (rg [(2, .ptr 1020020 [] 0)] [(1020020, .var 35 S35 (0, (0, (1, (0, (1, x0.2))))))] [] [] 1020021 rfl (by kernel_rfl) c0 ?_)))))
  obtain rfl := Option.some.inj hF0
  exact ret_pure (q := [.v S35 (0, (0, (1, (0, (1, x0.2)))))]) [S35] rfl rfl (by kernel_rfl)
noncomputable def F_congressref07_three (x0 : S27.ty) : Option (List Int) :=
  some (List.set (List.set (List.set (List.replicate 3 0) 0 x0.1) 1 x0.2.1) 2 x0.2.2)
theorem W_congressref07_three {x0 : S27.ty} {y : (List Int)} (hF0 : F_congressref07_three x0 = some y) : Pure Tryd.prog 49 [.v S27 x0] (.v (.arr 3 (.int .u32)) y) := by
  unfold F_congressref07_three at hF0
  refine pure_of_run @Tryd.call49 @Tryd.func49 rfl rfl fun w M ho => ?_
  refine sq rfl (rg [(1, .ptr 1020000 [] 0), (2, .ptr 1020020 [] 0)] [(1020000, .var 27 S27 x0), (1020020, .var 84 (.arr 3 (.int .u32)) (List.replicate 3 0))] [] [] 1020000 rfl (by kernel_rfl) c0 (sq rfl (rg [(2, .ptr 1020020 [] 0)] [(1020020, .var 84 (.arr 3 (.int .u32)) (List.set (List.set (List.set (List.replicate 3 0) 0 x0.1) 1 x0.2.1) 2 x0.2.2))] [] [] 1020021 rfl (by kernel_rfl) c0 ?_)))
  obtain rfl := Option.some.inj hF0
  exact ret_pure (q := [.v (.arr 3 (.int .u32)) (List.set (List.set (List.set (List.replicate 3 0) 0 x0.1) 1 x0.2.1) 2 x0.2.2)]) [(.arr 3 (.int .u32))] rfl rfl (by kernel_rfl)
noncomputable def F_trace_Line (x0 : S35.ty) : Option Str :=
  (F_trace_signed x0.1).bind fun t1 => ((F_trace_signed x0.2.1).bind fun t2 => ((F_trace_digits (IntKind.wrap .u64 x0.2.2.1)).bind fun t3 => ((F_trace_signed x0.2.2.2.1).bind fun t4 => ((F_trace_digits x0.2.2.2.2.1).bind fun t5 => (if (x0.2.2.2.2.2.1 == 0) = true then (F_trace_signed x0.2.2.2.2.2.2.1).bind fun t6 => ((F_trace_digits x0.2.2.2.2.2.2.2.1).bind fun t7 => ((F_trace_digits x0.2.2.2.2.2.2.2.2.1).bind fun t8 => ((F_trace_signed x0.2.2.2.2.2.2.2.2.2.1).bind fun t9 => (if apOk (5 + 5) 16 then (F_strings_Join ([t1, t2, t3, t4, t5] ++ [([97, 110, 115, 119, 101, 114] : Str), t6, t7, t8, t9]) ([32] : Str)).bind fun t10 => (if List.length t10 + List.length ([10] : Str) ≤ maxLen then (some (t10 ++ ([10] : Str))) else none) else none)))) else if (x0.2.2.2.2.2.1 == 1) = true then (F_trace_digits (IntKind.wrap .u64 x0.2.2.2.2.2.2.2.2.2.2.1.1)).bind fun t11 => ((F_trace_digits (IntKind.wrap .u64 x0.2.2.2.2.2.2.2.2.2.2.1.2.1)).bind fun t12 => ((F_trace_digits (IntKind.wrap .u64 x0.2.2.2.2.2.2.2.2.2.2.1.2.2)).bind fun t13 => (if apOk (5 + 4) 16 then (F_strings_Join ([t1, t2, t3, t4, t5] ++ [([99, 111, 110, 102] : Str), t11, t12, t13]) ([32] : Str)).bind fun t14 => (if List.length t14 + List.length ([10] : Str) ≤ maxLen then (some (t14 ++ ([10] : Str))) else none) else none))) else if (x0.2.2.2.2.2.1 == 2) = true then (F_trace_signed x0.2.2.2.2.2.2.2.2.2.1).bind fun t15 => ((F_trace_digits x0.2.2.2.2.2.2.2.2.1).bind fun t16 => (if apOk (5 + 4) 16 then (F_strings_Join ([t1, t2, t3, t4, t5] ++ [([118, 105, 101, 119] : Str), t15, t16, x0.2.2.2.2.2.2.2.2.2.2.2.2.2.2]) ([32] : Str)).bind fun t17 => (if List.length t17 + List.length ([10] : Str) ≤ maxLen then (some (t17 ++ ([10] : Str))) else none) else none)) else if (x0.2.2.2.2.2.1 == 3) = true then (F_trace_signed x0.2.2.2.2.2.2.2.2.2.1).bind fun t18 => ((F_trace_signed x0.2.2.2.2.2.2.2.2.2.2.2.2.1.2.1).bind fun t19 => ((F_trace_digits x0.2.2.2.2.2.2.2.2.2.2.2.2.1.2.2).bind fun t20 => ((F_trace_digits x0.2.2.2.2.2.2.2.2.1).bind fun t21 => (if List.length ([61] : Str) + List.length x0.2.2.2.2.2.2.2.2.2.2.2.2.2.1 ≤ maxLen then (if apOk (5 + 6) 16 then (F_strings_Join ([t1, t2, t3, t4, t5] ++ [([109, 101, 115, 115, 97, 103, 101] : Str), t18, t19, t20, t21, ([61] : Str) ++ x0.2.2.2.2.2.2.2.2.2.2.2.2.2.1]) ([32] : Str)).bind fun t22 => (if List.length t22 + List.length ([10] : Str) ≤ maxLen then (some (t22 ++ ([10] : Str))) else none) else none) else none)))) else if apOk (5 + 1) 16 then (F_strings_Join ([t1, t2, t3, t4, t5] ++ [[]]) ([32] : Str)).bind fun t23 => (if List.length t23 + List.length ([10] : Str) ≤ maxLen then (some (t23 ++ ([10] : Str))) else none) else none)))))
theorem W_trace_Line {x0 : S35.ty} {y : Str} (hF0 : F_trace_Line x0 = some y) : Pure Tryd.prog 8 [.v S35 x0] (vs y) := by
  unfold F_trace_Line at hF0
  refine pure_of_run @Tryd.call8 @Tryd.func8 rfl rfl fun w M ho => ?_
  refine sq rfl (rg [(1, .ptr 1020000 [] 0)] [(1020000, .var 35 S35 x0)] [] [] 1020000 rfl (by kernel_rfl) c0 (sq rfl ?_))
  obtain ⟨t1, h1, hF0⟩ := obd hF0
  obtain ⟨t2, h2, hF0⟩ := obd hF0
  obtain ⟨t3, h3, hF0⟩ := obd hF0
  obtain ⟨t4, h4, hF0⟩ := obd hF0
  obtain ⟨t5, h5, hF0⟩ := obd hF0
  refine rG [(1, .ptr 1020000 [] 0), (3, .row 1020381)] [(1020000, .var 35 S35 x0), (1020381, .row 9 .str [t1, t2, t3, t4, t5])] [(2, ⟨[.v (.int .i64)], vs t1, none⟩), (5, ⟨[.v (.int .i64)], vs t2, none⟩), (9, ⟨[.v (.int .u64)], vs t3, none⟩), (13, ⟨[.v (.int .i64)], vs t4, none⟩), (18, ⟨[.v (.int .u64)], vs t5, none⟩)] [] 1020001 rfl rfl (by kernel_rfl) (cc (W_trace_signed h1) (cc (W_trace_signed h2) (cc (W_trace_digits h3) (cc (W_trace_signed h4) (cc (W_trace_digits h5) c0))))) (sq rfl (sq rfl (rg [(1, .ptr 1020000 [] 0), (3, .row 1020381), (27, vi x0.2.2.2.2.2.1)] [(1020000, .var 35 S35 x0), (1020381, .row 9 .str [t1, t2, t3, t4, t5])] [] [] 1020382 rfl (by kernel_rfl) c0 (bk rfl (sq rfl (rg [(1, .ptr 1020000 [] 0), (3, .row 1020381), (27, vi x0.2.2.2.2.2.1), (31, vb (x0.2.2.2.2.2.1 == 0))] [(1020000, .var 35 S35 x0), (1020381, .row 9 .str [t1, t2, t3, t4, t5])] [] [] 1020382 rfl (by kernel_rfl) c0 ?_))))))
  refine run_if rfl rfl (fun h6 => ?_) (fun h6 => ?_)
  · replace hF0 := ift h6 hF0
    obtain ⟨t6, h7, hF0⟩ := obd hF0
    obtain ⟨t7, h8, hF0⟩ := obd hF0
    obtain ⟨t8, h9, hF0⟩ := obd hF0
    obtain ⟨t9, h10, hF0⟩ := obd hF0
    obtain ⟨h11, hF0⟩ := ifg hF0
    refine rG [(3, .row 1020822)] [(1020822, .row 9 .str ([t1, t2, t3, t4, t5] ++ [([97, 110, 115, 119, 101, 114] : Str), t6, t7, t8, t9]))] [(5, ⟨[.v (.int .i64)], vs t6, none⟩), (10, ⟨[.v (.int .u64)], vs t7, none⟩), (15, ⟨[.v (.int .u64)], vs t8, none⟩), (20, ⟨[.v (.int .i64)], vs t9, none⟩)] [] 1020382 rfl rfl (by kernel_rfl) (cc (W_trace_signed h7) (cc (W_trace_digits h8) (cc (W_trace_digits h9) (cc (W_trace_signed h10) (cc h11.1 (cc h11.2 c0)))))) (eb (sq rfl ?_))
    obtain ⟨t10, h12, hF0⟩ := obd hF0
    obtain ⟨h13, hF0⟩ := ifg hF0
    refine rg [(2, vs (t10 ++ ([10] : Str)))] [] [(1, ⟨[.v (.sl .str), .v .str], vs t10, none⟩)] [] 1020823 rfl (by kernel_rfl) (cc (W_strings_Join h12) (cc h13 c0)) ?_
    obtain rfl := Option.some.inj hF0
    exact ret_pure (q := [vs (t10 ++ ([10] : Str))]) [.str] rfl rfl (by kernel_rfl)
  · replace hF0 := ifn h6 hF0
    refine sq rfl (rg [(1, .ptr 1020000 [] 0), (3, .row 1020381), (27, vi x0.2.2.2.2.2.1), (56, vb (x0.2.2.2.2.2.1 == 1))] [(1020000, .var 35 S35 x0), (1020381, .row 9 .str [t1, t2, t3, t4, t5])] [] [] 1020382 rfl (by kernel_rfl) c0 ?_)
    refine run_if rfl rfl (fun h14 => ?_) (fun h14 => ?_)
    · replace hF0 := ift h14 hF0
      obtain ⟨t11, h15, hF0⟩ := obd hF0
      obtain ⟨t12, h16, hF0⟩ := obd hF0
      obtain ⟨t13, h17, hF0⟩ := obd hF0
      obtain ⟨h18, hF0⟩ := ifg hF0
      refine rG [(3, .row 1020842)] [(1020842, .row 9 .str ([t1, t2, t3, t4, t5] ++ [([99, 111, 110, 102] : Str), t11, t12, t13]))] [(7, ⟨[.v (.int .u64)], vs t11, none⟩), (14, ⟨[.v (.int .u64)], vs t12, none⟩), (21, ⟨[.v (.int .u64)], vs t13, none⟩)] [] 1020382 rfl rfl (by kernel_rfl) (cc (W_trace_digits h15) (cc (W_trace_digits h16) (cc (W_trace_digits h17) (cc h18.1 (cc h18.2 c0))))) (eb (sq rfl ?_))
      obtain ⟨t14, h19, hF0⟩ := obd hF0
      obtain ⟨h20, hF0⟩ := ifg hF0
      refine rg [(2, vs (t14 ++ ([10] : Str)))] [] [(1, ⟨[.v (.sl .str), .v .str], vs t14, none⟩)] [] 1020843 rfl (by kernel_rfl) (cc (W_strings_Join h19) (cc h20 c0)) ?_
      obtain rfl := Option.some.inj hF0
      exact ret_pure (q := [vs (t14 ++ ([10] : Str))]) [.str] rfl rfl (by kernel_rfl)
    · replace hF0 := ifn h14 hF0
      refine sq rfl (rg [(1, .ptr 1020000 [] 0), (3, .row 1020381), (27, vi x0.2.2.2.2.2.1), (82, vb (x0.2.2.2.2.2.1 == 2))] [(1020000, .var 35 S35 x0), (1020381, .row 9 .str [t1, t2, t3, t4, t5])] [] [] 1020382 rfl (by kernel_rfl) c0 ?_)
      refine run_if rfl rfl (fun h21 => ?_) (fun h21 => ?_)
      · replace hF0 := ift h21 hF0
        obtain ⟨t15, h22, hF0⟩ := obd hF0
        obtain ⟨t16, h23, hF0⟩ := obd hF0
        obtain ⟨h24, hF0⟩ := ifg hF0
        refine rG [(3, .row 1020702)] [(1020702, .row 9 .str ([t1, t2, t3, t4, t5] ++ [([118, 105, 101, 119] : Str), t15, t16, x0.2.2.2.2.2.2.2.2.2.2.2.2.2.2]))] [(5, ⟨[.v (.int .i64)], vs t15, none⟩), (10, ⟨[.v (.int .u64)], vs t16, none⟩)] [] 1020382 rfl rfl (by kernel_rfl) (cc (W_trace_signed h22) (cc (W_trace_digits h23) (cc h24.1 (cc h24.2 c0)))) (eb (sq rfl ?_))
        obtain ⟨t17, h25, hF0⟩ := obd hF0
        obtain ⟨h26, hF0⟩ := ifg hF0
        refine rg [(2, vs (t17 ++ ([10] : Str)))] [] [(1, ⟨[.v (.sl .str), .v .str], vs t17, none⟩)] [] 1020703 rfl (by kernel_rfl) (cc (W_strings_Join h25) (cc h26 c0)) ?_
        obtain rfl := Option.some.inj hF0
        exact ret_pure (q := [vs (t17 ++ ([10] : Str))]) [.str] rfl rfl (by kernel_rfl)
      · replace hF0 := ifn h21 hF0
        refine sq rfl (rg [(1, .ptr 1020000 [] 0), (3, .row 1020381), (101, vb (x0.2.2.2.2.2.1 == 3))] [(1020000, .var 35 S35 x0), (1020381, .row 9 .str [t1, t2, t3, t4, t5])] [] [] 1020382 rfl (by kernel_rfl) c0 ?_)
        refine run_if rfl rfl (fun h27 => ?_) (fun h27 => ?_)
        · replace hF0 := ift h27 hF0
          obtain ⟨t18, h28, hF0⟩ := obd hF0
          obtain ⟨t19, h29, hF0⟩ := obd hF0
          obtain ⟨t20, h30, hF0⟩ := obd hF0
          obtain ⟨t21, h31, hF0⟩ := obd hF0
          obtain ⟨h32, hF0⟩ := ifg hF0
          obtain ⟨h33, hF0⟩ := ifg hF0
          refine rG [(3, .row 1020962)] [(1020962, .row 9 .str ([t1, t2, t3, t4, t5] ++ [([109, 101, 115, 115, 97, 103, 101] : Str), t18, t19, t20, t21, ([61] : Str) ++ x0.2.2.2.2.2.2.2.2.2.2.2.2.2.1]))] [(5, ⟨[.v (.int .i64)], vs t18, none⟩), (11, ⟨[.v (.int .i64)], vs t19, none⟩), (17, ⟨[.v (.int .u64)], vs t20, none⟩), (22, ⟨[.v (.int .u64)], vs t21, none⟩)] [] 1020382 rfl rfl (by kernel_rfl) (cc (W_trace_signed h28) (cc (W_trace_signed h29) (cc (W_trace_digits h30) (cc (W_trace_digits h31) (cc h32 (cc h33.1 (cc h33.2 c0))))))) (eb (sq rfl ?_))
          obtain ⟨t22, h34, hF0⟩ := obd hF0
          obtain ⟨h35, hF0⟩ := ifg hF0
          refine rg [(2, vs (t22 ++ ([10] : Str)))] [] [(1, ⟨[.v (.sl .str), .v .str], vs t22, none⟩)] [] 1020963 rfl (by kernel_rfl) (cc (W_strings_Join h34) (cc h35 c0)) ?_
          obtain rfl := Option.some.inj hF0
          exact ret_pure (q := [vs (t22 ++ ([10] : Str))]) [.str] rfl rfl (by kernel_rfl)
        · replace hF0 := ifn h27 hF0
          obtain ⟨h36, hF0⟩ := ifg hF0
          refine rg [(3, .row 1020422)] [(1020422, .row 9 .str ([t1, t2, t3, t4, t5] ++ [[]]))] [] [] 1020382 rfl (by kernel_rfl) (cc h36.1 (cc h36.2 c0)) (eb (sq rfl ?_))
          obtain ⟨t23, h37, hF0⟩ := obd hF0
          obtain ⟨h38, hF0⟩ := ifg hF0
          refine rg [(2, vs (t23 ++ ([10] : Str)))] [] [(1, ⟨[.v (.sl .str), .v .str], vs t23, none⟩)] [] 1020423 rfl (by kernel_rfl) (cc (W_strings_Join h37) (cc h38 c0)) ?_
          obtain rfl := Option.some.inj hF0
          exact ret_pure (q := [vs (t23 ++ ([10] : Str))]) [.str] rfl rfl (by kernel_rfl)
abbrev Z54 : Sh := (.st (.prod .np (.nl (.int .u8))))
noncomputable def F_trace_Text_b1 (x0 : (List S35.ty)) (s1 : (Int × (List Int))) : Option ((Int × (List Int)) ⊕ (List Int)) :=
  if (decide (s1.1 < ((List.length x0 : Nat) : Int))) = true then if 0 ≤ s1.1 ∧ s1.1 < ((List.length x0 : Nat) : Int) then (F_trace_Line (List.getD x0 (Int.toNat s1.1) S35.dflt)).bind fun t2 => ((F_strings_Builder_WriteString ((), s1.2) t2).bind fun t3 => (some (Sum.inl (IntKind.wrap .i64 (s1.1 + 1), t3.2.2.2)))) else none else some (Sum.inr s1.2)
noncomputable def F_trace_Text (x0 : (List S35.ty)) : Option Str :=
  (loopO (F_trace_Text_b1 x0) (0, [])).bind (fun r1 => (F_strings_Builder_String ((), r1)).bind fun t1 => (some t1))
theorem W_trace_Text {x0 : (List S35.ty)} {y : Str} (hF0 : F_trace_Text x0 = some y) : Pure Tryd.prog 10 [.v (.sl S35) x0] (vs y) := by
  unfold F_trace_Text at hF0
  refine pure_of_run @Tryd.call10 @Tryd.func10 rfl rfl fun w M ho => ?_
  refine sq rfl (rg [(0, .v (.sl S35) x0)] [] [] [] 1020000 rfl (by kernel_rfl) c0 (sq rfl (rg [(0, .v (.sl S35) x0), (3, .ptr 1020000 [] 0)] [(1020000, .var 54 Z54 ((), ()))] [] [] 1020000 rfl (by kernel_rfl) c0 (run_npF (H' := [(1020000, .var 54 (.st (.prod .oref (.nl (.int .u8)))) (1020000, ()))]) 1020000 1020000 [.u, .l] rfl rfl rfl rfl rfl rfl (run_nilF (H' := [(1000001, .row 5 (.int .u8) []), (1020000, .var 54 O54 (1020000, 1000001))]) 1020000 1000001 [.u, .r] 5 (.int .u8) rfl rfl rfl rfl rfl rfl (by kernel_rfl) rfl (sq rfl (sq rfl (rg [(3, .ptr 1020000 [] 0), (6, .v (.sl S35) x0), (7, vi ((List.length x0 : Nat) : Int)), (8, vi 0)] [(1000001, .row 5 (.int .u8) []), (1020000, .var 54 O54 (1020000, 1000001))] [] [] 1020001 rfl (by kernel_rfl) c0 (bk rfl ?_)))))))))
  obtain ⟨r1, hl1, hF0⟩ := obd hF0
  refine run_cutx 0 rfl (fun r1' => r1 = r1') (fun r1 => [(3, .ptr 1020000 [] 0)]) (fun r1 => [(1000001, .row 5 (.int .u8) r1), (1020000, .var 54 O54 (1020000, 1000001))]) (fun r1' h1 => ?_) (fun J1_0 => ?_)
  · subst h1
    refine sq rfl ?_
    obtain ⟨t1, h2, hF0⟩ := obd hF0
    refine rg [(2, vs t1)] [] [(0, ⟨[.v .unit], vs t1, some ([1020000, 1000001], [])⟩)] [] 1020001 rfl (by kernel_rfl) (cc (W_strings_Builder_String h2) c0) ?_
    obtain rfl := Option.some.inj hF0
    exact ret_pure (q := [vs t1]) [.str] rfl rfl (by kernel_rfl)
  refine run_loop rfl (run_loopO hl1 (fun s1 => [(3, .ptr 1020000 [] 0), (6, .v (.sl S35) x0), (7, vi ((List.length x0 : Nat) : Int)), (8, vi s1.1)]) (fun s1 => [(1000001, .row 5 (.int .u8) s1.2), (1020000, .var 54 O54 (1020000, 1000001))]) rfl rfl (fun s1 o1 hF1 ih1 hr1 => ?_))
  unfold F_trace_Text_b1 at hF1
  refine run_again (sq rfl (rg [(3, .ptr 1020000 [] 0), (6, .v (.sl S35) x0), (7, vi ((List.length x0 : Nat) : Int)), (8, vi s1.1), (9, vb (decide (s1.1 < ((List.length x0 : Nat) : Int))))] [(1000001, .row 5 (.int .u8) s1.2), (1020000, .var 54 O54 (1020000, 1000001))] [] [] 1020001 rfl (by kernel_rfl) c0 (sq rfl ?_)))
  refine run_if rfl rfl (fun h3 => ?_) (fun h3 => ?_)
  · replace hF1 := ift h3 hF1
    refine sk rfl (sq rfl (bk rfl (sq rfl ?_)))
    obtain ⟨h4, hF1⟩ := ifg hF1
    refine rg [(3, .ptr 1020000 [] 0), (5, .ptr 1020041 [] 0), (6, .v (.sl S35) x0), (7, vi ((List.length x0 : Nat) : Int)), (8, vi s1.1)] [(1000001, .row 5 (.int .u8) s1.2), (1020000, .var 54 O54 (1020000, 1000001)), (1020041, .var 35 S35 (List.getD x0 (Int.toNat s1.1) S35.dflt))] [] [] 1020001 rfl (by kernel_rfl) (cc h4 c0) ?_
    obtain ⟨t2, h5, hF1⟩ := obd hF1
    obtain ⟨t3, h6, hF1⟩ := obd hF1
    refine rg [(3, .ptr 1020000 [] 0), (6, .v (.sl S35) x0), (7, vi ((List.length x0 : Nat) : Int)), (8, vi s1.1)] [(1020000, .var 54 O54 (1020000, 2020083)), (2020083, .row 5 (.int .u8) t3.2.2.2)] [(1, ⟨[.v S35], vs t2, none⟩), (2, ⟨[.v .unit, .v .str], .tup [vi t3.1, .v .any t3.2.1], some ([1020000, 1000001], [(0, .var 54 O54 (0, 1000001)), (1000001, .row 5 (.int .u8) t3.2.2.2)])⟩)] [] 1020042 rfl (by kernel_rfl) (cc (W_trace_Line h5) (cc (W_strings_Builder_WriteString h6) c0)) (run_renF (ρ' := [(3, .ptr 1020000 [] 0), (6, .v (.sl S35) x0), (7, vi ((List.length x0 : Nat) : Int)), (8, vi s1.1)]) (H' := [(1000001, .row 5 (.int .u8) t3.2.2.2), (1020000, .var 54 O54 (1020000, 1000001))]) 2020083 1000001 rfl (by kernel_rfl) rfl rfl (by kernel_rfl) rfl (eb (rg [(3, .ptr 1020000 [] 0), (6, .v (.sl S35) x0), (7, vi ((List.length x0 : Nat) : Int)), (8, vi (IntKind.wrap .i64 (s1.1 + 1)))] [(1000001, .row 5 (.int .u8) t3.2.2.2), (1020000, .var 54 O54 (1020000, 1000001))] [] [] 1020001 rfl (by kernel_rfl) c0 ?_)))
    exact ih1 _ (Option.some.inj hF1).symm
  · replace hF1 := ifn h3 hF1
    refine run_exit rfl rfl (tm (ρ' := [(3, .ptr 1020000 [] 0)]) (H' := [(1000001, .row 5 (.int .u8) s1.2), (1020000, .var 54 O54 (1020000, 1000001))]) (by kernel_rfl) (by kernel_rfl) rfl ?_)
    exact J1_0 _ (inrI hr1 hF1).symm
noncomputable def F_congressref07_Compare_b1 (t1 : (List Int)) (t2 : (List Int)) (s1 : Int) : Option (Int ⊕ (Int ⊕ Unit)) :=
  if (decide (s1 < 3)) = true then if 0 ≤ s1 ∧ s1 < ((3 : Nat) : Int) then (if 0 ≤ s1 ∧ s1 < ((3 : Nat) : Int) then (if (decide ((List.getD t1 (Int.toNat s1) 0) < (List.getD t2 (Int.toNat s1) 0))) = true then some (Sum.inr (Sum.inl (-1))) else if 0 ≤ s1 ∧ s1 < ((3 : Nat) : Int) then (if 0 ≤ s1 ∧ s1 < ((3 : Nat) : Int) then (if (decide ((List.getD t1 (Int.toNat s1) 0) > (List.getD t2 (Int.toNat s1) 0))) = true then some (Sum.inr (Sum.inl 1)) else some (Sum.inl (IntKind.wrap .i64 (s1 + 1)))) else none) else none) else none) else none else some (Sum.inr (Sum.inr ()))
noncomputable def F_congressref07_Compare (x0 : S27.ty) (x1 : S27.ty) : Option Int :=
  (F_congressref07_three x0).bind fun t1 => ((F_congressref07_three x1).bind fun t2 => ((loopO (F_congressref07_Compare_b1 t1 t2) 0).bind (Sum.elim some (fun j11 => some 0))))
theorem W_congressref07_Compare {x0 : S27.ty} {x1 : S27.ty} {y : Int} (hF0 : F_congressref07_Compare x0 x1 = some y) : Pure Tryd.prog 38 [.v S27 x0, .v S27 x1] (vi y) := by
  unfold F_congressref07_Compare at hF0
  refine pure_of_run @Tryd.call38 @Tryd.func38 rfl rfl fun w M ho => ?_
  refine sq rfl (rg [(2, .ptr 1020000 [] 0), (3, .ptr 1020020 [] 0)] [(1020000, .var 27 S27 x0), (1020020, .var 27 S27 x1)] [] [] 1020000 rfl (by kernel_rfl) c0 (sq rfl ?_))
  obtain ⟨t1, h1, hF0⟩ := obd hF0
  obtain ⟨t2, h2, hF0⟩ := obd hF0
  refine rF 2 [(5, .ptr 1020101 [] 0), (6, .ptr 1020121 [] 0)] [(1020101, .var 84 (.arr 3 (.int .u32)) t1), (1020121, .var 84 (.arr 3 (.int .u32)) t2)] [(1, ⟨[.v S27], .v (.arr 3 (.int .u32)) t1, none⟩), (3, ⟨[.v S27], .v (.arr 3 (.int .u32)) t2, none⟩)] [] 1020021 rfl rfl (by kernel_rfl) (cc (W_congressref07_three h1) (cc (W_congressref07_three h2) (cc (show (.v S27 x0 : AVal) = (.v S27 x0) from rfl) (cc (show (.v S27 x0 : AVal) = (.v S27 x0) from rfl) (cc (show (.v S27 x1 : AVal) = (.v S27 x1) from rfl) (cc (show (.v S27 x1 : AVal) = (.v S27 x1) from rfl) c0)))))) (sq rfl (sq rfl (rg [(5, .ptr 1020101 [] 0), (6, .ptr 1020121 [] 0), (7, vi 0)] [(1020101, .var 84 (.arr 3 (.int .u32)) t1), (1020121, .var 84 (.arr 3 (.int .u32)) t2)] [] [] 1020122 rfl (by kernel_rfl) c0 (bk rfl ?_))))
  obtain ⟨r1, hl1, hF0⟩ := obd hF0
  refine run_cutx 0 rfl (fun j11 => r1 = Sum.inr j11) (fun j11 => []) (fun j11 => []) (fun j11 h3 => ?_) (fun J1_1 => ?_)
  · subst h3
    replace hF0 := sumR hF0
    refine sq rfl (rg [(4, vi 0)] [] [] [] 1020000 rfl (by kernel_rfl) c0 ?_)
    obtain rfl := Option.some.inj hF0
    exact ret_pure (q := [vi 0]) [(.int .i64)] rfl rfl (by kernel_rfl)
  refine run_loop rfl (run_loopO hl1 (fun s1 => [(5, .ptr 1020101 [] 0), (6, .ptr 1020121 [] 0), (7, vi s1)]) (fun s1 => [(1020101, .var 84 (.arr 3 (.int .u32)) t1), (1020121, .var 84 (.arr 3 (.int .u32)) t2)]) rfl rfl (fun s1 o1 hF1 ih1 hr1 => ?_))
  unfold F_congressref07_Compare_b1 at hF1
  refine run_again (sq rfl (sq rfl (rg [(5, .ptr 1020101 [] 0), (6, .ptr 1020121 [] 0), (7, vi s1), (13, vb (decide (s1 < 3)))] [(1020101, .var 84 (.arr 3 (.int .u32)) t1), (1020121, .var 84 (.arr 3 (.int .u32)) t2)] [] [] 1020122 rfl (by kernel_rfl) c0 ?_)))
  refine run_if rfl rfl (fun h4 => ?_) (fun h4 => ?_)
  · replace hF1 := ift h4 hF1
    refine sk rfl (sq rfl (bk rfl (sq rfl (sq rfl ?_))))
    obtain ⟨h5, hF1⟩ := ifg hF1
    obtain ⟨h6, hF1⟩ := ifg hF1
    refine rG [(5, .ptr 1020101 [] 0), (6, .ptr 1020121 [] 0), (7, vi s1), (22, vb (decide ((List.getD t1 (Int.toNat s1) 0) < (List.getD t2 (Int.toNat s1) 0))))] [(1020101, .var 84 (.arr 3 (.int .u32)) t1), (1020121, .var 84 (.arr 3 (.int .u32)) t2)] [] [] 1020122 rfl rfl (by kernel_rfl) (cc h5 (cc (show offP (.arr 3 (.int .u32)) [.i (Int.toNat s1)] = (0 + Int.toNat s1 * 1) from (by simp [offP, Sh.size])) (cc (oo h5 trivial) (cc h6 (cc (show offP (.arr 3 (.int .u32)) [.i (Int.toNat s1)] = (0 + Int.toNat s1 * 1) from (by simp [offP, Sh.size])) (cc (oo h6 trivial) c0)))))) ?_
    refine run_if rfl rfl (fun h7 => ?_) (fun h7 => ?_)
    · replace hF1 := ift h7 hF1
      refine sq rfl (rg [(4, vi (-1))] [] [] [] 1020122 rfl (by kernel_rfl) c0 ?_)
      have e1 := inrI hr1 hF1
      subst e1
      replace hF0 := sumL hF0
      obtain rfl := Option.some.inj hF0
      exact ret_pure (q := [vi (-1)]) [(.int .i64)] rfl rfl (by kernel_rfl)
    · replace hF1 := ifn h7 hF1
      refine sk rfl (sq rfl ?_)
      obtain ⟨h8, hF1⟩ := ifg hF1
      obtain ⟨h9, hF1⟩ := ifg hF1
      refine rG [(5, .ptr 1020101 [] 0), (6, .ptr 1020121 [] 0), (7, vi s1), (29, vb (decide ((List.getD t1 (Int.toNat s1) 0) > (List.getD t2 (Int.toNat s1) 0))))] [(1020101, .var 84 (.arr 3 (.int .u32)) t1), (1020121, .var 84 (.arr 3 (.int .u32)) t2)] [] [] 1020122 rfl rfl (by kernel_rfl) (cc h8 (cc (show offP (.arr 3 (.int .u32)) [.i (Int.toNat s1)] = (0 + Int.toNat s1 * 1) from (by simp [offP, Sh.size])) (cc (oo h8 trivial) (cc h9 (cc (show offP (.arr 3 (.int .u32)) [.i (Int.toNat s1)] = (0 + Int.toNat s1 * 1) from (by simp [offP, Sh.size])) (cc (oo h9 trivial) c0)))))) ?_
      refine run_if rfl rfl (fun h10 => ?_) (fun h10 => ?_)
      · replace hF1 := ift h10 hF1
        refine sq rfl (rg [(4, vi 1)] [] [] [] 1020122 rfl (by kernel_rfl) c0 ?_)
        have e1 := inrI hr1 hF1
        subst e1
        replace hF0 := sumL hF0
        obtain rfl := Option.some.inj hF0
        exact ret_pure (q := [vi 1]) [(.int .i64)] rfl rfl (by kernel_rfl)
      · replace hF1 := ifn h10 hF1
        refine sk rfl (eb (rg [(5, .ptr 1020101 [] 0), (6, .ptr 1020121 [] 0), (7, vi (IntKind.wrap .i64 (s1 + 1)))] [(1020101, .var 84 (.arr 3 (.int .u32)) t1), (1020121, .var 84 (.arr 3 (.int .u32)) t2)] [] [] 1020122 rfl (by kernel_rfl) c0 ?_))
        exact ih1 _ (Option.some.inj hF1).symm
  · replace hF1 := ifn h4 hF1
    refine run_exit rfl rfl (tm (ρ' := []) (H' := []) (by kernel_rfl) (by kernel_rfl) rfl ?_)
    exact J1_1 _ (inrI hr1 hF1).symm
noncomputable def F_congressref26_Agree_b2 (s1 : Int) (x0 : (List S35.ty)) (s2 : Int) : Option (Int ⊕ (Bool ⊕ Unit)) :=
  if (decide (s2 < s1)) = true then if 0 ≤ s1 ∧ s1 < ((List.length x0 : Nat) : Int) then (if 0 ≤ s2 ∧ s2 < ((List.length x0 : Nat) : Int) then (show Option Bool from if ((((((List.getD x0 (Int.toNat s1) S35.dflt).2).2).2).1) != (((((List.getD x0 (Int.toNat s2) S35.dflt).2).2).2).1)) = true then some true else if (!(Sh.eqb S27 ((((((((((((List.getD x0 (Int.toNat s1) S35.dflt).2).2).2).2).2).2).2).2).2).2).1) ((((((((((((List.getD x0 (Int.toNat s2) S35.dflt).2).2).2).2).2).2).2).2).2).2).1))) = true then some true else if (((((((((((List.getD x0 (Int.toNat s1) S35.dflt).2).2).2).2).2).2).2).2).1) != ((((((((((List.getD x0 (Int.toNat s2) S35.dflt).2).2).2).2).2).2).2).2).1)) = true then some true else some ((((((((List.getD x0 (Int.toNat s1) S35.dflt).2).2).2).2).2).1) != (((((((List.getD x0 (Int.toNat s2) S35.dflt).2).2).2).2).2).1))).bind (fun r3 => if (r3) = true then some (Sum.inl (IntKind.wrap .i64 (s2 + 1))) else (show Option Bool from if ((((((((List.getD x0 (Int.toNat s1) S35.dflt).2).2).2).2).2).1) == 2) = true then if (Sh.eqb S27 (((((((((((((List.getD x0 (Int.toNat s1) S35.dflt).2).2).2).2).2).2).2).2).2).2).2).1) (((((((((((((List.getD x0 (Int.toNat s2) S35.dflt).2).2).2).2).2).2).2).2).2).2).2).1)) = true then if ((((((((((((List.getD x0 (Int.toNat s1) S35.dflt).2).2).2).2).2).2).2).2).2).1) != (((((((((((List.getD x0 (Int.toNat s2) S35.dflt).2).2).2).2).2).2).2).2).2).1)) = true then some true else if (!((((((((((((((((List.getD x0 (Int.toNat s1) S35.dflt).2).2).2).2).2).2).2).2).2).2).2).2).2).2) == (((((((((((((((List.getD x0 (Int.toNat s2) S35.dflt).2).2).2).2).2).2).2).2).2).2).2).2).2).2))) = true then some true else if ((((((((List.getD x0 (Int.toNat s1) S35.dflt).2).2).2).2).2).1) == 3) = true then if (Sh.eqb S29 ((((((((((((((List.getD x0 (Int.toNat s1) S35.dflt).2).2).2).2).2).2).2).2).2).2).2).2).1) ((((((((((((((List.getD x0 (Int.toNat s2) S35.dflt).2).2).2).2).2).2).2).2).2).2).2).2).1)) = true then some (!((((((((((((((((List.getD x0 (Int.toNat s1) S35.dflt).2).2).2).2).2).2).2).2).2).2).2).2).2).1) == (((((((((((((((List.getD x0 (Int.toNat s2) S35.dflt).2).2).2).2).2).2).2).2).2).2).2).2).2).1))) else some false else some false else if ((((((((List.getD x0 (Int.toNat s1) S35.dflt).2).2).2).2).2).1) == 3) = true then if (Sh.eqb S29 ((((((((((((((List.getD x0 (Int.toNat s1) S35.dflt).2).2).2).2).2).2).2).2).2).2).2).2).1) ((((((((((((((List.getD x0 (Int.toNat s2) S35.dflt).2).2).2).2).2).2).2).2).2).2).2).2).1)) = true then some (!((((((((((((((((List.getD x0 (Int.toNat s1) S35.dflt).2).2).2).2).2).2).2).2).2).2).2).2).2).1) == (((((((((((((((List.getD x0 (Int.toNat s2) S35.dflt).2).2).2).2).2).2).2).2).2).2).2).2).2).1))) else some false else some false else if ((((((((List.getD x0 (Int.toNat s1) S35.dflt).2).2).2).2).2).1) == 3) = true then if (Sh.eqb S29 ((((((((((((((List.getD x0 (Int.toNat s1) S35.dflt).2).2).2).2).2).2).2).2).2).2).2).2).1) ((((((((((((((List.getD x0 (Int.toNat s2) S35.dflt).2).2).2).2).2).2).2).2).2).2).2).2).1)) = true then some (!((((((((((((((((List.getD x0 (Int.toNat s1) S35.dflt).2).2).2).2).2).2).2).2).2).2).2).2).2).1) == (((((((((((((((List.getD x0 (Int.toNat s2) S35.dflt).2).2).2).2).2).2).2).2).2).2).2).2).2).1))) else some false else some false).bind (fun r4 => if (r4) = true then some (Sum.inr (Sum.inl false)) else some (Sum.inl (IntKind.wrap .i64 (s2 + 1))))) else none) else none else some (Sum.inr (Sum.inr ()))
noncomputable def F_congressref26_Agree_b1 (x0 : (List S35.ty)) (s1 : Int) : Option (Int ⊕ (Bool ⊕ Unit)) :=
  if (decide (s1 < ((List.length x0 : Nat) : Int))) = true then (loopO (F_congressref26_Agree_b2 s1 x0) 0).bind (Sum.elim (fun y2 => some (Sum.inr (Sum.inl y2))) (fun j21 => some (Sum.inl (IntKind.wrap .i64 (s1 + 1))))) else some (Sum.inr (Sum.inr ()))
noncomputable def F_congressref26_Agree (x0 : (List S35.ty)) : Option Bool :=
  (loopO (F_congressref26_Agree_b1 x0) 0).bind (Sum.elim some (fun j11 => some true))
theorem W_congressref26_Agree {x0 : (List S35.ty)} {y : Bool} (hF0 : F_congressref26_Agree x0 = some y) : Pure Tryd.prog 15 [.v (.sl S35) x0] (vb y) := by
  unfold F_congressref26_Agree at hF0
  refine pure_of_run @Tryd.call15 @Tryd.func15 rfl rfl fun w M ho => ?_
  refine sq rfl (rg [(0, .v (.sl S35) x0)] [] [] [] 1020000 rfl (by kernel_rfl) c0 (sq rfl (sq rfl (rg [(0, .v (.sl S35) x0), (3, vi 0)] [] [] [] 1020000 rfl (by kernel_rfl) c0 (bk rfl ?_)))))
  obtain ⟨r1, hl1, hF0⟩ := obd hF0
  refine run_cutx 0 rfl (fun j11 => r1 = Sum.inr j11) (fun j11 => []) (fun j11 => []) (fun j11 h1 => ?_) (fun J1_1 => ?_)
  · subst h1
    replace hF0 := sumR hF0
    refine sq rfl (rg [(2, vb true)] [] [] [] 1020000 rfl (by kernel_rfl) c0 ?_)
    obtain rfl := Option.some.inj hF0
    exact ret_pure (q := [vb true]) [.bool] rfl rfl (by kernel_rfl)
  refine run_loop rfl (run_loopO hl1 (fun s1 => [(0, .v (.sl S35) x0), (3, vi s1)]) (fun s1 => []) rfl rfl (fun s1 o1 hF1 ih1 hr1 => ?_))
  unfold F_congressref26_Agree_b1 at hF1
  refine run_again (sq rfl (sq rfl (rg [(0, .v (.sl S35) x0), (3, vi s1), (10, vb (decide (s1 < ((List.length x0 : Nat) : Int))))] [] [] [] 1020000 rfl (by kernel_rfl) c0 ?_)))
  refine run_if rfl rfl (fun h2 => ?_) (fun h2 => ?_)
  · replace hF1 := ift h2 hF1
    refine sk rfl (sq rfl (bk rfl (sq rfl (rg [(0, .v (.sl S35) x0), (3, vi s1), (4, vi 0)] [] [] [] 1020000 rfl (by kernel_rfl) c0 (bk rfl ?_)))))
    obtain ⟨r2, hl2, hF1⟩ := obd hF1
    refine run_cutx 2 rfl (fun j21 => r2 = Sum.inr j21) (fun j21 => [(0, .v (.sl S35) x0), (3, vi s1)]) (fun j21 => []) (fun j21 h3 => ?_) (fun J2_1 => ?_)
    · subst h3
      replace hF1 := sumR hF1
      refine eb (rg [(0, .v (.sl S35) x0), (3, vi (IntKind.wrap .i64 (s1 + 1)))] [] [] [] 1020000 rfl (by kernel_rfl) c0 ?_)
      exact ih1 _ (Option.some.inj hF1).symm
    refine run_loop rfl (run_loopO hl2 (fun s2 => [(0, .v (.sl S35) x0), (3, vi s1), (4, vi s2)]) (fun s2 => []) rfl rfl (fun s2 o2 hF2 ih2 hr2 => ?_))
    unfold F_congressref26_Agree_b2 at hF2
    refine run_again (sq rfl (sq rfl (rg [(0, .v (.sl S35) x0), (3, vi s1), (4, vi s2), (15, vb (decide (s2 < s1)))] [] [] [] 1020000 rfl (by kernel_rfl) c0 ?_)))
    refine run_if rfl rfl (fun h4 => ?_) (fun h4 => ?_)
    · replace hF2 := ift h4 hF2
      refine sk rfl (sq rfl (bk rfl (sq rfl ?_)))
      obtain ⟨h5, hF2⟩ := ifg hF2
      obtain ⟨h6, hF2⟩ := ifg hF2
      refine rF 2 [(0, .v (.sl S35) x0), (3, vi s1), (4, vi s2), (5, .ptr 1020160 [] 0), (6, .ptr 1020180 [] 0)] [(1020160, .var 35 S35 (List.getD x0 (Int.toNat s1) S35.dflt)), (1020180, .var 35 S35 (List.getD x0 (Int.toNat s2) S35.dflt))] [] [] 1020000 rfl rfl (by kernel_rfl) (cc h5 (cc h6 c0)) (sq rfl (sq rfl ?_))
      obtain ⟨r3, hF3, hF2⟩ := obd hF2
      refine run_cut (fun r3' => r3 = r3') (fun r3 => [(0, .v (.sl S35) x0), (3, vi s1), (4, vi s2), (5, .ptr 1020160 [] 0), (6, .ptr 1020180 [] 0), (65, vb r3)]) (fun r3 => [(1020160, .var 35 S35 (List.getD x0 (Int.toNat s1) S35.dflt)), (1020180, .var 35 S35 (List.getD x0 (Int.toNat s2) S35.dflt))]) (fun r3' h7 => ?_) (fun J3_0 => ?_)
      · subst h7
        refine run_if rfl rfl (fun h8 => ?_) (fun h8 => ?_)
        · replace hF2 := ift h8 hF2
          refine run_exit rfl rfl (rg [(0, .v (.sl S35) x0), (3, vi s1), (4, vi (IntKind.wrap .i64 (s2 + 1)))] [] [] [] 1020181 rfl (by kernel_rfl) c0 ?_)
          exact ih2 _ (Option.some.inj hF2).symm
        · replace hF2 := ifn h8 hF2
          refine sk rfl (sq rfl ?_)
          obtain ⟨r4, hF3, hF2⟩ := obd hF2
          refine run_cut (fun r4' => r4 = r4') (fun r4 => [(0, .v (.sl S35) x0), (3, vi s1), (4, vi s2), (132, vb r4)]) (fun r4 => []) (fun r4' h9 => ?_) (fun J4_0 => ?_)
          · subst h9
            refine run_if rfl rfl (fun h10 => ?_) (fun h10 => ?_)
            · replace hF2 := ift h10 hF2
              refine sq rfl (rg [(2, vb false)] [] [] [] 1020000 rfl (by kernel_rfl) c0 ?_)
              have e2 := inrI hr2 hF2
              subst e2
              replace hF1 := sumL hF1
              have e1 := inrI hr1 hF1
              subst e1
              replace hF0 := sumL hF0
              obtain rfl := Option.some.inj hF0
              exact ret_pure (q := [vb false]) [.bool] rfl rfl (by kernel_rfl)
            · replace hF2 := ifn h10 hF2
              refine sk rfl (eb (rg [(0, .v (.sl S35) x0), (3, vi s1), (4, vi (IntKind.wrap .i64 (s2 + 1)))] [] [] [] 1020000 rfl (by kernel_rfl) c0 ?_))
              exact ih2 _ (Option.some.inj hF2).symm
          rcases Bool.eq_false_or_eq_true ((((((((List.getD x0 (Int.toNat s1) S35.dflt).2).2).2).2).2).1) == 2) with h11 | h11
          · replace hF3 := ift h11 hF3
            rcases Bool.eq_false_or_eq_true (Sh.eqb S27 (((((((((((((List.getD x0 (Int.toNat s1) S35.dflt).2).2).2).2).2).2).2).2).2).2).2).1) (((((((((((((List.getD x0 (Int.toNat s2) S35.dflt).2).2).2).2).2).2).2).2).2).2).2).1)) with h12 | h12
            · replace hF3 := ift h12 hF3
              rcases Bool.eq_false_or_eq_true ((((((((((((List.getD x0 (Int.toNat s1) S35.dflt).2).2).2).2).2).2).2).2).2).1) != (((((((((((List.getD x0 (Int.toNat s2) S35.dflt).2).2).2).2).2).2).2).2).2).1)) with h13 | h13
              · replace hF3 := ift h13 hF3
                refine rg [(0, .v (.sl S35) x0), (3, vi s1), (4, vi s2), (132, vb true)] [] [] [(5, true), (16, true), (26, true)] 1020181 rfl (by kernel_rfl) (cc h11 (cc h12 (cc h13 c0))) ?_
                exact J4_0 _ (Option.some.inj hF3).symm
              · replace hF3 := ifn h13 hF3
                rcases Bool.eq_false_or_eq_true (!((((((((((((((((List.getD x0 (Int.toNat s1) S35.dflt).2).2).2).2).2).2).2).2).2).2).2).2).2).2) == (((((((((((((((List.getD x0 (Int.toNat s2) S35.dflt).2).2).2).2).2).2).2).2).2).2).2).2).2).2))) with h14 | h14
                · replace hF3 := ift h14 hF3
                  refine rg [(0, .v (.sl S35) x0), (3, vi s1), (4, vi s2), (132, vb true)] [] [] [(5, true), (16, true), (26, false), (38, true)] 1020181 rfl (by kernel_rfl) (cc h11 (cc h12 (cc h13 (cc h14 c0)))) ?_
                  exact J4_0 _ (Option.some.inj hF3).symm
                · replace hF3 := ifn h14 hF3
                  rcases Bool.eq_false_or_eq_true ((((((((List.getD x0 (Int.toNat s1) S35.dflt).2).2).2).2).2).1) == 3) with h15 | h15
                  · replace hF3 := ift h15 hF3
                    rcases Bool.eq_false_or_eq_true (Sh.eqb S29 ((((((((((((((List.getD x0 (Int.toNat s1) S35.dflt).2).2).2).2).2).2).2).2).2).2).2).2).1) ((((((((((((((List.getD x0 (Int.toNat s2) S35.dflt).2).2).2).2).2).2).2).2).2).2).2).2).1)) with h16 | h16
                    · replace hF3 := ift h16 hF3
                      refine rg [(0, .v (.sl S35) x0), (3, vi s1), (4, vi s2), (132, vb (!((((((((((((((((List.getD x0 (Int.toNat s1) S35.dflt).2).2).2).2).2).2).2).2).2).2).2).2).2).1) == (((((((((((((((List.getD x0 (Int.toNat s2) S35.dflt).2).2).2).2).2).2).2).2).2).2).2).2).2).1))))] [] [] [(5, true), (16, true), (26, false), (38, false), (44, true), (55, true)] 1020181 rfl (by kernel_rfl) (cc h11 (cc h12 (cc h13 (cc h14 (cc h15 (cc h16 c0)))))) ?_
                      exact J4_0 _ (Option.some.inj hF3).symm
                    · replace hF3 := ifn h16 hF3
                      refine rg [(0, .v (.sl S35) x0), (3, vi s1), (4, vi s2), (132, vb false)] [] [] [(5, true), (16, true), (26, false), (38, false), (44, true), (55, false)] 1020181 rfl (by kernel_rfl) (cc h11 (cc h12 (cc h13 (cc h14 (cc h15 (cc h16 c0)))))) ?_
                      exact J4_0 _ (Option.some.inj hF3).symm
                  · replace hF3 := ifn h15 hF3
                    refine rg [(0, .v (.sl S35) x0), (3, vi s1), (4, vi s2), (132, vb false)] [] [] [(5, true), (16, true), (26, false), (38, false), (44, false)] 1020181 rfl (by kernel_rfl) (cc h11 (cc h12 (cc h13 (cc h14 (cc h15 c0))))) ?_
                    exact J4_0 _ (Option.some.inj hF3).symm
            · replace hF3 := ifn h12 hF3
              rcases Bool.eq_false_or_eq_true ((((((((List.getD x0 (Int.toNat s1) S35.dflt).2).2).2).2).2).1) == 3) with h17 | h17
              · replace hF3 := ift h17 hF3
                rcases Bool.eq_false_or_eq_true (Sh.eqb S29 ((((((((((((((List.getD x0 (Int.toNat s1) S35.dflt).2).2).2).2).2).2).2).2).2).2).2).2).1) ((((((((((((((List.getD x0 (Int.toNat s2) S35.dflt).2).2).2).2).2).2).2).2).2).2).2).2).1)) with h18 | h18
                · replace hF3 := ift h18 hF3
                  refine rg [(0, .v (.sl S35) x0), (3, vi s1), (4, vi s2), (132, vb (!((((((((((((((((List.getD x0 (Int.toNat s1) S35.dflt).2).2).2).2).2).2).2).2).2).2).2).2).2).1) == (((((((((((((((List.getD x0 (Int.toNat s2) S35.dflt).2).2).2).2).2).2).2).2).2).2).2).2).2).1))))] [] [] [(5, true), (16, false), (44, true), (55, true)] 1020181 rfl (by kernel_rfl) (cc h11 (cc h12 (cc h17 (cc h18 c0)))) ?_
                  exact J4_0 _ (Option.some.inj hF3).symm
                · replace hF3 := ifn h18 hF3
                  refine rg [(0, .v (.sl S35) x0), (3, vi s1), (4, vi s2), (132, vb false)] [] [] [(5, true), (16, false), (44, true), (55, false)] 1020181 rfl (by kernel_rfl) (cc h11 (cc h12 (cc h17 (cc h18 c0)))) ?_
                  exact J4_0 _ (Option.some.inj hF3).symm
              · replace hF3 := ifn h17 hF3
                refine rg [(0, .v (.sl S35) x0), (3, vi s1), (4, vi s2), (132, vb false)] [] [] [(5, true), (16, false), (44, false)] 1020181 rfl (by kernel_rfl) (cc h11 (cc h12 (cc h17 c0))) ?_
                exact J4_0 _ (Option.some.inj hF3).symm
          · replace hF3 := ifn h11 hF3
            rcases Bool.eq_false_or_eq_true ((((((((List.getD x0 (Int.toNat s1) S35.dflt).2).2).2).2).2).1) == 3) with h19 | h19
            · replace hF3 := ift h19 hF3
              rcases Bool.eq_false_or_eq_true (Sh.eqb S29 ((((((((((((((List.getD x0 (Int.toNat s1) S35.dflt).2).2).2).2).2).2).2).2).2).2).2).2).1) ((((((((((((((List.getD x0 (Int.toNat s2) S35.dflt).2).2).2).2).2).2).2).2).2).2).2).2).1)) with h20 | h20
              · replace hF3 := ift h20 hF3
                refine rg [(0, .v (.sl S35) x0), (3, vi s1), (4, vi s2), (132, vb (!((((((((((((((((List.getD x0 (Int.toNat s1) S35.dflt).2).2).2).2).2).2).2).2).2).2).2).2).2).1) == (((((((((((((((List.getD x0 (Int.toNat s2) S35.dflt).2).2).2).2).2).2).2).2).2).2).2).2).2).1))))] [] [] [(5, false), (44, true), (55, true)] 1020181 rfl (by kernel_rfl) (cc h11 (cc h19 (cc h20 c0))) ?_
                exact J4_0 _ (Option.some.inj hF3).symm
              · replace hF3 := ifn h20 hF3
                refine rg [(0, .v (.sl S35) x0), (3, vi s1), (4, vi s2), (132, vb false)] [] [] [(5, false), (44, true), (55, false)] 1020181 rfl (by kernel_rfl) (cc h11 (cc h19 (cc h20 c0))) ?_
                exact J4_0 _ (Option.some.inj hF3).symm
            · replace hF3 := ifn h19 hF3
              refine rg [(0, .v (.sl S35) x0), (3, vi s1), (4, vi s2), (132, vb false)] [] [] [(5, false), (44, false)] 1020181 rfl (by kernel_rfl) (cc h11 (cc h19 c0)) ?_
              exact J4_0 _ (Option.some.inj hF3).symm
      rcases Bool.eq_false_or_eq_true ((((((List.getD x0 (Int.toNat s1) S35.dflt).2).2).2).1) != (((((List.getD x0 (Int.toNat s2) S35.dflt).2).2).2).1)) with h21 | h21
      · replace hF3 := ift h21 hF3
        refine rg [(0, .v (.sl S35) x0), (3, vi s1), (4, vi s2), (5, .ptr 1020160 [] 0), (6, .ptr 1020180 [] 0), (65, vb true)] [(1020160, .var 35 S35 (List.getD x0 (Int.toNat s1) S35.dflt)), (1020180, .var 35 S35 (List.getD x0 (Int.toNat s2) S35.dflt))] [] [(7, true)] 1020181 rfl (by kernel_rfl) (cc h21 c0) ?_
        exact J3_0 _ (Option.some.inj hF3).symm
      · replace hF3 := ifn h21 hF3
        rcases Bool.eq_false_or_eq_true (!(Sh.eqb S27 ((((((((((((List.getD x0 (Int.toNat s1) S35.dflt).2).2).2).2).2).2).2).2).2).2).1) ((((((((((((List.getD x0 (Int.toNat s2) S35.dflt).2).2).2).2).2).2).2).2).2).2).1))) with h22 | h22
        · replace hF3 := ift h22 hF3
          refine rg [(0, .v (.sl S35) x0), (3, vi s1), (4, vi s2), (5, .ptr 1020160 [] 0), (6, .ptr 1020180 [] 0), (65, vb true)] [(1020160, .var 35 S35 (List.getD x0 (Int.toNat s1) S35.dflt)), (1020180, .var 35 S35 (List.getD x0 (Int.toNat s2) S35.dflt))] [] [(7, false), (18, true)] 1020181 rfl (by kernel_rfl) (cc h21 (cc h22 c0)) ?_
          exact J3_0 _ (Option.some.inj hF3).symm
        · replace hF3 := ifn h22 hF3
          rcases Bool.eq_false_or_eq_true (((((((((((List.getD x0 (Int.toNat s1) S35.dflt).2).2).2).2).2).2).2).2).1) != ((((((((((List.getD x0 (Int.toNat s2) S35.dflt).2).2).2).2).2).2).2).2).1)) with h23 | h23
          · replace hF3 := ift h23 hF3
            refine rg [(0, .v (.sl S35) x0), (3, vi s1), (4, vi s2), (5, .ptr 1020160 [] 0), (6, .ptr 1020180 [] 0), (65, vb true)] [(1020160, .var 35 S35 (List.getD x0 (Int.toNat s1) S35.dflt)), (1020180, .var 35 S35 (List.getD x0 (Int.toNat s2) S35.dflt))] [] [(7, false), (18, false), (29, true)] 1020181 rfl (by kernel_rfl) (cc h21 (cc h22 (cc h23 c0))) ?_
            exact J3_0 _ (Option.some.inj hF3).symm
          · replace hF3 := ifn h23 hF3
            refine rg [(0, .v (.sl S35) x0), (3, vi s1), (4, vi s2), (5, .ptr 1020160 [] 0), (6, .ptr 1020180 [] 0), (65, vb ((((((((List.getD x0 (Int.toNat s1) S35.dflt).2).2).2).2).2).1) != (((((((List.getD x0 (Int.toNat s2) S35.dflt).2).2).2).2).2).1)))] [(1020160, .var 35 S35 (List.getD x0 (Int.toNat s1) S35.dflt)), (1020180, .var 35 S35 (List.getD x0 (Int.toNat s2) S35.dflt))] [] [(7, false), (18, false), (29, false)] 1020181 rfl (by kernel_rfl) (cc h21 (cc h22 (cc h23 c0))) ?_
            exact J3_0 _ (Option.some.inj hF3).symm
    · replace hF2 := ifn h4 hF2
      refine run_exit rfl rfl (tm (ρ' := [(0, .v (.sl S35) x0), (3, vi s1)]) (H' := []) (by kernel_rfl) (by kernel_rfl) rfl ?_)
      exact J2_1 _ (inrI hr2 hF2).symm
  · replace hF1 := ifn h2 hF1
    refine run_exit rfl rfl (tm (ρ' := []) (H' := []) (by kernel_rfl) (by kernel_rfl) rfl ?_)
    exact J1_1 _ (inrI hr1 hF1).symm
noncomputable def F_congressref26_Rule_b6 (x0 : (List S35.ty)) (x1 : S35.ty) (s6 : Int) : Option (Int ⊕ (Int ⊕ Unit)) :=
  (show Option Bool from if (decide (s6 < ((List.length x0 : Nat) : Int))) = true then some (x1.2.2.2.2.2.1 == 3) else some false).bind (fun r8 => if (r8) = true then (show Option Bool from if 0 ≤ s6 ∧ s6 < ((List.length x0 : Nat) : Int) then (if ((((((((List.getD x0 (Int.toNat s6) S35.dflt).2).2).2).2).2).1) == 3) = true then if 0 ≤ s6 ∧ s6 < ((List.length x0 : Nat) : Int) then (if (Sh.eqb S27 ((((((((((((List.getD x0 (Int.toNat s6) S35.dflt).2).2).2).2).2).2).2).2).2).2).1) x1.2.2.2.2.2.2.2.2.2.2.1) = true then if 0 ≤ s6 ∧ s6 < ((List.length x0 : Nat) : Int) then (if (Sh.eqb S29 ((((((((((((((List.getD x0 (Int.toNat s6) S35.dflt).2).2).2).2).2).2).2).2).2).2).2).2).1) x1.2.2.2.2.2.2.2.2.2.2.2.2.1) = true then if 0 ≤ s6 ∧ s6 < ((List.length x0 : Nat) : Int) then (some (((((((((((List.getD x0 (Int.toNat s6) S35.dflt).2).2).2).2).2).2).2).2).1) == x1.2.2.2.2.2.2.2.2.1)) else none else some false) else none else some false) else none else some false) else none).bind (fun r9 => if (r9) = true then some (Sum.inr (Sum.inl 6)) else some (Sum.inl (IntKind.wrap .i64 (s6 + 1)))) else some (Sum.inr (Sum.inr ())))
noncomputable def F_congressref26_Rule_b4 (x0 : (List S35.ty)) (x1 : S35.ty) (s4 : Int) : Option (Int ⊕ (Int ⊕ Unit)) :=
  (show Option Bool from if (decide (s4 < ((List.length x0 : Nat) : Int))) = true then some (x1.2.2.2.2.2.1 == 2) else some false).bind (fun r10 => if (r10) = true then (show Option Bool from if 0 ≤ s4 ∧ s4 < ((List.length x0 : Nat) : Int) then (if ((((((((List.getD x0 (Int.toNat s4) S35.dflt).2).2).2).2).2).1) == 2) = true then if 0 ≤ s4 ∧ s4 < ((List.length x0 : Nat) : Int) then (if (Sh.eqb S27 ((((((((((((List.getD x0 (Int.toNat s4) S35.dflt).2).2).2).2).2).2).2).2).2).2).1) x1.2.2.2.2.2.2.2.2.2.2.1) = true then if 0 ≤ s4 ∧ s4 < ((List.length x0 : Nat) : Int) then (some (decide (x1.2.2.2.2.2.2.2.2.1 ≤ ((((((((((List.getD x0 (Int.toNat s4) S35.dflt).2).2).2).2).2).2).2).2).1)))) else none else some false) else none else some false) else none).bind (fun r11 => if (r11) = true then some (Sum.inr (Sum.inl 4)) else some (Sum.inl (IntKind.wrap .i64 (s4 + 1)))) else some (Sum.inr (Sum.inr ())))
noncomputable def F_congressref26_Rule_b1 (x0 : (List S35.ty)) (x1 : S35.ty) (s1 : (Bool × Int × S27.ty)) : Option ((Bool × Int × S27.ty) ⊕ (Int ⊕ (Bool × S27.ty))) :=
  if (decide (s1.2.1 < ((List.length x0 : Nat) : Int))) = true then if 0 ≤ s1.2.1 ∧ s1.2.1 < ((List.length x0 : Nat) : Int) then (if ((((((((List.getD x0 (Int.toNat s1.2.1) S35.dflt).2).2).2).2).2).1) == 1) = true then (show Option Bool from if (x1.2.2.2.2.2.1 == 1) = true then if 0 ≤ s1.2.1 ∧ s1.2.1 < ((List.length x0 : Nat) : Int) then (F_congressref07_Compare x1.2.2.2.2.2.2.2.2.2.2.1 ((((((((((((List.getD x0 (Int.toNat s1.2.1) S35.dflt).2).2).2).2).2).2).2).2).2).2).1)).bind fun t4 => (some (decide (t4 < 1))) else none else some false).bind (fun r12 => if (r12) = true then some (Sum.inr (Sum.inl 2)) else if 0 ≤ s1.2.1 ∧ s1.2.1 < ((List.length x0 : Nat) : Int) then (some (Sum.inl (true, IntKind.wrap .i64 (s1.2.1 + 1), (((((((((((List.getD x0 (Int.toNat s1.2.1) S35.dflt).2).2).2).2).2).2).2).2).2).2).1))) else none) else some (Sum.inl (s1.1, IntKind.wrap .i64 (s1.2.1 + 1), s1.2.2))) else none else some (Sum.inr (Sum.inr (s1.1, s1.2.2)))
noncomputable def F_congressref26_Rule (x0 : (List S35.ty)) (x1 : S35.ty) : Option Int :=
  (loopO (F_congressref26_Rule_b1 x0 x1) (false, 0, (0, (0, 0)))).bind (Sum.elim some (fun j11 => (show Option Bool from if (x1.2.2.2.2.2.1 != 2) = true then some (x1.2.2.2.2.2.1 != 3) else some false).bind (fun r2 => if (r2) = true then some 0 else (show Option Bool from if (j11.1) = true then some (!(Sh.eqb S27 x1.2.2.2.2.2.2.2.2.2.2.1 j11.2)) else some false).bind (fun r3 => if (r3) = true then some 3 else (loopO (F_congressref26_Rule_b4 x0 x1) 0).bind (Sum.elim some (fun j41 => (show Option Bool from if (x1.2.2.2.2.2.1 == 2) = true then (F_congressref20_Signed x1.2.1).bind fun t1 => (if List.length t1 + List.length ([46] : Str) ≤ maxLen then (F_congressref20_Digits x1.2.2.2.2.1).bind fun t2 => (if List.length (t1 ++ ([46] : Str)) + List.length t2 ≤ maxLen then (if List.length ((t1 ++ ([46] : Str)) ++ t2) + List.length ([32] : Str) ≤ maxLen then (F_congressref26_Has x1.2.2.2.2.2.2.2.2.2.2.2.2.2.2 (((t1 ++ ([46] : Str)) ++ t2) ++ ([32] : Str))).bind fun t3 => (some (!t3)) else none) else none) else none) else some false).bind (fun r5 => if (r5) = true then some 5 else (loopO (F_congressref26_Rule_b6 x0 x1) 0).bind (Sum.elim some (fun j61 => (show Option Bool from if (x1.2.2.2.2.2.1 == 3) = true then some (x1.2.2.2.2.2.2.2.2.2.2.2.2.1.1 != x1.2.2.2.2.2.2.2.2.2.1) else some false).bind (fun r7 => if (r7) = true then some 7 else some 0))))))))))
theorem W_congressref26_Rule {x0 : (List S35.ty)} {x1 : S35.ty} {y : Int} (hF0 : F_congressref26_Rule x0 x1 = some y) : Pure Tryd.prog 29 [.v (.sl S35) x0, .v S35 x1] (vi y) := by
  unfold F_congressref26_Rule at hF0
  refine pure_of_run @Tryd.call29 @Tryd.func29 rfl rfl fun w M ho => ?_
  refine sq rfl (rg [(0, .v (.sl S35) x0), (3, .ptr 1020000 [] 0)] [(1020000, .var 35 S35 x1)] [] [] 1020000 rfl (by kernel_rfl) c0 (sq rfl (rg [(0, .v (.sl S35) x0), (3, .ptr 1020000 [] 0), (5, .ptr 1020021 [] 0)] [(1020000, .var 35 S35 x1), (1020021, .var 27 S27 (0, (0, 0)))] [] [] 1020001 rfl (by kernel_rfl) c0 (sq rfl (rg [(0, .v (.sl S35) x0), (3, .ptr 1020000 [] 0), (5, .ptr 1020021 [] 0), (6, vb false)] [(1020000, .var 35 S35 x1), (1020021, .var 27 S27 (0, (0, 0)))] [] [] 1020022 rfl (by kernel_rfl) c0 (sq rfl (sq rfl (rg [(0, .v (.sl S35) x0), (3, .ptr 1020000 [] 0), (5, .ptr 1020021 [] 0), (6, vb false), (7, vi 0)] [(1020000, .var 35 S35 x1), (1020021, .var 27 S27 (0, (0, 0)))] [] [] 1020022 rfl (by kernel_rfl) c0 (bk rfl ?_)))))))))
  obtain ⟨r1, hl1, hF0⟩ := obd hF0
  refine run_cutx 0 rfl (fun j11 => r1 = Sum.inr j11) (fun j11 => [(0, .v (.sl S35) x0), (3, .ptr 1020000 [] 0), (5, .ptr 1020021 [] 0), (6, vb j11.1)]) (fun j11 => [(1020000, .var 35 S35 x1), (1020021, .var 27 S27 j11.2)]) (fun j11 h1 => ?_) (fun J1_1 => ?_)
  · subst h1
    replace hF0 := sumR hF0
    refine sq rfl (sq rfl ?_)
    obtain ⟨r2, hF1, hF0⟩ := obd hF0
    refine run_cut (fun r2' => r2 = r2') (fun r2 => [(0, .v (.sl S35) x0), (3, .ptr 1020000 [] 0), (5, .ptr 1020021 [] 0), (6, vb j11.1), (63, vb r2)]) (fun r2 => [(1020000, .var 35 S35 x1), (1020021, .var 27 S27 j11.2)]) (fun r2' h2 => ?_) (fun J2_0 => ?_)
    · subst h2
      refine run_if rfl rfl (fun h3 => ?_) (fun h3 => ?_)
      · replace hF0 := ift h3 hF0
        refine sq rfl (rg [(4, vi 0)] [] [] [] 1020022 rfl (by kernel_rfl) c0 ?_)
        obtain rfl := Option.some.inj hF0
        exact ret_pure (q := [vi 0]) [(.int .i64)] rfl rfl (by kernel_rfl)
      · replace hF0 := ifn h3 hF0
        refine sk rfl (sq rfl (sq rfl ?_))
        obtain ⟨r3, hF1, hF0⟩ := obd hF0
        refine run_cut (fun r3' => r3 = r3') (fun r3 => [(0, .v (.sl S35) x0), (3, .ptr 1020000 [] 0), (72, vb r3)]) (fun r3 => [(1020000, .var 35 S35 x1)]) (fun r3' h4 => ?_) (fun J3_0 => ?_)
        · subst h4
          refine run_if rfl rfl (fun h5 => ?_) (fun h5 => ?_)
          · replace hF0 := ift h5 hF0
            refine sq rfl (rg [(4, vi 3)] [] [] [] 1020001 rfl (by kernel_rfl) c0 ?_)
            obtain rfl := Option.some.inj hF0
            exact ret_pure (q := [vi 3]) [(.int .i64)] rfl rfl (by kernel_rfl)
          · replace hF0 := ifn h5 hF0
            refine sk rfl (sq rfl (sq rfl (rg [(0, .v (.sl S35) x0), (3, .ptr 1020000 [] 0), (8, vi 0)] [(1020000, .var 35 S35 x1)] [] [] 1020001 rfl (by kernel_rfl) c0 (bk rfl ?_))))
            obtain ⟨r4, hl4, hF0⟩ := obd hF0
            refine run_cutx 2 rfl (fun j41 => r4 = Sum.inr j41) (fun j41 => [(0, .v (.sl S35) x0), (3, .ptr 1020000 [] 0)]) (fun j41 => [(1020000, .var 35 S35 x1)]) (fun j41 h6 => ?_) (fun J4_1 => ?_)
            · subst h6
              replace hF0 := sumR hF0
              refine sq rfl (sq rfl ?_)
              obtain ⟨r5, hF1, hF0⟩ := obd hF0
              refine run_cut (fun r5' => r5 = r5') (fun r5 => [(0, .v (.sl S35) x0), (3, .ptr 1020000 [] 0), (145, vb r5)]) (fun r5 => [(1020000, .var 35 S35 x1)]) (fun r5' h7 => ?_) (fun J5_0 => ?_)
              · subst h7
                refine run_if rfl rfl (fun h8 => ?_) (fun h8 => ?_)
                · replace hF0 := ift h8 hF0
                  refine sq rfl (rg [(4, vi 5)] [] [] [] 1020001 rfl (by kernel_rfl) c0 ?_)
                  obtain rfl := Option.some.inj hF0
                  exact ret_pure (q := [vi 5]) [(.int .i64)] rfl rfl (by kernel_rfl)
                · replace hF0 := ifn h8 hF0
                  refine sk rfl (sq rfl (sq rfl (rg [(0, .v (.sl S35) x0), (3, .ptr 1020000 [] 0), (9, vi 0)] [(1020000, .var 35 S35 x1)] [] [] 1020001 rfl (by kernel_rfl) c0 (bk rfl ?_))))
                  obtain ⟨r6, hl6, hF0⟩ := obd hF0
                  refine run_cutx 4 rfl (fun j61 => r6 = Sum.inr j61) (fun j61 => [(3, .ptr 1020000 [] 0)]) (fun j61 => [(1020000, .var 35 S35 x1)]) (fun j61 h9 => ?_) (fun J6_1 => ?_)
                  · subst h9
                    replace hF0 := sumR hF0
                    refine sq rfl (sq rfl ?_)
                    obtain ⟨r7, hF1, hF0⟩ := obd hF0
                    refine run_cut (fun r7' => r7 = r7') (fun r7 => [(225, vb r7)]) (fun r7 => []) (fun r7' h10 => ?_) (fun J7_0 => ?_)
                    · subst h10
                      refine run_if rfl rfl (fun h11 => ?_) (fun h11 => ?_)
                      · replace hF0 := ift h11 hF0
                        refine sq rfl (rg [(4, vi 7)] [] [] [] 1020000 rfl (by kernel_rfl) c0 ?_)
                        obtain rfl := Option.some.inj hF0
                        exact ret_pure (q := [vi 7]) [(.int .i64)] rfl rfl (by kernel_rfl)
                      · replace hF0 := ifn h11 hF0
                        refine sk rfl (sq rfl (rg [(4, vi 0)] [] [] [] 1020000 rfl (by kernel_rfl) c0 ?_))
                        obtain rfl := Option.some.inj hF0
                        exact ret_pure (q := [vi 0]) [(.int .i64)] rfl rfl (by kernel_rfl)
                    rcases Bool.eq_false_or_eq_true (x1.2.2.2.2.2.1 == 3) with h12 | h12
                    · replace hF1 := ift h12 hF1
                      refine rg [(225, vb (x1.2.2.2.2.2.2.2.2.2.2.2.2.1.1 != x1.2.2.2.2.2.2.2.2.2.1))] [] [] [(5, true)] 1020001 rfl (by kernel_rfl) (cc h12 c0) ?_
                      exact J7_0 _ (Option.some.inj hF1).symm
                    · replace hF1 := ifn h12 hF1
                      refine rg [(225, vb false)] [] [] [(5, false)] 1020001 rfl (by kernel_rfl) (cc h12 c0) ?_
                      exact J7_0 _ (Option.some.inj hF1).symm
                  refine run_loop rfl (run_loopO hl6 (fun s6 => [(0, .v (.sl S35) x0), (3, .ptr 1020000 [] 0), (9, vi s6)]) (fun s6 => [(1020000, .var 35 S35 x1)]) rfl rfl (fun s6 o6 hF1 ih6 hr6 => ?_))
                  unfold F_congressref26_Rule_b6 at hF1
                  refine run_again (sq rfl (sq rfl ?_))
                  obtain ⟨r8, hF2, hF1⟩ := obd hF1
                  refine run_cut (fun r8' => r8 = r8') (fun r8 => [(0, .v (.sl S35) x0), (3, .ptr 1020000 [] 0), (9, vi s6), (156, vb r8)]) (fun r8 => [(1020000, .var 35 S35 x1)]) (fun r8' h13 => ?_) (fun J8_0 => ?_)
                  · subst h13
                    refine run_if rfl rfl (fun h14 => ?_) (fun h14 => ?_)
                    · replace hF1 := ift h14 hF1
                      refine sk rfl (sq rfl (bk rfl (sq rfl ?_)))
                      obtain ⟨r9, hF2, hF1⟩ := obd hF1
                      refine run_cut (fun r9' => r9 = r9') (fun r9 => [(0, .v (.sl S35) x0), (3, .ptr 1020000 [] 0), (9, vi s6), (208, vb r9)]) (fun r9 => [(1020000, .var 35 S35 x1)]) (fun r9' h15 => ?_) (fun J9_0 => ?_)
                      · subst h15
                        refine run_if rfl rfl (fun h16 => ?_) (fun h16 => ?_)
                        · replace hF1 := ift h16 hF1
                          refine sq rfl (rg [(4, vi 6)] [] [] [] 1020001 rfl (by kernel_rfl) c0 ?_)
                          have e6 := inrI hr6 hF1
                          subst e6
                          replace hF0 := sumL hF0
                          obtain rfl := Option.some.inj hF0
                          exact ret_pure (q := [vi 6]) [(.int .i64)] rfl rfl (by kernel_rfl)
                        · replace hF1 := ifn h16 hF1
                          refine sk rfl (eb (rg [(0, .v (.sl S35) x0), (3, .ptr 1020000 [] 0), (9, vi (IntKind.wrap .i64 (s6 + 1)))] [(1020000, .var 35 S35 x1)] [] [] 1020001 rfl (by kernel_rfl) c0 ?_))
                          exact ih6 _ (Option.some.inj hF1).symm
                      obtain ⟨h17, hF2⟩ := ifg hF2
                      rcases Bool.eq_false_or_eq_true ((((((((List.getD x0 (Int.toNat s6) S35.dflt).2).2).2).2).2).1) == 3) with h18 | h18
                      · replace hF2 := ift h18 hF2
                        obtain ⟨h19, hF2⟩ := ifg hF2
                        rcases Bool.eq_false_or_eq_true (Sh.eqb S27 ((((((((((((List.getD x0 (Int.toNat s6) S35.dflt).2).2).2).2).2).2).2).2).2).2).1) x1.2.2.2.2.2.2.2.2.2.2.1) with h20 | h20
                        · replace hF2 := ift h20 hF2
                          obtain ⟨h21, hF2⟩ := ifg hF2
                          rcases Bool.eq_false_or_eq_true (Sh.eqb S29 ((((((((((((((List.getD x0 (Int.toNat s6) S35.dflt).2).2).2).2).2).2).2).2).2).2).2).2).1) x1.2.2.2.2.2.2.2.2.2.2.2.2.1) with h22 | h22
                          · replace hF2 := ift h22 hF2
                            obtain ⟨h23, hF2⟩ := ifg hF2
                            refine rG [(0, .v (.sl S35) x0), (3, .ptr 1020000 [] 0), (9, vi s6), (208, vb (((((((((((List.getD x0 (Int.toNat s6) S35.dflt).2).2).2).2).2).2).2).2).1) == x1.2.2.2.2.2.2.2.2.1))] [(1020000, .var 35 S35 x1)] [] [(8, true), (22, true), (36, true)] 1020001 rfl rfl (by kernel_rfl) (cc h17 (cc h18 (cc h19 (cc h20 (cc h21 (cc h22 (cc h23 c0))))))) ?_
                            exact J9_0 _ (Option.some.inj hF2).symm
                          · replace hF2 := ifn h22 hF2
                            refine rG [(0, .v (.sl S35) x0), (3, .ptr 1020000 [] 0), (9, vi s6), (208, vb false)] [(1020000, .var 35 S35 x1)] [] [(8, true), (22, true), (36, false)] 1020001 rfl rfl (by kernel_rfl) (cc h17 (cc h18 (cc h19 (cc h20 (cc h21 (cc h22 c0)))))) ?_
                            exact J9_0 _ (Option.some.inj hF2).symm
                        · replace hF2 := ifn h20 hF2
                          refine rG [(0, .v (.sl S35) x0), (3, .ptr 1020000 [] 0), (9, vi s6), (208, vb false)] [(1020000, .var 35 S35 x1)] [] [(8, true), (22, false)] 1020001 rfl rfl (by kernel_rfl) (cc h17 (cc h18 (cc h19 (cc h20 c0)))) ?_
                          exact J9_0 _ (Option.some.inj hF2).symm
                      · replace hF2 := ifn h18 hF2
                        refine rG [(0, .v (.sl S35) x0), (3, .ptr 1020000 [] 0), (9, vi s6), (208, vb false)] [(1020000, .var 35 S35 x1)] [] [(8, false)] 1020001 rfl rfl (by kernel_rfl) (cc h17 (cc h18 c0)) ?_
                        exact J9_0 _ (Option.some.inj hF2).symm
                    · replace hF1 := ifn h14 hF1
                      refine run_exit rfl rfl (tm (ρ' := [(3, .ptr 1020000 [] 0)]) (H' := [(1020000, .var 35 S35 x1)]) (by kernel_rfl) (by kernel_rfl) rfl ?_)
                      exact J6_1 _ (inrI hr6 hF1).symm
                  rcases Bool.eq_false_or_eq_true (decide (s6 < ((List.length x0 : Nat) : Int))) with h24 | h24
                  · replace hF2 := ift h24 hF2
                    refine rg [(0, .v (.sl S35) x0), (3, .ptr 1020000 [] 0), (9, vi s6), (156, vb (x1.2.2.2.2.2.1 == 3))] [(1020000, .var 35 S35 x1)] [] [(4, true)] 1020001 rfl (by kernel_rfl) (cc h24 c0) ?_
                    exact J8_0 _ (Option.some.inj hF2).symm
                  · replace hF2 := ifn h24 hF2
                    refine rg [(0, .v (.sl S35) x0), (3, .ptr 1020000 [] 0), (9, vi s6), (156, vb false)] [(1020000, .var 35 S35 x1)] [] [(4, false)] 1020001 rfl (by kernel_rfl) (cc h24 c0) ?_
                    exact J8_0 _ (Option.some.inj hF2).symm
              rcases Bool.eq_false_or_eq_true (x1.2.2.2.2.2.1 == 2) with h25 | h25
              · replace hF1 := ift h25 hF1
                obtain ⟨t1, h26, hF1⟩ := obd hF1
                obtain ⟨h27, hF1⟩ := ifg hF1
                obtain ⟨t2, h28, hF1⟩ := obd hF1
                obtain ⟨h29, hF1⟩ := ifg hF1
                obtain ⟨h30, hF1⟩ := ifg hF1
                obtain ⟨t3, h31, hF1⟩ := obd hF1
                refine rG [(0, .v (.sl S35) x0), (3, .ptr 1020000 [] 0), (145, vb (!t3))] [(1020000, .var 35 S35 x1)] [(12, ⟨[.v (.int .i64)], vs t1, none⟩), (18, ⟨[.v (.int .u64)], vs t2, none⟩), (21, ⟨[.v .str, .v .str], vb t3, none⟩)] [(5, true)] 1020001 rfl rfl (by kernel_rfl) (cc h25 (cc (W_congressref20_Signed h26) (cc h27 (cc (W_congressref20_Digits h28) (cc h29 (cc h30 (cc (W_congressref26_Has h31) c0))))))) ?_
                exact J5_0 _ (Option.some.inj hF1).symm
              · replace hF1 := ifn h25 hF1
                refine rG [(0, .v (.sl S35) x0), (3, .ptr 1020000 [] 0), (145, vb false)] [(1020000, .var 35 S35 x1)] [] [(5, false)] 1020001 rfl rfl (by kernel_rfl) (cc h25 c0) ?_
                exact J5_0 _ (Option.some.inj hF1).symm
            refine run_loop rfl (run_loopO hl4 (fun s4 => [(0, .v (.sl S35) x0), (3, .ptr 1020000 [] 0), (8, vi s4)]) (fun s4 => [(1020000, .var 35 S35 x1)]) rfl rfl (fun s4 o4 hF1 ih4 hr4 => ?_))
            unfold F_congressref26_Rule_b4 at hF1
            refine run_again (sq rfl (sq rfl ?_))
            obtain ⟨r10, hF2, hF1⟩ := obd hF1
            refine run_cut (fun r10' => r10 = r10') (fun r10 => [(0, .v (.sl S35) x0), (3, .ptr 1020000 [] 0), (8, vi s4), (83, vb r10)]) (fun r10 => [(1020000, .var 35 S35 x1)]) (fun r10' h32 => ?_) (fun J10_0 => ?_)
            · subst h32
              refine run_if rfl rfl (fun h33 => ?_) (fun h33 => ?_)
              · replace hF1 := ift h33 hF1
                refine sk rfl (sq rfl (bk rfl (sq rfl ?_)))
                obtain ⟨r11, hF2, hF1⟩ := obd hF1
                refine run_cut (fun r11' => r11 = r11') (fun r11 => [(0, .v (.sl S35) x0), (3, .ptr 1020000 [] 0), (8, vi s4), (121, vb r11)]) (fun r11 => [(1020000, .var 35 S35 x1)]) (fun r11' h34 => ?_) (fun J11_0 => ?_)
                · subst h34
                  refine run_if rfl rfl (fun h35 => ?_) (fun h35 => ?_)
                  · replace hF1 := ift h35 hF1
                    refine sq rfl (rg [(4, vi 4)] [] [] [] 1020001 rfl (by kernel_rfl) c0 ?_)
                    have e4 := inrI hr4 hF1
                    subst e4
                    replace hF0 := sumL hF0
                    obtain rfl := Option.some.inj hF0
                    exact ret_pure (q := [vi 4]) [(.int .i64)] rfl rfl (by kernel_rfl)
                  · replace hF1 := ifn h35 hF1
                    refine sk rfl (eb (rg [(0, .v (.sl S35) x0), (3, .ptr 1020000 [] 0), (8, vi (IntKind.wrap .i64 (s4 + 1)))] [(1020000, .var 35 S35 x1)] [] [] 1020001 rfl (by kernel_rfl) c0 ?_))
                    exact ih4 _ (Option.some.inj hF1).symm
                obtain ⟨h36, hF2⟩ := ifg hF2
                rcases Bool.eq_false_or_eq_true ((((((((List.getD x0 (Int.toNat s4) S35.dflt).2).2).2).2).2).1) == 2) with h37 | h37
                · replace hF2 := ift h37 hF2
                  obtain ⟨h38, hF2⟩ := ifg hF2
                  rcases Bool.eq_false_or_eq_true (Sh.eqb S27 ((((((((((((List.getD x0 (Int.toNat s4) S35.dflt).2).2).2).2).2).2).2).2).2).2).1) x1.2.2.2.2.2.2.2.2.2.2.1) with h39 | h39
                  · replace hF2 := ift h39 hF2
                    obtain ⟨h40, hF2⟩ := ifg hF2
                    refine rG [(0, .v (.sl S35) x0), (3, .ptr 1020000 [] 0), (8, vi s4), (121, vb (decide (x1.2.2.2.2.2.2.2.2.1 ≤ ((((((((((List.getD x0 (Int.toNat s4) S35.dflt).2).2).2).2).2).2).2).2).1))))] [(1020000, .var 35 S35 x1)] [] [(8, true), (22, true)] 1020001 rfl rfl (by kernel_rfl) (cc h36 (cc h37 (cc h38 (cc h39 (cc h40 c0))))) ?_
                    exact J11_0 _ (Option.some.inj hF2).symm
                  · replace hF2 := ifn h39 hF2
                    refine rG [(0, .v (.sl S35) x0), (3, .ptr 1020000 [] 0), (8, vi s4), (121, vb false)] [(1020000, .var 35 S35 x1)] [] [(8, true), (22, false)] 1020001 rfl rfl (by kernel_rfl) (cc h36 (cc h37 (cc h38 (cc h39 c0)))) ?_
                    exact J11_0 _ (Option.some.inj hF2).symm
                · replace hF2 := ifn h37 hF2
                  refine rG [(0, .v (.sl S35) x0), (3, .ptr 1020000 [] 0), (8, vi s4), (121, vb false)] [(1020000, .var 35 S35 x1)] [] [(8, false)] 1020001 rfl rfl (by kernel_rfl) (cc h36 (cc h37 c0)) ?_
                  exact J11_0 _ (Option.some.inj hF2).symm
              · replace hF1 := ifn h33 hF1
                refine run_exit rfl rfl (tm (ρ' := [(0, .v (.sl S35) x0), (3, .ptr 1020000 [] 0)]) (H' := [(1020000, .var 35 S35 x1)]) (by kernel_rfl) (by kernel_rfl) rfl ?_)
                exact J4_1 _ (inrI hr4 hF1).symm
            rcases Bool.eq_false_or_eq_true (decide (s4 < ((List.length x0 : Nat) : Int))) with h41 | h41
            · replace hF2 := ift h41 hF2
              refine rg [(0, .v (.sl S35) x0), (3, .ptr 1020000 [] 0), (8, vi s4), (83, vb (x1.2.2.2.2.2.1 == 2))] [(1020000, .var 35 S35 x1)] [] [(4, true)] 1020001 rfl (by kernel_rfl) (cc h41 c0) ?_
              exact J10_0 _ (Option.some.inj hF2).symm
            · replace hF2 := ifn h41 hF2
              refine rg [(0, .v (.sl S35) x0), (3, .ptr 1020000 [] 0), (8, vi s4), (83, vb false)] [(1020000, .var 35 S35 x1)] [] [(4, false)] 1020001 rfl (by kernel_rfl) (cc h41 c0) ?_
              exact J10_0 _ (Option.some.inj hF2).symm
        rcases Bool.eq_false_or_eq_true (j11.1) with h42 | h42
        · replace hF1 := ift h42 hF1
          refine rg [(0, .v (.sl S35) x0), (3, .ptr 1020000 [] 0), (72, vb (!(Sh.eqb S27 x1.2.2.2.2.2.2.2.2.2.2.1 j11.2)))] [(1020000, .var 35 S35 x1)] [] [(1, true)] 1020022 rfl (by kernel_rfl) (cc h42 c0) ?_
          exact J3_0 _ (Option.some.inj hF1).symm
        · replace hF1 := ifn h42 hF1
          refine rg [(0, .v (.sl S35) x0), (3, .ptr 1020000 [] 0), (72, vb false)] [(1020000, .var 35 S35 x1)] [] [(1, false)] 1020022 rfl (by kernel_rfl) (cc h42 c0) ?_
          exact J3_0 _ (Option.some.inj hF1).symm
    rcases Bool.eq_false_or_eq_true (x1.2.2.2.2.2.1 != 2) with h43 | h43
    · replace hF1 := ift h43 hF1
      refine rg [(0, .v (.sl S35) x0), (3, .ptr 1020000 [] 0), (5, .ptr 1020021 [] 0), (6, vb j11.1), (63, vb (x1.2.2.2.2.2.1 != 3))] [(1020000, .var 35 S35 x1), (1020021, .var 27 S27 j11.2)] [] [(5, true)] 1020022 rfl (by kernel_rfl) (cc h43 c0) ?_
      exact J2_0 _ (Option.some.inj hF1).symm
    · replace hF1 := ifn h43 hF1
      refine rg [(0, .v (.sl S35) x0), (3, .ptr 1020000 [] 0), (5, .ptr 1020021 [] 0), (6, vb j11.1), (63, vb false)] [(1020000, .var 35 S35 x1), (1020021, .var 27 S27 j11.2)] [] [(5, false)] 1020022 rfl (by kernel_rfl) (cc h43 c0) ?_
      exact J2_0 _ (Option.some.inj hF1).symm
  refine run_loop rfl (run_loopO hl1 (fun s1 => [(0, .v (.sl S35) x0), (3, .ptr 1020000 [] 0), (5, .ptr 1020021 [] 0), (6, vb s1.1), (7, vi s1.2.1)]) (fun s1 => [(1020000, .var 35 S35 x1), (1020021, .var 27 S27 s1.2.2)]) rfl rfl (fun s1 o1 hF1 ih1 hr1 => ?_))
  unfold F_congressref26_Rule_b1 at hF1
  refine run_again (sq rfl (sq rfl (rg [(0, .v (.sl S35) x0), (3, .ptr 1020000 [] 0), (5, .ptr 1020021 [] 0), (6, vb s1.1), (7, vi s1.2.1), (14, vb (decide (s1.2.1 < ((List.length x0 : Nat) : Int))))] [(1020000, .var 35 S35 x1), (1020021, .var 27 S27 s1.2.2)] [] [] 1020022 rfl (by kernel_rfl) c0 ?_)))
  refine run_if rfl rfl (fun h44 => ?_) (fun h44 => ?_)
  · replace hF1 := ift h44 hF1
    refine sk rfl (sq rfl (bk rfl (sq rfl ?_)))
    obtain ⟨h45, hF1⟩ := ifg hF1
    refine rg [(0, .v (.sl S35) x0), (3, .ptr 1020000 [] 0), (5, .ptr 1020021 [] 0), (6, vb s1.1), (7, vi s1.2.1), (24, vb ((((((((List.getD x0 (Int.toNat s1.2.1) S35.dflt).2).2).2).2).2).1) == 1))] [(1020000, .var 35 S35 x1), (1020021, .var 27 S27 s1.2.2)] [] [] 1020022 rfl (by kernel_rfl) (cc h45 c0) ?_
    refine run_if rfl rfl (fun h46 => ?_) (fun h46 => ?_)
    · replace hF1 := ift h46 hF1
      refine sq rfl (sq rfl ?_)
      obtain ⟨r12, hF2, hF1⟩ := obd hF1
      refine run_cut (fun r12' => r12 = r12') (fun r12 => [(0, .v (.sl S35) x0), (3, .ptr 1020000 [] 0), (5, .ptr 1020021 [] 0), (7, vi s1.2.1), (44, vb r12)]) (fun r12 => [(1020000, .var 35 S35 x1), (1020021, .var 27 S27 s1.2.2)]) (fun r12' h47 => ?_) (fun J12_0 => ?_)
      · subst h47
        refine run_if rfl rfl (fun h48 => ?_) (fun h48 => ?_)
        · replace hF1 := ift h48 hF1
          refine sq rfl (rg [(4, vi 2)] [] [] [] 1020022 rfl (by kernel_rfl) c0 ?_)
          have e1 := inrI hr1 hF1
          subst e1
          replace hF0 := sumL hF0
          obtain rfl := Option.some.inj hF0
          exact ret_pure (q := [vi 2]) [(.int .i64)] rfl rfl (by kernel_rfl)
        · replace hF1 := ifn h48 hF1
          refine sk rfl (sq rfl ?_)
          obtain ⟨h49, hF1⟩ := ifg hF1
          refine rg [(0, .v (.sl S35) x0), (3, .ptr 1020000 [] 0), (5, .ptr 1020021 [] 0), (7, vi s1.2.1)] [(1020000, .var 35 S35 x1), (1020021, .var 27 S27 ((((((((((((List.getD x0 (Int.toNat s1.2.1) S35.dflt).2).2).2).2).2).2).2).2).2).2).1))] [] [] 1020022 rfl (by kernel_rfl) (cc h49 c0) (rg [(0, .v (.sl S35) x0), (3, .ptr 1020000 [] 0), (5, .ptr 1020021 [] 0), (6, vb true), (7, vi s1.2.1)] [(1020000, .var 35 S35 x1), (1020021, .var 27 S27 ((((((((((((List.getD x0 (Int.toNat s1.2.1) S35.dflt).2).2).2).2).2).2).2).2).2).2).1))] [] [] 1020022 rfl (by kernel_rfl) c0 (eb (rg [(0, .v (.sl S35) x0), (3, .ptr 1020000 [] 0), (5, .ptr 1020021 [] 0), (6, vb true), (7, vi (IntKind.wrap .i64 (s1.2.1 + 1)))] [(1020000, .var 35 S35 x1), (1020021, .var 27 S27 ((((((((((((List.getD x0 (Int.toNat s1.2.1) S35.dflt).2).2).2).2).2).2).2).2).2).2).1))] [] [] 1020022 rfl (by kernel_rfl) c0 ?_)))
          exact ih1 _ (Option.some.inj hF1).symm
      rcases Bool.eq_false_or_eq_true (x1.2.2.2.2.2.1 == 1) with h50 | h50
      · replace hF2 := ift h50 hF2
        obtain ⟨h51, hF2⟩ := ifg hF2
        obtain ⟨t4, h52, hF2⟩ := obd hF2
        refine rG [(0, .v (.sl S35) x0), (3, .ptr 1020000 [] 0), (5, .ptr 1020021 [] 0), (7, vi s1.2.1), (44, vb (decide (t4 < 1)))] [(1020000, .var 35 S35 x1), (1020021, .var 27 S27 s1.2.2)] [(17, ⟨[.v S27, .v S27], vi t4, none⟩)] [(5, true)] 1020022 rfl rfl (by kernel_rfl) (cc h50 (cc h51 (cc (W_congressref07_Compare h52) c0))) ?_
        exact J12_0 _ (Option.some.inj hF2).symm
      · replace hF2 := ifn h50 hF2
        refine rG [(0, .v (.sl S35) x0), (3, .ptr 1020000 [] 0), (5, .ptr 1020021 [] 0), (7, vi s1.2.1), (44, vb false)] [(1020000, .var 35 S35 x1), (1020021, .var 27 S27 s1.2.2)] [] [(5, false)] 1020022 rfl rfl (by kernel_rfl) (cc h50 c0) ?_
        exact J12_0 _ (Option.some.inj hF2).symm
    · replace hF1 := ifn h46 hF1
      refine sk rfl (eb (rg [(0, .v (.sl S35) x0), (3, .ptr 1020000 [] 0), (5, .ptr 1020021 [] 0), (6, vb s1.1), (7, vi (IntKind.wrap .i64 (s1.2.1 + 1)))] [(1020000, .var 35 S35 x1), (1020021, .var 27 S27 s1.2.2)] [] [] 1020022 rfl (by kernel_rfl) c0 ?_))
      exact ih1 _ (Option.some.inj hF1).symm
  · replace hF1 := ifn h44 hF1
    refine run_exit rfl rfl (tm (ρ' := [(0, .v (.sl S35) x0), (3, .ptr 1020000 [] 0), (5, .ptr 1020021 [] 0), (6, vb s1.1)]) (H' := [(1020000, .var 35 S35 x1), (1020021, .var 27 S27 s1.2.2)]) (by kernel_rfl) (by kernel_rfl) rfl ?_)
    exact J1_1 _ (inrI hr1 hF1).symm
noncomputable def F_congressref26_Check_b1 (x0 : (List S35.ty)) (s1 : Int) : Option (Int ⊕ ((Int × Int) ⊕ Unit)) :=
  if (decide (s1 < ((List.length x0 : Nat) : Int))) = true then (show Option Bool from if (decide (s1 > 0)) = true then if 0 ≤ s1 ∧ s1 < ((List.length x0 : Nat) : Int) then (if 0 ≤ (IntKind.wrap .i64 (s1 - 1)) ∧ (IntKind.wrap .i64 (s1 - 1)) < ((List.length x0 : Nat) : Int) then (some (decide (((List.getD x0 (Int.toNat s1) S35.dflt).1) < ((List.getD x0 (Int.toNat (IntKind.wrap .i64 (s1 - 1))) S35.dflt).1)))) else none) else none else some false).bind (fun r2 => if (r2) = true then some (Sum.inr (Sum.inl (s1, 1))) else if ((0 : Int) ≤ s1 ∧ 0 ≤ Int.toNat s1 ∧ Int.toNat s1 ≤ List.length x0) then (if 0 ≤ s1 ∧ s1 < ((List.length x0 : Nat) : Int) then (F_congressref26_Of (List.drop 0 (List.take (Int.toNat s1) x0)) (List.getD x0 (Int.toNat s1) S35.dflt)).bind fun t1 => (if 0 ≤ s1 ∧ s1 < ((List.length x0 : Nat) : Int) then (F_congressref26_Rule t1 (List.getD x0 (Int.toNat s1) S35.dflt)).bind fun t2 => (if (t2 != 0) = true then some (Sum.inr (Sum.inl (s1, t2))) else some (Sum.inl (IntKind.wrap .i64 (s1 + 1)))) else none) else none) else none) else some (Sum.inr (Sum.inr ()))
noncomputable def F_congressref26_Check (x0 : (List S35.ty)) : Option (Int × Int) :=
  (loopO (F_congressref26_Check_b1 x0) 0).bind (Sum.elim some (fun j11 => some ((-1), 0)))
theorem W_congressref26_Check {x0 : (List S35.ty)} {y : (Int × Int)} (hF0 : F_congressref26_Check x0 = some y) : Pure Tryd.prog 13 [.v (.sl S35) x0] (.tup [vi y.1, vi y.2]) := by
  unfold F_congressref26_Check at hF0
  refine pure_of_run @Tryd.call13 @Tryd.func13 rfl rfl fun w M ho => ?_
  refine sq rfl (rg [(0, .v (.sl S35) x0)] [] [] [] 1020000 rfl (by kernel_rfl) c0 (sq rfl (sq rfl (rg [(0, .v (.sl S35) x0), (4, vi 0)] [] [] [] 1020000 rfl (by kernel_rfl) c0 (bk rfl ?_)))))
  obtain ⟨r1, hl1, hF0⟩ := obd hF0
  refine run_cutx 0 rfl (fun j11 => r1 = Sum.inr j11) (fun j11 => []) (fun j11 => []) (fun j11 h1 => ?_) (fun J1_1 => ?_)
  · subst h1
    replace hF0 := sumR hF0
    refine sq rfl (rg [(2, vi (-1)), (3, vi 0)] [] [] [] 1020000 rfl (by kernel_rfl) c0 ?_)
    obtain rfl := Option.some.inj hF0
    exact ret_pure (q := [vi (-1), vi 0]) [(.int .i64), (.int .i64)] rfl rfl (by kernel_rfl)
  refine run_loop rfl (run_loopO hl1 (fun s1 => [(0, .v (.sl S35) x0), (4, vi s1)]) (fun s1 => []) rfl rfl (fun s1 o1 hF1 ih1 hr1 => ?_))
  unfold F_congressref26_Check_b1 at hF1
  refine run_again (sq rfl (sq rfl (rg [(0, .v (.sl S35) x0), (4, vi s1), (9, vb (decide (s1 < ((List.length x0 : Nat) : Int))))] [] [] [] 1020000 rfl (by kernel_rfl) c0 ?_)))
  refine run_if rfl rfl (fun h2 => ?_) (fun h2 => ?_)
  · replace hF1 := ift h2 hF1
    refine sk rfl (sq rfl (bk rfl (sq rfl (sq rfl ?_))))
    obtain ⟨r2, hF2, hF1⟩ := obd hF1
    refine run_cut (fun r2' => r2 = r2') (fun r2 => [(0, .v (.sl S35) x0), (4, vi s1), (27, vb r2)]) (fun r2 => []) (fun r2' h3 => ?_) (fun J2_0 => ?_)
    · subst h3
      refine run_if rfl rfl (fun h4 => ?_) (fun h4 => ?_)
      · replace hF1 := ift h4 hF1
        refine sq rfl (rg [(2, vi s1), (3, vi 1)] [] [] [] 1020000 rfl (by kernel_rfl) c0 ?_)
        have e1 := inrI hr1 hF1
        subst e1
        replace hF0 := sumL hF0
        obtain rfl := Option.some.inj hF0
        exact ret_pure (q := [vi s1, vi 1]) [(.int .i64), (.int .i64)] rfl rfl (by kernel_rfl)
      · replace hF1 := ifn h4 hF1
        refine sk rfl (sq rfl ?_)
        obtain ⟨h5, hF1⟩ := ifg hF1
        obtain ⟨h6, hF1⟩ := ifg hF1
        obtain ⟨t1, h7, hF1⟩ := obd hF1
        obtain ⟨h8, hF1⟩ := ifg hF1
        obtain ⟨t2, h9, hF1⟩ := obd hF1
        refine rG [(0, .v (.sl S35) x0), (4, vi s1), (5, vi t2)] [] [(7, ⟨[.v (.sl S35), .v S35], .v (.sl S35) t1, none⟩), (12, ⟨[.v (.sl S35), .v S35], vi t2, none⟩)] [] 1020000 rfl rfl (by kernel_rfl) (cc h5.1 (cc h5.2.1 (cc h5.2.2 (cc h6 (cc (W_congressref26_Of h7) (cc h8 (cc (W_congressref26_Rule h9) c0))))))) (sq rfl (rg [(0, .v (.sl S35) x0), (4, vi s1), (5, vi t2), (43, vb (t2 != 0))] [] [] [] 1020000 rfl (by kernel_rfl) c0 ?_))
        refine run_if rfl rfl (fun h10 => ?_) (fun h10 => ?_)
        · replace hF1 := ift h10 hF1
          refine sq rfl (rg [(2, vi s1), (3, vi t2)] [] [] [] 1020000 rfl (by kernel_rfl) c0 ?_)
          have e1 := inrI hr1 hF1
          subst e1
          replace hF0 := sumL hF0
          obtain rfl := Option.some.inj hF0
          exact ret_pure (q := [vi s1, vi t2]) [(.int .i64), (.int .i64)] rfl rfl (by kernel_rfl)
        · replace hF1 := ifn h10 hF1
          refine sk rfl (eb (rg [(0, .v (.sl S35) x0), (4, vi (IntKind.wrap .i64 (s1 + 1)))] [] [] [] 1020000 rfl (by kernel_rfl) c0 ?_))
          exact ih1 _ (Option.some.inj hF1).symm
    rcases Bool.eq_false_or_eq_true (decide (s1 > 0)) with h11 | h11
    · replace hF2 := ift h11 hF2
      obtain ⟨h12, hF2⟩ := ifg hF2
      obtain ⟨h13, hF2⟩ := ifg hF2
      refine rG [(0, .v (.sl S35) x0), (4, vi s1), (27, vb (decide (((List.getD x0 (Int.toNat s1) S35.dflt).1) < ((List.getD x0 (Int.toNat (IntKind.wrap .i64 (s1 - 1))) S35.dflt).1))))] [] [] [(2, true)] 1020000 rfl rfl (by kernel_rfl) (cc h11 (cc h12 (cc h13 c0))) ?_
      exact J2_0 _ (Option.some.inj hF2).symm
    · replace hF2 := ifn h11 hF2
      refine rG [(0, .v (.sl S35) x0), (4, vi s1), (27, vb false)] [] [] [(2, false)] 1020000 rfl rfl (by kernel_rfl) (cc h11 c0) ?_
      exact J2_0 _ (Option.some.inj hF2).symm
  · replace hF1 := ifn h2 hF1
    refine run_exit rfl rfl (tm (ρ' := []) (H' := []) (by kernel_rfl) (by kernel_rfl) rfl ?_)
    exact J1_1 _ (inrI hr1 hF1).symm
abbrev S77 : Sh := (.st (.prod S27 (.prod S29 (.int .u64))))
abbrev P68 : Sh := (.st (.prod S27 (.prod .bool (.prod S27 (.prod (.sl (.prod S27 (.int .u64))) (.sl (.prod S77 (.int .i64))))))))
abbrev O68 : Sh := (.st (.prod S27 (.prod .bool (.prod S27 (.prod .ref .ref)))))
noncomputable def F_trace_checker_view (x0 : P68.ty) (x1 : S35.ty) : Option (Int × P68.ty) :=
  (show Option Bool from if (hasM S27 x1.2.2.2.2.2.2.2.2.2.2.1 x0.2.2.2.1) = true then some (decide (x1.2.2.2.2.2.2.2.2.1 ≤ (getM S27 x1.2.2.2.2.2.2.2.2.2.2.1 0 x0.2.2.2.1))) else some false).bind (fun r1 => if (r1) = true then some (4, x0) else (show Option Bool from (F_trace_piece x1).bind fun t1 => ((F_strings_HasPrefix x1.2.2.2.2.2.2.2.2.2.2.2.2.2.2 t1).bind fun t2 => (if (!t2) = true then (F_trace_piece x1).bind fun t3 => (if List.length ([32] : Str) + List.length t3 ≤ maxLen then (F_strings_Contains x1.2.2.2.2.2.2.2.2.2.2.2.2.2.2 (([32] : Str) ++ t3)).bind fun t4 => (some (!t4)) else none) else some false))).bind (fun r2 => if (r2) = true then some (5, x0) else some (0, (x0.1, (x0.2.1, (x0.2.2.1, (updM S27 x1.2.2.2.2.2.2.2.2.2.2.1 x1.2.2.2.2.2.2.2.2.1 x0.2.2.2.1, x0.2.2.2.2)))))))
theorem W_trace_checker_view {x0 : P68.ty} {x1 : S35.ty} {y : (Int × P68.ty)} (hF0 : F_trace_checker_view x0 x1 = some y) : Mut Tryd.prog 37 3 [.ptr 0 [] 0, .v S35 x1] [(0, .var 68 O68 (x0.1, (x0.2.1, (x0.2.2.1, (1, 2))))), (1, .mp 65 S27 (.int .u64) x0.2.2.2.1), (2, .mp 66 S77 (.int .i64) x0.2.2.2.2)] (vi y.1) [(0, .var 68 O68 (y.2.1, (y.2.2.1, (y.2.2.2.1, (1000000, 1000001))))), (1000000, .mp 65 S27 (.int .u64) y.2.2.2.2.1), (1000001, .mp 66 S77 (.int .i64) y.2.2.2.2.2)] := by
  unfold F_trace_checker_view at hF0
  refine mut_of_run @Tryd.call37 @Tryd.func37 rfl rfl fun b => ?_
  refine run_renF (ρ' := [(0, .ptr 0 [] 0), (1, .v S35 x1)]) (H' := [(1000000, .mp 65 S27 (.int .u64) x0.2.2.2.1), (0, .var 68 O68 (x0.1, (x0.2.1, (x0.2.2.1, (1000000, 2))))), (2, .mp 66 S77 (.int .i64) x0.2.2.2.2)]) 1 1000000 rfl (by kernel_rfl) rfl rfl (by kernel_rfl) rfl (run_renF (ρ' := [(0, .ptr 0 [] 0), (1, .v S35 x1)]) (H' := [(1000001, .mp 66 S77 (.int .i64) x0.2.2.2.2), (1000000, .mp 65 S27 (.int .u64) x0.2.2.2.1), (0, .var 68 O68 (x0.1, (x0.2.1, (x0.2.2.1, (1000000, 1000001)))))]) 2 1000001 rfl (by kernel_rfl) rfl rfl (by kernel_rfl) rfl (sq rfl (rg [(0, .ptr 0 [] 0), (3, .ptr 1020000 [] 0)] [(0, .var 68 O68 (x0.1, (x0.2.1, (x0.2.2.1, (1000000, 1000001))))), (1000000, .mp 65 S27 (.int .u64) x0.2.2.2.1), (1000001, .mp 66 S77 (.int .i64) x0.2.2.2.2), (1020000, .var 35 S35 x1)] [] [] 1020000 rfl (by kernel_rfl) c0 (sq rfl (rG [(0, .ptr 0 [] 0), (3, .ptr 1020000 [] 0), (5, vu (getM S27 x1.2.2.2.2.2.2.2.2.2.2.1 0 x0.2.2.2.1)), (6, vb (hasM S27 x1.2.2.2.2.2.2.2.2.2.2.1 x0.2.2.2.1))] [(0, .var 68 O68 (x0.1, (x0.2.1, (x0.2.2.1, (1000000, 1000001))))), (1000000, .mp 65 S27 (.int .u64) x0.2.2.2.1), (1000001, .mp 66 S77 (.int .i64) x0.2.2.2.2), (1020000, .var 35 S35 x1)] [] [] 1020001 rfl rfl (by kernel_rfl) c0 (sq rfl (bk rfl (sq rfl ?_))))))))
  obtain ⟨r1, hF1, hF0⟩ := obd hF0
  refine run_cut (fun r1' => r1 = r1') (fun r1 => [(0, .ptr 0 [] 0), (3, .ptr 1020000 [] 0), (19, vb r1)]) (fun r1 => [(0, .var 68 O68 (x0.1, (x0.2.1, (x0.2.2.1, (1000000, 1000001))))), (1000000, .mp 65 S27 (.int .u64) x0.2.2.2.1), (1000001, .mp 66 S77 (.int .i64) x0.2.2.2.2), (1020000, .var 35 S35 x1)]) (fun r1' h1 => ?_) (fun J1_0 => ?_)
  · subst h1
    refine run_if rfl rfl (fun h2 => ?_) (fun h2 => ?_)
    · replace hF0 := ift h2 hF0
      refine sq rfl (rg [(4, vi 4)] [(0, .var 68 O68 (x0.1, (x0.2.1, (x0.2.2.1, (1000000, 1000001))))), (1000000, .mp 65 S27 (.int .u64) x0.2.2.2.1), (1000001, .mp 66 S77 (.int .i64) x0.2.2.2.2)] [] [] 1020001 rfl (by kernel_rfl) c0 ?_)
      obtain rfl := Option.some.inj hF0
      exact ret_mut (q := [vi 4]) [some (.int .i64)] [0, 1000000, 1000001] rfl rfl (by kernel_rfl) rfl (by kernel_rfl)
    · replace hF0 := ifn h2 hF0
      refine sq rfl ?_
      obtain ⟨r2, hF1, hF0⟩ := obd hF0
      refine run_cut (fun r2' => r2 = r2') (fun r2 => [(0, .ptr 0 [] 0), (3, .ptr 1020000 [] 0), (29, vb r2)]) (fun r2 => [(0, .var 68 O68 (x0.1, (x0.2.1, (x0.2.2.1, (1000000, 1000001))))), (1000000, .mp 65 S27 (.int .u64) x0.2.2.2.1), (1000001, .mp 66 S77 (.int .i64) x0.2.2.2.2), (1020000, .var 35 S35 x1)]) (fun r2' h3 => ?_) (fun J2_0 => ?_)
      · subst h3
        refine run_if rfl rfl (fun h4 => ?_) (fun h4 => ?_)
        · replace hF0 := ift h4 hF0
          refine sq rfl (rg [(4, vi 5)] [(0, .var 68 O68 (x0.1, (x0.2.1, (x0.2.2.1, (1000000, 1000001))))), (1000000, .mp 65 S27 (.int .u64) x0.2.2.2.1), (1000001, .mp 66 S77 (.int .i64) x0.2.2.2.2)] [] [] 1020001 rfl (by kernel_rfl) c0 ?_)
          obtain rfl := Option.some.inj hF0
          exact ret_mut (q := [vi 5]) [some (.int .i64)] [0, 1000000, 1000001] rfl rfl (by kernel_rfl) rfl (by kernel_rfl)
        · replace hF0 := ifn h4 hF0
          refine sk rfl (eb (sq rfl (rG [] [(0, .var 68 O68 (x0.1, (x0.2.1, (x0.2.2.1, (1000000, 1000001))))), (1000000, .mp 65 S27 (.int .u64) (updM S27 x1.2.2.2.2.2.2.2.2.2.2.1 x1.2.2.2.2.2.2.2.2.1 x0.2.2.2.1)), (1000001, .mp 66 S77 (.int .i64) x0.2.2.2.2)] [] [] 1020001 rfl rfl (by kernel_rfl) c0 (sq rfl (rg [(4, vi 0)] [(0, .var 68 O68 (x0.1, (x0.2.1, (x0.2.2.1, (1000000, 1000001))))), (1000000, .mp 65 S27 (.int .u64) (updM S27 x1.2.2.2.2.2.2.2.2.2.2.1 x1.2.2.2.2.2.2.2.2.1 x0.2.2.2.1)), (1000001, .mp 66 S77 (.int .i64) x0.2.2.2.2)] [] [] 1020000 rfl (by kernel_rfl) c0 ?_)))))
          obtain rfl := Option.some.inj hF0
          exact ret_mut (q := [vi 0]) [some (.int .i64)] [0, 1000000, 1000001] rfl rfl (by kernel_rfl) rfl (by kernel_rfl)
      obtain ⟨t1, h5, hF1⟩ := obd hF1
      obtain ⟨t2, h6, hF1⟩ := obd hF1
      rcases Bool.eq_false_or_eq_true (!t2) with h7 | h7
      · replace hF1 := ift h7 hF1
        obtain ⟨t3, h8, hF1⟩ := obd hF1
        obtain ⟨h9, hF1⟩ := ifg hF1
        obtain ⟨t4, h10, hF1⟩ := obd hF1
        refine rG [(0, .ptr 0 [] 0), (3, .ptr 1020000 [] 0), (29, vb (!t4))] [(0, .var 68 O68 (x0.1, (x0.2.1, (x0.2.2.1, (1000000, 1000001))))), (1000000, .mp 65 S27 (.int .u64) x0.2.2.2.1), (1000001, .mp 66 S77 (.int .i64) x0.2.2.2.2), (1020000, .var 35 S35 x1)] [(5, ⟨[.v S35], vs t1, none⟩), (6, ⟨[.v .str, .v .str], vb t2, none⟩), (14, ⟨[.v S35], vs t3, none⟩), (16, ⟨[.v .str, .v .str], vb t4, none⟩)] [(8, true)] 1020001 rfl rfl (by kernel_rfl) (cc (W_trace_piece h5) (cc (W_strings_HasPrefix h6) (cc h7 (cc (W_trace_piece h8) (cc h9 (cc (W_strings_Contains h10) c0)))))) ?_
        exact J2_0 _ (Option.some.inj hF1).symm
      · replace hF1 := ifn h7 hF1
        refine rG [(0, .ptr 0 [] 0), (3, .ptr 1020000 [] 0), (29, vb false)] [(0, .var 68 O68 (x0.1, (x0.2.1, (x0.2.2.1, (1000000, 1000001))))), (1000000, .mp 65 S27 (.int .u64) x0.2.2.2.1), (1000001, .mp 66 S77 (.int .i64) x0.2.2.2.2), (1020000, .var 35 S35 x1)] [(5, ⟨[.v S35], vs t1, none⟩), (6, ⟨[.v .str, .v .str], vb t2, none⟩)] [(8, false)] 1020001 rfl rfl (by kernel_rfl) (cc (W_trace_piece h5) (cc (W_strings_HasPrefix h6) (cc h7 c0))) ?_
        exact J2_0 _ (Option.some.inj hF1).symm
  rcases Bool.eq_false_or_eq_true (hasM S27 x1.2.2.2.2.2.2.2.2.2.2.1 x0.2.2.2.1) with h11 | h11
  · replace hF1 := ift h11 hF1
    refine rg [(0, .ptr 0 [] 0), (3, .ptr 1020000 [] 0), (19, vb (decide (x1.2.2.2.2.2.2.2.2.1 ≤ (getM S27 x1.2.2.2.2.2.2.2.2.2.2.1 0 x0.2.2.2.1))))] [(0, .var 68 O68 (x0.1, (x0.2.1, (x0.2.2.1, (1000000, 1000001))))), (1000000, .mp 65 S27 (.int .u64) x0.2.2.2.1), (1000001, .mp 66 S77 (.int .i64) x0.2.2.2.2), (1020000, .var 35 S35 x1)] [] [(1, true)] 1020001 rfl (by kernel_rfl) (cc h11 c0) ?_
    exact J1_0 _ (Option.some.inj hF1).symm
  · replace hF1 := ifn h11 hF1
    refine rg [(0, .ptr 0 [] 0), (3, .ptr 1020000 [] 0), (19, vb false)] [(0, .var 68 O68 (x0.1, (x0.2.1, (x0.2.2.1, (1000000, 1000001))))), (1000000, .mp 65 S27 (.int .u64) x0.2.2.2.1), (1000001, .mp 66 S77 (.int .i64) x0.2.2.2.2), (1020000, .var 35 S35 x1)] [] [(1, false)] 1020001 rfl (by kernel_rfl) (cc h11 c0) ?_
    exact J1_0 _ (Option.some.inj hF1).symm
noncomputable def F_trace_checker_check (x0 : P68.ty) (x1 : S35.ty) : Option (Int × P68.ty) :=
  if (x1.2.2.2.2.2.1 == 1) = true then (show Option Bool from if (x0.2.1) = true then (F_ident_Compare x1.2.2.2.2.2.2.2.2.2.2.1 x0.1).bind fun t1 => (some (decide (t1 ≤ 0))) else some false).bind (fun r1 => if (r1) = true then some (2, x0) else some (0, (x1.2.2.2.2.2.2.2.2.2.2.1, (true, (x1.2.2.2.2.2.2.2.2.2.2.1, x0.2.2.2))))) else (show Option Bool from if (x1.2.2.2.2.2.1 == 2) = true then some (x1.2.2.2.2.2.1 == 2) else some (x1.2.2.2.2.2.1 == 3)).bind (fun r2 => if (r2) = true then (show Option Bool from if (x0.2.1) = true then some (!(Sh.eqb S27 x1.2.2.2.2.2.2.2.2.2.2.1 x0.2.2.1)) else some false).bind (fun r3 => if (r3) = true then some (3, x0) else if (x1.2.2.2.2.2.1 == 2) = true then (F_trace_checker_view x0 x1).bind fun t2 => (some (t2.1, t2.2)) else if (decide ((getM S77 (x1.2.2.2.2.2.2.2.2.2.2.1, (x1.2.2.2.2.2.2.2.2.2.2.2.2.1, x1.2.2.2.2.2.2.2.2.1)) 0 x0.2.2.2.2) > 0)) = true then some (6, x0) else if List.length x0.2.2.2.2 ≤ maxLen then (if (0 : Int) ≤ (entV S77 (x1.2.2.2.2.2.2.2.2.2.2.1, (x1.2.2.2.2.2.2.2.2.2.2.2.2.1, x1.2.2.2.2.2.2.2.2.1)) 0 x0.2.2.2.2).2 ∧ (entV S77 (x1.2.2.2.2.2.2.2.2.2.2.1, (x1.2.2.2.2.2.2.2.2.2.2.2.2.1, x1.2.2.2.2.2.2.2.2.1)) 0 x0.2.2.2.2).2 < ((List.length (entM S77 (x1.2.2.2.2.2.2.2.2.2.2.1, (x1.2.2.2.2.2.2.2.2.2.2.2.2.1, x1.2.2.2.2.2.2.2.2.1)) 0 x0.2.2.2.2) : Nat) : Int) then (if (x1.2.2.2.2.2.2.2.2.2.2.2.2.1.1 != x1.2.2.2.2.2.2.2.2.2.1) = true then some (7, (x0.1, (x0.2.1, (x0.2.2.1, (x0.2.2.2.1, estM ((entV S77 (x1.2.2.2.2.2.2.2.2.2.2.1, (x1.2.2.2.2.2.2.2.2.2.2.2.2.1, x1.2.2.2.2.2.2.2.2.1)) 0 x0.2.2.2.2).2) (IntKind.wrap .i64 ((getM S77 (x1.2.2.2.2.2.2.2.2.2.2.1, (x1.2.2.2.2.2.2.2.2.2.2.2.2.1, x1.2.2.2.2.2.2.2.2.1)) 0 x0.2.2.2.2) + 1)) (entM S77 (x1.2.2.2.2.2.2.2.2.2.2.1, (x1.2.2.2.2.2.2.2.2.2.2.2.2.1, x1.2.2.2.2.2.2.2.2.1)) 0 x0.2.2.2.2)))))) else some (0, (x0.1, (x0.2.1, (x0.2.2.1, (x0.2.2.2.1, estM ((entV S77 (x1.2.2.2.2.2.2.2.2.2.2.1, (x1.2.2.2.2.2.2.2.2.2.2.2.2.1, x1.2.2.2.2.2.2.2.2.1)) 0 x0.2.2.2.2).2) (IntKind.wrap .i64 ((getM S77 (x1.2.2.2.2.2.2.2.2.2.2.1, (x1.2.2.2.2.2.2.2.2.2.2.2.2.1, x1.2.2.2.2.2.2.2.2.1)) 0 x0.2.2.2.2) + 1)) (entM S77 (x1.2.2.2.2.2.2.2.2.2.2.1, (x1.2.2.2.2.2.2.2.2.2.2.2.2.1, x1.2.2.2.2.2.2.2.2.1)) 0 x0.2.2.2.2))))))) else none) else none) else some (0, x0))
theorem W_trace_checker_check {x0 : P68.ty} {x1 : S35.ty} {y : (Int × P68.ty)} (hF0 : F_trace_checker_check x0 x1 = some y) : Mut Tryd.prog 28 3 [.ptr 0 [] 0, .v S35 x1] [(0, .var 68 O68 (x0.1, (x0.2.1, (x0.2.2.1, (1, 2))))), (1, .mp 65 S27 (.int .u64) x0.2.2.2.1), (2, .mp 66 S77 (.int .i64) x0.2.2.2.2)] (vi y.1) [(0, .var 68 O68 (y.2.1, (y.2.2.1, (y.2.2.2.1, (1000000, 1000001))))), (1000000, .mp 65 S27 (.int .u64) y.2.2.2.2.1), (1000001, .mp 66 S77 (.int .i64) y.2.2.2.2.2)] := by
  unfold F_trace_checker_check at hF0
  refine mut_of_run @Tryd.call28 @Tryd.func28 rfl rfl fun b => ?_
  refine run_renF (ρ' := [(0, .ptr 0 [] 0), (1, .v S35 x1)]) (H' := [(1000000, .mp 65 S27 (.int .u64) x0.2.2.2.1), (0, .var 68 O68 (x0.1, (x0.2.1, (x0.2.2.1, (1000000, 2))))), (2, .mp 66 S77 (.int .i64) x0.2.2.2.2)]) 1 1000000 rfl (by kernel_rfl) rfl rfl (by kernel_rfl) rfl (run_renF (ρ' := [(0, .ptr 0 [] 0), (1, .v S35 x1)]) (H' := [(1000001, .mp 66 S77 (.int .i64) x0.2.2.2.2), (1000000, .mp 65 S27 (.int .u64) x0.2.2.2.1), (0, .var 68 O68 (x0.1, (x0.2.1, (x0.2.2.1, (1000000, 1000001)))))]) 2 1000001 rfl (by kernel_rfl) rfl rfl (by kernel_rfl) rfl (sq rfl (rg [(0, .ptr 0 [] 0), (3, .ptr 1020000 [] 0)] [(0, .var 68 O68 (x0.1, (x0.2.1, (x0.2.2.1, (1000000, 1000001))))), (1000000, .mp 65 S27 (.int .u64) x0.2.2.2.1), (1000001, .mp 66 S77 (.int .i64) x0.2.2.2.2), (1020000, .var 35 S35 x1)] [] [] 1020000 rfl (by kernel_rfl) c0 (sq rfl (sq rfl (rg [(0, .ptr 0 [] 0), (3, .ptr 1020000 [] 0), (9, vi x1.2.2.2.2.2.1)] [(0, .var 68 O68 (x0.1, (x0.2.1, (x0.2.2.1, (1000000, 1000001))))), (1000000, .mp 65 S27 (.int .u64) x0.2.2.2.1), (1000001, .mp 66 S77 (.int .i64) x0.2.2.2.2), (1020000, .var 35 S35 x1)] [] [] 1020001 rfl (by kernel_rfl) c0 (bk rfl (sq rfl (rg [(0, .ptr 0 [] 0), (3, .ptr 1020000 [] 0), (9, vi x1.2.2.2.2.2.1), (10, vb (x1.2.2.2.2.2.1 == 1))] [(0, .var 68 O68 (x0.1, (x0.2.1, (x0.2.2.1, (1000000, 1000001))))), (1000000, .mp 65 S27 (.int .u64) x0.2.2.2.1), (1000001, .mp 66 S77 (.int .i64) x0.2.2.2.2), (1020000, .var 35 S35 x1)] [] [] 1020001 rfl (by kernel_rfl) c0 ?_)))))))))
  refine run_if rfl rfl (fun h1 => ?_) (fun h1 => ?_)
  · replace hF0 := ift h1 hF0
    refine sq rfl (sq rfl ?_)
    obtain ⟨r1, hF1, hF0⟩ := obd hF0
    refine run_cut (fun r1' => r1 = r1') (fun r1 => [(0, .ptr 0 [] 0), (3, .ptr 1020000 [] 0), (27, vb r1)]) (fun r1 => [(0, .var 68 O68 (x0.1, (x0.2.1, (x0.2.2.1, (1000000, 1000001))))), (1000000, .mp 65 S27 (.int .u64) x0.2.2.2.1), (1000001, .mp 66 S77 (.int .i64) x0.2.2.2.2), (1020000, .var 35 S35 x1)]) (fun r1' h2 => ?_) (fun J1_0 => ?_)
    · subst h2
      refine run_if rfl rfl (fun h3 => ?_) (fun h3 => ?_)
      · replace hF0 := ift h3 hF0
        refine sq rfl (rg [(4, vi 2)] [(0, .var 68 O68 (x0.1, (x0.2.1, (x0.2.2.1, (1000000, 1000001))))), (1000000, .mp 65 S27 (.int .u64) x0.2.2.2.1), (1000001, .mp 66 S77 (.int .i64) x0.2.2.2.2)] [] [] 1020001 rfl (by kernel_rfl) c0 ?_)
        obtain rfl := Option.some.inj hF0
        exact ret_mut (q := [vi 2]) [some (.int .i64)] [0, 1000000, 1000001] rfl rfl (by kernel_rfl) rfl (by kernel_rfl)
      · replace hF0 := ifn h3 hF0
        refine sk rfl (rG [] [(0, .var 68 O68 (x1.2.2.2.2.2.2.2.2.2.2.1, (true, (x1.2.2.2.2.2.2.2.2.2.2.1, (1000000, 1000001))))), (1000000, .mp 65 S27 (.int .u64) x0.2.2.2.1), (1000001, .mp 66 S77 (.int .i64) x0.2.2.2.2)] [] [] 1020001 rfl rfl (by kernel_rfl) (cc (show (.v S27 x1.2.2.2.2.2.2.2.2.2.2.1 : AVal) = (.v S27 x1.2.2.2.2.2.2.2.2.2.2.1) from rfl) c0) (eb (sq rfl (rg [(4, vi 0)] [(0, .var 68 O68 (x1.2.2.2.2.2.2.2.2.2.2.1, (true, (x1.2.2.2.2.2.2.2.2.2.2.1, (1000000, 1000001))))), (1000000, .mp 65 S27 (.int .u64) x0.2.2.2.1), (1000001, .mp 66 S77 (.int .i64) x0.2.2.2.2)] [] [] 1020000 rfl (by kernel_rfl) c0 ?_))))
        obtain rfl := Option.some.inj hF0
        exact ret_mut (q := [vi 0]) [some (.int .i64)] [0, 1000000, 1000001] rfl rfl (by kernel_rfl) rfl (by kernel_rfl)
    rcases Bool.eq_false_or_eq_true (x0.2.1) with h4 | h4
    · replace hF1 := ift h4 hF1
      obtain ⟨t1, h5, hF1⟩ := obd hF1
      refine rG [(0, .ptr 0 [] 0), (3, .ptr 1020000 [] 0), (27, vb (decide (t1 ≤ 0)))] [(0, .var 68 O68 (x0.1, (x0.2.1, (x0.2.2.1, (1000000, 1000001))))), (1000000, .mp 65 S27 (.int .u64) x0.2.2.2.1), (1000001, .mp 66 S77 (.int .i64) x0.2.2.2.2), (1020000, .var 35 S35 x1)] [(13, ⟨[.v S27, .v S27], vi t1, none⟩)] [(4, true)] 1020001 rfl rfl (by kernel_rfl) (cc h4 (cc (W_ident_Compare h5) c0)) ?_
      exact J1_0 _ (Option.some.inj hF1).symm
    · replace hF1 := ifn h4 hF1
      refine rG [(0, .ptr 0 [] 0), (3, .ptr 1020000 [] 0), (27, vb false)] [(0, .var 68 O68 (x0.1, (x0.2.1, (x0.2.2.1, (1000000, 1000001))))), (1000000, .mp 65 S27 (.int .u64) x0.2.2.2.1), (1000001, .mp 66 S77 (.int .i64) x0.2.2.2.2), (1020000, .var 35 S35 x1)] [] [(4, false)] 1020001 rfl rfl (by kernel_rfl) (cc h4 c0) ?_
      exact J1_0 _ (Option.some.inj hF1).symm
  · replace hF0 := ifn h1 hF0
    refine sq rfl (sq rfl (rg [(0, .ptr 0 [] 0), (3, .ptr 1020000 [] 0), (9, vi x1.2.2.2.2.2.1), (45, vb (x1.2.2.2.2.2.1 == 2))] [(0, .var 68 O68 (x0.1, (x0.2.1, (x0.2.2.1, (1000000, 1000001))))), (1000000, .mp 65 S27 (.int .u64) x0.2.2.2.1), (1000001, .mp 66 S77 (.int .i64) x0.2.2.2.2), (1020000, .var 35 S35 x1)] [] [] 1020001 rfl (by kernel_rfl) c0 ?_))
    obtain ⟨r2, hF1, hF0⟩ := obd hF0
    refine run_cut (fun r2' => r2 = r2') (fun r2 => [(0, .ptr 0 [] 0), (3, .ptr 1020000 [] 0), (45, vb r2)]) (fun r2 => [(0, .var 68 O68 (x0.1, (x0.2.1, (x0.2.2.1, (1000000, 1000001))))), (1000000, .mp 65 S27 (.int .u64) x0.2.2.2.1), (1000001, .mp 66 S77 (.int .i64) x0.2.2.2.2), (1020000, .var 35 S35 x1)]) (fun r2' h6 => ?_) (fun J2_0 => ?_)
    · subst h6
      refine run_if rfl rfl (fun h7 => ?_) (fun h7 => ?_)
      · replace hF0 := ift h7 hF0
        refine sq rfl (sq rfl ?_)
        obtain ⟨r3, hF1, hF0⟩ := obd hF0
        refine run_cut (fun r3' => r3 = r3') (fun r3 => [(0, .ptr 0 [] 0), (3, .ptr 1020000 [] 0), (62, vb r3)]) (fun r3 => [(0, .var 68 O68 (x0.1, (x0.2.1, (x0.2.2.1, (1000000, 1000001))))), (1000000, .mp 65 S27 (.int .u64) x0.2.2.2.1), (1000001, .mp 66 S77 (.int .i64) x0.2.2.2.2), (1020000, .var 35 S35 x1)]) (fun r3' h8 => ?_) (fun J3_0 => ?_)
        · subst h8
          refine run_if rfl rfl (fun h9 => ?_) (fun h9 => ?_)
          · replace hF0 := ift h9 hF0
            refine sq rfl (rg [(4, vi 3)] [(0, .var 68 O68 (x0.1, (x0.2.1, (x0.2.2.1, (1000000, 1000001))))), (1000000, .mp 65 S27 (.int .u64) x0.2.2.2.1), (1000001, .mp 66 S77 (.int .i64) x0.2.2.2.2)] [] [] 1020001 rfl (by kernel_rfl) c0 ?_)
            obtain rfl := Option.some.inj hF0
            exact ret_mut (q := [vi 3]) [some (.int .i64)] [0, 1000000, 1000001] rfl rfl (by kernel_rfl) rfl (by kernel_rfl)
          · replace hF0 := ifn h9 hF0
            refine sk rfl (sq rfl (sq rfl (rg [(0, .ptr 0 [] 0), (3, .ptr 1020000 [] 0), (67, vb (x1.2.2.2.2.2.1 == 2))] [(0, .var 68 O68 (x0.1, (x0.2.1, (x0.2.2.1, (1000000, 1000001))))), (1000000, .mp 65 S27 (.int .u64) x0.2.2.2.1), (1000001, .mp 66 S77 (.int .i64) x0.2.2.2.2), (1020000, .var 35 S35 x1)] [] [] 1020001 rfl (by kernel_rfl) c0 ?_)))
            refine run_if rfl rfl (fun h10 => ?_) (fun h10 => ?_)
            · replace hF0 := ift h10 hF0
              refine sq rfl ?_
              obtain ⟨t2, h11, hF0⟩ := obd hF0
              refine rg [(4, vi t2.1)] [(0, .var 68 O68 (t2.2.1, (t2.2.2.1, (t2.2.2.2.1, (2020041, 2020042))))), (2020041, .mp 65 S27 (.int .u64) t2.2.2.2.2.1), (2020042, .mp 66 S77 (.int .i64) t2.2.2.2.2.2)] [(2, ⟨[.v .unit, .v S35], vi t2.1, some ([0, 1000000, 1000001], [(0, .var 68 O68 (t2.2.1, (t2.2.2.1, (t2.2.2.2.1, (1000000, 1000001))))), (1000000, .mp 65 S27 (.int .u64) t2.2.2.2.2.1), (1000001, .mp 66 S77 (.int .i64) t2.2.2.2.2.2)])⟩)] [] 1020001 rfl (by kernel_rfl) (cc (W_trace_checker_view h11) c0) (run_renF (ρ' := [(4, vi t2.1)]) (H' := [(1000000, .mp 65 S27 (.int .u64) t2.2.2.2.2.1), (0, .var 68 O68 (t2.2.1, (t2.2.2.1, (t2.2.2.2.1, (1000000, 2020042))))), (2020042, .mp 66 S77 (.int .i64) t2.2.2.2.2.2)]) 2020041 1000000 rfl (by kernel_rfl) rfl rfl (by kernel_rfl) rfl (run_renF (ρ' := [(4, vi t2.1)]) (H' := [(1000001, .mp 66 S77 (.int .i64) t2.2.2.2.2.2), (1000000, .mp 65 S27 (.int .u64) t2.2.2.2.2.1), (0, .var 68 O68 (t2.2.1, (t2.2.2.1, (t2.2.2.2.1, (1000000, 1000001)))))]) 2020042 1000001 rfl (by kernel_rfl) rfl rfl (by kernel_rfl) rfl (tm (ρ' := [(4, vi t2.1)]) (H' := [(0, .var 68 O68 (t2.2.1, (t2.2.2.1, (t2.2.2.2.1, (1000000, 1000001))))), (1000000, .mp 65 S27 (.int .u64) t2.2.2.2.2.1), (1000001, .mp 66 S77 (.int .i64) t2.2.2.2.2.2)]) (by kernel_rfl) (by kernel_rfl) rfl ?_)))
              obtain rfl := Option.some.inj hF0
              exact ret_mut (q := [vi t2.1]) [some (.int .i64)] [0, 1000000, 1000001] rfl rfl (by kernel_rfl) rfl (by kernel_rfl)
            · replace hF0 := ifn h10 hF0
              refine sk rfl (sq rfl (rg [(0, .ptr 0 [] 0), (3, .ptr 1020000 [] 0), (5, .ptr 1020261 [] 0)] [(0, .var 68 O68 (x0.1, (x0.2.1, (x0.2.2.1, (1000000, 1000001))))), (1000000, .mp 65 S27 (.int .u64) x0.2.2.2.1), (1000001, .mp 66 S77 (.int .i64) x0.2.2.2.2), (1020000, .var 35 S35 x1), (1020261, .var 77 S77 (x1.2.2.2.2.2.2.2.2.2.2.1, (x1.2.2.2.2.2.2.2.2.2.2.2.2.1, x1.2.2.2.2.2.2.2.2.1)))] [] [] 1020001 rfl (by kernel_rfl) c0 (sq rfl (sq rfl (rG [(0, .ptr 0 [] 0), (3, .ptr 1020000 [] 0), (5, .ptr 1020261 [] 0), (90, vb (decide ((getM S77 (x1.2.2.2.2.2.2.2.2.2.2.1, (x1.2.2.2.2.2.2.2.2.2.2.2.2.1, x1.2.2.2.2.2.2.2.2.1)) 0 x0.2.2.2.2) > 0)))] [(0, .var 68 O68 (x0.1, (x0.2.1, (x0.2.2.1, (1000000, 1000001))))), (1000000, .mp 65 S27 (.int .u64) x0.2.2.2.1), (1000001, .mp 66 S77 (.int .i64) x0.2.2.2.2), (1020000, .var 35 S35 x1), (1020261, .var 77 S77 (x1.2.2.2.2.2.2.2.2.2.2.1, (x1.2.2.2.2.2.2.2.2.2.2.2.2.1, x1.2.2.2.2.2.2.2.2.1)))] [] [] 1020262 rfl rfl (by kernel_rfl) c0 ?_)))))
              refine run_if rfl rfl (fun h12 => ?_) (fun h12 => ?_)
              · replace hF0 := ift h12 hF0
                refine sq rfl (rg [(4, vi 6)] [(0, .var 68 O68 (x0.1, (x0.2.1, (x0.2.2.1, (1000000, 1000001))))), (1000000, .mp 65 S27 (.int .u64) x0.2.2.2.1), (1000001, .mp 66 S77 (.int .i64) x0.2.2.2.2)] [] [] 1020262 rfl (by kernel_rfl) c0 ?_)
                obtain rfl := Option.some.inj hF0
                exact ret_mut (q := [vi 6]) [some (.int .i64)] [0, 1000000, 1000001] rfl rfl (by kernel_rfl) rfl (by kernel_rfl)
              · replace hF0 := ifn h12 hF0
                refine sk rfl (sq rfl ?_)
                obtain ⟨h13, hF0⟩ := ifg hF0
                obtain ⟨h14, hF0⟩ := ifg hF0
                refine rG [(3, .ptr 1020000 [] 0)] [(0, .var 68 O68 (x0.1, (x0.2.1, (x0.2.2.1, (1000000, 1000001))))), (1000000, .mp 65 S27 (.int .u64) x0.2.2.2.1), (1000001, .mp 66 S77 (.int .i64) (estM ((entV S77 (x1.2.2.2.2.2.2.2.2.2.2.1, (x1.2.2.2.2.2.2.2.2.2.2.2.2.1, x1.2.2.2.2.2.2.2.2.1)) 0 x0.2.2.2.2).2) (IntKind.wrap .i64 ((getM S77 (x1.2.2.2.2.2.2.2.2.2.2.1, (x1.2.2.2.2.2.2.2.2.2.2.2.2.1, x1.2.2.2.2.2.2.2.2.1)) 0 x0.2.2.2.2) + 1)) (entM S77 (x1.2.2.2.2.2.2.2.2.2.2.1, (x1.2.2.2.2.2.2.2.2.2.2.2.2.1, x1.2.2.2.2.2.2.2.2.1)) 0 x0.2.2.2.2))), (1020000, .var 35 S35 x1)] [] [] 1020262 rfl rfl (by kernel_rfl) (cc h13 (cc h14 (cc (show (vi (getM S77 (x1.2.2.2.2.2.2.2.2.2.2.1, (x1.2.2.2.2.2.2.2.2.2.2.2.2.1, x1.2.2.2.2.2.2.2.2.1)) 0 (entM S77 (x1.2.2.2.2.2.2.2.2.2.2.1, (x1.2.2.2.2.2.2.2.2.2.2.2.2.1, x1.2.2.2.2.2.2.2.2.1)) 0 x0.2.2.2.2)) : AVal) = (vi (getM S77 (x1.2.2.2.2.2.2.2.2.2.2.1, (x1.2.2.2.2.2.2.2.2.2.2.2.2.1, x1.2.2.2.2.2.2.2.2.1)) 0 x0.2.2.2.2)) from (by rw [getM_ent])) c0))) (sq rfl (rg [(109, vb (x1.2.2.2.2.2.2.2.2.2.2.2.2.1.1 != x1.2.2.2.2.2.2.2.2.2.1))] [(0, .var 68 O68 (x0.1, (x0.2.1, (x0.2.2.1, (1000000, 1000001))))), (1000000, .mp 65 S27 (.int .u64) x0.2.2.2.1), (1000001, .mp 66 S77 (.int .i64) (estM ((entV S77 (x1.2.2.2.2.2.2.2.2.2.2.1, (x1.2.2.2.2.2.2.2.2.2.2.2.2.1, x1.2.2.2.2.2.2.2.2.1)) 0 x0.2.2.2.2).2) (IntKind.wrap .i64 ((getM S77 (x1.2.2.2.2.2.2.2.2.2.2.1, (x1.2.2.2.2.2.2.2.2.2.2.2.2.1, x1.2.2.2.2.2.2.2.2.1)) 0 x0.2.2.2.2) + 1)) (entM S77 (x1.2.2.2.2.2.2.2.2.2.2.1, (x1.2.2.2.2.2.2.2.2.2.2.2.2.1, x1.2.2.2.2.2.2.2.2.1)) 0 x0.2.2.2.2)))] [] [] 1020001 rfl (by kernel_rfl) c0 ?_))
                refine run_if rfl rfl (fun h15 => ?_) (fun h15 => ?_)
                · replace hF0 := ift h15 hF0
                  refine sq rfl (rg [(4, vi 7)] [(0, .var 68 O68 (x0.1, (x0.2.1, (x0.2.2.1, (1000000, 1000001))))), (1000000, .mp 65 S27 (.int .u64) x0.2.2.2.1), (1000001, .mp 66 S77 (.int .i64) (estM ((entV S77 (x1.2.2.2.2.2.2.2.2.2.2.1, (x1.2.2.2.2.2.2.2.2.2.2.2.2.1, x1.2.2.2.2.2.2.2.2.1)) 0 x0.2.2.2.2).2) (IntKind.wrap .i64 ((getM S77 (x1.2.2.2.2.2.2.2.2.2.2.1, (x1.2.2.2.2.2.2.2.2.2.2.2.2.1, x1.2.2.2.2.2.2.2.2.1)) 0 x0.2.2.2.2) + 1)) (entM S77 (x1.2.2.2.2.2.2.2.2.2.2.1, (x1.2.2.2.2.2.2.2.2.2.2.2.2.1, x1.2.2.2.2.2.2.2.2.1)) 0 x0.2.2.2.2)))] [] [] 1020000 rfl (by kernel_rfl) c0 ?_)
                  obtain rfl := Option.some.inj hF0
                  exact ret_mut (q := [vi 7]) [some (.int .i64)] [0, 1000000, 1000001] rfl rfl (by kernel_rfl) rfl (by kernel_rfl)
                · replace hF0 := ifn h15 hF0
                  refine sk rfl (eb (sq rfl (rg [(4, vi 0)] [(0, .var 68 O68 (x0.1, (x0.2.1, (x0.2.2.1, (1000000, 1000001))))), (1000000, .mp 65 S27 (.int .u64) x0.2.2.2.1), (1000001, .mp 66 S77 (.int .i64) (estM ((entV S77 (x1.2.2.2.2.2.2.2.2.2.2.1, (x1.2.2.2.2.2.2.2.2.2.2.2.2.1, x1.2.2.2.2.2.2.2.2.1)) 0 x0.2.2.2.2).2) (IntKind.wrap .i64 ((getM S77 (x1.2.2.2.2.2.2.2.2.2.2.1, (x1.2.2.2.2.2.2.2.2.2.2.2.2.1, x1.2.2.2.2.2.2.2.2.1)) 0 x0.2.2.2.2) + 1)) (entM S77 (x1.2.2.2.2.2.2.2.2.2.2.1, (x1.2.2.2.2.2.2.2.2.2.2.2.2.1, x1.2.2.2.2.2.2.2.2.1)) 0 x0.2.2.2.2)))] [] [] 1020000 rfl (by kernel_rfl) c0 ?_)))
                  obtain rfl := Option.some.inj hF0
                  exact ret_mut (q := [vi 0]) [some (.int .i64)] [0, 1000000, 1000001] rfl rfl (by kernel_rfl) rfl (by kernel_rfl)
        rcases Bool.eq_false_or_eq_true (x0.2.1) with h16 | h16
        · replace hF1 := ift h16 hF1
          refine rG [(0, .ptr 0 [] 0), (3, .ptr 1020000 [] 0), (62, vb (!(Sh.eqb S27 x1.2.2.2.2.2.2.2.2.2.2.1 x0.2.2.1)))] [(0, .var 68 O68 (x0.1, (x0.2.1, (x0.2.2.1, (1000000, 1000001))))), (1000000, .mp 65 S27 (.int .u64) x0.2.2.2.1), (1000001, .mp 66 S77 (.int .i64) x0.2.2.2.2), (1020000, .var 35 S35 x1)] [] [(4, true)] 1020001 rfl rfl (by kernel_rfl) (cc h16 c0) ?_
          exact J3_0 _ (Option.some.inj hF1).symm
        · replace hF1 := ifn h16 hF1
          refine rG [(0, .ptr 0 [] 0), (3, .ptr 1020000 [] 0), (62, vb false)] [(0, .var 68 O68 (x0.1, (x0.2.1, (x0.2.2.1, (1000000, 1000001))))), (1000000, .mp 65 S27 (.int .u64) x0.2.2.2.1), (1000001, .mp 66 S77 (.int .i64) x0.2.2.2.2), (1020000, .var 35 S35 x1)] [] [(4, false)] 1020001 rfl rfl (by kernel_rfl) (cc h16 c0) ?_
          exact J3_0 _ (Option.some.inj hF1).symm
      · replace hF0 := ifn h7 hF0
        refine sk rfl (eb (sq rfl (rg [(4, vi 0)] [(0, .var 68 O68 (x0.1, (x0.2.1, (x0.2.2.1, (1000000, 1000001))))), (1000000, .mp 65 S27 (.int .u64) x0.2.2.2.1), (1000001, .mp 66 S77 (.int .i64) x0.2.2.2.2)] [] [] 1020001 rfl (by kernel_rfl) c0 ?_)))
        obtain rfl := Option.some.inj hF0
        exact ret_mut (q := [vi 0]) [some (.int .i64)] [0, 1000000, 1000001] rfl rfl (by kernel_rfl) rfl (by kernel_rfl)
    refine run_if rfl rfl (fun h17 => ?_) (fun h17 => ?_)
    · replace hF1 := ift h17 hF1
      refine sk rfl (tm (ρ' := [(0, .ptr 0 [] 0), (3, .ptr 1020000 [] 0), (45, vb (x1.2.2.2.2.2.1 == 2))]) (H' := [(0, .var 68 O68 (x0.1, (x0.2.1, (x0.2.2.1, (1000000, 1000001))))), (1000000, .mp 65 S27 (.int .u64) x0.2.2.2.1), (1000001, .mp 66 S77 (.int .i64) x0.2.2.2.2), (1020000, .var 35 S35 x1)]) (by kernel_rfl) (by kernel_rfl) rfl ?_)
      exact J2_0 _ (Option.some.inj hF1).symm
    · replace hF1 := ifn h17 hF1
      refine rg [(0, .ptr 0 [] 0), (3, .ptr 1020000 [] 0), (45, vb (x1.2.2.2.2.2.1 == 3))] [(0, .var 68 O68 (x0.1, (x0.2.1, (x0.2.2.1, (1000000, 1000001))))), (1000000, .mp 65 S27 (.int .u64) x0.2.2.2.1), (1000001, .mp 66 S77 (.int .i64) x0.2.2.2.2), (1020000, .var 35 S35 x1)] [] [] 1020001 rfl (by kernel_rfl) c0 ?_
      exact J2_0 _ (Option.some.inj hF1).symm
end Go.Proofs.YtlhbekiplnmolaaDoor
