/- Functions of the program as plain functions, and that the code comes to them; printed by wip/e/gene.py. -/
import Derived.Test.YtlhbekiplnmolaaDoorZC
set_option maxRecDepth 100000
set_option linter.unusedVariables false
namespace Go.Proofs.YtlhbekiplnmolaaDoor
open Go.RowKit
def KS0 : Str := [48, 32, 48, 32, 49, 32, 48, 32, 49, 32, 109, 101, 115, 115, 97, 103, 101, 32, 48, 32, 48, 32, 48, 32, 51, 32, 61, 104, 105, 10]
noncomputable def F_congresslaw26_fixed : Option Bool :=
  (F_congresslaw26_note (0, (3, (0, (0, (3, (0, ((0, (0, 0)), ((0, (0, 0)), ((0, (0, 0)), (([104, 105] : Str), []))))))))))).bind fun t1 => ((F_trace_Check [t1, t1]).bind fun t2 => ((F_congresslaw26_note (0, (2, (0, (0, (1, (0, ((0, (0, 0)), ((0, (0, 0)), ((0, (0, 0)), ([], ([49, 46, 49, 32] : Str)))))))))))).bind fun t3 => ((F_trace_Check [t3]).bind fun t4 => ((F_trace_Check [t1]).bind fun t5 => ((show Option Bool from if (t2.1 == 1) = true then if (t2.2 == 6) = true then if (t4.1 == 0) = true then if (t4.2 == 5) = true then if (t5.1 == (-1)) = true then if (t5.2 == 0) = true then (F_trace_Line t1).bind fun t6 => (if (t6 == KS0) = true then (F_trace_Agree [t1, t1]).bind fun t7 => (some t7) else some false) else some false else some false else some false else some false else some false else some false).bind (fun r1 => some r1))))))
theorem W_congresslaw26_fixed {y : Bool} (hF0 : F_congresslaw26_fixed = some y) : Pure Tryd.prog 7 [] (vb y) := by
  unfold F_congresslaw26_fixed at hF0
  refine pure_of_run @Tryd.call7 @Tryd.func7 rfl rfl fun w M ho => ?_
  refine sq rfl (rg [] [] [] [] 1020000 rfl (by kernel_rfl) c0 (sq rfl ?_))
  obtain ⟨t1, h1, hF0⟩ := obd hF0
  refine rg [(1, .ptr 1020040 [] 0)] [(1020040, .var 35 S35 t1)] [(1, ⟨[.v S31], .v S35 t1, none⟩)] [] 1020000 rfl (by kernel_rfl) (cc (W_congresslaw26_note h1) c0) (sq rfl ?_)
  obtain ⟨t2, h2, hF0⟩ := obd hF0
  refine rg [(1, .ptr 1020040 [] 0), (2, vi t2.1), (3, vi t2.2)] [(1020040, .var 35 S35 t1)] [(2, ⟨[], .v (.sl S35) [t1, t1], none⟩), (3, ⟨[.v (.sl S35)], .tup [vi t2.1, vi t2.2], none⟩)] [] 1020041 rfl (by kernel_rfl) (cc (W_trace_Check h2) c0) (sq rfl ?_)
  obtain ⟨t3, h3, hF0⟩ := obd hF0
  obtain ⟨t4, h4, hF0⟩ := obd hF0
  refine rg [(1, .ptr 1020040 [] 0), (2, vi t2.1), (3, vi t2.2), (4, vi t4.1), (5, vi t4.2)] [(1020040, .var 35 S35 t1)] [(1, ⟨[.v S31], .v S35 t3, none⟩), (2, ⟨[], .v (.sl S35) [t3], none⟩), (3, ⟨[.v (.sl S35)], .tup [vi t4.1, vi t4.2], none⟩)] [] 1020041 rfl (by kernel_rfl) (cc (W_congresslaw26_note h3) (cc (W_trace_Check h4) c0)) (sq rfl ?_)
  obtain ⟨t5, h5, hF0⟩ := obd hF0
  refine rg [(1, .ptr 1020040 [] 0), (2, vi t2.1), (3, vi t2.2), (4, vi t4.1), (5, vi t4.2), (6, vi t5.1), (7, vi t5.2)] [(1020040, .var 35 S35 t1)] [(1, ⟨[], .v (.sl S35) [t1], none⟩), (2, ⟨[.v (.sl S35)], .tup [vi t5.1, vi t5.2], none⟩)] [] 1020041 rfl (by kernel_rfl) (cc (W_trace_Check h5) c0) (sq rfl ?_)
  obtain ⟨r1, hF1, hF0⟩ := obd hF0
  refine run_cut (fun r1' => r1 = r1') (fun r1 => [(0, vb r1)]) (fun r1 => []) (fun r1' h6 => ?_) (fun J1_0 => ?_)
  · subst h6
    obtain rfl := Option.some.inj hF0
    exact ret_pure (q := [vb r1]) [.bool] rfl rfl (by kernel_rfl)
  rcases Bool.eq_false_or_eq_true (t2.1 == 1) with h7 | h7
  · replace hF1 := ift h7 hF1
    rcases Bool.eq_false_or_eq_true (t2.2 == 6) with h8 | h8
    · replace hF1 := ift h8 hF1
      rcases Bool.eq_false_or_eq_true (t4.1 == 0) with h9 | h9
      · replace hF1 := ift h9 hF1
        rcases Bool.eq_false_or_eq_true (t4.2 == 5) with h10 | h10
        · replace hF1 := ift h10 hF1
          rcases Bool.eq_false_or_eq_true (t5.1 == (-1)) with h11 | h11
          · replace hF1 := ift h11 hF1
            rcases Bool.eq_false_or_eq_true (t5.2 == 0) with h12 | h12
            · replace hF1 := ift h12 hF1
              obtain ⟨t6, h13, hF1⟩ := obd hF1
              rcases Bool.eq_false_or_eq_true (t6 == KS0) with h14 | h14
              · replace hF1 := ift h14 hF1
                obtain ⟨t7, h15, hF1⟩ := obd hF1
                refine rg [(0, vb t7)] [] [(24, ⟨[.v S35], vs t6, none⟩), (30, ⟨[], .v (.sl S35) [t1, t1], none⟩), (31, ⟨[.v (.sl S35)], vb t7, none⟩)] [(2, true), (6, true), (10, true), (14, true), (18, true), (22, true), (27, true)] 1020041 rfl (by kernel_rfl) (cc h7 (cc h8 (cc h9 (cc h10 (cc h11 (cc h12 (cc (W_trace_Line h13) (cc h14 (cc (W_trace_Agree h15) c0))))))))) ?_
                exact J1_0 _ (Option.some.inj hF1).symm
              · replace hF1 := ifn h14 hF1
                refine rg [(0, vb false)] [] [(24, ⟨[.v S35], vs t6, none⟩)] [(2, true), (6, true), (10, true), (14, true), (18, true), (22, true), (27, false)] 1020041 rfl (by kernel_rfl) (cc h7 (cc h8 (cc h9 (cc h10 (cc h11 (cc h12 (cc (W_trace_Line h13) (cc h14 c0)))))))) ?_
                exact J1_0 _ (Option.some.inj hF1).symm
            · replace hF1 := ifn h12 hF1
              refine rg [(0, vb false)] [] [] [(2, true), (6, true), (10, true), (14, true), (18, true), (22, false)] 1020041 rfl (by kernel_rfl) (cc h7 (cc h8 (cc h9 (cc h10 (cc h11 (cc h12 c0)))))) ?_
              exact J1_0 _ (Option.some.inj hF1).symm
          · replace hF1 := ifn h11 hF1
            refine rg [(0, vb false)] [] [] [(2, true), (6, true), (10, true), (14, true), (18, false)] 1020041 rfl (by kernel_rfl) (cc h7 (cc h8 (cc h9 (cc h10 (cc h11 c0))))) ?_
            exact J1_0 _ (Option.some.inj hF1).symm
        · replace hF1 := ifn h10 hF1
          refine rg [(0, vb false)] [] [] [(2, true), (6, true), (10, true), (14, false)] 1020041 rfl (by kernel_rfl) (cc h7 (cc h8 (cc h9 (cc h10 c0)))) ?_
          exact J1_0 _ (Option.some.inj hF1).symm
      · replace hF1 := ifn h9 hF1
        refine rg [(0, vb false)] [] [] [(2, true), (6, true), (10, false)] 1020041 rfl (by kernel_rfl) (cc h7 (cc h8 (cc h9 c0))) ?_
        exact J1_0 _ (Option.some.inj hF1).symm
    · replace hF1 := ifn h8 hF1
      refine rg [(0, vb false)] [] [] [(2, true), (6, false)] 1020041 rfl (by kernel_rfl) (cc h7 (cc h8 c0)) ?_
      exact J1_0 _ (Option.some.inj hF1).symm
  · replace hF1 := ifn h7 hF1
    refine rg [(0, vb false)] [] [] [(2, false)] 1020041 rfl (by kernel_rfl) (cc h7 c0) ?_
    exact J1_0 _ (Option.some.inj hF1).symm
noncomputable def F_congresslaw26_TraceTexts (x0 : (List S35.ty)) (x1 : S35.ty) : Option Bool :=
  if (decide (((List.length x0 : Nat) : Int) > 200)) = true then (F_congresslaw26_fixed ).bind fun t1 => (some t1) else (show Option Bool from (F_congresslaw26_fixed ).bind fun t2 => (if (t2) = true then (F_trace_Line x1).bind fun t3 => ((F_congressref26_Line x1).bind fun t4 => (if (t3 == t4) = true then (F_trace_Text x0).bind fun t5 => ((F_congressref26_Text x0).bind fun t6 => (some (t5 == t6))) else some false)) else some false)).bind (fun r1 => some r1)
theorem W_congresslaw26_TraceTexts {x0 : (List S35.ty)} {x1 : S35.ty} {y : Bool} (hF0 : F_congresslaw26_TraceTexts x0 x1 = some y) : Pure Tryd.prog 3 [.v (.sl S35) x0, .v S35 x1] (vb y) := by
  unfold F_congresslaw26_TraceTexts at hF0
  refine pure_of_run @Tryd.call3 @Tryd.func3 rfl rfl fun w M ho => ?_
  refine sq rfl (rg [(0, .v (.sl S35) x0), (3, .ptr 1020000 [] 0)] [(1020000, .var 35 S35 x1)] [] [] 1020000 rfl (by kernel_rfl) c0 (sq rfl (sq rfl (rg [(0, .v (.sl S35) x0), (3, .ptr 1020000 [] 0), (7, vb (decide (((List.length x0 : Nat) : Int) > 200)))] [(1020000, .var 35 S35 x1)] [] [] 1020001 rfl (by kernel_rfl) c0 ?_))))
  refine run_if rfl rfl (fun h1 => ?_) (fun h1 => ?_)
  · replace hF0 := ift h1 hF0
    refine sq rfl ?_
    obtain ⟨t1, h2, hF0⟩ := obd hF0
    refine rg [(4, vb t1)] [] [(0, ⟨[], vb t1, none⟩)] [] 1020001 rfl (by kernel_rfl) (cc (W_congresslaw26_fixed h2) c0) ?_
    obtain rfl := Option.some.inj hF0
    exact ret_pure (q := [vb t1]) [.bool] rfl rfl (by kernel_rfl)
  · replace hF0 := ifn h1 hF0
    refine sk rfl (sq rfl ?_)
    obtain ⟨r1, hF1, hF0⟩ := obd hF0
    refine run_cut (fun r1' => r1 = r1') (fun r1 => [(4, vb r1)]) (fun r1 => []) (fun r1' h3 => ?_) (fun J1_0 => ?_)
    · subst h3
      obtain rfl := Option.some.inj hF0
      exact ret_pure (q := [vb r1]) [.bool] rfl rfl (by kernel_rfl)
    obtain ⟨t2, h4, hF1⟩ := obd hF1
    rcases Bool.eq_false_or_eq_true (t2) with h5 | h5
    · replace hF1 := ift h5 hF1
      obtain ⟨t3, h6, hF1⟩ := obd hF1
      obtain ⟨t4, h7, hF1⟩ := obd hF1
      rcases Bool.eq_false_or_eq_true (t3 == t4) with h8 | h8
      · replace hF1 := ift h8 hF1
        obtain ⟨t5, h9, hF1⟩ := obd hF1
        obtain ⟨t6, h10, hF1⟩ := obd hF1
        refine rG [(4, vb (t5 == t6))] [] [(0, ⟨[], vb t2, none⟩), (3, ⟨[.v S35], vs t3, none⟩), (5, ⟨[.v S35], vs t4, none⟩), (10, ⟨[.v (.sl S35)], vs t5, none⟩), (12, ⟨[.v (.sl S35)], vs t6, none⟩)] [(1, true), (8, true)] 1020001 rfl rfl (by kernel_rfl) (cc (W_congresslaw26_fixed h4) (cc h5 (cc (W_trace_Line h6) (cc (W_congressref26_Line h7) (cc h8 (cc (W_trace_Text h9) (cc (W_congressref26_Text h10) c0))))))) ?_
        exact J1_0 _ (Option.some.inj hF1).symm
      · replace hF1 := ifn h8 hF1
        refine rG [(4, vb false)] [] [(0, ⟨[], vb t2, none⟩), (3, ⟨[.v S35], vs t3, none⟩), (5, ⟨[.v S35], vs t4, none⟩)] [(1, true), (8, false)] 1020001 rfl rfl (by kernel_rfl) (cc (W_congresslaw26_fixed h4) (cc h5 (cc (W_trace_Line h6) (cc (W_congressref26_Line h7) (cc h8 c0))))) ?_
        exact J1_0 _ (Option.some.inj hF1).symm
    · replace hF1 := ifn h5 hF1
      refine rG [(4, vb false)] [] [(0, ⟨[], vb t2, none⟩)] [(1, false)] 1020001 rfl rfl (by kernel_rfl) (cc (W_congresslaw26_fixed h4) (cc h5 c0)) ?_
      exact J1_0 _ (Option.some.inj hF1).symm
noncomputable def F_congresslaw26_TraceChecks (x0 : (List S35.ty)) (x1 : S35.ty) : Option Bool :=
  if (decide (((List.length x0 : Nat) : Int) > 200)) = true then (F_congresslaw26_fixed ).bind fun t1 => (some t1) else (F_trace_Check x0).bind fun t2 => ((F_congressref26_Check x0).bind fun t3 => ((show Option Bool from (F_congresslaw26_fixed ).bind fun t4 => (if (t4) = true then if (t2.1 == t3.1) = true then if (t2.2 == t3.2) = true then (F_trace_Agree x0).bind fun t5 => ((F_congressref26_Agree x0).bind fun t6 => (if (t5 == t6) = true then (F_trace_Of x0 x1).bind fun t7 => ((F_congressref26_Of x0 x1).bind fun t8 => ((F_congressref25_Sights t7 t8).bind fun t9 => (some t9))) else some false)) else some false else some false else some false)).bind (fun r1 => some r1)))
theorem W_congresslaw26_TraceChecks {x0 : (List S35.ty)} {x1 : S35.ty} {y : Bool} (hF0 : F_congresslaw26_TraceChecks x0 x1 = some y) : Pure Tryd.prog 4 [.v (.sl S35) x0, .v S35 x1] (vb y) := by
  unfold F_congresslaw26_TraceChecks at hF0
  refine pure_of_run @Tryd.call4 @Tryd.func4 rfl rfl fun w M ho => ?_
  refine sq rfl (rg [(0, .v (.sl S35) x0), (3, .ptr 1020000 [] 0)] [(1020000, .var 35 S35 x1)] [] [] 1020000 rfl (by kernel_rfl) c0 (sq rfl (sq rfl (rg [(0, .v (.sl S35) x0), (3, .ptr 1020000 [] 0), (11, vb (decide (((List.length x0 : Nat) : Int) > 200)))] [(1020000, .var 35 S35 x1)] [] [] 1020001 rfl (by kernel_rfl) c0 ?_))))
  refine run_if rfl rfl (fun h1 => ?_) (fun h1 => ?_)
  · replace hF0 := ift h1 hF0
    refine sq rfl ?_
    obtain ⟨t1, h2, hF0⟩ := obd hF0
    refine rg [(4, vb t1)] [] [(0, ⟨[], vb t1, none⟩)] [] 1020001 rfl (by kernel_rfl) (cc (W_congresslaw26_fixed h2) c0) ?_
    obtain rfl := Option.some.inj hF0
    exact ret_pure (q := [vb t1]) [.bool] rfl rfl (by kernel_rfl)
  · replace hF0 := ifn h1 hF0
    refine sk rfl (sq rfl ?_)
    obtain ⟨t2, h3, hF0⟩ := obd hF0
    refine rg [(0, .v (.sl S35) x0), (3, .ptr 1020000 [] 0), (5, vi t2.1), (6, vi t2.2)] [(1020000, .var 35 S35 x1)] [(1, ⟨[.v (.sl S35)], .tup [vi t2.1, vi t2.2], none⟩)] [] 1020001 rfl (by kernel_rfl) (cc (W_trace_Check h3) c0) (sq rfl ?_)
    obtain ⟨t3, h4, hF0⟩ := obd hF0
    refine rg [(0, .v (.sl S35) x0), (3, .ptr 1020000 [] 0), (5, vi t2.1), (6, vi t2.2), (7, vi t3.1), (8, vi t3.2)] [(1020000, .var 35 S35 x1)] [(1, ⟨[.v (.sl S35)], .tup [vi t3.1, vi t3.2], none⟩)] [] 1020001 rfl (by kernel_rfl) (cc (W_congressref26_Check h4) c0) (sq rfl ?_)
    obtain ⟨r1, hF1, hF0⟩ := obd hF0
    refine run_cut (fun r1' => r1 = r1') (fun r1 => [(4, vb r1)]) (fun r1 => []) (fun r1' h5 => ?_) (fun J1_0 => ?_)
    · subst h5
      obtain rfl := Option.some.inj hF0
      exact ret_pure (q := [vb r1]) [.bool] rfl rfl (by kernel_rfl)
    obtain ⟨t4, h6, hF1⟩ := obd hF1
    rcases Bool.eq_false_or_eq_true (t4) with h7 | h7
    · replace hF1 := ift h7 hF1
      rcases Bool.eq_false_or_eq_true (t2.1 == t3.1) with h8 | h8
      · replace hF1 := ift h8 hF1
        rcases Bool.eq_false_or_eq_true (t2.2 == t3.2) with h9 | h9
        · replace hF1 := ift h9 hF1
          obtain ⟨t5, h10, hF1⟩ := obd hF1
          obtain ⟨t6, h11, hF1⟩ := obd hF1
          rcases Bool.eq_false_or_eq_true (t5 == t6) with h12 | h12
          · replace hF1 := ift h12 hF1
            obtain ⟨t7, h13, hF1⟩ := obd hF1
            obtain ⟨t8, h14, hF1⟩ := obd hF1
            obtain ⟨t9, h15, hF1⟩ := obd hF1
            refine rG [(4, vb t9)] [] [(0, ⟨[], vb t4, none⟩), (13, ⟨[.v (.sl S35)], vb t5, none⟩), (15, ⟨[.v (.sl S35)], vb t6, none⟩), (21, ⟨[.v (.sl S35), .v S35], .v (.sl S35) t7, none⟩), (24, ⟨[.v (.sl S35), .v S35], .v (.sl S35) t8, none⟩), (25, ⟨[.v (.sl S35), .v (.sl S35)], vb t9, none⟩)] [(1, true), (6, true), (11, true), (18, true)] 1020001 rfl rfl (by kernel_rfl) (cc (W_congresslaw26_fixed h6) (cc h7 (cc h8 (cc h9 (cc (W_trace_Agree h10) (cc (W_congressref26_Agree h11) (cc h12 (cc (W_trace_Of h13) (cc (W_congressref26_Of h14) (cc (W_congressref25_Sights h15) c0)))))))))) ?_
            exact J1_0 _ (Option.some.inj hF1).symm
          · replace hF1 := ifn h12 hF1
            refine rG [(4, vb false)] [] [(0, ⟨[], vb t4, none⟩), (13, ⟨[.v (.sl S35)], vb t5, none⟩), (15, ⟨[.v (.sl S35)], vb t6, none⟩)] [(1, true), (6, true), (11, true), (18, false)] 1020001 rfl rfl (by kernel_rfl) (cc (W_congresslaw26_fixed h6) (cc h7 (cc h8 (cc h9 (cc (W_trace_Agree h10) (cc (W_congressref26_Agree h11) (cc h12 c0))))))) ?_
            exact J1_0 _ (Option.some.inj hF1).symm
        · replace hF1 := ifn h9 hF1
          refine rG [(4, vb false)] [] [(0, ⟨[], vb t4, none⟩)] [(1, true), (6, true), (11, false)] 1020001 rfl rfl (by kernel_rfl) (cc (W_congresslaw26_fixed h6) (cc h7 (cc h8 (cc h9 c0)))) ?_
          exact J1_0 _ (Option.some.inj hF1).symm
      · replace hF1 := ifn h8 hF1
        refine rG [(4, vb false)] [] [(0, ⟨[], vb t4, none⟩)] [(1, true), (6, false)] 1020001 rfl rfl (by kernel_rfl) (cc (W_congresslaw26_fixed h6) (cc h7 (cc h8 c0))) ?_
        exact J1_0 _ (Option.some.inj hF1).symm
    · replace hF1 := ifn h7 hF1
      refine rG [(4, vb false)] [] [(0, ⟨[], vb t4, none⟩)] [(1, false)] 1020001 rfl rfl (by kernel_rfl) (cc (W_congresslaw26_fixed h6) (cc h7 c0)) ?_
      exact J1_0 _ (Option.some.inj hF1).symm
noncomputable def F_congresslaw26_TraceBegins_b3 (x0 : (List S35.ty)) (s3 : Int) : Option (Int ⊕ (Bool ⊕ Unit)) :=
  if (decide (s3 < ((List.length x0 : Nat) : Int))) = true then if 0 ≤ s3 ∧ s3 < ((List.length x0 : Nat) : Int) then (F_trace_Of x0 (List.getD x0 (Int.toNat s3) S35.dflt)).bind fun t5 => ((F_trace_Check t5).bind fun t6 => ((show Option Bool from if (t6.1 != (-1)) = true then some true else if (decide (s3 > 0)) = true then if 0 ≤ s3 ∧ s3 < ((List.length x0 : Nat) : Int) then (if 0 ≤ (IntKind.wrap .i64 (s3 - 1)) ∧ (IntKind.wrap .i64 (s3 - 1)) < ((List.length x0 : Nat) : Int) then (some (decide (((List.getD x0 (Int.toNat s3) S35.dflt).1) < ((List.getD x0 (Int.toNat (IntKind.wrap .i64 (s3 - 1))) S35.dflt).1)))) else none) else none else some false).bind (fun r5 => if (r5) = true then some (Sum.inr (Sum.inl false)) else some (Sum.inl (IntKind.wrap .i64 (s3 + 1)))))) else none else some (Sum.inr (Sum.inr ()))
noncomputable def F_congresslaw26_TraceBegins (x0 : (List S35.ty)) (x1 : (List S35.ty)) : Option Bool :=
  (show Option Bool from (F_congresslaw26_fixed ).bind fun t7 => (if (!t7) = true then some true else if (decide (((List.length x0 : Nat) : Int) > 100)) = true then some true else some (decide (((List.length x1 : Nat) : Int) > 100)))).bind (fun r1 => if (r1) = true then (F_congresslaw26_fixed ).bind fun t1 => (some t1) else (F_trace_Check x0).bind fun t2 => (if apOk (0 + (List.length x0)) 160 then (if apOk (List.length ([] ++ x0) + (List.length x1)) 160 then (F_trace_Check (([] ++ x0) ++ x1)).bind fun t3 => (if (decide (t2.1 ≥ 0)) = true then if ((0 : Int) ≤ t2.1 ∧ 0 ≤ Int.toNat t2.1 ∧ Int.toNat t2.1 ≤ List.length x0) then (F_trace_Check (List.drop 0 (List.take (Int.toNat t2.1) x0))).bind fun t4 => ((show Option Bool from if (t3.1 == t2.1) = true then if (t3.2 == t2.2) = true then if (t4.1 == (-1)) = true then if (decide (t2.2 ≥ 1)) = true then some (decide (t2.2 ≤ 7)) else some false else some false else some false else some false).bind (fun r2 => some r2)) else none else (loopO (F_congresslaw26_TraceBegins_b3 x0) 0).bind (Sum.elim some (fun j31 => (show Option Bool from if (t2.2 == 0) = true then if (t3.1 == (-1)) = true then some true else some (decide (t3.1 ≥ ((List.length x0 : Nat) : Int))) else some false).bind (fun r4 => some r4)))) else none) else none))
theorem W_congresslaw26_TraceBegins {x0 : (List S35.ty)} {x1 : (List S35.ty)} {y : Bool} (hF0 : F_congresslaw26_TraceBegins x0 x1 = some y) : Pure Tryd.prog 5 [.v (.sl S35) x0, .v (.sl S35) x1] (vb y) := by
  unfold F_congresslaw26_TraceBegins at hF0
  refine pure_of_run @Tryd.call5 @Tryd.func5 rfl rfl fun w M ho => ?_
  refine sq rfl (rg [(0, .v (.sl S35) x0), (1, .v (.sl S35) x1)] [] [] [] 1020000 rfl (by kernel_rfl) c0 (sq rfl (sq rfl ?_)))
  obtain ⟨r1, hF1, hF0⟩ := obd hF0
  refine run_cut (fun r1' => r1 = r1') (fun r1 => [(0, .v (.sl S35) x0), (1, .v (.sl S35) x1), (26, vb r1)]) (fun r1 => []) (fun r1' h1 => ?_) (fun J1_0 => ?_)
  · subst h1
    refine run_if rfl rfl (fun h2 => ?_) (fun h2 => ?_)
    · replace hF0 := ift h2 hF0
      refine sq rfl ?_
      obtain ⟨t1, h3, hF0⟩ := obd hF0
      refine rg [(4, vb t1)] [] [(0, ⟨[], vb t1, none⟩)] [] 1020000 rfl (by kernel_rfl) (cc (W_congresslaw26_fixed h3) c0) ?_
      obtain rfl := Option.some.inj hF0
      exact ret_pure (q := [vb t1]) [.bool] rfl rfl (by kernel_rfl)
    · replace hF0 := ifn h2 hF0
      refine sk rfl (sq rfl ?_)
      obtain ⟨t2, h4, hF0⟩ := obd hF0
      refine rg [(0, .v (.sl S35) x0), (1, .v (.sl S35) x1), (5, vi t2.1), (6, vi t2.2)] [] [(1, ⟨[.v (.sl S35)], .tup [vi t2.1, vi t2.2], none⟩)] [] 1020000 rfl (by kernel_rfl) (cc (W_trace_Check h4) c0) (sq rfl ?_)
      obtain ⟨h5, hF0⟩ := ifg hF0
      obtain ⟨h6, hF0⟩ := ifg hF0
      refine rg [(0, .v (.sl S35) x0), (5, vi t2.1), (6, vi t2.2), (7, .row 1020080)] [(1020080, .row 35 S35 (([] ++ x0) ++ x1))] [] [] 1020000 rfl (by kernel_rfl) (cc h5.1 (cc h5.2 (cc h6.1 (cc h6.2 c0)))) (sq rfl ?_)
      obtain ⟨t3, h7, hF0⟩ := obd hF0
      refine rg [(0, .v (.sl S35) x0), (5, vi t2.1), (6, vi t2.2), (8, vi t3.1), (9, vi t3.2)] [] [(1, ⟨[.v (.sl S35)], .tup [vi t3.1, vi t3.2], none⟩)] [] 1020081 rfl (by kernel_rfl) (cc (W_trace_Check h7) c0) (sq rfl (sq rfl (rg [(0, .v (.sl S35) x0), (5, vi t2.1), (6, vi t2.2), (8, vi t3.1), (9, vi t3.2), (44, vb (decide (t2.1 ≥ 0)))] [] [] [] 1020000 rfl (by kernel_rfl) c0 ?_)))
      refine run_if rfl rfl (fun h8 => ?_) (fun h8 => ?_)
      · replace hF0 := ift h8 hF0
        refine sq rfl ?_
        obtain ⟨h9, hF0⟩ := ifg hF0
        obtain ⟨t4, h10, hF0⟩ := obd hF0
        refine rg [(5, vi t2.1), (6, vi t2.2), (8, vi t3.1), (9, vi t3.2), (10, vi t4.1)] [] [(3, ⟨[.v (.sl S35)], .tup [vi t4.1, vi t4.2], none⟩)] [] 1020000 rfl (by kernel_rfl) (cc h9.1 (cc h9.2.1 (cc h9.2.2 (cc (W_trace_Check h10) c0)))) (sq rfl ?_)
        obtain ⟨r2, hF1, hF0⟩ := obd hF0
        refine run_cut (fun r2' => r2 = r2') (fun r2 => [(4, vb r2)]) (fun r2 => []) (fun r2' h11 => ?_) (fun J2_0 => ?_)
        · subst h11
          obtain rfl := Option.some.inj hF0
          exact ret_pure (q := [vb r2]) [.bool] rfl rfl (by kernel_rfl)
        rcases Bool.eq_false_or_eq_true (t3.1 == t2.1) with h12 | h12
        · replace hF1 := ift h12 hF1
          rcases Bool.eq_false_or_eq_true (t3.2 == t2.2) with h13 | h13
          · replace hF1 := ift h13 hF1
            rcases Bool.eq_false_or_eq_true (t4.1 == (-1)) with h14 | h14
            · replace hF1 := ift h14 hF1
              rcases Bool.eq_false_or_eq_true (decide (t2.2 ≥ 1)) with h15 | h15
              · replace hF1 := ift h15 hF1
                refine rg [(4, vb (decide (t2.2 ≤ 7)))] [] [] [(3, true), (8, true), (12, true), (16, true)] 1020000 rfl (by kernel_rfl) (cc h12 (cc h13 (cc h14 (cc h15 c0)))) ?_
                exact J2_0 _ (Option.some.inj hF1).symm
              · replace hF1 := ifn h15 hF1
                refine rg [(4, vb false)] [] [] [(3, true), (8, true), (12, true), (16, false)] 1020000 rfl (by kernel_rfl) (cc h12 (cc h13 (cc h14 (cc h15 c0)))) ?_
                exact J2_0 _ (Option.some.inj hF1).symm
            · replace hF1 := ifn h14 hF1
              refine rg [(4, vb false)] [] [] [(3, true), (8, true), (12, false)] 1020000 rfl (by kernel_rfl) (cc h12 (cc h13 (cc h14 c0))) ?_
              exact J2_0 _ (Option.some.inj hF1).symm
          · replace hF1 := ifn h13 hF1
            refine rg [(4, vb false)] [] [] [(3, true), (8, false)] 1020000 rfl (by kernel_rfl) (cc h12 (cc h13 c0)) ?_
            exact J2_0 _ (Option.some.inj hF1).symm
        · replace hF1 := ifn h12 hF1
          refine rg [(4, vb false)] [] [] [(3, false)] 1020000 rfl (by kernel_rfl) (cc h12 c0) ?_
          exact J2_0 _ (Option.some.inj hF1).symm
      · replace hF0 := ifn h8 hF0
        refine sk rfl (sq rfl (sq rfl (rg [(0, .v (.sl S35) x0), (6, vi t2.2), (8, vi t3.1), (12, vi 0)] [] [] [] 1020000 rfl (by kernel_rfl) c0 (bk rfl ?_))))
        obtain ⟨r3, hl3, hF0⟩ := obd hF0
        refine run_cutx 0 rfl (fun j31 => r3 = Sum.inr j31) (fun j31 => [(0, .v (.sl S35) x0), (6, vi t2.2), (8, vi t3.1)]) (fun j31 => []) (fun j31 h16 => ?_) (fun J3_1 => ?_)
        · subst h16
          replace hF0 := sumR hF0
          refine sq rfl ?_
          obtain ⟨r4, hF1, hF0⟩ := obd hF0
          refine run_cut (fun r4' => r4 = r4') (fun r4 => [(4, vb r4)]) (fun r4 => []) (fun r4' h17 => ?_) (fun J4_0 => ?_)
          · subst h17
            obtain rfl := Option.some.inj hF0
            exact ret_pure (q := [vb r4]) [.bool] rfl rfl (by kernel_rfl)
          rcases Bool.eq_false_or_eq_true (t2.2 == 0) with h18 | h18
          · replace hF1 := ift h18 hF1
            rcases Bool.eq_false_or_eq_true (t3.1 == (-1)) with h19 | h19
            · replace hF1 := ift h19 hF1
              refine rg [(4, vb true)] [] [] [(2, true), (5, true)] 1020000 rfl (by kernel_rfl) (cc h18 (cc h19 c0)) ?_
              exact J4_0 _ (Option.some.inj hF1).symm
            · replace hF1 := ifn h19 hF1
              refine rg [(4, vb (decide (t3.1 ≥ ((List.length x0 : Nat) : Int))))] [] [] [(2, true), (5, false)] 1020000 rfl (by kernel_rfl) (cc h18 (cc h19 c0)) ?_
              exact J4_0 _ (Option.some.inj hF1).symm
          · replace hF1 := ifn h18 hF1
            refine rg [(4, vb false)] [] [] [(2, false)] 1020000 rfl (by kernel_rfl) (cc h18 c0) ?_
            exact J4_0 _ (Option.some.inj hF1).symm
        refine run_loop rfl (run_loopO hl3 (fun s3 => [(0, .v (.sl S35) x0), (6, vi t2.2), (8, vi t3.1), (12, vi s3)]) (fun s3 => []) rfl rfl (fun s3 o3 hF1 ih3 hr3 => ?_))
        unfold F_congresslaw26_TraceBegins_b3 at hF1
        refine run_again (sq rfl (sq rfl (rg [(0, .v (.sl S35) x0), (6, vi t2.2), (8, vi t3.1), (12, vi s3), (75, vb (decide (s3 < ((List.length x0 : Nat) : Int))))] [] [] [] 1020000 rfl (by kernel_rfl) c0 ?_)))
        refine run_if rfl rfl (fun h20 => ?_) (fun h20 => ?_)
        · replace hF1 := ift h20 hF1
          refine sk rfl (sq rfl (bk rfl (sq rfl ?_)))
          obtain ⟨h21, hF1⟩ := ifg hF1
          obtain ⟨t5, h22, hF1⟩ := obd hF1
          obtain ⟨t6, h23, hF1⟩ := obd hF1
          refine rg [(0, .v (.sl S35) x0), (6, vi t2.2), (8, vi t3.1), (12, vi s3), (13, vi t6.1)] [] [(5, ⟨[.v (.sl S35), .v S35], .v (.sl S35) t5, none⟩), (6, ⟨[.v (.sl S35)], .tup [vi t6.1, vi t6.2], none⟩)] [] 1020000 rfl (by kernel_rfl) (cc h21 (cc (W_trace_Of h22) (cc (W_trace_Check h23) c0))) (sq rfl ?_)
          obtain ⟨r5, hF2, hF1⟩ := obd hF1
          refine run_cut (fun r5' => r5 = r5') (fun r5 => [(0, .v (.sl S35) x0), (6, vi t2.2), (8, vi t3.1), (12, vi s3), (107, vb r5)]) (fun r5 => []) (fun r5' h24 => ?_) (fun J5_0 => ?_)
          · subst h24
            refine run_if rfl rfl (fun h25 => ?_) (fun h25 => ?_)
            · replace hF1 := ift h25 hF1
              refine sq rfl (rg [(4, vb false)] [] [] [] 1020000 rfl (by kernel_rfl) c0 ?_)
              have e3 := inrI hr3 hF1
              subst e3
              replace hF0 := sumL hF0
              obtain rfl := Option.some.inj hF0
              exact ret_pure (q := [vb false]) [.bool] rfl rfl (by kernel_rfl)
            · replace hF1 := ifn h25 hF1
              refine sk rfl (eb (rg [(0, .v (.sl S35) x0), (6, vi t2.2), (8, vi t3.1), (12, vi (IntKind.wrap .i64 (s3 + 1)))] [] [] [] 1020000 rfl (by kernel_rfl) c0 ?_))
              exact ih3 _ (Option.some.inj hF1).symm
          rcases Bool.eq_false_or_eq_true (t6.1 != (-1)) with h26 | h26
          · replace hF2 := ift h26 hF2
            refine rG [(0, .v (.sl S35) x0), (6, vi t2.2), (8, vi t3.1), (12, vi s3), (107, vb true)] [] [] [(2, true)] 1020000 rfl rfl (by kernel_rfl) (cc h26 c0) ?_
            exact J5_0 _ (Option.some.inj hF2).symm
          · replace hF2 := ifn h26 hF2
            rcases Bool.eq_false_or_eq_true (decide (s3 > 0)) with h27 | h27
            · replace hF2 := ift h27 hF2
              obtain ⟨h28, hF2⟩ := ifg hF2
              obtain ⟨h29, hF2⟩ := ifg hF2
              refine rG [(0, .v (.sl S35) x0), (6, vi t2.2), (8, vi t3.1), (12, vi s3), (107, vb (decide (((List.getD x0 (Int.toNat s3) S35.dflt).1) < ((List.getD x0 (Int.toNat (IntKind.wrap .i64 (s3 - 1))) S35.dflt).1))))] [] [] [(2, false), (5, true)] 1020000 rfl rfl (by kernel_rfl) (cc h26 (cc h27 (cc h28 (cc h29 c0)))) ?_
              exact J5_0 _ (Option.some.inj hF2).symm
            · replace hF2 := ifn h27 hF2
              refine rG [(0, .v (.sl S35) x0), (6, vi t2.2), (8, vi t3.1), (12, vi s3), (107, vb false)] [] [] [(2, false), (5, false)] 1020000 rfl rfl (by kernel_rfl) (cc h26 (cc h27 c0)) ?_
              exact J5_0 _ (Option.some.inj hF2).symm
        · replace hF1 := ifn h20 hF1
          refine run_exit rfl rfl (tm (ρ' := [(0, .v (.sl S35) x0), (6, vi t2.2), (8, vi t3.1)]) (H' := []) (by kernel_rfl) (by kernel_rfl) rfl ?_)
          exact J3_1 _ (inrI hr3 hF1).symm
  obtain ⟨t7, h30, hF1⟩ := obd hF1
  rcases Bool.eq_false_or_eq_true (!t7) with h31 | h31
  · replace hF1 := ift h31 hF1
    refine rg [(0, .v (.sl S35) x0), (1, .v (.sl S35) x1), (26, vb true)] [] [(0, ⟨[], vb t7, none⟩)] [(2, true)] 1020000 rfl (by kernel_rfl) (cc (W_congresslaw26_fixed h30) (cc h31 c0)) ?_
    exact J1_0 _ (Option.some.inj hF1).symm
  · replace hF1 := ifn h31 hF1
    rcases Bool.eq_false_or_eq_true (decide (((List.length x0 : Nat) : Int) > 100)) with h32 | h32
    · replace hF1 := ift h32 hF1
      refine rg [(0, .v (.sl S35) x0), (1, .v (.sl S35) x1), (26, vb true)] [] [(0, ⟨[], vb t7, none⟩)] [(2, false), (7, true)] 1020000 rfl (by kernel_rfl) (cc (W_congresslaw26_fixed h30) (cc h31 (cc h32 c0))) ?_
      exact J1_0 _ (Option.some.inj hF1).symm
    · replace hF1 := ifn h32 hF1
      refine rg [(0, .v (.sl S35) x0), (1, .v (.sl S35) x1), (26, vb (decide (((List.length x1 : Nat) : Int) > 100)))] [] [(0, ⟨[], vb t7, none⟩)] [(2, false), (7, false)] 1020000 rfl (by kernel_rfl) (cc (W_congresslaw26_fixed h30) (cc h31 (cc h32 c0))) ?_
      exact J1_0 _ (Option.some.inj hF1).symm
noncomputable def F_congresslaw26_TraceParts (x0 : (List S35.ty)) (x1 : S35.ty) (x2 : Int) : Option Bool :=
  (show Option Bool from (F_congresslaw26_fixed ).bind fun t12 => (if (!t12) = true then some true else if (decide (((List.length x0 : Nat) : Int) > 100)) = true then some true else if (decide (x2 < 0)) = true then some true else some (decide (x2 > ((List.length x0 : Nat) : Int))))).bind (fun r1 => if (r1) = true then (F_congresslaw26_fixed ).bind fun t1 => (some t1) else (F_trace_Of x0 x1).bind fun t2 => ((show Option Bool from (F_trace_Of t2 x1).bind fun t7 => ((F_congressref25_Sights t7 t2).bind fun t8 => (if (!t8) = true then some true else (F_trace_Text x0).bind fun t9 => (if ((0 : Int) ≤ x2 ∧ 0 ≤ Int.toNat x2 ∧ Int.toNat x2 ≤ List.length x0) then (F_trace_Text (List.drop 0 (List.take (Int.toNat x2) x0))).bind fun t10 => (if ((0 : Int) ≤ x2 ∧ Int.toNat x2 ≤ List.length x0 ∧ List.length x0 ≤ List.length x0) then (F_trace_Text (List.drop (Int.toNat x2) (List.take (List.length x0) x0))).bind fun t11 => (if List.length t10 + List.length t11 ≤ maxLen then (some (!(t9 == (t10 ++ t11)))) else none) else none) else none)))).bind (fun r2 => if (r2) = true then some false else (show Option Bool from (F_trace_Agree x0).bind fun t3 => (if (!t3) = true then some true else (F_trace_Agree t2).bind fun t4 => (if (t4) = true then if ((0 : Int) ≤ x2 ∧ Int.toNat x2 ≤ List.length x0 ∧ List.length x0 ≤ List.length x0) then (F_trace_Agree (List.drop (Int.toNat x2) (List.take (List.length x0) x0))).bind fun t5 => (if (t5) = true then if ((0 : Int) ≤ x2 ∧ 0 ≤ Int.toNat x2 ∧ Int.toNat x2 ≤ List.length x0) then (F_trace_Agree (List.drop 0 (List.take (Int.toNat x2) x0))).bind fun t6 => (some t6) else none else some false) else none else some false))).bind (fun r3 => some r3))))
theorem W_congresslaw26_TraceParts {x0 : (List S35.ty)} {x1 : S35.ty} {x2 : Int} {y : Bool} (hF0 : F_congresslaw26_TraceParts x0 x1 x2 = some y) : Pure Tryd.prog 6 [.v (.sl S35) x0, .v S35 x1, vi x2] (vb y) := by
  unfold F_congresslaw26_TraceParts at hF0
  refine pure_of_run @Tryd.call6 @Tryd.func6 rfl rfl fun w M ho => ?_
  refine sq rfl (rg [(0, .v (.sl S35) x0), (2, vi x2), (4, .ptr 1020000 [] 0)] [(1020000, .var 35 S35 x1)] [] [] 1020000 rfl (by kernel_rfl) c0 (sq rfl (sq rfl ?_)))
  obtain ⟨r1, hF1, hF0⟩ := obd hF0
  refine run_cut (fun r1' => r1 = r1') (fun r1 => [(0, .v (.sl S35) x0), (2, vi x2), (4, .ptr 1020000 [] 0), (24, vb r1)]) (fun r1 => [(1020000, .var 35 S35 x1)]) (fun r1' h1 => ?_) (fun J1_0 => ?_)
  · subst h1
    refine run_if rfl rfl (fun h2 => ?_) (fun h2 => ?_)
    · replace hF0 := ift h2 hF0
      refine sq rfl ?_
      obtain ⟨t1, h3, hF0⟩ := obd hF0
      refine rg [(6, vb t1)] [] [(0, ⟨[], vb t1, none⟩)] [] 1020001 rfl (by kernel_rfl) (cc (W_congresslaw26_fixed h3) c0) ?_
      obtain rfl := Option.some.inj hF0
      exact ret_pure (q := [vb t1]) [.bool] rfl rfl (by kernel_rfl)
    · replace hF0 := ifn h2 hF0
      refine sk rfl (sq rfl ?_)
      obtain ⟨t2, h4, hF0⟩ := obd hF0
      refine rg [(0, .v (.sl S35) x0), (2, vi x2), (4, .ptr 1020000 [] 0), (7, .v (.sl S35) t2)] [(1020000, .var 35 S35 x1)] [(2, ⟨[.v (.sl S35), .v S35], .v (.sl S35) t2, none⟩)] [] 1020001 rfl (by kernel_rfl) (cc (W_trace_Of h4) c0) (sq rfl (sq rfl ?_))
      obtain ⟨r2, hF1, hF0⟩ := obd hF0
      refine run_cut (fun r2' => r2 = r2') (fun r2 => [(0, .v (.sl S35) x0), (2, vi x2), (7, .v (.sl S35) t2), (48, vb r2)]) (fun r2 => []) (fun r2' h5 => ?_) (fun J2_0 => ?_)
      · subst h5
        refine run_if rfl rfl (fun h6 => ?_) (fun h6 => ?_)
        · replace hF0 := ift h6 hF0
          refine sq rfl (rg [(6, vb false)] [] [] [] 1020000 rfl (by kernel_rfl) c0 ?_)
          obtain rfl := Option.some.inj hF0
          exact ret_pure (q := [vb false]) [.bool] rfl rfl (by kernel_rfl)
        · replace hF0 := ifn h6 hF0
          refine sk rfl (sq rfl ?_)
          obtain ⟨r3, hF1, hF0⟩ := obd hF0
          refine run_cut (fun r3' => r3 = r3') (fun r3 => [(6, vb r3)]) (fun r3 => []) (fun r3' h7 => ?_) (fun J3_0 => ?_)
          · subst h7
            obtain rfl := Option.some.inj hF0
            exact ret_pure (q := [vb r3]) [.bool] rfl rfl (by kernel_rfl)
          obtain ⟨t3, h8, hF1⟩ := obd hF1
          rcases Bool.eq_false_or_eq_true (!t3) with h9 | h9
          · replace hF1 := ift h9 hF1
            refine rg [(6, vb true)] [] [(1, ⟨[.v (.sl S35)], vb t3, none⟩)] [(3, true)] 1020000 rfl (by kernel_rfl) (cc (W_trace_Agree h8) (cc h9 c0)) ?_
            exact J3_0 _ (Option.some.inj hF1).symm
          · replace hF1 := ifn h9 hF1
            obtain ⟨t4, h10, hF1⟩ := obd hF1
            rcases Bool.eq_false_or_eq_true (t4) with h11 | h11
            · replace hF1 := ift h11 hF1
              obtain ⟨h12, hF1⟩ := ifg hF1
              obtain ⟨t5, h13, hF1⟩ := obd hF1
              rcases Bool.eq_false_or_eq_true (t5) with h14 | h14
              · replace hF1 := ift h14 hF1
                obtain ⟨h15, hF1⟩ := ifg hF1
                obtain ⟨t6, h16, hF1⟩ := obd hF1
                refine rg [(6, vb t6)] [] [(1, ⟨[.v (.sl S35)], vb t3, none⟩), (5, ⟨[.v (.sl S35)], vb t4, none⟩), (10, ⟨[.v (.sl S35)], vb t5, none⟩), (16, ⟨[.v (.sl S35)], vb t6, none⟩)] [(3, false), (6, true), (12, true)] 1020000 rfl (by kernel_rfl) (cc (W_trace_Agree h8) (cc h9 (cc (W_trace_Agree h10) (cc h11 (cc h12.1 (cc h12.2.1 (cc h12.2.2 (cc (W_trace_Agree h13) (cc h14 (cc h15.1 (cc h15.2.1 (cc h15.2.2 (cc (W_trace_Agree h16) c0))))))))))))) ?_
                exact J3_0 _ (Option.some.inj hF1).symm
              · replace hF1 := ifn h14 hF1
                refine rg [(6, vb false)] [] [(1, ⟨[.v (.sl S35)], vb t3, none⟩), (5, ⟨[.v (.sl S35)], vb t4, none⟩), (10, ⟨[.v (.sl S35)], vb t5, none⟩)] [(3, false), (6, true), (12, false)] 1020000 rfl (by kernel_rfl) (cc (W_trace_Agree h8) (cc h9 (cc (W_trace_Agree h10) (cc h11 (cc h12.1 (cc h12.2.1 (cc h12.2.2 (cc (W_trace_Agree h13) (cc h14 c0))))))))) ?_
                exact J3_0 _ (Option.some.inj hF1).symm
            · replace hF1 := ifn h11 hF1
              refine rg [(6, vb false)] [] [(1, ⟨[.v (.sl S35)], vb t3, none⟩), (5, ⟨[.v (.sl S35)], vb t4, none⟩)] [(3, false), (6, false)] 1020000 rfl (by kernel_rfl) (cc (W_trace_Agree h8) (cc h9 (cc (W_trace_Agree h10) (cc h11 c0)))) ?_
              exact J3_0 _ (Option.some.inj hF1).symm
      obtain ⟨t7, h17, hF1⟩ := obd hF1
      obtain ⟨t8, h18, hF1⟩ := obd hF1
      rcases Bool.eq_false_or_eq_true (!t8) with h19 | h19
      · replace hF1 := ift h19 hF1
        refine rG [(0, .v (.sl S35) x0), (2, vi x2), (7, .v (.sl S35) t2), (48, vb true)] [] [(2, ⟨[.v (.sl S35), .v S35], .v (.sl S35) t7, none⟩), (4, ⟨[.v (.sl S35), .v (.sl S35)], vb t8, none⟩)] [(6, true)] 1020001 rfl rfl (by kernel_rfl) (cc (W_trace_Of h17) (cc (W_congressref25_Sights h18) (cc h19 c0))) ?_
        exact J2_0 _ (Option.some.inj hF1).symm
      · replace hF1 := ifn h19 hF1
        obtain ⟨t9, h20, hF1⟩ := obd hF1
        obtain ⟨h21, hF1⟩ := ifg hF1
        obtain ⟨t10, h22, hF1⟩ := obd hF1
        obtain ⟨h23, hF1⟩ := ifg hF1
        obtain ⟨t11, h24, hF1⟩ := obd hF1
        obtain ⟨h25, hF1⟩ := ifg hF1
        refine rG [(0, .v (.sl S35) x0), (2, vi x2), (7, .v (.sl S35) t2), (48, vb (!(t9 == (t10 ++ t11))))] [] [(2, ⟨[.v (.sl S35), .v S35], .v (.sl S35) t7, none⟩), (4, ⟨[.v (.sl S35), .v (.sl S35)], vb t8, none⟩), (8, ⟨[.v (.sl S35)], vs t9, none⟩), (12, ⟨[.v (.sl S35)], vs t10, none⟩), (16, ⟨[.v (.sl S35)], vs t11, none⟩)] [(6, false)] 1020001 rfl rfl (by kernel_rfl) (cc (W_trace_Of h17) (cc (W_congressref25_Sights h18) (cc h19 (cc (W_trace_Text h20) (cc h21.1 (cc h21.2.1 (cc h21.2.2 (cc (W_trace_Text h22) (cc h23.1 (cc h23.2.1 (cc h23.2.2 (cc (W_trace_Text h24) (cc h25 c0))))))))))))) ?_
        exact J2_0 _ (Option.some.inj hF1).symm
  obtain ⟨t12, h26, hF1⟩ := obd hF1
  rcases Bool.eq_false_or_eq_true (!t12) with h27 | h27
  · replace hF1 := ift h27 hF1
    refine rg [(0, .v (.sl S35) x0), (2, vi x2), (4, .ptr 1020000 [] 0), (24, vb true)] [(1020000, .var 35 S35 x1)] [(0, ⟨[], vb t12, none⟩)] [(2, true)] 1020001 rfl (by kernel_rfl) (cc (W_congresslaw26_fixed h26) (cc h27 c0)) ?_
    exact J1_0 _ (Option.some.inj hF1).symm
  · replace hF1 := ifn h27 hF1
    rcases Bool.eq_false_or_eq_true (decide (((List.length x0 : Nat) : Int) > 100)) with h28 | h28
    · replace hF1 := ift h28 hF1
      refine rg [(0, .v (.sl S35) x0), (2, vi x2), (4, .ptr 1020000 [] 0), (24, vb true)] [(1020000, .var 35 S35 x1)] [(0, ⟨[], vb t12, none⟩)] [(2, false), (7, true)] 1020001 rfl (by kernel_rfl) (cc (W_congresslaw26_fixed h26) (cc h27 (cc h28 c0))) ?_
      exact J1_0 _ (Option.some.inj hF1).symm
    · replace hF1 := ifn h28 hF1
      rcases Bool.eq_false_or_eq_true (decide (x2 < 0)) with h29 | h29
      · replace hF1 := ift h29 hF1
        refine rg [(0, .v (.sl S35) x0), (2, vi x2), (4, .ptr 1020000 [] 0), (24, vb true)] [(1020000, .var 35 S35 x1)] [(0, ⟨[], vb t12, none⟩)] [(2, false), (7, false), (11, true)] 1020001 rfl (by kernel_rfl) (cc (W_congresslaw26_fixed h26) (cc h27 (cc h28 (cc h29 c0)))) ?_
        exact J1_0 _ (Option.some.inj hF1).symm
      · replace hF1 := ifn h29 hF1
        refine rg [(0, .v (.sl S35) x0), (2, vi x2), (4, .ptr 1020000 [] 0), (24, vb (decide (x2 > ((List.length x0 : Nat) : Int))))] [(1020000, .var 35 S35 x1)] [(0, ⟨[], vb t12, none⟩)] [(2, false), (7, false), (11, false)] 1020001 rfl (by kernel_rfl) (cc (W_congresslaw26_fixed h26) (cc h27 (cc h28 (cc h29 c0)))) ?_
        exact J1_0 _ (Option.some.inj hF1).symm
end Go.Proofs.YtlhbekiplnmolaaDoor
