/- Laws of my own that the statement leans on; part H6. -/
import Derived.Test.YtjcbamenfaoffaaGreatDoorH5
set_option linter.unusedVariables false
set_option linter.unusedSimpArgs false
open List (length replicate getD drop take)
open Option.some (inj injEq)
open Int (toNat)
open Go.IntKind (wrap)
set_option maxRecDepth 100000
namespace Go.Proofs.YtjcbamenfaoffaaGreatDoor
open Go.RowKit
noncomputable def F_cmp_isNaN_uint32 (x0:Int):Option Bool :=
 some (x0 != x0)
theorem W_cmp_isNaN_uint32 {x0:Int} {y:Bool} (F0:F_cmp_isNaN_uint32 x0=some y):Pure Tryz.prog 193 [.v (.int .u32) x0] (vb y):=by
 unfold F_cmp_isNaN_uint32 at F0
 refine pure_of_run @Tryz.call193 @Tryz.func193 rfl rfl fun w M ho=>?_
 refine sq rfl (rg [(0,.v (.int .u32) x0)] [] [] [] 5000 rfl (by kernel_rfl) c0 (sq rfl (rg [(2,vb (x0 != x0))] [] [] [] 5000 rfl (by kernel_rfl) c0 ?_)))
 obtain rfl:=inj F0
 exact ret_pure (q:=[vb (x0 != x0)]) [.bool] rfl rfl (by kernel_rfl)
noncomputable def F_cmp_Compare_uint32 (x0:Int) (x1:Int):Option Int :=
 (F_cmp_isNaN_uint32 x0).bind fun t1=>((F_cmp_isNaN_uint32 x1).bind fun t2=>(if (t1)=true then if (t2)=true then some 0 else some (-1) else if (t2)=true then some 1 else if (decide (x0<x1))=true then some (-1) else if (decide (x0>x1))=true then some 1 else some 0))
theorem W_cmp_Compare_uint32 {x0:Int} {x1:Int} {y:Int} (F0:F_cmp_Compare_uint32 x0 x1=some y):Pure Tryz.prog 176 [.v (.int .u32) x0,.v (.int .u32) x1] (vi y):=by
 unfold F_cmp_Compare_uint32 at F0
 refine pure_of_run @Tryz.call176 @Tryz.func176 rfl rfl fun w M ho=>?_
 refine sq rfl (rg [(0,.v (.int .u32) x0),(1,.v (.int .u32) x1)] [] [] [] 5000 rfl (by kernel_rfl) c0 (sq rfl ?_))
 obtain ⟨t1,h1,F0⟩:=obd F0
 refine rg [(0,.v (.int .u32) x0),(1,.v (.int .u32) x1),(5,vb t1)] [] [(1,⟨[.v (.int .u32)],vb t1,none⟩)] [] 5000 rfl (by kernel_rfl) (cc (W_cmp_isNaN_uint32 h1) c0) (sq rfl ?_)
 obtain ⟨t2,h2,F0⟩:=obd F0
 refine rg [(0,.v (.int .u32) x0),(1,.v (.int .u32) x1),(5,vb t1),(6,vb t2)] [] [(1,⟨[.v (.int .u32)],vb t2,none⟩)] [] 5000 rfl (by kernel_rfl) (cc (W_cmp_isNaN_uint32 h2) c0) (sq rfl (sq rfl (rg [(0,.v (.int .u32) x0),(1,.v (.int .u32) x1),(6,vb t2),(11,vb t1)] [] [] [] 5000 rfl (by kernel_rfl) c0 ?_)))
 refine run_if rfl rfl (fun h3=>?_) (fun h3=>?_)
 ·replace F0:=ift h3 F0
  refine sq rfl (sq rfl (rg [(12,vb t2)] [] [] [] 5000 rfl (by kernel_rfl) c0 ?_))
  refine run_if rfl rfl (fun h4=>?_) (fun h4=>?_)
  ·replace F0:=ift h4 F0
   refine sq rfl (rg [(4,vi 0)] [] [] [] 5000 rfl (by kernel_rfl) c0 ?_)
   obtain rfl:=inj F0
   exact ret_pure (q:=[vi 0]) [(.int .i64)] rfl rfl (by kernel_rfl)
  ·replace F0:=ifn h4 F0
   refine sk rfl (sq rfl (rg [(4,vi (-1))] [] [] [] 5000 rfl (by kernel_rfl) c0 ?_))
   obtain rfl:=inj F0
   exact ret_pure (q:=[vi (-1)]) [(.int .i64)] rfl rfl (by kernel_rfl)
 ·replace F0:=ifn h3 F0
  refine sk rfl (sq rfl (sq rfl (rg [(0,.v (.int .u32) x0),(1,.v (.int .u32) x1),(13,vb t2)] [] [] [] 5000 rfl (by kernel_rfl) c0 ?_)))
  refine run_if rfl rfl (fun h5=>?_) (fun h5=>?_)
  ·replace F0:=ift h5 F0
   refine sq rfl (rg [(4,vi 1)] [] [] [] 5000 rfl (by kernel_rfl) c0 ?_)
   obtain rfl:=inj F0
   exact ret_pure (q:=[vi 1]) [(.int .i64)] rfl rfl (by kernel_rfl)
  ·replace F0:=ifn h5 F0
   refine sk rfl (sq rfl (sq rfl (rg [(0,.v (.int .u32) x0),(1,.v (.int .u32) x1),(16,vb (decide (x0<x1)))] [] [] [] 5000 rfl (by kernel_rfl) c0 ?_)))
   refine run_if rfl rfl (fun h6=>?_) (fun h6=>?_)
   ·replace F0:=ift h6 F0
    refine sq rfl (rg [(4,vi (-1))] [] [] [] 5000 rfl (by kernel_rfl) c0 ?_)
    obtain rfl:=inj F0
    exact ret_pure (q:=[vi (-1)]) [(.int .i64)] rfl rfl (by kernel_rfl)
   ·replace F0:=ifn h6 F0
    refine sk rfl (sq rfl (sq rfl (rg [(19,vb (decide (x0>x1)))] [] [] [] 5000 rfl (by kernel_rfl) c0 ?_)))
    refine run_if rfl rfl (fun h7=>?_) (fun h7=>?_)
    ·replace F0:=ift h7 F0
     refine sq rfl (rg [(4,vi 1)] [] [] [] 5000 rfl (by kernel_rfl) c0 ?_)
     obtain rfl:=inj F0
     exact ret_pure (q:=[vi 1]) [(.int .i64)] rfl rfl (by kernel_rfl)
    ·replace F0:=ifn h7 F0
     refine sk rfl (sq rfl (rg [(4,vi 0)] [] [] [] 5000 rfl (by kernel_rfl) c0 ?_))
     obtain rfl:=inj F0
     exact ret_pure (q:=[vi 0]) [(.int .i64)] rfl rfl (by kernel_rfl)
noncomputable def F_cmp_Or_int_b1 (x0:(List Int)) (s1:Int):Option (Int⊕(Int⊕Unit)) :=
 if (decide (s1<((length x0:Nat):Int)))=true then if 0≤s1∧s1<((length x0:Nat):Int) then (if ((getD x0 (toNat s1) 0) != 0)=true then some (Sum.inr (Sum.inl (getD x0 (toNat s1) 0))) else some (Sum.inl (wrap .i64 (s1+1)))) else none else some (Sum.inr (Sum.inr ()))
noncomputable def F_cmp_Or_int (x0:(List Int)):Option Int :=
 (loopO (F_cmp_Or_int_b1 x0) 0).bind (Sum.elim some (fun j11=>some 0))
theorem W_cmp_Or_int {x0:(List Int)} {y:Int} (F0:F_cmp_Or_int x0=some y):Pure Tryz.prog 175 [.v (.sl (.int .i64)) x0] (vi y):=by
 unfold F_cmp_Or_int at F0
 refine pure_of_run @Tryz.call175 @Tryz.func175 rfl rfl fun w M ho=>?_
 refine sq rfl (rg [(0,.v (.sl (.int .i64)) x0)] [] [] [] 5000 rfl (by kernel_rfl) c0 (sq rfl (rg [(0,.v (.sl (.int .i64)) x0),(3,vi 0)] [] [] [] 5000 rfl (by kernel_rfl) c0 (sq rfl (sq rfl (rg [(3,vi 0),(6,.v (.sl (.int .i64)) x0),(7,vi ((length x0:Nat):Int)),(8,vi 0)] [] [] [] 5000 rfl (by kernel_rfl) c0 (bk rfl ?_)))))))
 obtain ⟨r1,hl1,F0⟩:=obd F0
 refine run_cutx 0 rfl (fun j11=>r1=Sum.inr j11) (fun j11=>[(3,vi 0)]) (fun j11=>[]) (fun j11 h1=>?_) (fun J1_1=>?_)
 ·subst h1
  replace F0:=sumR F0
  refine sq rfl (rg [(2,vi 0)] [] [] [] 5000 rfl (by kernel_rfl) c0 ?_)
  obtain rfl:=inj F0
  exact ret_pure (q:=[vi 0]) [(.int .i64)] rfl rfl (by kernel_rfl)
 refine run_loop rfl (run_loopO hl1 (fun s1=>[(3,vi 0),(6,.v (.sl (.int .i64)) x0),(7,vi ((length x0:Nat):Int)),(8,vi s1)]) (fun s1=>[]) rfl rfl (fun s1 o1 F1 ih1 hr1=>?_))
 unfold F_cmp_Or_int_b1 at F1
 refine run_again (sq rfl (rg [(3,vi 0),(6,.v (.sl (.int .i64)) x0),(7,vi ((length x0:Nat):Int)),(8,vi s1),(9,vb (decide (s1<((length x0:Nat):Int))))] [] [] [] 5000 rfl (by kernel_rfl) c0 (sq rfl ?_)))
 refine run_if rfl rfl (fun h2=>?_) (fun h2=>?_)
 ·replace F1:=ift h2 F1
  refine sk rfl (sq rfl (bk rfl (sq rfl ?_)))
  obtain ⟨h3,F1⟩:=ifg F1
  refine rg [(3,vi 0),(5,vi (getD x0 (toNat s1) 0)),(6,.v (.sl (.int .i64)) x0),(7,vi ((length x0:Nat):Int)),(8,vi s1)] [] [] [] 5000 rfl (by kernel_rfl) (cc h3 c0) (sq rfl (rg [(3,vi 0),(5,vi (getD x0 (toNat s1) 0)),(6,.v (.sl (.int .i64)) x0),(7,vi ((length x0:Nat):Int)),(8,vi s1),(14,vb ((getD x0 (toNat s1) 0) != 0))] [] [] [] 5000 rfl (by kernel_rfl) c0 ?_))
  refine run_if rfl rfl (fun h4=>?_) (fun h4=>?_)
  ·replace F1:=ift h4 F1
   refine sq rfl (rg [(2,vi (getD x0 (toNat s1) 0))] [] [] [] 5000 rfl (by kernel_rfl) c0 ?_)
   have e1:=inrI hr1 F1
   subst e1
   replace F0:=sumL F0
   obtain rfl:=inj F0
   exact ret_pure (q:=[vi (getD x0 (toNat s1) 0)]) [(.int .i64)] rfl rfl (by kernel_rfl)
  ·replace F1:=ifn h4 F1
   refine sk rfl (eb (rg [(3,vi 0),(6,.v (.sl (.int .i64)) x0),(7,vi ((length x0:Nat):Int)),(8,vi (wrap .i64 (s1+1)))] [] [] [] 5000 rfl (by kernel_rfl) c0 ?_))
   exact ih1 _ (inj F1).symm
 ·replace F1:=ifn h2 F1
  refine run_exit rfl rfl (tm (ρ':=[(3,vi 0)]) (H':=[]) (by kernel_rfl) (by kernel_rfl) rfl ?_)
  exact J1_1 _ (inrI hr1 F1).symm
noncomputable def F_ident_Compare (x0:S36.ty) (x1:S36.ty):Option Int :=
 (F_cmp_Compare_uint32 x0.1 x1.1).bind fun t1=>((F_cmp_Compare_uint32 x0.2.1 x1.2.1).bind fun t2=>((F_cmp_Compare_uint32 x0.2.2 x1.2.2).bind fun t3=>((F_cmp_Or_int [t1,t2,t3]).bind fun t4=>(some t4))))
theorem W_ident_Compare {x0:S36.ty} {x1:S36.ty} {y:Int} (F0:F_ident_Compare x0 x1=some y):Pure Tryz.prog 143 [.v S36 x0,.v S36 x1] (vi y):=by
 unfold F_ident_Compare at F0
 refine pure_of_run @Tryz.call143 @Tryz.func143 rfl rfl fun w M ho=>?_
 refine sq rfl (rg [(2,.ptr 5000 [] 0),(3,.ptr 5020 [] 0)] [(5000,.var 36 S36 x0),(5020,.var 36 S36 x1)] [] [] 5000 rfl (by kernel_rfl) c0 (sq rfl ?_))
 obtain ⟨t1,h1,F0⟩:=obd F0
 obtain ⟨t2,h2,F0⟩:=obd F0
 obtain ⟨t3,h3,F0⟩:=obd F0
 obtain ⟨t4,h4,F0⟩:=obd F0
 refine rG [(4,vi t4)] [] [(4,⟨[.v (.int .u32),.v (.int .u32)],vi t1,none⟩),(9,⟨[.v (.int .u32),.v (.int .u32)],vi t2,none⟩),(14,⟨[.v (.int .u32),.v (.int .u32)],vi t3,none⟩),(15,⟨[],.v (.sl (.int .i64)) [t1,t2,t3],none⟩),(16,⟨[.v (.sl (.int .i64))],vi t4,none⟩)] [] 5021 rfl rfl (by kernel_rfl) (cc (W_cmp_Compare_uint32 h1) (cc (W_cmp_Compare_uint32 h2) (cc (W_cmp_Compare_uint32 h3) (cc (W_cmp_Or_int h4) c0)))) ?_
 obtain rfl:=inj F0
 exact ret_pure (q:=[vi t4]) [(.int .i64)] rfl rfl (by kernel_rfl)
noncomputable def F_ident_List_b1 (x0:(List Int)) (s1:(Int×(List Int))):Option ((Int×(List Int))⊕(List Int)) :=
 if (decide (s1.1<8))=true then if 0≤s1.1∧s1.1<((8:Nat):Int) then (if ((getD x0 (toNat s1.1) 0) != 0)=true then if apOk (length s1.2+1) 8 then (some (Sum.inl (wrap .i64 (s1.1+1),s1.2++[s1.1]))) else none else some (Sum.inl (wrap .i64 (s1.1+1),s1.2))) else none else some (Sum.inr s1.2)
noncomputable def F_ident_List (x0:(List Int)):Option (List Int) :=
 (loopO (F_ident_List_b1 x0) (0,[])).bind (fun r1=>some r1)
theorem W_ident_List {x0:(List Int)} {y:(List Int)} (F0:F_ident_List x0=some y):Pure Tryz.prog 141 [.v (.arr 8 (.int .u32)) x0] (.v (.sl (.int .i64)) y):=by
 unfold F_ident_List at F0
 refine pure_of_run @Tryz.call141 @Tryz.func141 rfl rfl fun w M ho=>?_
 refine sq rfl (rg [(1,.ptr 5000 [] 0)] [(5000,.var 46 (.arr 8 (.int .u32)) x0)] [] [] 5000 rfl (by kernel_rfl) c0 (sq rfl (rg [(1,.ptr 5000 [] 0),(3,.v (.nl .any) ())] [(5000,.var 46 (.arr 8 (.int .u32)) x0)] [] [] 5001 rfl (by kernel_rfl) c0 (sq rfl (sq rfl (rg [(3,.v (.nl .any) ()),(6,.v (.arr 8 (.int .u32)) x0),(7,vi 0)] [] [] [] 5001 rfl (by kernel_rfl) c0 (bk rfl (run_nilrow (ρ':=[(3,.row 1103),(6,.v (.arr 8 (.int .u32)) x0),(7,vi 0)]) 3 1103 3 (.int .i64) rfl (by kernel_rfl) (by kernel_rfl) ?_))))))))
 obtain ⟨r1,hl1,F0⟩:=obd F0
 refine run_cutx 0 rfl (fun r1'=>r1=r1') (fun r1=>[(3,.row 1103)]) (fun r1=>[(1103,.row 3 (.int .i64) r1)]) (fun r1' h1=>?_) (fun J1_0=>?_)
 ·subst h1
  refine sq rfl (rg [(2,.row 1103)] [(1103,.row 3 (.int .i64) r1)] [] [] 5000 rfl (by kernel_rfl) c0 ?_)
  obtain rfl:=inj F0
  refine run_frz (ρ':=[(2,.v (.sl (.int .i64)) r1)]) (H':=[]) 1103 rfl rfl rfl (by kernel_rfl) (by kernel_rfl) ?_
  exact ret_pure (q:=[.v (.sl (.int .i64)) r1]) [(.sl (.int .i64))] rfl rfl (by kernel_rfl)
 refine run_loop rfl (run_loopO hl1 (fun s1=>[(3,.row 1103),(6,.v (.arr 8 (.int .u32)) x0),(7,vi s1.1)]) (fun s1=>[(1103,.row 3 (.int .i64) s1.2)]) rfl rfl (fun s1 o1 F1 ih1 hr1=>?_))
 unfold F_ident_List_b1 at F1
 refine run_again (sq rfl (rg [(3,.row 1103),(6,.v (.arr 8 (.int .u32)) x0),(7,vi s1.1),(8,vb (decide (s1.1<8)))] [(1103,.row 3 (.int .i64) s1.2)] [] [] 5000 rfl (by kernel_rfl) c0 (sq rfl ?_)))
 refine run_if rfl rfl (fun h2=>?_) (fun h2=>?_)
 ·replace F1:=ift h2 F1
  refine sk rfl (sq rfl (bk rfl (sq rfl ?_)))
  obtain ⟨h3,F1⟩:=ifg F1
  refine rg [(3,.row 1103),(4,vi s1.1),(5,.v (.int .u32) (getD x0 (toNat s1.1) 0)),(6,.v (.arr 8 (.int .u32)) x0),(7,vi s1.1)] [(1103,.row 3 (.int .i64) s1.2)] [] [] 5000 rfl (by kernel_rfl) (cc h3 c0) (sq rfl (rg [(3,.row 1103),(4,vi s1.1),(6,.v (.arr 8 (.int .u32)) x0),(7,vi s1.1),(12,vb ((getD x0 (toNat s1.1) 0) != 0))] [(1103,.row 3 (.int .i64) s1.2)] [] [] 5000 rfl (by kernel_rfl) c0 ?_))
  refine run_if rfl rfl (fun h4=>?_) (fun h4=>?_)
  ·replace F1:=ift h4 F1
   obtain ⟨h5,F1⟩:=ifg F1
   refine rg [(3,.row 5060),(6,.v (.arr 8 (.int .u32)) x0),(7,vi s1.1)] [(5060,.row 3 (.int .i64) (s1.2++[s1.1]))] [] [] 5000 rfl (by kernel_rfl) (cc h5.1 (cc h5.2 c0)) (eb (rg [(3,.row 5060),(6,.v (.arr 8 (.int .u32)) x0),(7,vi (wrap .i64 (s1.1+1)))] [(5060,.row 3 (.int .i64) (s1.2++[s1.1]))] [] [] 5061 rfl (by kernel_rfl) c0 (run_ren (ρ':=[(3,.row 1103),(6,.v (.arr 8 (.int .u32)) x0),(7,vi (wrap .i64 (s1.1+1)))]) (H':=[(1103,.row 3 (.int .i64) (s1.2++[s1.1]))]) 5060 1103 rfl (by kernel_rfl) rfl (by kernel_rfl) rfl ?_)))
   exact ih1 _ (inj F1).symm
  ·replace F1:=ifn h4 F1
   refine sk rfl (eb (rg [(3,.row 1103),(6,.v (.arr 8 (.int .u32)) x0),(7,vi (wrap .i64 (s1.1+1)))] [(1103,.row 3 (.int .i64) s1.2)] [] [] 5000 rfl (by kernel_rfl) c0 ?_))
   exact ih1 _ (inj F1).symm
 ·replace F1:=ifn h2 F1
  refine run_exit rfl rfl (tm (ρ':=[(3,.row 1103)]) (H':=[(1103,.row 3 (.int .i64) s1.2)]) (by kernel_rfl) (by kernel_rfl) rfl ?_)
  exact J1_0 _ (inrI hr1 F1).symm
noncomputable def F_ident_Least (x0:(List Int)):Option (Int×Bool) :=
 (F_ident_List x0).bind fun t1=>(if (((length t1:Nat):Int)==0)=true then some (0,false) else if 0≤(0:Int)∧(0:Int)<((length t1:Nat):Int) then (some (getD t1 (toNat 0) 0,true)) else none)
theorem W_ident_Least {x0:(List Int)} {y:(Int×Bool)} (F0:F_ident_Least x0=some y):Pure Tryz.prog 144 [.v (.arr 8 (.int .u32)) x0] (.tup [vi y.1,vb y.2]):=by
 unfold F_ident_Least at F0
 refine pure_of_run @Tryz.call144 @Tryz.func144 rfl rfl fun w M ho=>?_
 refine sq rfl (rg [(1,.ptr 5000 [] 0)] [(5000,.var 46 (.arr 8 (.int .u32)) x0)] [] [] 5000 rfl (by kernel_rfl) c0 (sq rfl ?_))
 obtain ⟨t1,h1,F0⟩:=obd F0
 refine rg [(4,.v (.sl (.int .i64)) t1)] [] [(1,⟨[.v (.arr 8 (.int .u32))],.v (.sl (.int .i64)) t1,none⟩)] [] 5001 rfl (by kernel_rfl) (cc (W_ident_List h1) c0) (sq rfl (sq rfl (rg [(4,.v (.sl (.int .i64)) t1),(9,vb (((length t1:Nat):Int)==0))] [] [] [] 5000 rfl (by kernel_rfl) c0 ?_)))
 refine run_if rfl rfl (fun h2=>?_) (fun h2=>?_)
 ·replace F0:=ift h2 F0
  refine sq rfl (rg [(2,vi 0),(3,vb false)] [] [] [] 5000 rfl (by kernel_rfl) c0 ?_)
  obtain rfl:=inj F0
  exact ret_pure (q:=[vi 0,vb false]) [(.int .i64),.bool] rfl rfl (by kernel_rfl)
 ·replace F0:=ifn h2 F0
  refine sk rfl (sq rfl ?_)
  obtain ⟨h3,F0⟩:=ifg F0
  refine rg [(2,vi (getD t1 (toNat 0) 0)),(3,vb true)] [] [] [] 5000 rfl (by kernel_rfl) (cc h3 c0) ?_
  obtain rfl:=inj F0
  exact ret_pure (q:=[vi (getD t1 (toNat 0) 0),vb true]) [(.int .i64),.bool] rfl rfl (by kernel_rfl)
noncomputable def F_ident_Has (x0:(List Int)) (x1:Int) (x2:Int):Option Bool :=
 (show Option Bool from if (decide (x1≥0))=true then if (decide (x1<8))=true then if (x2 != 0)=true then if 0≤x1∧x1<((8:Nat):Int) then (some ((getD x0 (toNat x1) 0)==x2)) else none else some false else some false else some false).bind (fun r1=>some r1)
theorem W_ident_Has {x0:(List Int)} {x1:Int} {x2:Int} {y:Bool} (F0:F_ident_Has x0 x1 x2=some y):Pure Tryz.prog 191 [.v (.arr 8 (.int .u32)) x0,vi x1,.v (.int .u32) x2] (vb y):=by
 unfold F_ident_Has at F0
 refine pure_of_run @Tryz.call191 @Tryz.func191 rfl rfl fun w M ho=>?_
 refine sq rfl (rg [(1,vi x1),(2,.v (.int .u32) x2),(3,.ptr 5000 [] 0)] [(5000,.var 46 (.arr 8 (.int .u32)) x0)] [] [] 5000 rfl (by kernel_rfl) c0 (sq rfl ?_))
 obtain ⟨r1,F1,F0⟩:=obd F0
 refine run_cut (fun r1'=>r1=r1') (fun r1=>[(6,vb r1)]) (fun r1=>[]) (fun r1' h1=>?_) (fun J1_0=>?_)
 ·subst h1
  obtain rfl:=inj F0
  exact ret_pure (q:=[vb r1]) [.bool] rfl rfl (by kernel_rfl)
 rcases Bool.eq_false_or_eq_true (decide (x1≥0)) with h2|h2
 ·replace F1:=ift h2 F1
  rcases Bool.eq_false_or_eq_true (decide (x1<8)) with h3|h3
  ·replace F1:=ift h3 F1
   rcases Bool.eq_false_or_eq_true (x2 != 0) with h4|h4
   ·replace F1:=ift h4 F1
    obtain ⟨h5,F1⟩:=ifg F1
    refine rg [(6,vb ((getD x0 (toNat x1) 0)==x2))] [] [] [(2,true),(6,true),(10,true)] 5001 rfl (by kernel_rfl) (cc h2 (cc h3 (cc h4 (cc h5 (cc (show offP (.arr 8 (.int .u32)) [.i (toNat x1)]=(0+toNat x1*1) from offJ (p:=[]) (q:=[]) rfl (by kernel_rfl) (by kernel_rfl) (by kernel_rfl)) (cc (oo h5 trivial) c0)))))) ?_
    exact J1_0 _ (inj F1).symm
   ·replace F1:=ifn h4 F1
    refine rg [(6,vb false)] [] [] [(2,true),(6,true),(10,false)] 5001 rfl (by kernel_rfl) (cc h2 (cc h3 (cc h4 c0))) ?_
    exact J1_0 _ (inj F1).symm
  ·replace F1:=ifn h3 F1
   refine rg [(6,vb false)] [] [] [(2,true),(6,false)] 5001 rfl (by kernel_rfl) (cc h2 (cc h3 c0)) ?_
   exact J1_0 _ (inj F1).symm
 ·replace F1:=ifn h2 F1
  refine rg [(6,vb false)] [] [] [(2,false)] 5001 rfl (by kernel_rfl) (cc h2 c0) ?_
  exact J1_0 _ (inj F1).symm
abbrev S72:Sh:=(.st (.prod (.int .u32) (.prod (.arr 8 (.int .u32)) (.arr 8 (.int .u32)))))
noncomputable def F_beat_Tick (x0:S72.ty):Option S72.ty :=
 if (decide (x0.1<4294967295))=true then some (wrap .u32 (x0.1+1),x0.2) else some x0
theorem W_beat_Tick {x0:S72.ty} {y:S72.ty} (F0:F_beat_Tick x0=some y):Pure Tryz.prog 111 [.v S72 x0] (.v S72 y):=by
 unfold F_beat_Tick at F0
 refine pure_of_run @Tryz.call111 @Tryz.func111 rfl rfl fun w M ho=>?_
 refine sq rfl (rg [(1,.ptr 5000 [] 0),(2,.ptr 5020 [] 0)] [(5000,.var 72 S72 x0),(5020,.var 72 S72 (0,replicate 8 0,replicate 8 0))] [] [] 5000 rfl (by kernel_rfl) c0 (sq rfl (sq rfl (rg [(1,.ptr 5000 [] 0),(2,.ptr 5020 [] 0),(5,vb (decide (x0.1<4294967295)))] [(5000,.var 72 S72 x0),(5020,.var 72 S72 (0,replicate 8 0,replicate 8 0))] [] [] 5021 rfl (by kernel_rfl) c0 ?_))))
 refine run_if rfl rfl (fun h1=>?_) (fun h1=>?_)
 ·replace F0:=ift h1 F0
  refine rg [(1,.ptr 5000 [] 0),(2,.ptr 5020 [] 0)] [(5000,.var 72 S72 (wrap .u32 (x0.1+1),x0.2)),(5020,.var 72 S72 (0,replicate 8 0,replicate 8 0))] [] [] 5021 rfl (by kernel_rfl) c0 (sq rfl (rg [(2,.ptr 5020 [] 0)] [(5020,.var 72 S72 (wrap .u32 (x0.1+1),x0.2))] [] [] 5021 rfl (by kernel_rfl) c0 ?_))
  obtain rfl:=inj F0
  exact ret_pure (q:=[.v S72 (wrap .u32 (x0.1+1),x0.2)]) [S72] rfl rfl (by kernel_rfl)
 ·replace F0:=ifn h1 F0
  refine sk rfl (sq rfl (rg [(2,.ptr 5020 [] 0)] [(5020,.var 72 S72 x0)] [] [] 5021 rfl (by kernel_rfl) c0 ?_))
  obtain rfl:=inj F0
  exact ret_pure (q:=[.v S72 x0]) [S72] rfl rfl (by kernel_rfl)
noncomputable def F_beat_Hear (x0:S72.ty) (x1:Int) (x2:Int):Option (S72.ty×Bool) :=
 (show Option Bool from if (decide (x1<0))=true then some true else if (decide (x1≥8))=true then some true else if (x2==0)=true then some true else if (x0.1==0)=true then some true else if 0≤x1∧x1<((8:Nat):Int) then (some (decide (x2<(getD x0.2.2 (toNat x1) 0)))) else none).bind (fun r1=>if (r1)=true then some (x0,false) else if 0≤x1∧x1<((8:Nat):Int) then (if 0≤x1∧x1<((8:Nat):Int) then (some ((x0.1,List.set x0.2.1 (toNat x1) x0.1,List.set x0.2.2 (toNat x1) x2),true)) else none) else none)
theorem W_beat_Hear {x0:S72.ty} {x1:Int} {x2:Int} {y:(S72.ty×Bool)} (F0:F_beat_Hear x0 x1 x2=some y):Pure Tryz.prog 167 [.v S72 x0,vi x1,.v (.int .u32) x2] (.tup [.v S72 y.1,vb y.2]):=by
 unfold F_beat_Hear at F0
 refine pure_of_run @Tryz.call167 @Tryz.func167 rfl rfl fun w M ho=>?_
 refine sq rfl (rg [(1,vi x1),(2,.v (.int .u32) x2),(3,.ptr 5000 [] 0),(6,.ptr 5020 [] 0)] [(5000,.var 72 S72 x0),(5020,.var 72 S72 (0,replicate 8 0,replicate 8 0))] [] [] 5000 rfl (by kernel_rfl) c0 (sq rfl (sq rfl ?_)))
 obtain ⟨r1,F1,F0⟩:=obd F0
 refine run_cut (fun r1'=>r1=r1') (fun r1=>[(1,vi x1),(2,.v (.int .u32) x2),(3,.ptr 5000 [] 0),(6,.ptr 5020 [] 0),(30,vb r1)]) (fun r1=>[(5000,.var 72 S72 x0),(5020,.var 72 S72 (0,replicate 8 0,replicate 8 0))]) (fun r1' h1=>?_) (fun J1_0=>?_)
 ·subst h1
  refine run_if rfl rfl (fun h2=>?_) (fun h2=>?_)
  ·replace F0:=ift h2 F0
   refine sq rfl (rg [(6,.ptr 5020 [] 0),(7,vb false)] [(5020,.var 72 S72 x0)] [] [] 5021 rfl (by kernel_rfl) c0 ?_)
   obtain rfl:=inj F0
   exact ret_pure (q:=[.v S72 x0,vb false]) [S72,.bool] rfl rfl (by kernel_rfl)
  ·replace F0:=ifn h2 F0
   refine sk rfl (sq rfl ?_)
   obtain ⟨h3,F0⟩:=ifg F0
   obtain ⟨h4,F0⟩:=ifg F0
   refine rg [(3,.ptr 5000 [] 0),(6,.ptr 5020 [] 0)] [(5000,.var 72 S72 (x0.1,List.set x0.2.1 (toNat x1) x0.1,List.set x0.2.2 (toNat x1) x2)),(5020,.var 72 S72 (0,replicate 8 0,replicate 8 0))] [] [] 5021 rfl (by kernel_rfl) (cc h3 (cc (show offP S72 [.u,.r,.l,.i (toNat x1)]=(1+toNat x1*1) from offJ (p:=[.u,.r,.l]) (q:=[]) rfl (by kernel_rfl) (by kernel_rfl) (by kernel_rfl)) (cc (oo h3 trivial) (cc h4 (cc (show offP S72 [.u,.r,.r,.i (toNat x1)]=(9+toNat x1*1) from offJ (p:=[.u,.r,.r]) (q:=[]) rfl (by kernel_rfl) (by kernel_rfl) (by kernel_rfl)) (cc (oo h4 trivial) c0)))))) (sq rfl (rg [(6,.ptr 5020 [] 0),(7,vb true)] [(5020,.var 72 S72 (x0.1,List.set x0.2.1 (toNat x1) x0.1,List.set x0.2.2 (toNat x1) x2))] [] [] 5021 rfl (by kernel_rfl) c0 ?_))
   obtain rfl:=inj F0
   exact ret_pure (q:=[.v S72 (x0.1,List.set x0.2.1 (toNat x1) x0.1,List.set x0.2.2 (toNat x1) x2),vb true]) [S72,.bool] rfl rfl (by kernel_rfl)
 rcases Bool.eq_false_or_eq_true (decide (x1<0)) with h5|h5
 ·replace F1:=ift h5 F1
  refine rg [(1,vi x1),(2,.v (.int .u32) x2),(3,.ptr 5000 [] 0),(6,.ptr 5020 [] 0),(30,vb true)] [(5000,.var 72 S72 x0),(5020,.var 72 S72 (0,replicate 8 0,replicate 8 0))] [] [(2,true)] 5021 rfl (by kernel_rfl) (cc h5 c0) ?_
  exact J1_0 _ (inj F1).symm
 ·replace F1:=ifn h5 F1
  rcases Bool.eq_false_or_eq_true (decide (x1≥8)) with h6|h6
  ·replace F1:=ift h6 F1
   refine rg [(1,vi x1),(2,.v (.int .u32) x2),(3,.ptr 5000 [] 0),(6,.ptr 5020 [] 0),(30,vb true)] [(5000,.var 72 S72 x0),(5020,.var 72 S72 (0,replicate 8 0,replicate 8 0))] [] [(2,false),(6,true)] 5021 rfl (by kernel_rfl) (cc h5 (cc h6 c0)) ?_
   exact J1_0 _ (inj F1).symm
  ·replace F1:=ifn h6 F1
   rcases Bool.eq_false_or_eq_true (x2==0) with h7|h7
   ·replace F1:=ift h7 F1
    refine rg [(1,vi x1),(2,.v (.int .u32) x2),(3,.ptr 5000 [] 0),(6,.ptr 5020 [] 0),(30,vb true)] [(5000,.var 72 S72 x0),(5020,.var 72 S72 (0,replicate 8 0,replicate 8 0))] [] [(2,false),(6,false),(10,true)] 5021 rfl (by kernel_rfl) (cc h5 (cc h6 (cc h7 c0))) ?_
    exact J1_0 _ (inj F1).symm
   ·replace F1:=ifn h7 F1
    rcases Bool.eq_false_or_eq_true (x0.1==0) with h8|h8
    ·replace F1:=ift h8 F1
     refine rg [(1,vi x1),(2,.v (.int .u32) x2),(3,.ptr 5000 [] 0),(6,.ptr 5020 [] 0),(30,vb true)] [(5000,.var 72 S72 x0),(5020,.var 72 S72 (0,replicate 8 0,replicate 8 0))] [] [(2,false),(6,false),(10,false),(15,true)] 5021 rfl (by kernel_rfl) (cc h5 (cc h6 (cc h7 (cc h8 c0)))) ?_
     exact J1_0 _ (inj F1).symm
    ·replace F1:=ifn h8 F1
     obtain ⟨h9,F1⟩:=ifg F1
     refine rg [(1,vi x1),(2,.v (.int .u32) x2),(3,.ptr 5000 [] 0),(6,.ptr 5020 [] 0),(30,vb (decide (x2<(getD x0.2.2 (toNat x1) 0))))] [(5000,.var 72 S72 x0),(5020,.var 72 S72 (0,replicate 8 0,replicate 8 0))] [] [(2,false),(6,false),(10,false),(15,false)] 5021 rfl (by kernel_rfl) (cc h5 (cc h6 (cc h7 (cc h8 (cc h9 (cc (show offP S72 [.u,.r,.r,.i (toNat x1)]=(9+toNat x1*1) from offJ (p:=[.u,.r,.r]) (q:=[]) rfl (by kernel_rfl) (by kernel_rfl) (by kernel_rfl)) (cc (oo h9 trivial) c0))))))) ?_
     exact J1_0 _ (inj F1).symm
noncomputable def F_beat_Reach_b1 (x0:S72.ty) (x3:Int) (s1:(Int×(List Int))):Option ((Int×(List Int))⊕(List Int)) :=
 if (decide (s1.1<8))=true then if 0≤s1.1∧s1.1<((8:Nat):Int) then (show Option Bool from if ((getD x0.2.1 (toNat s1.1) 0) != 0)=true then if (decide ((getD x0.2.1 (toNat s1.1) 0)≤x0.1))=true then some (decide ((wrap .u32 (x0.1-(getD x0.2.1 (toNat s1.1) 0)))≤x3)) else some false else some false).bind (fun r3=>if (r3)=true then if 0≤s1.1∧s1.1<((8:Nat):Int) then (if 0≤s1.1∧s1.1<((8:Nat):Int) then (some (Sum.inl (wrap .i64 (s1.1+1),List.set s1.2 (toNat s1.1) (getD x0.2.2 (toNat s1.1) 0)))) else none) else none else some (Sum.inl (wrap .i64 (s1.1+1),s1.2))) else none else some (Sum.inr s1.2)
noncomputable def F_beat_Reach (x0:S72.ty) (x1:Int) (x2:Int) (x3:Int):Option (List Int) :=
 (loopO (F_beat_Reach_b1 x0 x3) (0,replicate 8 0)).bind (fun r1=>(show Option Bool from if (decide (x1≥0))=true then some (decide (x1<8)) else some false).bind (fun r2=>if (r2)=true then if 0≤x1∧x1<((8:Nat):Int) then (some (List.set r1 (toNat x1) x2)) else none else some r1))
theorem W_beat_Reach {x0:S72.ty} {x1:Int} {x2:Int} {x3:Int} {y:(List Int)} (F0:F_beat_Reach x0 x1 x2 x3=some y):Pure Tryz.prog 112 [.v S72 x0,vi x1,.v (.int .u32) x2,.v (.int .u32) x3] (.v (.arr 8 (.int .u32)) y):=by
 unfold F_beat_Reach at F0
 refine pure_of_run @Tryz.call112 @Tryz.func112 rfl rfl fun w M ho=>?_
 refine sq rfl (rg [(1,vi x1),(2,.v (.int .u32) x2),(3,.v (.int .u32) x3),(4,.ptr 5000 [] 0),(8,.ptr 5020 [] 0)] [(5000,.var 72 S72 x0),(5020,.var 46 (.arr 8 (.int .u32)) (replicate 8 0))] [] [] 5000 rfl (by kernel_rfl) c0 (sq rfl (rg [(1,vi x1),(2,.v (.int .u32) x2),(3,.v (.int .u32) x3),(4,.ptr 5000 [] 0),(8,.ptr 5020 [] 0),(9,.ptr 5021 [] 0)] [(5000,.var 72 S72 x0),(5020,.var 46 (.arr 8 (.int .u32)) (replicate 8 0)),(5021,.var 46 (.arr 8 (.int .u32)) (replicate 8 0))] [] [] 5021 rfl (by kernel_rfl) c0 (sq rfl (sq rfl (rg [(1,vi x1),(2,.v (.int .u32) x2),(3,.v (.int .u32) x3),(4,.ptr 5000 [] 0),(8,.ptr 5020 [] 0),(9,.ptr 5021 [] 0),(13,.v (.arr 8 (.int .u32)) x0.2.1),(14,vi 0)] [(5000,.var 72 S72 x0),(5020,.var 46 (.arr 8 (.int .u32)) (replicate 8 0)),(5021,.var 46 (.arr 8 (.int .u32)) (replicate 8 0))] [] [] 5022 rfl (by kernel_rfl) c0 (bk rfl ?_)))))))
 obtain ⟨r1,hl1,F0⟩:=obd F0
 refine run_cutx 0 rfl (fun r1'=>r1=r1') (fun r1=>[(1,vi x1),(2,.v (.int .u32) x2),(8,.ptr 5020 [] 0),(9,.ptr 5021 [] 0)]) (fun r1=>[(5020,.var 46 (.arr 8 (.int .u32)) (replicate 8 0)),(5021,.var 46 (.arr 8 (.int .u32)) r1)]) (fun r1' h1=>?_) (fun J1_0=>?_)
 ·subst h1
  refine sq rfl (sq rfl ?_)
  obtain ⟨r2,F1,F0⟩:=obd F0
  refine run_cut (fun r2'=>r2=r2') (fun r2=>[(1,vi x1),(2,.v (.int .u32) x2),(8,.ptr 5020 [] 0),(9,.ptr 5021 [] 0),(46,vb r2)]) (fun r2=>[(5020,.var 46 (.arr 8 (.int .u32)) (replicate 8 0)),(5021,.var 46 (.arr 8 (.int .u32)) r1)]) (fun r2' h2=>?_) (fun J2_0=>?_)
  ·subst h2
   refine run_if rfl rfl (fun h3=>?_) (fun h3=>?_)
   ·replace F0:=ift h3 F0
    obtain ⟨h4,F0⟩:=ifg F0
    refine rg [(8,.ptr 5020 [] 0),(9,.ptr 5021 [] 0)] [(5020,.var 46 (.arr 8 (.int .u32)) (replicate 8 0)),(5021,.var 46 (.arr 8 (.int .u32)) (List.set r1 (toNat x1) x2))] [] [] 5022 rfl (by kernel_rfl) (cc h4 (cc (show offP (.arr 8 (.int .u32)) [.i (toNat x1)]=(0+toNat x1*1) from offJ (p:=[]) (q:=[]) rfl (by kernel_rfl) (by kernel_rfl) (by kernel_rfl)) (cc (oo h4 trivial) c0))) (sq rfl (rg [(8,.ptr 5020 [] 0)] [(5020,.var 46 (.arr 8 (.int .u32)) (List.set r1 (toNat x1) x2))] [] [] 5022 rfl (by kernel_rfl) c0 ?_))
    obtain rfl:=inj F0
    exact ret_pure (q:=[.v (.arr 8 (.int .u32)) (List.set r1 (toNat x1) x2)]) [(.arr 8 (.int .u32))] rfl rfl (by kernel_rfl)
   ·replace F0:=ifn h3 F0
    refine sk rfl (sq rfl (rg [(8,.ptr 5020 [] 0)] [(5020,.var 46 (.arr 8 (.int .u32)) r1)] [] [] 5022 rfl (by kernel_rfl) c0 ?_))
    obtain rfl:=inj F0
    exact ret_pure (q:=[.v (.arr 8 (.int .u32)) r1]) [(.arr 8 (.int .u32))] rfl rfl (by kernel_rfl)
  rcases Bool.eq_false_or_eq_true (decide (x1≥0)) with h5|h5
  ·replace F1:=ift h5 F1
   refine rg [(1,vi x1),(2,.v (.int .u32) x2),(8,.ptr 5020 [] 0),(9,.ptr 5021 [] 0),(46,vb (decide (x1<8)))] [(5020,.var 46 (.arr 8 (.int .u32)) (replicate 8 0)),(5021,.var 46 (.arr 8 (.int .u32)) r1)] [] [(2,true)] 5022 rfl (by kernel_rfl) (cc h5 c0) ?_
   exact J2_0 _ (inj F1).symm
  ·replace F1:=ifn h5 F1
   refine rg [(1,vi x1),(2,.v (.int .u32) x2),(8,.ptr 5020 [] 0),(9,.ptr 5021 [] 0),(46,vb false)] [(5020,.var 46 (.arr 8 (.int .u32)) (replicate 8 0)),(5021,.var 46 (.arr 8 (.int .u32)) r1)] [] [(2,false)] 5022 rfl (by kernel_rfl) (cc h5 c0) ?_
   exact J2_0 _ (inj F1).symm
 refine run_loop rfl (run_loopO hl1 (fun s1=>[(1,vi x1),(2,.v (.int .u32) x2),(3,.v (.int .u32) x3),(4,.ptr 5000 [] 0),(8,.ptr 5020 [] 0),(9,.ptr 5021 [] 0),(13,.v (.arr 8 (.int .u32)) x0.2.1),(14,vi s1.1)]) (fun s1=>[(5000,.var 72 S72 x0),(5020,.var 46 (.arr 8 (.int .u32)) (replicate 8 0)),(5021,.var 46 (.arr 8 (.int .u32)) s1.2)]) rfl rfl (fun s1 o1 F1 ih1 hr1=>?_))
 unfold F_beat_Reach_b1 at F1
 refine run_again (sq rfl (rg [(1,vi x1),(2,.v (.int .u32) x2),(3,.v (.int .u32) x3),(4,.ptr 5000 [] 0),(8,.ptr 5020 [] 0),(9,.ptr 5021 [] 0),(13,.v (.arr 8 (.int .u32)) x0.2.1),(14,vi s1.1),(15,vb (decide (s1.1<8)))] [(5000,.var 72 S72 x0),(5020,.var 46 (.arr 8 (.int .u32)) (replicate 8 0)),(5021,.var 46 (.arr 8 (.int .u32)) s1.2)] [] [] 5022 rfl (by kernel_rfl) c0 (sq rfl ?_)))
 refine run_if rfl rfl (fun h6=>?_) (fun h6=>?_)
 ·replace F1:=ift h6 F1
  refine sk rfl (sq rfl (bk rfl (sq rfl ?_)))
  obtain ⟨h7,F1⟩:=ifg F1
  refine rg [(1,vi x1),(2,.v (.int .u32) x2),(3,.v (.int .u32) x3),(4,.ptr 5000 [] 0),(8,.ptr 5020 [] 0),(9,.ptr 5021 [] 0),(10,vi s1.1),(11,.v (.int .u32) (getD x0.2.1 (toNat s1.1) 0)),(13,.v (.arr 8 (.int .u32)) x0.2.1),(14,vi s1.1)] [(5000,.var 72 S72 x0),(5020,.var 46 (.arr 8 (.int .u32)) (replicate 8 0)),(5021,.var 46 (.arr 8 (.int .u32)) s1.2)] [] [] 5022 rfl (by kernel_rfl) (cc h7 c0) (sq rfl ?_)
  obtain ⟨r3,F2,F1⟩:=obd F1
  refine run_cut (fun r3'=>r3=r3') (fun r3=>[(1,vi x1),(2,.v (.int .u32) x2),(3,.v (.int .u32) x3),(4,.ptr 5000 [] 0),(8,.ptr 5020 [] 0),(9,.ptr 5021 [] 0),(10,vi s1.1),(13,.v (.arr 8 (.int .u32)) x0.2.1),(14,vi s1.1),(33,vb r3)]) (fun r3=>[(5000,.var 72 S72 x0),(5020,.var 46 (.arr 8 (.int .u32)) (replicate 8 0)),(5021,.var 46 (.arr 8 (.int .u32)) s1.2)]) (fun r3' h8=>?_) (fun J3_0=>?_)
  ·subst h8
   refine run_if rfl rfl (fun h9=>?_) (fun h9=>?_)
   ·replace F1:=ift h9 F1
    obtain ⟨h10,F1⟩:=ifg F1
    obtain ⟨h11,F1⟩:=ifg F1
    refine rg [(1,vi x1),(2,.v (.int .u32) x2),(3,.v (.int .u32) x3),(4,.ptr 5000 [] 0),(8,.ptr 5020 [] 0),(9,.ptr 5021 [] 0),(13,.v (.arr 8 (.int .u32)) x0.2.1),(14,vi s1.1)] [(5000,.var 72 S72 x0),(5020,.var 46 (.arr 8 (.int .u32)) (replicate 8 0)),(5021,.var 46 (.arr 8 (.int .u32)) (List.set s1.2 (toNat s1.1) (getD x0.2.2 (toNat s1.1) 0)))] [] [] 5022 rfl (by kernel_rfl) (cc h10 (cc (show offP S72 [.u,.r,.r,.i (toNat s1.1)]=(9+toNat s1.1*1) from offJ (p:=[.u,.r,.r]) (q:=[]) rfl (by kernel_rfl) (by kernel_rfl) (by kernel_rfl)) (cc (oo h10 trivial) (cc h11 (cc (show offP (.arr 8 (.int .u32)) [.i (toNat s1.1)]=(0+toNat s1.1*1) from offJ (p:=[]) (q:=[]) rfl (by kernel_rfl) (by kernel_rfl) (by kernel_rfl)) (cc (oo h11 trivial) c0)))))) (eb (rg [(1,vi x1),(2,.v (.int .u32) x2),(3,.v (.int .u32) x3),(4,.ptr 5000 [] 0),(8,.ptr 5020 [] 0),(9,.ptr 5021 [] 0),(13,.v (.arr 8 (.int .u32)) x0.2.1),(14,vi (wrap .i64 (s1.1+1)))] [(5000,.var 72 S72 x0),(5020,.var 46 (.arr 8 (.int .u32)) (replicate 8 0)),(5021,.var 46 (.arr 8 (.int .u32)) (List.set s1.2 (toNat s1.1) (getD x0.2.2 (toNat s1.1) 0)))] [] [] 5022 rfl (by kernel_rfl) c0 ?_))
    exact ih1 _ (inj F1).symm
   ·replace F1:=ifn h9 F1
    refine sk rfl (eb (rg [(1,vi x1),(2,.v (.int .u32) x2),(3,.v (.int .u32) x3),(4,.ptr 5000 [] 0),(8,.ptr 5020 [] 0),(9,.ptr 5021 [] 0),(13,.v (.arr 8 (.int .u32)) x0.2.1),(14,vi (wrap .i64 (s1.1+1)))] [(5000,.var 72 S72 x0),(5020,.var 46 (.arr 8 (.int .u32)) (replicate 8 0)),(5021,.var 46 (.arr 8 (.int .u32)) s1.2)] [] [] 5022 rfl (by kernel_rfl) c0 ?_))
    exact ih1 _ (inj F1).symm
  rcases Bool.eq_false_or_eq_true ((getD x0.2.1 (toNat s1.1) 0) != 0) with h12|h12
  ·replace F2:=ift h12 F2
   rcases Bool.eq_false_or_eq_true (decide ((getD x0.2.1 (toNat s1.1) 0)≤x0.1)) with h13|h13
   ·replace F2:=ift h13 F2
    refine rg [(1,vi x1),(2,.v (.int .u32) x2),(3,.v (.int .u32) x3),(4,.ptr 5000 [] 0),(8,.ptr 5020 [] 0),(9,.ptr 5021 [] 0),(10,vi s1.1),(13,.v (.arr 8 (.int .u32)) x0.2.1),(14,vi s1.1),(33,vb (decide ((wrap .u32 (x0.1-(getD x0.2.1 (toNat s1.1) 0)))≤x3)))] [(5000,.var 72 S72 x0),(5020,.var 46 (.arr 8 (.int .u32)) (replicate 8 0)),(5021,.var 46 (.arr 8 (.int .u32)) s1.2)] [] [(2,true),(8,true)] 5022 rfl (by kernel_rfl) (cc h12 (cc h13 c0)) ?_
    exact J3_0 _ (inj F2).symm
   ·replace F2:=ifn h13 F2
    refine rg [(1,vi x1),(2,.v (.int .u32) x2),(3,.v (.int .u32) x3),(4,.ptr 5000 [] 0),(8,.ptr 5020 [] 0),(9,.ptr 5021 [] 0),(10,vi s1.1),(13,.v (.arr 8 (.int .u32)) x0.2.1),(14,vi s1.1),(33,vb false)] [(5000,.var 72 S72 x0),(5020,.var 46 (.arr 8 (.int .u32)) (replicate 8 0)),(5021,.var 46 (.arr 8 (.int .u32)) s1.2)] [] [(2,true),(8,false)] 5022 rfl (by kernel_rfl) (cc h12 (cc h13 c0)) ?_
    exact J3_0 _ (inj F2).symm
  ·replace F2:=ifn h12 F2
   refine rg [(1,vi x1),(2,.v (.int .u32) x2),(3,.v (.int .u32) x3),(4,.ptr 5000 [] 0),(8,.ptr 5020 [] 0),(9,.ptr 5021 [] 0),(10,vi s1.1),(13,.v (.arr 8 (.int .u32)) x0.2.1),(14,vi s1.1),(33,vb false)] [(5000,.var 72 S72 x0),(5020,.var 46 (.arr 8 (.int .u32)) (replicate 8 0)),(5021,.var 46 (.arr 8 (.int .u32)) s1.2)] [] [(2,false)] 5022 rfl (by kernel_rfl) (cc h12 c0) ?_
   exact J3_0 _ (inj F2).symm
 ·replace F1:=ifn h6 F1
  refine run_exit rfl rfl (tm (ρ':=[(1,vi x1),(2,.v (.int .u32) x2),(8,.ptr 5020 [] 0),(9,.ptr 5021 [] 0)]) (H':=[(5020,.var 46 (.arr 8 (.int .u32)) (replicate 8 0)),(5021,.var 46 (.arr 8 (.int .u32)) s1.2)]) (by kernel_rfl) (by kernel_rfl) rfl ?_)
  exact J1_0 _ (inrI hr1 F1).symm
noncomputable def F_round_Least_b1 (t1:(List Int)) (x0:(List Int)) (s1:(Int×Int)):Option ((Int×Int)⊕Int) :=
 if (decide (s1.2<((length t1:Nat):Int)))=true then if 0≤s1.2∧s1.2<((length t1:Nat):Int) then (if 0≤(getD t1 (toNat s1.2) 0)∧(getD t1 (toNat s1.2) 0)<((8:Nat):Int) then (some (Sum.inl (mn s1.1 (getD x0 (toNat (getD t1 (toNat s1.2) 0)) 0),wrap .i64 (s1.2+1)))) else none) else none else some (Sum.inr s1.1)
noncomputable def F_round_Least (x0:(List Int)) (x1:(List Int)):Option (Int×Bool) :=
 (F_ident_List x1).bind fun t1=>(if (((length t1:Nat):Int)==0)=true then some (0,false) else (loopO (F_round_Least_b1 t1 x0) (4294967295,0)).bind (fun r1=>some (r1,true)))
theorem W_round_Least {x0:(List Int)} {x1:(List Int)} {y:(Int×Bool)} (F0:F_round_Least x0 x1=some y):Pure Tryz.prog 181 [.v (.arr 8 (.int .u32)) x0,.v (.arr 8 (.int .u32)) x1] (.tup [.v (.int .u32) y.1,vb y.2]):=by
 unfold F_round_Least at F0
 refine pure_of_run @Tryz.call181 @Tryz.func181 rfl rfl fun w M ho=>?_
 refine sq rfl (rg [(2,.ptr 5000 [] 0),(3,.ptr 5020 [] 0)] [(5000,.var 52 (.arr 8 (.int .u32)) x0),(5020,.var 46 (.arr 8 (.int .u32)) x1)] [] [] 5000 rfl (by kernel_rfl) c0 (sq rfl ?_))
 obtain ⟨t1,h1,F0⟩:=obd F0
 refine rg [(2,.ptr 5000 [] 0),(6,.v (.sl (.int .i64)) t1)] [(5000,.var 52 (.arr 8 (.int .u32)) x0)] [(1,⟨[.v (.arr 8 (.int .u32))],.v (.sl (.int .i64)) t1,none⟩)] [] 5021 rfl (by kernel_rfl) (cc (W_ident_List h1) c0) (sq rfl (sq rfl (rg [(2,.ptr 5000 [] 0),(6,.v (.sl (.int .i64)) t1),(14,vb (((length t1:Nat):Int)==0))] [(5000,.var 52 (.arr 8 (.int .u32)) x0)] [] [] 5001 rfl (by kernel_rfl) c0 ?_)))
 refine run_if rfl rfl (fun h2=>?_) (fun h2=>?_)
 ·replace F0:=ift h2 F0
  refine sq rfl (rg [(4,.v (.int .u32) 0),(5,vb false)] [] [] [] 5001 rfl (by kernel_rfl) c0 ?_)
  obtain rfl:=inj F0
  exact ret_pure (q:=[.v (.int .u32) 0,vb false]) [(.int .u32),.bool] rfl rfl (by kernel_rfl)
 ·replace F0:=ifn h2 F0
  refine sk rfl (sq rfl (rg [(2,.ptr 5000 [] 0),(6,.v (.sl (.int .i64)) t1),(7,.v (.int .u32) 4294967295)] [(5000,.var 52 (.arr 8 (.int .u32)) x0)] [] [] 5001 rfl (by kernel_rfl) c0 (sq rfl (sq rfl (rg [(2,.ptr 5000 [] 0),(7,.v (.int .u32) 4294967295),(15,.v (.sl (.int .i64)) t1),(16,vi ((length t1:Nat):Int)),(17,vi 0)] [(5000,.var 52 (.arr 8 (.int .u32)) x0)] [] [] 5001 rfl (by kernel_rfl) c0 (bk rfl ?_))))))
  obtain ⟨r1,hl1,F0⟩:=obd F0
  refine run_cutx 0 rfl (fun r1'=>r1=r1') (fun r1=>[(7,.v (.int .u32) r1)]) (fun r1=>[]) (fun r1' h3=>?_) (fun J1_0=>?_)
  ·subst h3
   refine sq rfl (rg [(4,.v (.int .u32) r1),(5,vb true)] [] [] [] 5000 rfl (by kernel_rfl) c0 ?_)
   obtain rfl:=inj F0
   exact ret_pure (q:=[.v (.int .u32) r1,vb true]) [(.int .u32),.bool] rfl rfl (by kernel_rfl)
  refine run_loop rfl (run_loopO hl1 (fun s1=>[(2,.ptr 5000 [] 0),(7,.v (.int .u32) s1.1),(15,.v (.sl (.int .i64)) t1),(16,vi ((length t1:Nat):Int)),(17,vi s1.2)]) (fun s1=>[(5000,.var 52 (.arr 8 (.int .u32)) x0)]) rfl rfl (fun s1 o1 F1 ih1 hr1=>?_))
  unfold F_round_Least_b1 at F1
  refine run_again (sq rfl (rg [(2,.ptr 5000 [] 0),(7,.v (.int .u32) s1.1),(15,.v (.sl (.int .i64)) t1),(16,vi ((length t1:Nat):Int)),(17,vi s1.2),(18,vb (decide (s1.2<((length t1:Nat):Int))))] [(5000,.var 52 (.arr 8 (.int .u32)) x0)] [] [] 5001 rfl (by kernel_rfl) c0 (sq rfl ?_)))
  refine run_if rfl rfl (fun h4=>?_) (fun h4=>?_)
  ·replace F1:=ift h4 F1
   refine sk rfl (sq rfl (bk rfl (sq rfl ?_)))
   obtain ⟨h5,F1⟩:=ifg F1
   refine rg [(2,.ptr 5000 [] 0),(7,.v (.int .u32) s1.1),(9,vi (getD t1 (toNat s1.2) 0)),(15,.v (.sl (.int .i64)) t1),(16,vi ((length t1:Nat):Int)),(17,vi s1.2)] [(5000,.var 52 (.arr 8 (.int .u32)) x0)] [] [] 5001 rfl (by kernel_rfl) (cc h5 c0) ?_
   obtain ⟨h6,F1⟩:=ifg F1
   refine rg [(2,.ptr 5000 [] 0),(7,.v (.int .u32) (mn s1.1 (getD x0 (toNat (getD t1 (toNat s1.2) 0)) 0))),(15,.v (.sl (.int .i64)) t1),(16,vi ((length t1:Nat):Int)),(17,vi s1.2)] [(5000,.var 52 (.arr 8 (.int .u32)) x0)] [] [] 5001 rfl (by kernel_rfl) (cc h6 (cc (show offP (.arr 8 (.int .u32)) [.i (toNat (getD t1 (toNat s1.2) 0))]=(0+toNat (getD t1 (toNat s1.2) 0)*1) from offJ (p:=[]) (q:=[]) rfl (by kernel_rfl) (by kernel_rfl) (by kernel_rfl)) (cc (oo h6 trivial) c0))) (eb (rg [(2,.ptr 5000 [] 0),(7,.v (.int .u32) (mn s1.1 (getD x0 (toNat (getD t1 (toNat s1.2) 0)) 0))),(15,.v (.sl (.int .i64)) t1),(16,vi ((length t1:Nat):Int)),(17,vi (wrap .i64 (s1.2+1)))] [(5000,.var 52 (.arr 8 (.int .u32)) x0)] [] [] 5001 rfl (by kernel_rfl) c0 ?_))
   exact ih1 _ (inj F1).symm
  ·replace F1:=ifn h4 F1
   refine run_exit rfl rfl (tm (ρ':=[(7,.v (.int .u32) s1.1)]) (H':=[]) (by kernel_rfl) (by kernel_rfl) rfl ?_)
   exact J1_0 _ (inrI hr1 F1).symm
noncomputable def F_round_member (x0:(List Int)) (x1:Int):Option Bool :=
 (show Option Bool from if (decide (x1≥0))=true then if (decide (x1<8))=true then if 0≤x1∧x1<((8:Nat):Int) then (some ((getD x0 (toNat x1) 0) != 0)) else none else some false else some false).bind (fun r1=>some r1)
theorem W_round_member {x0:(List Int)} {x1:Int} {y:Bool} (F0:F_round_member x0 x1=some y):Pure Tryz.prog 182 [.v (.arr 8 (.int .u32)) x0,vi x1] (vb y):=by
 unfold F_round_member at F0
 refine pure_of_run @Tryz.call182 @Tryz.func182 rfl rfl fun w M ho=>?_
 refine sq rfl (rg [(1,vi x1),(2,.ptr 5000 [] 0)] [(5000,.var 46 (.arr 8 (.int .u32)) x0)] [] [] 5000 rfl (by kernel_rfl) c0 (sq rfl ?_))
 obtain ⟨r1,F1,F0⟩:=obd F0
 refine run_cut (fun r1'=>r1=r1') (fun r1=>[(4,vb r1)]) (fun r1=>[]) (fun r1' h1=>?_) (fun J1_0=>?_)
 ·subst h1
  obtain rfl:=inj F0
  exact ret_pure (q:=[vb r1]) [.bool] rfl rfl (by kernel_rfl)
 rcases Bool.eq_false_or_eq_true (decide (x1≥0)) with h2|h2
 ·replace F1:=ift h2 F1
  rcases Bool.eq_false_or_eq_true (decide (x1<8)) with h3|h3
  ·replace F1:=ift h3 F1
   obtain ⟨h4,F1⟩:=ifg F1
   refine rg [(4,vb ((getD x0 (toNat x1) 0) != 0))] [] [] [(2,true),(6,true)] 5001 rfl (by kernel_rfl) (cc h2 (cc h3 (cc h4 (cc (show offP (.arr 8 (.int .u32)) [.i (toNat x1)]=(0+toNat x1*1) from offJ (p:=[]) (q:=[]) rfl (by kernel_rfl) (by kernel_rfl) (by kernel_rfl)) (cc (oo h4 trivial) c0))))) ?_
   exact J1_0 _ (inj F1).symm
  ·replace F1:=ifn h3 F1
   refine rg [(4,vb false)] [] [] [(2,true),(6,false)] 5001 rfl (by kernel_rfl) (cc h2 (cc h3 c0)) ?_
   exact J1_0 _ (inj F1).symm
 ·replace F1:=ifn h2 F1
  refine rg [(4,vb false)] [] [] [(2,false)] 5001 rfl (by kernel_rfl) (cc h2 c0) ?_
  exact J1_0 _ (inj F1).symm
noncomputable def F_round_May (x0:(List Int)) (x1:(List Int)) (x2:Int):Option Bool :=
 (F_round_Least x0 x1).bind fun t1=>((show Option Bool from (F_round_member x1 x2).bind fun t2=>(if (t2)=true then if 0≤x2∧x2<((8:Nat):Int) then (some ((getD x0 (toNat x2) 0)==t1.1)) else none else some false)).bind (fun r1=>some r1))
theorem W_round_May {x0:(List Int)} {x1:(List Int)} {x2:Int} {y:Bool} (F0:F_round_May x0 x1 x2=some y):Pure Tryz.prog 151 [.v (.arr 8 (.int .u32)) x0,.v (.arr 8 (.int .u32)) x1,vi x2] (vb y):=by
 unfold F_round_May at F0
 refine pure_of_run @Tryz.call151 @Tryz.func151 rfl rfl fun w M ho=>?_
 refine sq rfl (rg [(2,vi x2),(3,.ptr 5000 [] 0),(4,.ptr 5020 [] 0)] [(5000,.var 52 (.arr 8 (.int .u32)) x0),(5020,.var 46 (.arr 8 (.int .u32)) x1)] [] [] 5000 rfl (by kernel_rfl) c0 (sq rfl ?_))
 obtain ⟨t1,h1,F0⟩:=obd F0
 refine rg [(2,vi x2),(3,.ptr 5000 [] 0),(4,.ptr 5020 [] 0),(7,.v (.int .u32) t1.1)] [(5000,.var 52 (.arr 8 (.int .u32)) x0),(5020,.var 46 (.arr 8 (.int .u32)) x1)] [(2,⟨[.v (.arr 8 (.int .u32)),.v (.arr 8 (.int .u32))],.tup [.v (.int .u32) t1.1,vb t1.2],none⟩)] [] 5021 rfl (by kernel_rfl) (cc (W_round_Least h1) c0) (sq rfl ?_)
 obtain ⟨r1,F1,F0⟩:=obd F0
 refine run_cut (fun r1'=>r1=r1') (fun r1=>[(6,vb r1)]) (fun r1=>[]) (fun r1' h2=>?_) (fun J1_0=>?_)
 ·subst h2
  obtain rfl:=inj F0
  exact ret_pure (q:=[vb r1]) [.bool] rfl rfl (by kernel_rfl)
 obtain ⟨t2,h3,F1⟩:=obd F1
 rcases Bool.eq_false_or_eq_true (t2) with h4|h4
 ·replace F1:=ift h4 F1
  obtain ⟨h5,F1⟩:=ifg F1
  refine rg [(6,vb ((getD x0 (toNat x2) 0)==t1.1))] [] [(2,⟨[.v (.arr 8 (.int .u32)),.v (.int .i64)],vb t2,none⟩)] [(3,true)] 5021 rfl (by kernel_rfl) (cc (W_round_member h3) (cc h4 (cc h5 (cc (show offP (.arr 8 (.int .u32)) [.i (toNat x2)]=(0+toNat x2*1) from offJ (p:=[]) (q:=[]) rfl (by kernel_rfl) (by kernel_rfl) (by kernel_rfl)) (cc (oo h5 trivial) c0))))) ?_
  exact J1_0 _ (inj F1).symm
 ·replace F1:=ifn h4 F1
  refine rg [(6,vb false)] [] [(2,⟨[.v (.arr 8 (.int .u32)),.v (.int .i64)],vb t2,none⟩)] [(3,false)] 5021 rfl (by kernel_rfl) (cc (W_round_member h3) (cc h4 c0)) ?_
  exact J1_0 _ (inj F1).symm
abbrev S44:Sh:=(.st (.prod (.int .i64) (.prod (.int .u32) (.arr 3 (.arr 2 S39)))))
noncomputable def F_slices_Clone_api_Kept_api_Kept (x0:(List S44.ty)):Option (List S44.ty) :=
 if apOk (0+(length x0)) 352 then (some ([]++x0)) else none
theorem W_slices_Clone_api_Kept_api_Kept {x0:(List S44.ty)} {y:(List S44.ty)} (F0:F_slices_Clone_api_Kept_api_Kept x0=some y):Mut Tryz.prog 40 0 [.v (.sl S44) x0] [] (.row 0) [(0,.row 44 S44 y)]:=by
 unfold F_slices_Clone_api_Kept_api_Kept at F0
 refine mut_of_run @Tryz.call40 @Tryz.func40 rfl rfl fun b=>?_
 refine sq rfl (rg [(0,.v (.sl S44) x0)] [] [] [] 5000 rfl (by kernel_rfl) c0 (sq rfl (sq rfl ?_)))
 refine run_nilreg (e:=44) (ρ1:=[(3,.v (.sl S44) x0),(0,.v (.sl S44) x0)]) (H1:=[]) [] [] 0 rfl rfl rfl (by kernel_rfl) c0 rfl (by kernel_rfl) rfl rfl (fun h1=>?_) ?_
 ·subst h1
  obtain ⟨_,F0⟩:=ifg F0
  refine run_cond (t:=true) rfl (by kernel_rfl) (sq rfl (rg [(2,.v (.nl .any) ())] [] [] [] 5000 rfl (by kernel_rfl) c0 (run_nilrow (ρ':=[(2,.row 0)]) 2 0 44 S44 rfl (by kernel_rfl) (by kernel_rfl) ?_)))
  obtain rfl:=inj F0
  exact ret_mut (q:=[.row 0]) [none] [0] rfl rfl (by kernel_rfl) rfl (by kernel_rfl)
 ·refine run_cond (t:=false) rfl (by kernel_rfl) (sk rfl (sq rfl ?_))
  obtain ⟨h2,F0⟩:=ifg F0
  refine rg [(2,.row 5040)] [(5040,.row 44 S44 ([]++x0))] [] [] 5000 rfl (by kernel_rfl) (cc h2.1 (cc h2.2 c0)) (run_ren (ρ':=[(2,.row 0)]) (H':=[(0,.row 44 S44 ([]++x0))]) 5040 0 rfl (by kernel_rfl) rfl (by kernel_rfl) rfl ?_)
  obtain rfl:=inj F0
  exact ret_mut (q:=[.row 0]) [none] [0] rfl rfl (by kernel_rfl) rfl (by kernel_rfl)
noncomputable def F_slices_IndexFunc_api_Kept_api_Kept_b1 (x0:(List S44.ty)) (x1:(S44.ty→Option Bool)) (s1:Int):Option (Int⊕(Int⊕Unit)) :=
 if (decide (s1<((length x0:Nat):Int)))=true then if 0≤s1∧s1<((length x0:Nat):Int) then (x1 (getD x0 (toNat s1) S44.dflt)).bind fun t1=>(if (t1)=true then some (Sum.inr (Sum.inl s1)) else some (Sum.inl (wrap .i64 (s1+1)))) else none else some (Sum.inr (Sum.inr ()))
noncomputable def F_slices_IndexFunc_api_Kept_api_Kept (x0:(List S44.ty)) (x1:(S44.ty→Option Bool)):Option Int :=
 (loopO (F_slices_IndexFunc_api_Kept_api_Kept_b1 x0 x1) 0).bind (Sum.elim some (fun j11=>some (-1)))
theorem W_slices_IndexFunc_api_Kept_api_Kept {x0:(List S44.ty)} {x1:(S44.ty→Option Bool)} {y:Int} (F0:F_slices_IndexFunc_api_Kept_api_Kept x0 x1=some y):Pure Tryz.prog 158 [.v (.sl S44) x0,.v (.fn S44 .bool) x1] (vi y):=by
 unfold F_slices_IndexFunc_api_Kept_api_Kept at F0
 refine pure_of_run @Tryz.call158 @Tryz.func158 rfl rfl fun w M ho=>?_
 refine sq rfl (rg [(0,.v (.sl S44) x0),(1,.v (.fn S44 .bool) x1)] [] [] [] 5000 rfl (by kernel_rfl) c0 (sq rfl (sq rfl (rg [(0,.v (.sl S44) x0),(1,.v (.fn S44 .bool) x1),(7,vi ((length x0:Nat):Int)),(8,vi 0)] [] [] [] 5000 rfl (by kernel_rfl) c0 (bk rfl ?_)))))
 obtain ⟨r1,hl1,F0⟩:=obd F0
 refine run_cutx 0 rfl (fun j11=>r1=Sum.inr j11) (fun j11=>[]) (fun j11=>[]) (fun j11 h1=>?_) (fun J1_1=>?_)
 ·subst h1
  replace F0:=sumR F0
  refine sq rfl (rg [(4,vi (-1))] [] [] [] 5000 rfl (by kernel_rfl) c0 ?_)
  obtain rfl:=inj F0
  exact ret_pure (q:=[vi (-1)]) [(.int .i64)] rfl rfl (by kernel_rfl)
 refine run_loop rfl (run_loopO hl1 (fun s1=>[(0,.v (.sl S44) x0),(1,.v (.fn S44 .bool) x1),(7,vi ((length x0:Nat):Int)),(8,vi s1)]) (fun s1=>[]) rfl rfl (fun s1 o1 F1 ih1 hr1=>?_))
 unfold F_slices_IndexFunc_api_Kept_api_Kept_b1 at F1
 refine run_again (sq rfl (rg [(0,.v (.sl S44) x0),(1,.v (.fn S44 .bool) x1),(7,vi ((length x0:Nat):Int)),(8,vi s1),(9,vb (decide (s1<((length x0:Nat):Int))))] [] [] [] 5000 rfl (by kernel_rfl) c0 (sq rfl ?_)))
 refine run_if rfl rfl (fun h2=>?_) (fun h2=>?_)
 ·replace F1:=ift h2 F1
  refine sk rfl (sq rfl (bk rfl (sq rfl (rg [(0,.v (.sl S44) x0),(1,.v (.fn S44 .bool) x1),(5,vi s1),(7,vi ((length x0:Nat):Int)),(8,vi s1)] [] [] [] 5000 rfl (by kernel_rfl) c0 (sq rfl ?_)))))
  obtain ⟨h3,F1⟩:=ifg F1
  obtain ⟨t1,h4,F1⟩:=obd F1
  refine rg [(0,.v (.sl S44) x0),(1,.v (.fn S44 .bool) x1),(5,vi s1),(7,vi ((length x0:Nat):Int)),(8,vi s1),(16,vb t1)] [] [(5,⟨[],vb t1,none⟩)] [] 5000 rfl (by kernel_rfl) (cc h3 (cc h4 c0)) ?_
  refine run_if rfl rfl (fun h5=>?_) (fun h5=>?_)
  ·replace F1:=ift h5 F1
   refine sq rfl (rg [(4,vi s1)] [] [] [] 5000 rfl (by kernel_rfl) c0 ?_)
   have e1:=inrI hr1 F1
   subst e1
   replace F0:=sumL F0
   obtain rfl:=inj F0
   exact ret_pure (q:=[vi s1]) [(.int .i64)] rfl rfl (by kernel_rfl)
  ·replace F1:=ifn h5 F1
   refine sk rfl (eb (rg [(0,.v (.sl S44) x0),(1,.v (.fn S44 .bool) x1),(7,vi ((length x0:Nat):Int)),(8,vi (wrap .i64 (s1+1)))] [] [] [] 5000 rfl (by kernel_rfl) c0 ?_))
   exact ih1 _ (inj F1).symm
 ·replace F1:=ifn h2 F1
  refine run_exit rfl rfl (tm (ρ':=[]) (H':=[]) (by kernel_rfl) (by kernel_rfl) rfl ?_)
  exact J1_1 _ (inrI hr1 F1).symm
noncomputable def F_slices_IndexFunc_int_int_b1 (x0:(List Int)) (x1:(Int→Option Bool)) (s1:Int):Option (Int⊕(Int⊕Unit)) :=
 if (decide (s1<((length x0:Nat):Int)))=true then if 0≤s1∧s1<((length x0:Nat):Int) then (x1 (getD x0 (toNat s1) 0)).bind fun t1=>(if (t1)=true then some (Sum.inr (Sum.inl s1)) else some (Sum.inl (wrap .i64 (s1+1)))) else none else some (Sum.inr (Sum.inr ()))
noncomputable def F_slices_IndexFunc_int_int (x0:(List Int)) (x1:(Int→Option Bool)):Option Int :=
 (loopO (F_slices_IndexFunc_int_int_b1 x0 x1) 0).bind (Sum.elim some (fun j11=>some (-1)))
theorem W_slices_IndexFunc_int_int {x0:(List Int)} {x1:(Int→Option Bool)} {y:Int} (F0:F_slices_IndexFunc_int_int x0 x1=some y):Pure Tryz.prog 174 [.v (.sl (.int .i64)) x0,.v (.fn (.int .i64) .bool) x1] (vi y):=by
 unfold F_slices_IndexFunc_int_int at F0
 refine pure_of_run @Tryz.call174 @Tryz.func174 rfl rfl fun w M ho=>?_
 refine sq rfl (rg [(0,.v (.sl (.int .i64)) x0),(1,.v (.fn (.int .i64) .bool) x1)] [] [] [] 5000 rfl (by kernel_rfl) c0 (sq rfl (sq rfl (rg [(0,.v (.sl (.int .i64)) x0),(1,.v (.fn (.int .i64) .bool) x1),(7,vi ((length x0:Nat):Int)),(8,vi 0)] [] [] [] 5000 rfl (by kernel_rfl) c0 (bk rfl ?_)))))
 obtain ⟨r1,hl1,F0⟩:=obd F0
 refine run_cutx 0 rfl (fun j11=>r1=Sum.inr j11) (fun j11=>[]) (fun j11=>[]) (fun j11 h1=>?_) (fun J1_1=>?_)
 ·subst h1
  replace F0:=sumR F0
  refine sq rfl (rg [(4,vi (-1))] [] [] [] 5000 rfl (by kernel_rfl) c0 ?_)
  obtain rfl:=inj F0
  exact ret_pure (q:=[vi (-1)]) [(.int .i64)] rfl rfl (by kernel_rfl)
 refine run_loop rfl (run_loopO hl1 (fun s1=>[(0,.v (.sl (.int .i64)) x0),(1,.v (.fn (.int .i64) .bool) x1),(7,vi ((length x0:Nat):Int)),(8,vi s1)]) (fun s1=>[]) rfl rfl (fun s1 o1 F1 ih1 hr1=>?_))
 unfold F_slices_IndexFunc_int_int_b1 at F1
 refine run_again (sq rfl (rg [(0,.v (.sl (.int .i64)) x0),(1,.v (.fn (.int .i64) .bool) x1),(7,vi ((length x0:Nat):Int)),(8,vi s1),(9,vb (decide (s1<((length x0:Nat):Int))))] [] [] [] 5000 rfl (by kernel_rfl) c0 (sq rfl ?_)))
 refine run_if rfl rfl (fun h2=>?_) (fun h2=>?_)
 ·replace F1:=ift h2 F1
  refine sk rfl (sq rfl (bk rfl (sq rfl (rg [(0,.v (.sl (.int .i64)) x0),(1,.v (.fn (.int .i64) .bool) x1),(5,vi s1),(7,vi ((length x0:Nat):Int)),(8,vi s1)] [] [] [] 5000 rfl (by kernel_rfl) c0 (sq rfl ?_)))))
  obtain ⟨h3,F1⟩:=ifg F1
  obtain ⟨t1,h4,F1⟩:=obd F1
  refine rg [(0,.v (.sl (.int .i64)) x0),(1,.v (.fn (.int .i64) .bool) x1),(5,vi s1),(7,vi ((length x0:Nat):Int)),(8,vi s1),(16,vb t1)] [] [(5,⟨[],vb t1,none⟩)] [] 5000 rfl (by kernel_rfl) (cc h3 (cc h4 c0)) ?_
  refine run_if rfl rfl (fun h5=>?_) (fun h5=>?_)
  ·replace F1:=ift h5 F1
   refine sq rfl (rg [(4,vi s1)] [] [] [] 5000 rfl (by kernel_rfl) c0 ?_)
   have e1:=inrI hr1 F1
   subst e1
   replace F0:=sumL F0
   obtain rfl:=inj F0
   exact ret_pure (q:=[vi s1]) [(.int .i64)] rfl rfl (by kernel_rfl)
  ·replace F1:=ifn h5 F1
   refine sk rfl (eb (rg [(0,.v (.sl (.int .i64)) x0),(1,.v (.fn (.int .i64) .bool) x1),(7,vi ((length x0:Nat):Int)),(8,vi (wrap .i64 (s1+1)))] [] [] [] 5000 rfl (by kernel_rfl) c0 ?_))
   exact ih1 _ (inj F1).symm
 ·replace F1:=ifn h2 F1
  refine run_exit rfl rfl (tm (ρ':=[]) (H':=[]) (by kernel_rfl) (by kernel_rfl) rfl ?_)
  exact J1_1 _ (inrI hr1 F1).symm
noncomputable def F_slices_ContainsFunc_int_int (x0:(List Int)) (x1:(Int→Option Bool)):Option Bool :=
 (F_slices_IndexFunc_int_int x0 x1).bind fun t1=>(some (decide (t1≥0)))
theorem W_slices_ContainsFunc_int_int {x0:(List Int)} {x1:(Int→Option Bool)} {y:Bool} (F0:F_slices_ContainsFunc_int_int x0 x1=some y):Pure Tryz.prog 140 [.v (.sl (.int .i64)) x0,.v (.fn (.int .i64) .bool) x1] (vb y):=by
 unfold F_slices_ContainsFunc_int_int at F0
 refine pure_of_run @Tryz.call140 @Tryz.func140 rfl rfl fun w M ho=>?_
 refine sq rfl (rg [(0,.v (.sl (.int .i64)) x0),(1,.v (.fn (.int .i64) .bool) x1)] [] [] [] 5000 rfl (by kernel_rfl) c0 (sq rfl ?_))
 obtain ⟨t1,h1,F0⟩:=obd F0
 refine rg [(4,vb (decide (t1≥0)))] [] [(2,⟨[.v (.sl (.int .i64)),.v (.fn (.int .i64) .bool)],vi t1,none⟩)] [] 5000 rfl (by kernel_rfl) (cc (W_slices_IndexFunc_int_int h1) c0) ?_
 obtain rfl:=inj F0
 exact ret_pure (q:=[vb (decide (t1≥0))]) [.bool] rfl rfl (by kernel_rfl)
noncomputable def F_slices_Index_int_int_b1 (x0:(List Int)) (x1:Int) (s1:Int):Option (Int⊕(Int⊕Unit)) :=
 if (decide (s1<((length x0:Nat):Int)))=true then if 0≤s1∧s1<((length x0:Nat):Int) then (if (x1==(getD x0 (toNat s1) 0))=true then some (Sum.inr (Sum.inl s1)) else some (Sum.inl (wrap .i64 (s1+1)))) else none else some (Sum.inr (Sum.inr ()))
noncomputable def F_slices_Index_int_int (x0:(List Int)) (x1:Int):Option Int :=
 (loopO (F_slices_Index_int_int_b1 x0 x1) 0).bind (Sum.elim some (fun j11=>some (-1)))
theorem W_slices_Index_int_int {x0:(List Int)} {x1:Int} {y:Int} (F0:F_slices_Index_int_int x0 x1=some y):Pure Tryz.prog 194 [.v (.sl (.int .i64)) x0,vi x1] (vi y):=by
 unfold F_slices_Index_int_int at F0
 refine pure_of_run @Tryz.call194 @Tryz.func194 rfl rfl fun w M ho=>?_
 refine sq rfl (rg [(0,.v (.sl (.int .i64)) x0),(1,vi x1)] [] [] [] 5000 rfl (by kernel_rfl) c0 (sq rfl (sq rfl (rg [(0,.v (.sl (.int .i64)) x0),(1,vi x1),(7,vi ((length x0:Nat):Int)),(8,vi 0)] [] [] [] 5000 rfl (by kernel_rfl) c0 (bk rfl ?_)))))
 obtain ⟨r1,hl1,F0⟩:=obd F0
 refine run_cutx 0 rfl (fun j11=>r1=Sum.inr j11) (fun j11=>[]) (fun j11=>[]) (fun j11 h1=>?_) (fun J1_1=>?_)
 ·subst h1
  replace F0:=sumR F0
  refine sq rfl (rg [(4,vi (-1))] [] [] [] 5000 rfl (by kernel_rfl) c0 ?_)
  obtain rfl:=inj F0
  exact ret_pure (q:=[vi (-1)]) [(.int .i64)] rfl rfl (by kernel_rfl)
 refine run_loop rfl (run_loopO hl1 (fun s1=>[(0,.v (.sl (.int .i64)) x0),(1,vi x1),(7,vi ((length x0:Nat):Int)),(8,vi s1)]) (fun s1=>[]) rfl rfl (fun s1 o1 F1 ih1 hr1=>?_))
 unfold F_slices_Index_int_int_b1 at F1
 refine run_again (sq rfl (rg [(0,.v (.sl (.int .i64)) x0),(1,vi x1),(7,vi ((length x0:Nat):Int)),(8,vi s1),(9,vb (decide (s1<((length x0:Nat):Int))))] [] [] [] 5000 rfl (by kernel_rfl) c0 (sq rfl ?_)))
 refine run_if rfl rfl (fun h2=>?_) (fun h2=>?_)
 ·replace F1:=ift h2 F1
  refine sk rfl (sq rfl (bk rfl (sq rfl (rg [(0,.v (.sl (.int .i64)) x0),(1,vi x1),(5,vi s1),(7,vi ((length x0:Nat):Int)),(8,vi s1)] [] [] [] 5000 rfl (by kernel_rfl) c0 (sq rfl ?_)))))
  obtain ⟨h3,F1⟩:=ifg F1
  refine rg [(0,.v (.sl (.int .i64)) x0),(1,vi x1),(5,vi s1),(7,vi ((length x0:Nat):Int)),(8,vi s1),(16,vb (x1==(getD x0 (toNat s1) 0)))] [] [] [] 5000 rfl (by kernel_rfl) (cc h3 c0) ?_
  refine run_if rfl rfl (fun h4=>?_) (fun h4=>?_)
  ·replace F1:=ift h4 F1
   refine sq rfl (rg [(4,vi s1)] [] [] [] 5000 rfl (by kernel_rfl) c0 ?_)
   have e1:=inrI hr1 F1
   subst e1
   replace F0:=sumL F0
   obtain rfl:=inj F0
   exact ret_pure (q:=[vi s1]) [(.int .i64)] rfl rfl (by kernel_rfl)
  ·replace F1:=ifn h4 F1
   refine sk rfl (eb (rg [(0,.v (.sl (.int .i64)) x0),(1,vi x1),(7,vi ((length x0:Nat):Int)),(8,vi (wrap .i64 (s1+1)))] [] [] [] 5000 rfl (by kernel_rfl) c0 ?_))
   exact ih1 _ (inj F1).symm
 ·replace F1:=ifn h2 F1
  refine run_exit rfl rfl (tm (ρ':=[]) (H':=[]) (by kernel_rfl) (by kernel_rfl) rfl ?_)
  exact J1_1 _ (inrI hr1 F1).symm
noncomputable def F_slices_Contains_int_int (x0:(List Int)) (x1:Int):Option Bool :=
 (F_slices_Index_int_int x0 x1).bind fun t1=>(some (decide (t1≥0)))
theorem W_slices_Contains_int_int {x0:(List Int)} {x1:Int} {y:Bool} (F0:F_slices_Contains_int_int x0 x1=some y):Pure Tryz.prog 183 [.v (.sl (.int .i64)) x0,vi x1] (vb y):=by
 unfold F_slices_Contains_int_int at F0
 refine pure_of_run @Tryz.call183 @Tryz.func183 rfl rfl fun w M ho=>?_
 refine sq rfl (rg [(0,.v (.sl (.int .i64)) x0),(1,vi x1)] [] [] [] 5000 rfl (by kernel_rfl) c0 (sq rfl ?_))
 obtain ⟨t1,h1,F0⟩:=obd F0
 refine rg [(4,vb (decide (t1≥0)))] [] [(2,⟨[.v (.sl (.int .i64)),.v (.int .i64)],vi t1,none⟩)] [] 5000 rfl (by kernel_rfl) (cc (W_slices_Index_int_int h1) c0) ?_
 obtain rfl:=inj F0
 exact ret_pure (q:=[vb (decide (t1≥0))]) [.bool] rfl rfl (by kernel_rfl)
noncomputable def F_slices_DeleteFunc_api_Kept_api_Kept_b1 (x1:(S44.ty→Option Bool)) (s1:(Int×Int×(List S44.ty))):Option ((Int×Int×(List S44.ty))⊕(Int×(List S44.ty))) :=
 if (decide (s1.2.1<((length s1.2.2:Nat):Int)))=true then if 0≤s1.2.1∧s1.2.1<((length s1.2.2:Nat):Int) then (x1 (getD s1.2.2 (toNat s1.2.1) S44.dflt)).bind fun t2=>(if (!t2)=true then if 0≤s1.1∧s1.1<((length s1.2.2:Nat):Int) then (some (Sum.inl (wrap .i64 (s1.1+1),wrap .i64 (s1.2.1+1),List.set s1.2.2 (toNat s1.1) (getD s1.2.2 (toNat s1.2.1) S44.dflt)))) else none else some (Sum.inl (s1.1,wrap .i64 (s1.2.1+1),s1.2.2))) else none else some (Sum.inr (s1.1,s1.2.2))
noncomputable def F_slices_DeleteFunc_api_Kept_api_Kept (x0:(List S44.ty)) (x1:(S44.ty→Option Bool)):Option (List S44.ty) :=
 (F_slices_IndexFunc_api_Kept_api_Kept x0 x1).bind fun t1=>(if (t1==(-1))=true then some x0 else (loopO (F_slices_DeleteFunc_api_Kept_api_Kept_b1 x1) (t1,wrap .i64 (t1+1),x0)).bind (fun r1=>if ((0:Int)≤r1.1∧toNat r1.1≤length r1.2∧length r1.2≤length r1.2) then (if (toNat r1.1)+(length r1.2-toNat r1.1)≤length r1.2 then (if ((0:Int)≤r1.1∧0≤toNat r1.1∧toNat r1.1≤length (take (toNat r1.1) r1.2++(replicate (length r1.2-toNat r1.1) S44.dflt++drop ((toNat r1.1)+(length r1.2-toNat r1.1)) r1.2))) then (if (toNat r1.1-0)≤length (take (toNat r1.1) r1.2++(replicate (length r1.2-toNat r1.1) S44.dflt++drop ((toNat r1.1)+(length r1.2-toNat r1.1)) r1.2)) then some (take (toNat r1.1-0) (take (toNat r1.1) r1.2++(replicate (length r1.2-toNat r1.1) S44.dflt++drop ((toNat r1.1)+(length r1.2-toNat r1.1)) r1.2))) else none) else none) else none) else none))
theorem W_slices_DeleteFunc_api_Kept_api_Kept {x0:(List S44.ty)} {x1:(S44.ty→Option Bool)} {y:(List S44.ty)} (F0:F_slices_DeleteFunc_api_Kept_api_Kept x0 x1=some y):Mut Tryz.prog 184 1 [.row 0,.v (.fn S44 .bool) x1] [(0,.row 44 S44 x0)] (.row 1) [(1,.row 44 S44 y)]:=by
 unfold F_slices_DeleteFunc_api_Kept_api_Kept at F0
 refine mut_of_run @Tryz.call184 @Tryz.func184 rfl rfl fun b=>?_
 refine sq rfl (rg [(0,.row 0),(1,.v (.fn S44 .bool) x1)] [(0,.row 44 S44 x0)] [] [] 5000 rfl (by kernel_rfl) c0 (sq rfl ?_))
 obtain ⟨t1,h1,F0⟩:=obd F0
 refine rg [(0,.row 0),(1,.v (.fn S44 .bool) x1),(5,vi t1)] [(0,.row 44 S44 x0)] [(2,⟨[.v (.sl S44),.v (.fn S44 .bool)],vi t1,none⟩)] [] 5000 rfl (by kernel_rfl) (cc (W_slices_IndexFunc_api_Kept_api_Kept h1) c0) (sq rfl (sq rfl (rg [(0,.row 0),(1,.v (.fn S44 .bool) x1),(5,vi t1),(12,vb (t1==(-1)))] [(0,.row 44 S44 x0)] [] [] 5000 rfl (by kernel_rfl) c0 ?_)))
 refine run_if rfl rfl (fun h2=>?_) (fun h2=>?_)
 ·replace F0:=ift h2 F0
  refine sq rfl (rg [(4,.row 0)] [(0,.row 44 S44 x0)] [] [] 5000 rfl (by kernel_rfl) c0 (run_ren (ρ':=[(4,.row 1)]) (H':=[(1,.row 44 S44 x0)]) 0 1 rfl (by kernel_rfl) rfl (by kernel_rfl) rfl ?_))
  obtain rfl:=inj F0
  exact ret_mut (q:=[.row 1]) [none] [1] rfl rfl (by kernel_rfl) rfl (by kernel_rfl)
 ·replace F0:=ifn h2 F0
  refine sk rfl (sq rfl (sq rfl (rg [(0,.row 0),(1,.v (.fn S44 .bool) x1),(5,vi t1),(6,vi (wrap .i64 (t1+1)))] [(0,.row 44 S44 x0)] [] [] 5000 rfl (by kernel_rfl) c0 (bk rfl ?_))))
  obtain ⟨r1,hl1,F0⟩:=obd F0
  refine run_cutx 0 rfl (fun r1'=>r1=r1') (fun r1=>[(0,.row 0),(5,vi r1.1)]) (fun r1=>[(0,.row 44 S44 r1.2)]) (fun r1' h3=>?_) (fun J1_0=>?_)
  ·subst h3
   refine sq rfl ?_
   obtain ⟨h4,F0⟩:=ifg F0
   obtain ⟨h5,F0⟩:=ifg F0
   refine rg [(0,.row 0),(5,vi r1.1)] [(0,.row 44 S44 (take (toNat r1.1) r1.2++(replicate (length r1.2-toNat r1.1) S44.dflt++drop ((toNat r1.1)+(length r1.2-toNat r1.1)) r1.2)))] [] [] 5000 rfl (by kernel_rfl) (cc h4.1 (cc h4.2.1 (cc h4.2.2 (cc h5 c0)))) (sq rfl ?_)
   obtain ⟨h6,F0⟩:=ifg F0
   refine rg [(4,.sub 0 38 0 (toNat r1.1-0))] [(0,.row 44 S44 (take (toNat r1.1) r1.2++(replicate (length r1.2-toNat r1.1) S44.dflt++drop ((toNat r1.1)+(length r1.2-toNat r1.1)) r1.2)))] [] [] 5000 rfl (by kernel_rfl) (cc h6.1 (cc h6.2.1 (cc h6.2.2 c0))) ?_
   obtain ⟨h7,F0⟩:=ifg F0
   refine run_subrow (H':=[(1,.row 44 S44 (take (toNat r1.1-0) (take (toNat r1.1) r1.2++(replicate (length r1.2-toNat r1.1) S44.dflt++drop ((toNat r1.1)+(length r1.2-toNat r1.1)) r1.2))))]) 4 0 (toNat r1.1-0) 1 rfl (by kernel_rfl) rfl h7 rfl rfl (tm (ρ':=[(4,.row 1)]) (H':=[(1,.row 44 S44 (take (toNat r1.1-0) (take (toNat r1.1) r1.2++(replicate (length r1.2-toNat r1.1) S44.dflt++drop ((toNat r1.1)+(length r1.2-toNat r1.1)) r1.2))))]) (by kernel_rfl) (by kernel_rfl) rfl ?_)
   obtain rfl:=inj F0
   exact ret_mut (q:=[.row 1]) [none] [1] rfl rfl (by kernel_rfl) rfl (by kernel_rfl)
  refine run_loop rfl (run_loopO hl1 (fun s1=>[(0,.row 0),(1,.v (.fn S44 .bool) x1),(5,vi s1.1),(6,vi s1.2.1)]) (fun s1=>[(0,.row 44 S44 s1.2.2)]) rfl rfl (fun s1 o1 F1 ih1 hr1=>?_))
  unfold F_slices_DeleteFunc_api_Kept_api_Kept_b1 at F1
  refine run_again (sq rfl (sq rfl (rg [(0,.row 0),(1,.v (.fn S44 .bool) x1),(5,vi s1.1),(6,vi s1.2.1),(19,vb (decide (s1.2.1<((length s1.2.2:Nat):Int))))] [(0,.row 44 S44 s1.2.2)] [] [] 5000 rfl (by kernel_rfl) c0 ?_)))
  refine run_if rfl rfl (fun h8=>?_) (fun h8=>?_)
  ·replace F1:=ift h8 F1
   refine sk rfl (sq rfl (bk rfl (sq rfl ?_)))
   obtain ⟨h9,F1⟩:=ifg F1
   refine rg [(0,.row 0),(1,.v (.fn S44 .bool) x1),(5,vi s1.1),(6,vi s1.2.1),(7,.ptr 5080 [] 0)] [(0,.row 44 S44 s1.2.2),(5080,.var 44 S44 (getD s1.2.2 (toNat s1.2.1) S44.dflt))] [] [] 5000 rfl (by kernel_rfl) (cc h9 (cc (@rfl Nat (toNat s1.2.1*38)) (cc (oo h9 trivial) c0))) (sq rfl ?_)
   obtain ⟨t2,h10,F1⟩:=obd F1
   refine rg [(0,.row 0),(1,.v (.fn S44 .bool) x1),(5,vi s1.1),(6,vi s1.2.1),(7,.ptr 5080 [] 0),(29,vb (!t2))] [(0,.row 44 S44 s1.2.2),(5080,.var 44 S44 (getD s1.2.2 (toNat s1.2.1) S44.dflt))] [(2,⟨[],vb t2,none⟩)] [] 5081 rfl (by kernel_rfl) (cc h10 c0) ?_
   refine run_if rfl rfl (fun h11=>?_) (fun h11=>?_)
   ·replace F1:=ift h11 F1
    refine sq rfl ?_
    obtain ⟨h12,F1⟩:=ifg F1
    refine rg [(0,.row 0),(1,.v (.fn S44 .bool) x1),(5,vi s1.1),(6,vi s1.2.1)] [(0,.row 44 S44 (List.set s1.2.2 (toNat s1.1) (getD s1.2.2 (toNat s1.2.1) S44.dflt)))] [] [] 5081 rfl (by kernel_rfl) (cc h12 (cc (@rfl Nat (toNat s1.1*38)) (cc (oo h12 trivial) c0))) (rg [(0,.row 0),(1,.v (.fn S44 .bool) x1),(5,vi (wrap .i64 (s1.1+1))),(6,vi s1.2.1)] [(0,.row 44 S44 (List.set s1.2.2 (toNat s1.1) (getD s1.2.2 (toNat s1.2.1) S44.dflt)))] [] [] 5000 rfl (by kernel_rfl) c0 (eb (rg [(0,.row 0),(1,.v (.fn S44 .bool) x1),(5,vi (wrap .i64 (s1.1+1))),(6,vi (wrap .i64 (s1.2.1+1)))] [(0,.row 44 S44 (List.set s1.2.2 (toNat s1.1) (getD s1.2.2 (toNat s1.2.1) S44.dflt)))] [] [] 5000 rfl (by kernel_rfl) c0 ?_)))
    exact ih1 _ (inj F1).symm
   ·replace F1:=ifn h11 F1
    refine sk rfl (eb (rg [(0,.row 0),(1,.v (.fn S44 .bool) x1),(5,vi s1.1),(6,vi (wrap .i64 (s1.2.1+1)))] [(0,.row 44 S44 s1.2.2)] [] [] 5081 rfl (by kernel_rfl) c0 ?_))
    exact ih1 _ (inj F1).symm
  ·replace F1:=ifn h8 F1
   refine run_exit rfl rfl (tm (ρ':=[(0,.row 0),(5,vi s1.1)]) (H':=[(0,.row 44 S44 s1.2.2)]) (by kernel_rfl) (by kernel_rfl) rfl ?_)
   exact J1_0 _ (inrI hr1 F1).symm
noncomputable def F_kept_Take_1 (x0:S44.ty) (x1:S44.ty):Option Bool :=
 (show Option Bool from if (x0.1==x1.1)=true then if (decide (x1.2.1≥3))=true then some (decide (x0.2.1≤(wrap .u32 (x1.2.1-3)))) else some false else some false).bind (fun r1=>some r1)
theorem W_kept_Take_1 {x0:S44.ty} {x1:S44.ty} {y:Bool} (F0:F_kept_Take_1 x0 x1=some y):Pure Tryz.prog 185 [.v S44 x0,.fp S44 x1] (vb y):=by
 unfold F_kept_Take_1 at F0
 refine pure_of_run @Tryz.call185 @Tryz.func185 rfl rfl fun w M ho=>?_
 refine sq rfl (rg [(1,.fp S44 x1),(2,.ptr 5000 [] 0)] [(5000,.var 44 S44 x0)] [] [] 5000 rfl (by kernel_rfl) c0 (sq rfl ?_))
 obtain ⟨r1,F1,F0⟩:=obd F0
 refine run_cut (fun r1'=>r1=r1') (fun r1=>[(3,vb r1)]) (fun r1=>[]) (fun r1' h1=>?_) (fun J1_0=>?_)
 ·subst h1
  obtain rfl:=inj F0
  exact ret_pure (q:=[vb r1]) [.bool] rfl rfl (by kernel_rfl)
 rcases Bool.eq_false_or_eq_true (x0.1==x1.1) with h2|h2
 ·replace F1:=ift h2 F1
  rcases Bool.eq_false_or_eq_true (decide (x1.2.1≥3)) with h3|h3
  ·replace F1:=ift h3 F1
   refine rg [(3,vb (decide (x0.2.1≤(wrap .u32 (x1.2.1-3)))))] [] [] [(5,true),(10,true)] 5001 rfl (by kernel_rfl) (cc h2 (cc h3 c0)) ?_
   exact J1_0 _ (inj F1).symm
  ·replace F1:=ifn h3 F1
   refine rg [(3,vb false)] [] [] [(5,true),(10,false)] 5001 rfl (by kernel_rfl) (cc h2 (cc h3 c0)) ?_
   exact J1_0 _ (inj F1).symm
 ·replace F1:=ifn h2 F1
  refine rg [(3,vb false)] [] [] [(5,false)] 5001 rfl (by kernel_rfl) (cc h2 c0) ?_
  exact J1_0 _ (inj F1).symm
noncomputable def F_kept_Take (x0:(List S44.ty)) (x1:(List Int)) (x2:(List Int)) (x3:S44.ty):Option ((List S44.ty)×(List Int)×Bool) :=
 (F_slices_Clone_api_Kept_api_Kept x0).bind fun t1=>((show Option Bool from (F_ident_List x2).bind fun t3=>((F_slices_Contains_int_int t3 x3.1).bind fun t4=>(if (!t4)=true then some true else if 0≤x3.1∧x3.1<((8:Nat):Int) then (if ((getD x1 (toNat x3.1) 0)==4294967295)=true then some true else if 0≤x3.1∧x3.1<((8:Nat):Int) then (some (x3.2.1 != (wrap .u32 ((getD x1 (toNat x3.1) 0)+1)))) else none) else none))).bind (fun r1=>if (r1)=true then some (t1,x1,false) else (F_slices_DeleteFunc_api_Kept_api_Kept t1 (fun x=>F_kept_Take_1 x x3)).bind fun t2=>(if 0≤x3.1∧x3.1<((8:Nat):Int) then (if apOk (length t2+1) 352 then (some (t2++[x3],List.set x1 (toNat x3.1) x3.2.1,true)) else none) else none)))
theorem W_kept_Take {x0:(List S44.ty)} {x1:(List Int)} {x2:(List Int)} {x3:S44.ty} {y:((List S44.ty)×(List Int)×Bool)} (F0:F_kept_Take x0 x1 x2 x3=some y):Pure Tryz.prog 152 [.v (.sl S44) x0,.v (.arr 8 (.int .u32)) x1,.v (.arr 8 (.int .u32)) x2,.v S44 x3] (.tup [.v (.sl S44) y.1,.v (.arr 8 (.int .u32)) y.2.1,vb y.2.2]):=by
 unfold F_kept_Take at F0
 refine pure_of_run @Tryz.call152 @Tryz.func152 rfl rfl fun w M ho=>?_
 refine sq rfl (rg [(0,.v (.sl S44) x0),(5,.ptr 5000 [] 0),(6,.ptr 5020 [] 0),(7,.ptr 5040 [] 0),(9,.ptr 5080 [] 0)] [(5000,.var 52 (.arr 8 (.int .u32)) x1),(5020,.var 46 (.arr 8 (.int .u32)) x2),(5040,.var 44 S44 x3),(5080,.var 52 (.arr 8 (.int .u32)) (replicate 8 0))] [] [] 5000 rfl (by kernel_rfl) c0 (sq rfl ?_))
 obtain ⟨t1,h1,F0⟩:=obd F0
 refine rg [(5,.ptr 5000 [] 0),(6,.ptr 5020 [] 0),(7,.ptr 5040 [] 0),(9,.ptr 5080 [] 0),(11,.row 5101)] [(5000,.var 52 (.arr 8 (.int .u32)) x1),(5020,.var 46 (.arr 8 (.int .u32)) x2),(5040,.var 44 S44 x3),(5080,.var 52 (.arr 8 (.int .u32)) (replicate 8 0)),(5101,.row 44 S44 t1)] [(1,⟨[.v (.sl S44)],.row 0,some ([],[(0,.row 44 S44 t1)])⟩)] [] 5081 rfl (by kernel_rfl) (cc (W_slices_Clone_api_Kept_api_Kept h1) c0) (sq rfl (sq rfl ?_))
 obtain ⟨r1,F1,F0⟩:=obd F0
 refine run_cut (fun r1'=>r1=r1') (fun r1=>[(5,.ptr 5000 [] 0),(7,.ptr 5040 [] 0),(9,.ptr 5080 [] 0),(11,.row 5101),(36,vb r1)]) (fun r1=>[(5000,.var 52 (.arr 8 (.int .u32)) x1),(5040,.var 44 S44 x3),(5080,.var 52 (.arr 8 (.int .u32)) (replicate 8 0)),(5101,.row 44 S44 t1)]) (fun r1' h2=>?_) (fun J1_0=>?_)
 ·subst h2
  refine run_if rfl rfl (fun h3=>?_) (fun h3=>?_)
  ·replace F0:=ift h3 F0
   refine sq rfl (rG [(8,.row 5101),(9,.ptr 5080 [] 0),(10,vb false)] [(5080,.var 52 (.arr 8 (.int .u32)) x1),(5101,.row 44 S44 t1)] [] [] 5102 rfl rfl (by kernel_rfl) c0 ?_)
   obtain rfl:=inj F0
   refine run_frz (ρ':=[(8,.v (.sl S44) t1),(9,.ptr 5080 [] 0),(10,vb false)]) (H':=[(5080,.var 52 (.arr 8 (.int .u32)) x1)]) 5101 rfl rfl rfl (by kernel_rfl) (by kernel_rfl) ?_
   exact ret_pure (q:=[.v (.sl S44) t1,.v (.arr 8 (.int .u32)) x1,vb false]) [(.sl S44),(.arr 8 (.int .u32)),.bool] rfl rfl (by kernel_rfl)
  ·replace F0:=ifn h3 F0
   refine sk rfl (sq rfl ?_)
   obtain ⟨t2,h4,F0⟩:=obd F0
   refine rg [(5,.ptr 5000 [] 0),(7,.ptr 5040 [] 0),(9,.ptr 5080 [] 0),(11,.row 5143)] [(5000,.var 52 (.arr 8 (.int .u32)) x1),(5040,.var 44 S44 x3),(5080,.var 52 (.arr 8 (.int .u32)) (replicate 8 0)),(5143,.row 44 S44 t2)] [(2,⟨[.v .unit,.fn S44 .bool (fun x=>F_kept_Take_1 x x3)],.row 1,some ([5101],[(1,.row 44 S44 t2)])⟩)] [] 5102 rfl (by kernel_rfl) (cc (show Enters Tryz.prog 185 from Tryz.call185) (cc (show ∀x y,(fun x=>F_kept_Take_1 x x3) x=some y→Pure Tryz.prog 185 (.v S44 x::[.fp S44 x3]) (.v .bool y) from fun x y h=>W_kept_Take_1 h) (cc (W_slices_DeleteFunc_api_Kept_api_Kept h4) c0))) (sq rfl ?_)
   obtain ⟨h5,F0⟩:=ifg F0
   refine rg [(5,.ptr 5000 [] 0),(7,.ptr 5040 [] 0),(9,.ptr 5080 [] 0),(11,.row 5143)] [(5000,.var 52 (.arr 8 (.int .u32)) (List.set x1 (toNat x3.1) x3.2.1)),(5040,.var 44 S44 x3),(5080,.var 52 (.arr 8 (.int .u32)) (replicate 8 0)),(5143,.row 44 S44 t2)] [] [] 5144 rfl (by kernel_rfl) (cc h5 (cc (show offP (.arr 8 (.int .u32)) [.i (toNat x3.1)]=(0+toNat x3.1*1) from offJ (p:=[]) (q:=[]) rfl (by kernel_rfl) (by kernel_rfl) (by kernel_rfl)) (cc (oo h5 trivial) c0))) (sq rfl ?_)
   obtain ⟨h6,F0⟩:=ifg F0
   refine rG [(8,.row 5204),(9,.ptr 5080 [] 0),(10,vb true)] [(5080,.var 52 (.arr 8 (.int .u32)) (List.set x1 (toNat x3.1) x3.2.1)),(5204,.row 44 S44 (t2++[x3]))] [] [] 5144 rfl rfl (by kernel_rfl) (cc h6.1 (cc h6.2 (cc (show (.v (.arr 8 (.int .u32)) (List.set x1 (toNat x3.1) x3.2.1):AVal)=(.v (.arr 8 (.int .u32)) (List.set x1 (toNat x3.1) x3.2.1)) from rfl) (cc (show (.v (.arr 8 (.int .u32)) (List.set x1 (toNat x3.1) x3.2.1):AVal)=(.v (.arr 8 (.int .u32)) (List.set x1 (toNat x3.1) x3.2.1)) from rfl) c0)))) ?_
   obtain rfl:=inj F0
   refine run_frz (ρ':=[(8,.v (.sl S44) (t2++[x3])),(9,.ptr 5080 [] 0),(10,vb true)]) (H':=[(5080,.var 52 (.arr 8 (.int .u32)) (List.set x1 (toNat x3.1) x3.2.1))]) 5204 rfl rfl rfl (by kernel_rfl) (by kernel_rfl) ?_
   exact ret_pure (q:=[.v (.sl S44) (t2++[x3]),.v (.arr 8 (.int .u32)) (List.set x1 (toNat x3.1) x3.2.1),vb true]) [(.sl S44),(.arr 8 (.int .u32)),.bool] rfl rfl (by kernel_rfl)
 obtain ⟨t3,h7,F1⟩:=obd F1
 obtain ⟨t4,h8,F1⟩:=obd F1
 rcases Bool.eq_false_or_eq_true (!t4) with h9|h9
 ·replace F1:=ift h9 F1
  refine rG [(5,.ptr 5000 [] 0),(7,.ptr 5040 [] 0),(9,.ptr 5080 [] 0),(11,.row 5101),(36,vb true)] [(5000,.var 52 (.arr 8 (.int .u32)) x1),(5040,.var 44 S44 x3),(5080,.var 52 (.arr 8 (.int .u32)) (replicate 8 0)),(5101,.row 44 S44 t1)] [(1,⟨[.v (.arr 8 (.int .u32))],.v (.sl (.int .i64)) t3,none⟩),(4,⟨[.v (.sl (.int .i64)),.v (.int .i64)],vb t4,none⟩)] [(6,true)] 5102 rfl rfl (by kernel_rfl) (cc (W_ident_List h7) (cc (W_slices_Contains_int_int h8) (cc h9 c0))) ?_
  exact J1_0 _ (inj F1).symm
 ·replace F1:=ifn h9 F1
  obtain ⟨h10,F1⟩:=ifg F1
  rcases Bool.eq_false_or_eq_true ((getD x1 (toNat x3.1) 0)==4294967295) with h11|h11
  ·replace F1:=ift h11 F1
   refine rG [(5,.ptr 5000 [] 0),(7,.ptr 5040 [] 0),(9,.ptr 5080 [] 0),(11,.row 5101),(36,vb true)] [(5000,.var 52 (.arr 8 (.int .u32)) x1),(5040,.var 44 S44 x3),(5080,.var 52 (.arr 8 (.int .u32)) (replicate 8 0)),(5101,.row 44 S44 t1)] [(1,⟨[.v (.arr 8 (.int .u32))],.v (.sl (.int .i64)) t3,none⟩),(4,⟨[.v (.sl (.int .i64)),.v (.int .i64)],vb t4,none⟩)] [(6,false),(13,true)] 5102 rfl rfl (by kernel_rfl) (cc (W_ident_List h7) (cc (W_slices_Contains_int_int h8) (cc h9 (cc h10 (cc (show offP (.arr 8 (.int .u32)) [.i (toNat x3.1)]=(0+toNat x3.1*1) from offJ (p:=[]) (q:=[]) rfl (by kernel_rfl) (by kernel_rfl) (by kernel_rfl)) (cc (oo h10 trivial) (cc h11 c0))))))) ?_
   exact J1_0 _ (inj F1).symm
  ·replace F1:=ifn h11 F1
   obtain ⟨h12,F1⟩:=ifg F1
   refine rG [(5,.ptr 5000 [] 0),(7,.ptr 5040 [] 0),(9,.ptr 5080 [] 0),(11,.row 5101),(36,vb (x3.2.1 != (wrap .u32 ((getD x1 (toNat x3.1) 0)+1))))] [(5000,.var 52 (.arr 8 (.int .u32)) x1),(5040,.var 44 S44 x3),(5080,.var 52 (.arr 8 (.int .u32)) (replicate 8 0)),(5101,.row 44 S44 t1)] [(1,⟨[.v (.arr 8 (.int .u32))],.v (.sl (.int .i64)) t3,none⟩),(4,⟨[.v (.sl (.int .i64)),.v (.int .i64)],vb t4,none⟩)] [(6,false),(13,false)] 5102 rfl rfl (by kernel_rfl) (cc (W_ident_List h7) (cc (W_slices_Contains_int_int h8) (cc h9 (cc h10 (cc (show offP (.arr 8 (.int .u32)) [.i (toNat x3.1)]=(0+toNat x3.1*1) from offJ (p:=[]) (q:=[]) rfl (by kernel_rfl) (by kernel_rfl) (by kernel_rfl)) (cc (oo h10 trivial) (cc h11 (cc h12 (cc (show offP (.arr 8 (.int .u32)) [.i (toNat x3.1)]=(0+toNat x3.1*1) from offJ (p:=[]) (q:=[]) rfl (by kernel_rfl) (by kernel_rfl) (by kernel_rfl)) (cc (oo h12 trivial) c0)))))))))) ?_
   exact J1_0 _ (inj F1).symm
noncomputable def F_kept_Get_1 (x0:S44.ty) (x1:Int) (x2:Int):Option Bool :=
 (show Option Bool from if (x0.1==x1)=true then some (x0.2.1==x2) else some false).bind (fun r1=>some r1)
theorem W_kept_Get_1 {x0:S44.ty} {x1:Int} {x2:Int} {y:Bool} (F0:F_kept_Get_1 x0 x1 x2=some y):Pure Tryz.prog 159 [.v S44 x0,.fp (.int .i64) x1,.fp (.int .u32) x2] (vb y):=by
 unfold F_kept_Get_1 at F0
 refine pure_of_run @Tryz.call159 @Tryz.func159 rfl rfl fun w M ho=>?_
 refine sq rfl (rg [(1,.fp (.int .i64) x1),(2,.fp (.int .u32) x2),(3,.ptr 5000 [] 0)] [(5000,.var 44 S44 x0)] [] [] 5000 rfl (by kernel_rfl) c0 (sq rfl ?_))
 obtain ⟨r1,F1,F0⟩:=obd F0
 refine run_cut (fun r1'=>r1=r1') (fun r1=>[(4,vb r1)]) (fun r1=>[]) (fun r1' h1=>?_) (fun J1_0=>?_)
 ·subst h1
  obtain rfl:=inj F0
  exact ret_pure (q:=[vb r1]) [.bool] rfl rfl (by kernel_rfl)
 rcases Bool.eq_false_or_eq_true (x0.1==x1) with h2|h2
 ·replace F1:=ift h2 F1
  refine rg [(4,vb (x0.2.1==x2))] [] [] [(4,true)] 5001 rfl (by kernel_rfl) (cc h2 c0) ?_
  exact J1_0 _ (inj F1).symm
 ·replace F1:=ifn h2 F1
  refine rg [(4,vb false)] [] [] [(4,false)] 5001 rfl (by kernel_rfl) (cc h2 c0) ?_
  exact J1_0 _ (inj F1).symm
noncomputable def F_kept_Get (x0:(List S44.ty)) (x1:Int) (x2:Int):Option ((List (List S39.ty))×Bool) :=
 (F_slices_IndexFunc_api_Kept_api_Kept x0 (fun x=>F_kept_Get_1 x x1 x2)).bind fun t1=>(if (decide (t1<0))=true then some (replicate 3 (replicate 2 (0,0,0,0,0,[])),false) else if 0≤t1∧t1<((length x0:Nat):Int) then (some ((getD x0 (toNat t1) S44.dflt).2.2,true)) else none)
theorem W_kept_Get {x0:(List S44.ty)} {x1:Int} {x2:Int} {y:((List (List S39.ty))×Bool)} (F0:F_kept_Get x0 x1 x2=some y):Pure Tryz.prog 125 [.v (.sl S44) x0,vi x1,.v (.int .u32) x2] (.tup [.v (.arr 3 (.arr 2 S39)) y.1,vb y.2]):=by
 unfold F_kept_Get at F0
 refine pure_of_run @Tryz.call125 @Tryz.func125 rfl rfl fun w M ho=>?_
 refine sq rfl (rg [(0,.v (.sl S44) x0),(4,.ptr 5000 [] 0),(5,.ptr 5020 [] 0),(6,.ptr 5040 [] 0)] [(5000,.var 3 (.int .i64) x1),(5020,.var 34 (.int .u32) x2),(5040,.var 42 (.arr 3 (.arr 2 S39)) (replicate 3 (replicate 2 (0,0,0,0,0,[]))))] [] [] 5000 rfl (by kernel_rfl) c0 (sq rfl ?_))
 obtain ⟨t1,h1,F0⟩:=obd F0
 refine rg [(0,.v (.sl S44) x0),(6,.ptr 5040 [] 0),(8,vi t1)] [(5040,.var 42 (.arr 3 (.arr 2 S39)) (replicate 3 (replicate 2 (0,0,0,0,0,[]))))] [(2,⟨[.v (.sl S44),.fn S44 .bool (fun x=>F_kept_Get_1 x x1 x2)],vi t1,none⟩)] [] 5041 rfl (by kernel_rfl) (cc (show Enters Tryz.prog 159 from Tryz.call159) (cc (show ∀x y,(fun x=>F_kept_Get_1 x x1 x2) x=some y→Pure Tryz.prog 159 (.v S44 x::[.fp (.int .i64) x1,.fp (.int .u32) x2]) (.v .bool y) from fun x y h=>W_kept_Get_1 h) (cc (W_slices_IndexFunc_api_Kept_api_Kept h1) c0))) (sq rfl (sq rfl (rg [(0,.v (.sl S44) x0),(6,.ptr 5040 [] 0),(8,vi t1),(13,vb (decide (t1<0)))] [(5040,.var 42 (.arr 3 (.arr 2 S39)) (replicate 3 (replicate 2 (0,0,0,0,0,[]))))] [] [] 5041 rfl (by kernel_rfl) c0 ?_)))
 refine run_if rfl rfl (fun h2=>?_) (fun h2=>?_)
 ·replace F0:=ift h2 F0
  refine sq rfl (rg [(6,.ptr 5040 [] 0),(7,vb false)] [(5040,.var 42 (.arr 3 (.arr 2 S39)) (replicate 3 (replicate 2 (0,0,0,0,0,[]))))] [] [] 5041 rfl (by kernel_rfl) c0 ?_)
  obtain rfl:=inj F0
  exact ret_pure (q:=[.v (.arr 3 (.arr 2 S39)) (replicate 3 (replicate 2 (0,0,0,0,0,[]))),vb false]) [(.arr 3 (.arr 2 S39)),.bool] rfl rfl (by kernel_rfl)
 ·replace F0:=ifn h2 F0
  refine sk rfl (sq rfl ?_)
  obtain ⟨h3,F0⟩:=ifg F0
  refine rg [(6,.ptr 5040 [] 0),(7,vb true)] [(5040,.var 42 (.arr 3 (.arr 2 S39)) (getD x0 (toNat t1) S44.dflt).2.2)] [] [] 5041 rfl (by kernel_rfl) (cc h3 c0) ?_
  obtain rfl:=inj F0
  exact ret_pure (q:=[.v (.arr 3 (.arr 2 S39)) (getD x0 (toNat t1) S44.dflt).2.2,vb true]) [(.arr 3 (.arr 2 S39)),.bool] rfl rfl (by kernel_rfl)
noncomputable def F_kept_Pick (x0:(List S44.ty)) (x1:Int):Option (S44.ty×Bool) :=
 if (((length x0:Nat):Int)==0)=true then some ((0,0,replicate 3 (replicate 2 (0,0,0,0,0,[]))),false) else if (wrap .u64 ((length x0:Nat):Int))≠(0:Int) then (if 0≤(Int.tmod (wrap .u64 x1) (wrap .u64 ((length x0:Nat):Int)))∧(Int.tmod (wrap .u64 x1) (wrap .u64 ((length x0:Nat):Int)))<((length x0:Nat):Int) then (some (getD x0 (toNat (Int.tmod (wrap .u64 x1) (wrap .u64 ((length x0:Nat):Int)))) S44.dflt,true)) else none) else none
theorem W_kept_Pick {x0:(List S44.ty)} {x1:Int} {y:(S44.ty×Bool)} (F0:F_kept_Pick x0 x1=some y):Pure Tryz.prog 127 [.v (.sl S44) x0,.v (.int .u32) x1] (.tup [.v S44 y.1,vb y.2]):=by
 unfold F_kept_Pick at F0
 refine pure_of_run @Tryz.call127 @Tryz.func127 rfl rfl fun w M ho=>?_
 refine sq rfl (rg [(0,.v (.sl S44) x0),(1,.v (.int .u32) x1),(4,.ptr 5000 [] 0)] [(5000,.var 44 S44 (0,0,replicate 3 (replicate 2 (0,0,0,0,0,[]))))] [] [] 5000 rfl (by kernel_rfl) c0 (sq rfl (sq rfl (rg [(0,.v (.sl S44) x0),(1,.v (.int .u32) x1),(4,.ptr 5000 [] 0),(8,vb (((length x0:Nat):Int)==0))] [(5000,.var 44 S44 (0,0,replicate 3 (replicate 2 (0,0,0,0,0,[]))))] [] [] 5001 rfl (by kernel_rfl) c0 ?_))))
 refine run_if rfl rfl (fun h1=>?_) (fun h1=>?_)
 ·replace F0:=ift h1 F0
  refine sq rfl (rg [(4,.ptr 5000 [] 0),(5,vb false)] [(5000,.var 44 S44 (0,0,replicate 3 (replicate 2 (0,0,0,0,0,[]))))] [] [] 5001 rfl (by kernel_rfl) c0 ?_)
  obtain rfl:=inj F0
  exact ret_pure (q:=[.v S44 (0,0,replicate 3 (replicate 2 (0,0,0,0,0,[]))),vb false]) [S44,.bool] rfl rfl (by kernel_rfl)
 ·replace F0:=ifn h1 F0
  refine sk rfl (sq rfl ?_)
  obtain ⟨h2,F0⟩:=ifg F0
  obtain ⟨h3,F0⟩:=ifg F0
  refine rg [(4,.ptr 5000 [] 0),(5,vb true)] [(5000,.var 44 S44 (getD x0 (toNat (Int.tmod (wrap .u64 x1) (wrap .u64 ((length x0:Nat):Int)))) S44.dflt))] [] [] 5001 rfl (by kernel_rfl) (cc h2 (cc h3 c0)) ?_
  obtain rfl:=inj F0
  exact ret_pure (q:=[.v S44 (getD x0 (toNat (Int.tmod (wrap .u64 x1) (wrap .u64 ((length x0:Nat):Int)))) S44.dflt),vb true]) [S44,.bool] rfl rfl (by kernel_rfl)
noncomputable def F_kept_offered (x0:S110.ty):Option (List S44.ty) :=
 (show Option (List S44.ty) from if (decide (x0.2.2.2.2.2.2.2.2.2.1>1))=true then if apOk 1 352 then (some [(wrap .i64 x0.1,wrap .u32 (x0.2.2.2.2.2.2.2.2.2.1-1),x0.2.2.2.2.2.2.2.2.2.2.2.1)]) else none else some []).bind (fun r1=>if apOk (length r1+2) 352 then (some (r1++[(wrap .i64 x0.1,x0.2.2.2.2.2.2.2.2.2.1,x0.2.2.2.2.2.2.2.2.2.2.1),(wrap .i64 x0.2.2.2.2.2.2.2.2.2.2.2.2.1,x0.2.2.2.2.2.2.2.2.2.2.2.2.2)])) else none)
theorem W_kept_offered {x0:S110.ty} {y:(List S44.ty)} (F0:F_kept_offered x0=some y):Pure Tryz.prog 192 [.v S110 x0] (.v (.sl S44) y):=by
 unfold F_kept_offered at F0
 refine pure_of_run @Tryz.call192 @Tryz.func192 rfl rfl fun w M ho=>?_
 refine sq rfl (rg [(1,.ptr 5000 [] 0)] [(5000,.var 110 S110 x0)] [] [] 5000 rfl (by kernel_rfl) c0 (sq rfl (rg [(1,.ptr 5000 [] 0),(3,.v (.nl .any) ())] [(5000,.var 110 S110 x0)] [] [] 5001 rfl (by kernel_rfl) c0 (sq rfl (sq rfl (rg [(1,.ptr 5000 [] 0),(3,.v (.nl .any) ()),(6,vb (decide (x0.2.2.2.2.2.2.2.2.2.1>1)))] [(5000,.var 110 S110 x0)] [] [] 5001 rfl (by kernel_rfl) c0 ?_))))))
 obtain ⟨r1,F1,F0⟩:=obd F0
 refine run_cut (fun r1'=>r1=r1') (fun r1=>[(1,.ptr 5000 [] 0),(3,.row 1103)]) (fun r1=>[(1103,.row 44 S44 r1),(5000,.var 110 S110 x0)]) (fun r1' h1=>?_) (fun J1_0=>?_)
 ·subst h1
  refine sq rfl ?_
  obtain ⟨h2,F0⟩:=ifg F0
  refine rg [(2,.row 5361)] [(5361,.row 44 S44 (r1++[(wrap .i64 x0.1,x0.2.2.2.2.2.2.2.2.2.1,x0.2.2.2.2.2.2.2.2.2.2.1),(wrap .i64 x0.2.2.2.2.2.2.2.2.2.2.2.2.1,x0.2.2.2.2.2.2.2.2.2.2.2.2.2)]))] [] [] 5001 rfl (by kernel_rfl) (cc h2.1 (cc h2.2 c0)) ?_
  obtain rfl:=inj F0
  refine run_frz (ρ':=[(2,.v (.sl S44) (r1++[(wrap .i64 x0.1,x0.2.2.2.2.2.2.2.2.2.1,x0.2.2.2.2.2.2.2.2.2.2.1),(wrap .i64 x0.2.2.2.2.2.2.2.2.2.2.2.2.1,x0.2.2.2.2.2.2.2.2.2.2.2.2.2)]))]) (H':=[]) 5361 rfl rfl rfl (by kernel_rfl) (by kernel_rfl) ?_
  exact ret_pure (q:=[.v (.sl S44) (r1++[(wrap .i64 x0.1,x0.2.2.2.2.2.2.2.2.2.1,x0.2.2.2.2.2.2.2.2.2.2.1),(wrap .i64 x0.2.2.2.2.2.2.2.2.2.2.2.2.1,x0.2.2.2.2.2.2.2.2.2.2.2.2.2)])]) [(.sl S44)] rfl rfl (by kernel_rfl)
 refine run_if rfl rfl (fun h3=>?_) (fun h3=>?_)
 ·replace F1:=ift h3 F1
  obtain ⟨h4,F1⟩:=ifg F1
  refine rg [(1,.ptr 5000 [] 0),(3,.row 5221)] [(5000,.var 110 S110 x0),(5221,.row 44 S44 [(wrap .i64 x0.1,wrap .u32 (x0.2.2.2.2.2.2.2.2.2.1-1),x0.2.2.2.2.2.2.2.2.2.2.2.1)])] [] [] 5001 rfl (by kernel_rfl) (cc h4.1 (cc h4.2 c0)) (run_ren (ρ':=[(1,.ptr 5000 [] 0),(3,.row 1103)]) (H':=[(1103,.row 44 S44 [(wrap .i64 x0.1,wrap .u32 (x0.2.2.2.2.2.2.2.2.2.1-1),x0.2.2.2.2.2.2.2.2.2.2.2.1)]),(5000,.var 110 S110 x0)]) 5221 1103 rfl (by kernel_rfl) rfl (by kernel_rfl) rfl ?_)
  exact J1_0 _ (inj F1).symm
 ·replace F1:=ifn h3 F1
  refine sk rfl (tm (ρ':=[(1,.ptr 5000 [] 0),(3,.v (.nl .any) ())]) (H':=[(5000,.var 110 S110 x0)]) (by kernel_rfl) (by kernel_rfl) rfl (run_nilrow (ρ':=[(1,.ptr 5000 [] 0),(3,.row 1103)]) 3 1103 44 S44 rfl (by kernel_rfl) (by kernel_rfl) ?_))
  exact J1_0 _ (inj F1).symm
noncomputable def F_kept_Offer_b1 (t2:(List S44.ty)) (x2:(List Int)) (x4:(List Int)) (s1:((List S44.ty)×Int×(List Int)×(List S44.ty))):Option (((List S44.ty)×Int×(List Int)×(List S44.ty))⊕((List S44.ty)×(List Int)×(List S44.ty))) :=
 if (decide (s1.2.1<((length t2:Nat):Int)))=true then if 0≤s1.2.1∧s1.2.1<((length t2:Nat):Int) then (show Option Bool from if (decide ((getD t2 (toNat s1.2.1) S44.dflt).1≥8))=true then some true else if 0≤(getD t2 (toNat s1.2.1) S44.dflt).1∧(getD t2 (toNat s1.2.1) S44.dflt).1<((8:Nat):Int) then (some (decide ((getD t2 (toNat s1.2.1) S44.dflt).2.1>(getD x4 (toNat (getD t2 (toNat s1.2.1) S44.dflt).1) 0)))) else none).bind (fun r2=>if (r2)=true then some (Sum.inl (s1.1,wrap .i64 (s1.2.1+1),s1.2.2.1,s1.2.2.2)) else (F_kept_Take s1.1 s1.2.2.1 x2 (getD t2 (toNat s1.2.1) S44.dflt)).bind fun t3=>(if t3.2.2=true then if apOk (length s1.2.2.2+1) 352 then (some (Sum.inl (t3.1,wrap .i64 (s1.2.1+1),t3.2.1,s1.2.2.2++[getD t2 (toNat s1.2.1) S44.dflt]))) else none else some (Sum.inl (t3.1,wrap .i64 (s1.2.1+1),t3.2.1,s1.2.2.2)))) else none else some (Sum.inr (s1.1,s1.2.2.1,s1.2.2.2))
noncomputable def F_kept_Offer (x0:(List S44.ty)) (x1:(List Int)) (x2:(List Int)) (x3:S110.ty) (x4:(List Int)):Option ((List S44.ty)×(List Int)×(List S44.ty)) :=
 (F_slices_Clone_api_Kept_api_Kept x0).bind fun t1=>((F_kept_offered x3).bind fun t2=>((loopO (F_kept_Offer_b1 t2 x2 x4) (t1,0,x1,[])).bind (fun r1=>some (r1.1,r1.2.1,r1.2.2))))
theorem W_kept_Offer {x0:(List S44.ty)} {x1:(List Int)} {x2:(List Int)} {x3:S110.ty} {x4:(List Int)} {y:((List S44.ty)×(List Int)×(List S44.ty))} (F0:F_kept_Offer x0 x1 x2 x3 x4=some y):Pure Tryz.prog 171 [.v (.sl S44) x0,.v (.arr 8 (.int .u32)) x1,.v (.arr 8 (.int .u32)) x2,.v S110 x3,.v (.arr 8 (.int .u32)) x4] (.tup [.v (.sl S44) y.1,.v (.arr 8 (.int .u32)) y.2.1,.v (.sl S44) y.2.2]):=by
 unfold F_kept_Offer at F0
 refine pure_of_run @Tryz.call171 @Tryz.func171 rfl rfl fun w M ho=>?_
 refine sq rfl (rg [(0,.v (.sl S44) x0),(6,.ptr 5000 [] 0),(7,.ptr 5020 [] 0),(8,.ptr 5040 [] 0),(9,.ptr 5060 [] 0),(11,.ptr 5100 [] 0)] [(5000,.var 52 (.arr 8 (.int .u32)) x1),(5020,.var 46 (.arr 8 (.int .u32)) x2),(5040,.var 110 S110 x3),(5060,.var 52 (.arr 8 (.int .u32)) x4),(5100,.var 52 (.arr 8 (.int .u32)) (replicate 8 0))] [] [] 5000 rfl (by kernel_rfl) c0 (sq rfl ?_))
 obtain ⟨t1,h1,F0⟩:=obd F0
 refine rg [(6,.ptr 5000 [] 0),(7,.ptr 5020 [] 0),(8,.ptr 5040 [] 0),(9,.ptr 5060 [] 0),(11,.ptr 5100 [] 0),(13,.v (.sl S44) t1)] [(5000,.var 52 (.arr 8 (.int .u32)) x1),(5020,.var 46 (.arr 8 (.int .u32)) x2),(5040,.var 110 S110 x3),(5060,.var 52 (.arr 8 (.int .u32)) x4),(5100,.var 52 (.arr 8 (.int .u32)) (replicate 8 0))] [(1,⟨[.v (.sl S44)],.v (.sl S44) t1,none⟩)] [] 5101 rfl (by kernel_rfl) (cc (show Pure Tryz.prog 40 [.v (.sl S44) x0] (.v (.sl S44) t1) from pure_of_mut rfl (W_slices_Clone_api_Kept_api_Kept h1)) c0) (sq rfl (rg [(6,.ptr 5000 [] 0),(7,.ptr 5020 [] 0),(8,.ptr 5040 [] 0),(9,.ptr 5060 [] 0),(11,.ptr 5100 [] 0),(13,.v (.sl S44) t1),(14,.v (.nl .any) ())] [(5000,.var 52 (.arr 8 (.int .u32)) x1),(5020,.var 46 (.arr 8 (.int .u32)) x2),(5040,.var 110 S110 x3),(5060,.var 52 (.arr 8 (.int .u32)) x4),(5100,.var 52 (.arr 8 (.int .u32)) (replicate 8 0))] [] [] 5101 rfl (by kernel_rfl) c0 (sq rfl (sq rfl ?_))))
 obtain ⟨t2,h2,F0⟩:=obd F0
 refine rg [(6,.ptr 5000 [] 0),(7,.ptr 5020 [] 0),(9,.ptr 5060 [] 0),(11,.ptr 5100 [] 0),(13,.v (.sl S44) t1),(14,.v (.nl .any) ()),(21,.v (.sl S44) t2),(22,vi ((length t2:Nat):Int)),(23,vi 0)] [(5000,.var 52 (.arr 8 (.int .u32)) x1),(5020,.var 46 (.arr 8 (.int .u32)) x2),(5060,.var 52 (.arr 8 (.int .u32)) x4),(5100,.var 52 (.arr 8 (.int .u32)) (replicate 8 0))] [(1,⟨[.v S110],.v (.sl S44) t2,none⟩)] [] 5101 rfl (by kernel_rfl) (cc (W_kept_offered h2) c0) (bk rfl (run_nilrow (ρ':=[(6,.ptr 5000 [] 0),(7,.ptr 5020 [] 0),(9,.ptr 5060 [] 0),(11,.ptr 5100 [] 0),(13,.v (.sl S44) t1),(14,.row 1114),(21,.v (.sl S44) t2),(22,vi ((length t2:Nat):Int)),(23,vi 0)]) 14 1114 44 S44 rfl (by kernel_rfl) (by kernel_rfl) ?_))
 obtain ⟨r1,hl1,F0⟩:=obd F0
 refine run_cutx 0 rfl (fun r1'=>r1=r1') (fun r1=>[(6,.ptr 5000 [] 0),(11,.ptr 5100 [] 0),(13,.v (.sl S44) r1.1),(14,.row 1114)]) (fun r1=>[(1114,.row 44 S44 r1.2.2),(5000,.var 52 (.arr 8 (.int .u32)) r1.2.1),(5100,.var 52 (.arr 8 (.int .u32)) (replicate 8 0))]) (fun r1' h3=>?_) (fun J1_0=>?_)
 ·subst h3
  refine sq rfl (rG [(10,.v (.sl S44) r1.1),(11,.ptr 5100 [] 0),(12,.row 1114)] [(1114,.row 44 S44 r1.2.2),(5100,.var 52 (.arr 8 (.int .u32)) r1.2.1)] [] [] 5101 rfl rfl (by kernel_rfl) c0 ?_)
  obtain rfl:=inj F0
  refine run_frz (ρ':=[(10,.v (.sl S44) r1.1),(11,.ptr 5100 [] 0),(12,.v (.sl S44) r1.2.2)]) (H':=[(5100,.var 52 (.arr 8 (.int .u32)) r1.2.1)]) 1114 rfl rfl rfl (by kernel_rfl) (by kernel_rfl) ?_
  exact ret_pure (q:=[.v (.sl S44) r1.1,.v (.arr 8 (.int .u32)) r1.2.1,.v (.sl S44) r1.2.2]) [(.sl S44),(.arr 8 (.int .u32)),(.sl S44)] rfl rfl (by kernel_rfl)
 refine run_loop rfl (run_loopO hl1 (fun s1=>[(6,.ptr 5000 [] 0),(7,.ptr 5020 [] 0),(9,.ptr 5060 [] 0),(11,.ptr 5100 [] 0),(13,.v (.sl S44) s1.1),(14,.row 1114),(21,.v (.sl S44) t2),(22,vi ((length t2:Nat):Int)),(23,vi s1.2.1)]) (fun s1=>[(1114,.row 44 S44 s1.2.2.2),(5000,.var 52 (.arr 8 (.int .u32)) s1.2.2.1),(5020,.var 46 (.arr 8 (.int .u32)) x2),(5060,.var 52 (.arr 8 (.int .u32)) x4),(5100,.var 52 (.arr 8 (.int .u32)) (replicate 8 0))]) rfl rfl (fun s1 o1 F1 ih1 hr1=>?_))
 unfold F_kept_Offer_b1 at F1
 refine run_again (sq rfl (rg [(6,.ptr 5000 [] 0),(7,.ptr 5020 [] 0),(9,.ptr 5060 [] 0),(11,.ptr 5100 [] 0),(13,.v (.sl S44) s1.1),(14,.row 1114),(21,.v (.sl S44) t2),(22,vi ((length t2:Nat):Int)),(23,vi s1.2.1),(24,vb (decide (s1.2.1<((length t2:Nat):Int))))] [(1114,.row 44 S44 s1.2.2.2),(5000,.var 52 (.arr 8 (.int .u32)) s1.2.2.1),(5020,.var 46 (.arr 8 (.int .u32)) x2),(5060,.var 52 (.arr 8 (.int .u32)) x4),(5100,.var 52 (.arr 8 (.int .u32)) (replicate 8 0))] [] [] 5101 rfl (by kernel_rfl) c0 (sq rfl ?_)))
 refine run_if rfl rfl (fun h4=>?_) (fun h4=>?_)
 ·replace F1:=ift h4 F1
  refine sk rfl (sq rfl (bk rfl (sq rfl ?_)))
  obtain ⟨h5,F1⟩:=ifg F1
  refine rg [(6,.ptr 5000 [] 0),(7,.ptr 5020 [] 0),(9,.ptr 5060 [] 0),(11,.ptr 5100 [] 0),(13,.v (.sl S44) s1.1),(14,.row 1114),(16,.ptr 5141 [] 0),(21,.v (.sl S44) t2),(22,vi ((length t2:Nat):Int)),(23,vi s1.2.1)] [(1114,.row 44 S44 s1.2.2.2),(5000,.var 52 (.arr 8 (.int .u32)) s1.2.2.1),(5020,.var 46 (.arr 8 (.int .u32)) x2),(5060,.var 52 (.arr 8 (.int .u32)) x4),(5100,.var 52 (.arr 8 (.int .u32)) (replicate 8 0)),(5141,.var 44 S44 (getD t2 (toNat s1.2.1) S44.dflt))] [] [] 5101 rfl (by kernel_rfl) (cc h5 c0) (sq rfl (sq rfl ?_))
  obtain ⟨r2,F2,F1⟩:=obd F1
  refine run_cut (fun r2'=>r2=r2') (fun r2=>[(6,.ptr 5000 [] 0),(7,.ptr 5020 [] 0),(9,.ptr 5060 [] 0),(11,.ptr 5100 [] 0),(13,.v (.sl S44) s1.1),(14,.row 1114),(16,.ptr 5141 [] 0),(21,.v (.sl S44) t2),(22,vi ((length t2:Nat):Int)),(23,vi s1.2.1),(38,vb r2)]) (fun r2=>[(1114,.row 44 S44 s1.2.2.2),(5000,.var 52 (.arr 8 (.int .u32)) s1.2.2.1),(5020,.var 46 (.arr 8 (.int .u32)) x2),(5060,.var 52 (.arr 8 (.int .u32)) x4),(5100,.var 52 (.arr 8 (.int .u32)) (replicate 8 0)),(5141,.var 44 S44 (getD t2 (toNat s1.2.1) S44.dflt))]) (fun r2' h6=>?_) (fun J2_0=>?_)
  ·subst h6
   refine run_if rfl rfl (fun h7=>?_) (fun h7=>?_)
   ·replace F1:=ift h7 F1
    refine run_exit rfl rfl (rg [(6,.ptr 5000 [] 0),(7,.ptr 5020 [] 0),(9,.ptr 5060 [] 0),(11,.ptr 5100 [] 0),(13,.v (.sl S44) s1.1),(14,.row 1114),(21,.v (.sl S44) t2),(22,vi ((length t2:Nat):Int)),(23,vi (wrap .i64 (s1.2.1+1)))] [(1114,.row 44 S44 s1.2.2.2),(5000,.var 52 (.arr 8 (.int .u32)) s1.2.2.1),(5020,.var 46 (.arr 8 (.int .u32)) x2),(5060,.var 52 (.arr 8 (.int .u32)) x4),(5100,.var 52 (.arr 8 (.int .u32)) (replicate 8 0))] [] [] 5142 rfl (by kernel_rfl) c0 ?_)
    exact ih1 _ (inj F1).symm
   ·replace F1:=ifn h7 F1
    refine sk rfl (sq rfl (rg [(6,.ptr 5000 [] 0),(7,.ptr 5020 [] 0),(9,.ptr 5060 [] 0),(11,.ptr 5100 [] 0),(13,.v (.sl S44) s1.1),(14,.row 1114),(16,.ptr 5141 [] 0),(21,.v (.sl S44) t2),(22,vi ((length t2:Nat):Int)),(23,vi s1.2.1)] [(1114,.row 44 S44 s1.2.2.2),(5000,.var 52 (.arr 8 (.int .u32)) s1.2.2.1),(5020,.var 46 (.arr 8 (.int .u32)) x2),(5060,.var 52 (.arr 8 (.int .u32)) x4),(5100,.var 52 (.arr 8 (.int .u32)) (replicate 8 0)),(5141,.var 44 S44 (getD t2 (toNat s1.2.1) S44.dflt))] [] [] 5142 rfl (by kernel_rfl) c0 (sq rfl ?_)))
    obtain ⟨t3,h8,F1⟩:=obd F1
    refine rg [(6,.ptr 5000 [] 0),(7,.ptr 5020 [] 0),(9,.ptr 5060 [] 0),(11,.ptr 5100 [] 0),(13,.v (.sl S44) t3.1),(14,.row 1114),(16,.ptr 5141 [] 0),(17,vb t3.2.2),(21,.v (.sl S44) t2),(22,vi ((length t2:Nat):Int)),(23,vi s1.2.1)] [(1114,.row 44 S44 s1.2.2.2),(5000,.var 52 (.arr 8 (.int .u32)) t3.2.1),(5020,.var 46 (.arr 8 (.int .u32)) x2),(5060,.var 52 (.arr 8 (.int .u32)) x4),(5100,.var 52 (.arr 8 (.int .u32)) (replicate 8 0)),(5141,.var 44 S44 (getD t2 (toNat s1.2.1) S44.dflt))] [(4,⟨[.v (.sl S44),.v (.arr 8 (.int .u32)),.v (.arr 8 (.int .u32)),.v S44],.tup [.v (.sl S44) t3.1,.v (.arr 8 (.int .u32)) t3.2.1,vb t3.2.2],none⟩)] [] 5142 rfl (by kernel_rfl) (cc (W_kept_Take h8) c0) (sq rfl (rg [(6,.ptr 5000 [] 0),(7,.ptr 5020 [] 0),(9,.ptr 5060 [] 0),(11,.ptr 5100 [] 0),(13,.v (.sl S44) t3.1),(14,.row 1114),(16,.ptr 5141 [] 0),(21,.v (.sl S44) t2),(22,vi ((length t2:Nat):Int)),(23,vi s1.2.1),(48,vb t3.2.2)] [(1114,.row 44 S44 s1.2.2.2),(5000,.var 52 (.arr 8 (.int .u32)) t3.2.1),(5020,.var 46 (.arr 8 (.int .u32)) x2),(5060,.var 52 (.arr 8 (.int .u32)) x4),(5100,.var 52 (.arr 8 (.int .u32)) (replicate 8 0)),(5141,.var 44 S44 (getD t2 (toNat s1.2.1) S44.dflt))] [] [] 5142 rfl (by kernel_rfl) c0 ?_))
    refine run_if rfl rfl (fun h9=>?_) (fun h9=>?_)
    ·replace F1:=ift h9 F1
     obtain ⟨h10,F1⟩:=ifg F1
     refine rg [(6,.ptr 5000 [] 0),(7,.ptr 5020 [] 0),(9,.ptr 5060 [] 0),(11,.ptr 5100 [] 0),(13,.v (.sl S44) t3.1),(14,.row 5202),(21,.v (.sl S44) t2),(22,vi ((length t2:Nat):Int)),(23,vi s1.2.1)] [(5000,.var 52 (.arr 8 (.int .u32)) t3.2.1),(5020,.var 46 (.arr 8 (.int .u32)) x2),(5060,.var 52 (.arr 8 (.int .u32)) x4),(5100,.var 52 (.arr 8 (.int .u32)) (replicate 8 0)),(5202,.row 44 S44 (s1.2.2.2++[getD t2 (toNat s1.2.1) S44.dflt]))] [] [] 5142 rfl (by kernel_rfl) (cc h10.1 (cc h10.2 c0)) (eb (rg [(6,.ptr 5000 [] 0),(7,.ptr 5020 [] 0),(9,.ptr 5060 [] 0),(11,.ptr 5100 [] 0),(13,.v (.sl S44) t3.1),(14,.row 5202),(21,.v (.sl S44) t2),(22,vi ((length t2:Nat):Int)),(23,vi (wrap .i64 (s1.2.1+1)))] [(5000,.var 52 (.arr 8 (.int .u32)) t3.2.1),(5020,.var 46 (.arr 8 (.int .u32)) x2),(5060,.var 52 (.arr 8 (.int .u32)) x4),(5100,.var 52 (.arr 8 (.int .u32)) (replicate 8 0)),(5202,.row 44 S44 (s1.2.2.2++[getD t2 (toNat s1.2.1) S44.dflt]))] [] [] 5203 rfl (by kernel_rfl) c0 (run_ren (ρ':=[(6,.ptr 5000 [] 0),(7,.ptr 5020 [] 0),(9,.ptr 5060 [] 0),(11,.ptr 5100 [] 0),(13,.v (.sl S44) t3.1),(14,.row 1114),(21,.v (.sl S44) t2),(22,vi ((length t2:Nat):Int)),(23,vi (wrap .i64 (s1.2.1+1)))]) (H':=[(1114,.row 44 S44 (s1.2.2.2++[getD t2 (toNat s1.2.1) S44.dflt])),(5000,.var 52 (.arr 8 (.int .u32)) t3.2.1),(5020,.var 46 (.arr 8 (.int .u32)) x2),(5060,.var 52 (.arr 8 (.int .u32)) x4),(5100,.var 52 (.arr 8 (.int .u32)) (replicate 8 0))]) 5202 1114 rfl (by kernel_rfl) rfl (by kernel_rfl) rfl ?_)))
     exact ih1 _ (inj F1).symm
    ·replace F1:=ifn h9 F1
     refine sk rfl (eb (rg [(6,.ptr 5000 [] 0),(7,.ptr 5020 [] 0),(9,.ptr 5060 [] 0),(11,.ptr 5100 [] 0),(13,.v (.sl S44) t3.1),(14,.row 1114),(21,.v (.sl S44) t2),(22,vi ((length t2:Nat):Int)),(23,vi (wrap .i64 (s1.2.1+1)))] [(1114,.row 44 S44 s1.2.2.2),(5000,.var 52 (.arr 8 (.int .u32)) t3.2.1),(5020,.var 46 (.arr 8 (.int .u32)) x2),(5060,.var 52 (.arr 8 (.int .u32)) x4),(5100,.var 52 (.arr 8 (.int .u32)) (replicate 8 0))] [] [] 5142 rfl (by kernel_rfl) c0 ?_))
     exact ih1 _ (inj F1).symm
  rcases Bool.eq_false_or_eq_true (decide ((getD t2 (toNat s1.2.1) S44.dflt).1≥8)) with h11|h11
  ·replace F2:=ift h11 F2
   refine rG [(6,.ptr 5000 [] 0),(7,.ptr 5020 [] 0),(9,.ptr 5060 [] 0),(11,.ptr 5100 [] 0),(13,.v (.sl S44) s1.1),(14,.row 1114),(16,.ptr 5141 [] 0),(21,.v (.sl S44) t2),(22,vi ((length t2:Nat):Int)),(23,vi s1.2.1),(38,vb true)] [(1114,.row 44 S44 s1.2.2.2),(5000,.var 52 (.arr 8 (.int .u32)) s1.2.2.1),(5020,.var 46 (.arr 8 (.int .u32)) x2),(5060,.var 52 (.arr 8 (.int .u32)) x4),(5100,.var 52 (.arr 8 (.int .u32)) (replicate 8 0)),(5141,.var 44 S44 (getD t2 (toNat s1.2.1) S44.dflt))] [] [(3,true)] 5142 rfl rfl (by kernel_rfl) (cc h11 c0) ?_
   exact J2_0 _ (inj F2).symm
  ·replace F2:=ifn h11 F2
   obtain ⟨h12,F2⟩:=ifg F2
   refine rG [(6,.ptr 5000 [] 0),(7,.ptr 5020 [] 0),(9,.ptr 5060 [] 0),(11,.ptr 5100 [] 0),(13,.v (.sl S44) s1.1),(14,.row 1114),(16,.ptr 5141 [] 0),(21,.v (.sl S44) t2),(22,vi ((length t2:Nat):Int)),(23,vi s1.2.1),(38,vb (decide ((getD t2 (toNat s1.2.1) S44.dflt).2.1>(getD x4 (toNat (getD t2 (toNat s1.2.1) S44.dflt).1) 0))))] [(1114,.row 44 S44 s1.2.2.2),(5000,.var 52 (.arr 8 (.int .u32)) s1.2.2.1),(5020,.var 46 (.arr 8 (.int .u32)) x2),(5060,.var 52 (.arr 8 (.int .u32)) x4),(5100,.var 52 (.arr 8 (.int .u32)) (replicate 8 0)),(5141,.var 44 S44 (getD t2 (toNat s1.2.1) S44.dflt))] [] [(3,false)] 5142 rfl rfl (by kernel_rfl) (cc h11 (cc h12 (cc (show offP (.arr 8 (.int .u32)) [.i (toNat (getD t2 (toNat s1.2.1) S44.dflt).1)]=(0+toNat (getD t2 (toNat s1.2.1) S44.dflt).1*1) from offJ (p:=[]) (q:=[]) rfl (by kernel_rfl) (by kernel_rfl) (by kernel_rfl)) (cc (oo h12 trivial) c0)))) ?_
   exact J2_0 _ (inj F2).symm
 ·replace F1:=ifn h4 F1
  refine run_exit rfl rfl (tm (ρ':=[(6,.ptr 5000 [] 0),(11,.ptr 5100 [] 0),(13,.v (.sl S44) s1.1),(14,.row 1114)]) (H':=[(1114,.row 44 S44 s1.2.2.2),(5000,.var 52 (.arr 8 (.int .u32)) s1.2.2.1),(5100,.var 52 (.arr 8 (.int .u32)) (replicate 8 0))]) (by kernel_rfl) (by kernel_rfl) rfl ?_)
  exact J1_0 _ (inrI hr1 F1).symm
noncomputable def F_cut_Union_b2 (s1:(Int×(List Int))) (x0:(List (List Int))) (s2:(Int×(List Int))):Option ((Int×(List Int))⊕(List Int)) :=
 if (decide (s2.1<8))=true then if 0≤s2.1∧s2.1<((8:Nat):Int) then (if 0≤s2.1∧s2.1<((8:Nat):Int) then (if 0≤s2.1∧s2.1<((8:Nat):Int) then (some (Sum.inl (wrap .i64 (s2.1+1),List.set s2.2 (toNat s2.1) (mx (getD s2.2 (toNat s2.1) 0) (getD (getD x0 (toNat s1.1) (replicate 8 0)) (toNat s2.1) 0))))) else none) else none) else none else some (Sum.inr s2.2)
noncomputable def F_cut_Union_b1 (x0:(List (List Int))) (s1:(Int×(List Int))):Option ((Int×(List Int))⊕(List Int)) :=
 if (decide (s1.1<((length x0:Nat):Int)))=true then if 0≤s1.1∧s1.1<((length x0:Nat):Int) then (loopO (F_cut_Union_b2 s1 x0) (0,s1.2)).bind (fun r2=>some (Sum.inl (wrap .i64 (s1.1+1),r2))) else none else some (Sum.inr s1.2)
noncomputable def F_cut_Union (x0:(List (List Int))):Option (List Int) :=
 (loopO (F_cut_Union_b1 x0) (0,replicate 8 0)).bind (fun r1=>some r1)
theorem W_cut_Union {x0:(List (List Int))} {y:(List Int)} (F0:F_cut_Union x0=some y):Pure Tryz.prog 179 [.v (.sl (.arr 8 (.int .u32))) x0] (.v (.arr 8 (.int .u32)) y):=by
 unfold F_cut_Union at F0
 refine pure_of_run @Tryz.call179 @Tryz.func179 rfl rfl fun w M ho=>?_
 refine sq rfl (rg [(0,.v (.sl (.arr 8 (.int .u32))) x0),(2,.ptr 5000 [] 0)] [(5000,.var 52 (.arr 8 (.int .u32)) (replicate 8 0))] [] [] 5000 rfl (by kernel_rfl) c0 (sq rfl (rg [(0,.v (.sl (.arr 8 (.int .u32))) x0),(2,.ptr 5000 [] 0),(3,.ptr 5001 [] 0)] [(5000,.var 52 (.arr 8 (.int .u32)) (replicate 8 0)),(5001,.var 52 (.arr 8 (.int .u32)) (replicate 8 0))] [] [] 5001 rfl (by kernel_rfl) c0 (sq rfl (sq rfl (rg [(2,.ptr 5000 [] 0),(3,.ptr 5001 [] 0),(8,.v (.sl (.arr 8 (.int .u32))) x0),(9,vi ((length x0:Nat):Int)),(10,vi 0)] [(5000,.var 52 (.arr 8 (.int .u32)) (replicate 8 0)),(5001,.var 52 (.arr 8 (.int .u32)) (replicate 8 0))] [] [] 5002 rfl (by kernel_rfl) c0 (bk rfl ?_)))))))
 obtain ⟨r1,hl1,F0⟩:=obd F0
 refine run_cutx 0 rfl (fun r1'=>r1=r1') (fun r1=>[(2,.ptr 5000 [] 0),(3,.ptr 5001 [] 0)]) (fun r1=>[(5000,.var 52 (.arr 8 (.int .u32)) (replicate 8 0)),(5001,.var 52 (.arr 8 (.int .u32)) r1)]) (fun r1' h1=>?_) (fun J1_0=>?_)
 ·subst h1
  refine sq rfl (rg [(2,.ptr 5000 [] 0)] [(5000,.var 52 (.arr 8 (.int .u32)) r1)] [] [] 5002 rfl (by kernel_rfl) c0 ?_)
  obtain rfl:=inj F0
  exact ret_pure (q:=[.v (.arr 8 (.int .u32)) r1]) [(.arr 8 (.int .u32))] rfl rfl (by kernel_rfl)
 refine run_loop rfl (run_loopO hl1 (fun s1=>[(2,.ptr 5000 [] 0),(3,.ptr 5001 [] 0),(8,.v (.sl (.arr 8 (.int .u32))) x0),(9,vi ((length x0:Nat):Int)),(10,vi s1.1)]) (fun s1=>[(5000,.var 52 (.arr 8 (.int .u32)) (replicate 8 0)),(5001,.var 52 (.arr 8 (.int .u32)) s1.2)]) rfl rfl (fun s1 o1 F1 ih1 hr1=>?_))
 unfold F_cut_Union_b1 at F1
 refine run_again (sq rfl (rg [(2,.ptr 5000 [] 0),(3,.ptr 5001 [] 0),(8,.v (.sl (.arr 8 (.int .u32))) x0),(9,vi ((length x0:Nat):Int)),(10,vi s1.1),(11,vb (decide (s1.1<((length x0:Nat):Int))))] [(5000,.var 52 (.arr 8 (.int .u32)) (replicate 8 0)),(5001,.var 52 (.arr 8 (.int .u32)) s1.2)] [] [] 5002 rfl (by kernel_rfl) c0 (sq rfl ?_)))
 refine run_if rfl rfl (fun h2=>?_) (fun h2=>?_)
 ·replace F1:=ift h2 F1
  refine sk rfl (sq rfl (bk rfl (sq rfl ?_)))
  obtain ⟨h3,F1⟩:=ifg F1
  refine rg [(2,.ptr 5000 [] 0),(3,.ptr 5001 [] 0),(5,.ptr 5042 [] 0),(8,.v (.sl (.arr 8 (.int .u32))) x0),(9,vi ((length x0:Nat):Int)),(10,vi s1.1)] [(5000,.var 52 (.arr 8 (.int .u32)) (replicate 8 0)),(5001,.var 52 (.arr 8 (.int .u32)) s1.2),(5042,.var 52 (.arr 8 (.int .u32)) (getD x0 (toNat s1.1) (replicate 8 0)))] [] [] 5002 rfl (by kernel_rfl) (cc h3 c0) (sq rfl (rg [(2,.ptr 5000 [] 0),(3,.ptr 5001 [] 0),(8,.v (.sl (.arr 8 (.int .u32))) x0),(9,vi ((length x0:Nat):Int)),(10,vi s1.1),(14,.v (.arr 8 (.int .u32)) (getD x0 (toNat s1.1) (replicate 8 0))),(15,vi 0)] [(5000,.var 52 (.arr 8 (.int .u32)) (replicate 8 0)),(5001,.var 52 (.arr 8 (.int .u32)) s1.2)] [] [] 5043 rfl (by kernel_rfl) c0 (bk rfl ?_)))
  obtain ⟨r2,hl2,F1⟩:=obd F1
  refine run_cutx 2 rfl (fun r2'=>r2=r2') (fun r2=>[(2,.ptr 5000 [] 0),(3,.ptr 5001 [] 0),(8,.v (.sl (.arr 8 (.int .u32))) x0),(9,vi ((length x0:Nat):Int)),(10,vi s1.1)]) (fun r2=>[(5000,.var 52 (.arr 8 (.int .u32)) (replicate 8 0)),(5001,.var 52 (.arr 8 (.int .u32)) r2)]) (fun r2' h4=>?_) (fun J2_0=>?_)
  ·subst h4
   refine eb (rg [(2,.ptr 5000 [] 0),(3,.ptr 5001 [] 0),(8,.v (.sl (.arr 8 (.int .u32))) x0),(9,vi ((length x0:Nat):Int)),(10,vi (wrap .i64 (s1.1+1)))] [(5000,.var 52 (.arr 8 (.int .u32)) (replicate 8 0)),(5001,.var 52 (.arr 8 (.int .u32)) r2)] [] [] 5002 rfl (by kernel_rfl) c0 ?_)
   exact ih1 _ (inj F1).symm
  refine run_loop rfl (run_loopO hl2 (fun s2=>[(2,.ptr 5000 [] 0),(3,.ptr 5001 [] 0),(8,.v (.sl (.arr 8 (.int .u32))) x0),(9,vi ((length x0:Nat):Int)),(10,vi s1.1),(14,.v (.arr 8 (.int .u32)) (getD x0 (toNat s1.1) (replicate 8 0))),(15,vi s2.1)]) (fun s2=>[(5000,.var 52 (.arr 8 (.int .u32)) (replicate 8 0)),(5001,.var 52 (.arr 8 (.int .u32)) s2.2)]) rfl rfl (fun s2 o2 F2 ih2 hr2=>?_))
  unfold F_cut_Union_b2 at F2
  refine run_again (sq rfl (rg [(2,.ptr 5000 [] 0),(3,.ptr 5001 [] 0),(8,.v (.sl (.arr 8 (.int .u32))) x0),(9,vi ((length x0:Nat):Int)),(10,vi s1.1),(14,.v (.arr 8 (.int .u32)) (getD x0 (toNat s1.1) (replicate 8 0))),(15,vi s2.1),(16,vb (decide (s2.1<8)))] [(5000,.var 52 (.arr 8 (.int .u32)) (replicate 8 0)),(5001,.var 52 (.arr 8 (.int .u32)) s2.2)] [] [] 5002 rfl (by kernel_rfl) c0 (sq rfl ?_)))
  refine run_if rfl rfl (fun h5=>?_) (fun h5=>?_)
  ·replace F2:=ift h5 F2
   refine sk rfl (sq rfl (bk rfl (sq rfl ?_)))
   obtain ⟨h6,F2⟩:=ifg F2
   refine rg [(2,.ptr 5000 [] 0),(3,.ptr 5001 [] 0),(6,vi s2.1),(7,.v (.int .u32) (getD (getD x0 (toNat s1.1) (replicate 8 0)) (toNat s2.1) 0)),(8,.v (.sl (.arr 8 (.int .u32))) x0),(9,vi ((length x0:Nat):Int)),(10,vi s1.1),(14,.v (.arr 8 (.int .u32)) (getD x0 (toNat s1.1) (replicate 8 0))),(15,vi s2.1)] [(5000,.var 52 (.arr 8 (.int .u32)) (replicate 8 0)),(5001,.var 52 (.arr 8 (.int .u32)) s2.2)] [] [] 5002 rfl (by kernel_rfl) (cc h6 c0) ?_
   obtain ⟨h7,F2⟩:=ifg F2
   obtain ⟨h8,F2⟩:=ifg F2
   refine rg [(2,.ptr 5000 [] 0),(3,.ptr 5001 [] 0),(8,.v (.sl (.arr 8 (.int .u32))) x0),(9,vi ((length x0:Nat):Int)),(10,vi s1.1),(14,.v (.arr 8 (.int .u32)) (getD x0 (toNat s1.1) (replicate 8 0))),(15,vi s2.1)] [(5000,.var 52 (.arr 8 (.int .u32)) (replicate 8 0)),(5001,.var 52 (.arr 8 (.int .u32)) (List.set s2.2 (toNat s2.1) (mx (getD s2.2 (toNat s2.1) 0) (getD (getD x0 (toNat s1.1) (replicate 8 0)) (toNat s2.1) 0))))] [] [] 5002 rfl (by kernel_rfl) (cc h7 (cc (show offP (.arr 8 (.int .u32)) [.i (toNat s2.1)]=(0+toNat s2.1*1) from offJ (p:=[]) (q:=[]) rfl (by kernel_rfl) (by kernel_rfl) (by kernel_rfl)) (cc (oo h7 trivial) (cc h8 (cc (show offP (.arr 8 (.int .u32)) [.i (toNat s2.1)]=(0+toNat s2.1*1) from offJ (p:=[]) (q:=[]) rfl (by kernel_rfl) (by kernel_rfl) (by kernel_rfl)) (cc (oo h8 trivial) c0)))))) (eb (rg [(2,.ptr 5000 [] 0),(3,.ptr 5001 [] 0),(8,.v (.sl (.arr 8 (.int .u32))) x0),(9,vi ((length x0:Nat):Int)),(10,vi s1.1),(14,.v (.arr 8 (.int .u32)) (getD x0 (toNat s1.1) (replicate 8 0))),(15,vi (wrap .i64 (s2.1+1)))] [(5000,.var 52 (.arr 8 (.int .u32)) (replicate 8 0)),(5001,.var 52 (.arr 8 (.int .u32)) (List.set s2.2 (toNat s2.1) (mx (getD s2.2 (toNat s2.1) 0) (getD (getD x0 (toNat s1.1) (replicate 8 0)) (toNat s2.1) 0))))] [] [] 5002 rfl (by kernel_rfl) c0 ?_))
   exact ih2 _ (inj F2).symm
  ·replace F2:=ifn h5 F2
   refine run_exit rfl rfl (tm (ρ':=[(2,.ptr 5000 [] 0),(3,.ptr 5001 [] 0),(8,.v (.sl (.arr 8 (.int .u32))) x0),(9,vi ((length x0:Nat):Int)),(10,vi s1.1)]) (H':=[(5000,.var 52 (.arr 8 (.int .u32)) (replicate 8 0)),(5001,.var 52 (.arr 8 (.int .u32)) s2.2)]) (by kernel_rfl) (by kernel_rfl) rfl ?_)
   exact J2_0 _ (inrI hr2 F2).symm
 ·replace F1:=ifn h2 F1
  refine run_exit rfl rfl (tm (ρ':=[(2,.ptr 5000 [] 0),(3,.ptr 5001 [] 0)]) (H':=[(5000,.var 52 (.arr 8 (.int .u32)) (replicate 8 0)),(5001,.var 52 (.arr 8 (.int .u32)) s1.2)]) (by kernel_rfl) (by kernel_rfl) rfl ?_)
  exact J1_0 _ (inrI hr1 F1).symm
noncomputable def F_cut_Within (x0:(List Int)) (x1:(List Int)):Option Bool :=
 (F_cut_Union [x0,x1]).bind fun t1=>(some (Sh.eqb (.arr 8 (.int .u32)) t1 x1))
theorem W_cut_Within {x0:(List Int)} {x1:(List Int)} {y:Bool} (F0:F_cut_Within x0 x1=some y):Pure Tryz.prog 147 [.v (.arr 8 (.int .u32)) x0,.v (.arr 8 (.int .u32)) x1] (vb y):=by
 unfold F_cut_Within at F0
 refine pure_of_run @Tryz.call147 @Tryz.func147 rfl rfl fun w M ho=>?_
 refine sq rfl (rg [(2,.ptr 5000 [] 0),(3,.ptr 5020 [] 0)] [(5000,.var 52 (.arr 8 (.int .u32)) x0),(5020,.var 52 (.arr 8 (.int .u32)) x1)] [] [] 5000 rfl (by kernel_rfl) c0 (sq rfl ?_))
 obtain ⟨t1,h1,F0⟩:=obd F0
 refine rG [(4,vb (Sh.eqb (.arr 8 (.int .u32)) t1 x1))] [] [(2,⟨[],.v (.sl (.arr 8 (.int .u32))) [x0,x1],none⟩),(3,⟨[.v (.sl (.arr 8 (.int .u32)))],.v (.arr 8 (.int .u32)) t1,none⟩)] [] 5021 rfl rfl (by kernel_rfl) (cc (W_cut_Union h1) (cc (show (.v (.arr 8 (.int .u32)) x1:AVal)=(.v (.arr 8 (.int .u32)) x1) from rfl) c0)) ?_
 obtain rfl:=inj F0
 exact ret_pure (q:=[vb (Sh.eqb (.arr 8 (.int .u32)) t1 x1)]) [.bool] rfl rfl (by kernel_rfl)
abbrev S75:Sh:=(.st (.prod (.int .u32) (.prod S36 (.prod S36 (.prod (.arr 8 (.int .u32)) .bool)))))
noncomputable def F_gather_Update (x0:S75.ty) (x1:S110.ty):Option S75.ty :=
 (F_ident_Compare x1.2.2.2.2.2.1 x0.2.2.1).bind fun t1=>(if (decide (x1.2.1<x0.1))=true then some x0 else (show Option Bool from if (decide (x1.2.1>x0.1))=true then some true else some (decide (t1>0))).bind (fun r1=>if (r1)=true then some (x1.2.1,x1.2.2.1,x1.2.2.2.2.2.1,x1.2.2.2.2.1,x1.2.2.2.2.2.2.2.1) else if (decide (t1<0))=true then some x0 else (F_ident_Compare x1.2.2.1 x0.2.1).bind fun t2=>((show Option S75.ty from if (t2==1)=true then some (x0.1,x1.2.2.1,x0.2.2.1,x1.2.2.2.2.1,x0.2.2.2.2) else if (t2==0)=true then (F_cut_Union [x0.2.2.2.1,x1.2.2.2.2.1]).bind fun t3=>(some (x0.1,x0.2.1,x0.2.2.1,t3,x0.2.2.2.2)) else some x0).bind (fun r2=>(show Option S75.ty from if r2.2.2.2.2=true then some (r2.1,r2.2.1,r2.2.2.1,r2.2.2.2.1,true) else some (r2.1,r2.2.1,r2.2.2.1,r2.2.2.2.1,x1.2.2.2.2.2.2.2.1)).bind (fun r3=>some r3)))))
theorem W_gather_Update {x0:S75.ty} {x1:S110.ty} {y:S75.ty} (F0:F_gather_Update x0 x1=some y):Pure Tryz.prog 168 [.v S75 x0,.v S110 x1] (.v S75 y):=by
 unfold F_gather_Update at F0
 refine pure_of_run @Tryz.call168 @Tryz.func168 rfl rfl fun w M ho=>?_
 refine sq rfl (rg [(2,.ptr 5000 [] 0),(3,.ptr 5020 [] 0),(4,.ptr 5040 [] 0)] [(5000,.var 75 S75 x0),(5020,.var 110 S110 x1),(5040,.var 75 S75 (0,(0,0,0),(0,0,0),replicate 8 0,false))] [] [] 5000 rfl (by kernel_rfl) c0 (sq rfl (rg [(2,.ptr 5000 [] 0),(3,.ptr 5020 [] 0),(4,.ptr 5040 [] 0),(5,.ptr 5261 [] 0)] [(5000,.var 75 S75 x0),(5020,.var 110 S110 x1),(5040,.var 75 S75 (0,(0,0,0),(0,0,0),replicate 8 0,false)),(5261,.var 75 S75 (x1.2.1,x1.2.2.1,x1.2.2.2.2.2.1,x1.2.2.2.2.1,x1.2.2.2.2.2.2.2.1))] [] [] 5041 rfl (by kernel_rfl) c0 (sq rfl ?_))))
 obtain ⟨t1,h1,F0⟩:=obd F0
 refine rg [(2,.ptr 5000 [] 0),(3,.ptr 5020 [] 0),(4,.ptr 5040 [] 0),(5,.ptr 5261 [] 0),(6,vi t1)] [(5000,.var 75 S75 x0),(5020,.var 110 S110 x1),(5040,.var 75 S75 (0,(0,0,0),(0,0,0),replicate 8 0,false)),(5261,.var 75 S75 (x1.2.1,x1.2.2.1,x1.2.2.2.2.2.1,x1.2.2.2.2.1,x1.2.2.2.2.2.2.2.1))] [(4,⟨[.v S36,.v S36],vi t1,none⟩)] [] 5262 rfl (by kernel_rfl) (cc (W_ident_Compare h1) c0) (sq rfl (bk rfl (sq rfl (rg [(2,.ptr 5000 [] 0),(3,.ptr 5020 [] 0),(4,.ptr 5040 [] 0),(5,.ptr 5261 [] 0),(6,vi t1),(23,vb (decide (x1.2.1<x0.1)))] [(5000,.var 75 S75 x0),(5020,.var 110 S110 x1),(5040,.var 75 S75 (0,(0,0,0),(0,0,0),replicate 8 0,false)),(5261,.var 75 S75 (x1.2.1,x1.2.2.1,x1.2.2.2.2.2.1,x1.2.2.2.2.1,x1.2.2.2.2.2.2.2.1))] [] [] 5262 rfl (by kernel_rfl) c0 ?_))))
 refine run_if rfl rfl (fun h2=>?_) (fun h2=>?_)
 ·replace F0:=ift h2 F0
  refine sq rfl (rg [(4,.ptr 5040 [] 0)] [(5040,.var 75 S75 x0)] [] [] 5262 rfl (by kernel_rfl) c0 ?_)
  obtain rfl:=inj F0
  exact ret_pure (q:=[.v S75 x0]) [S75] rfl rfl (by kernel_rfl)
 ·replace F0:=ifn h2 F0
  refine sq rfl ?_
  obtain ⟨r1,F1,F0⟩:=obd F0
  refine run_cut (fun r1'=>r1=r1') (fun r1=>[(2,.ptr 5000 [] 0),(3,.ptr 5020 [] 0),(4,.ptr 5040 [] 0),(5,.ptr 5261 [] 0),(6,vi t1),(30,vb r1)]) (fun r1=>[(5000,.var 75 S75 x0),(5020,.var 110 S110 x1),(5040,.var 75 S75 (0,(0,0,0),(0,0,0),replicate 8 0,false)),(5261,.var 75 S75 (x1.2.1,x1.2.2.1,x1.2.2.2.2.2.1,x1.2.2.2.2.1,x1.2.2.2.2.2.2.2.1))]) (fun r1' h3=>?_) (fun J1_0=>?_)
  ·subst h3
   refine run_if rfl rfl (fun h4=>?_) (fun h4=>?_)
   ·replace F0:=ift h4 F0
    refine sq rfl (rg [(4,.ptr 5040 [] 0)] [(5040,.var 75 S75 (x1.2.1,x1.2.2.1,x1.2.2.2.2.2.1,x1.2.2.2.2.1,x1.2.2.2.2.2.2.2.1))] [] [] 5262 rfl (by kernel_rfl) c0 ?_)
    obtain rfl:=inj F0
    exact ret_pure (q:=[.v S75 (x1.2.1,x1.2.2.1,x1.2.2.2.2.2.1,x1.2.2.2.2.1,x1.2.2.2.2.2.2.2.1)]) [S75] rfl rfl (by kernel_rfl)
   ·replace F0:=ifn h4 F0
    refine sq rfl (rg [(2,.ptr 5000 [] 0),(3,.ptr 5020 [] 0),(4,.ptr 5040 [] 0),(41,vb (decide (t1<0)))] [(5000,.var 75 S75 x0),(5020,.var 110 S110 x1),(5040,.var 75 S75 (0,(0,0,0),(0,0,0),replicate 8 0,false))] [] [] 5262 rfl (by kernel_rfl) c0 ?_)
    refine run_if rfl rfl (fun h5=>?_) (fun h5=>?_)
    ·replace F0:=ift h5 F0
     refine sq rfl (rg [(4,.ptr 5040 [] 0)] [(5040,.var 75 S75 x0)] [] [] 5041 rfl (by kernel_rfl) c0 ?_)
     obtain rfl:=inj F0
     exact ret_pure (q:=[.v S75 x0]) [S75] rfl rfl (by kernel_rfl)
    ·replace F0:=ifn h5 F0
     refine sk rfl (eb (sq rfl (sq rfl ?_)))
     obtain ⟨t2,h6,F0⟩:=obd F0
     refine rg [(2,.ptr 5000 [] 0),(3,.ptr 5020 [] 0),(4,.ptr 5040 [] 0),(49,vi t2)] [(5000,.var 75 S75 x0),(5020,.var 110 S110 x1),(5040,.var 75 S75 (0,(0,0,0),(0,0,0),replicate 8 0,false))] [(4,⟨[.v S36,.v S36],vi t2,none⟩)] [] 5041 rfl (by kernel_rfl) (cc (W_ident_Compare h6) c0) (bk rfl (sq rfl (rg [(2,.ptr 5000 [] 0),(3,.ptr 5020 [] 0),(4,.ptr 5040 [] 0),(49,vi t2),(50,vb (t2==1))] [(5000,.var 75 S75 x0),(5020,.var 110 S110 x1),(5040,.var 75 S75 (0,(0,0,0),(0,0,0),replicate 8 0,false))] [] [] 5041 rfl (by kernel_rfl) c0 ?_)))
     obtain ⟨r2,F1,F0⟩:=obd F0
     refine run_cut (fun r2'=>r2=r2') (fun r2=>[(2,.ptr 5000 [] 0),(3,.ptr 5020 [] 0),(4,.ptr 5040 [] 0)]) (fun r2=>[(5000,.var 75 S75 r2),(5020,.var 110 S110 x1),(5040,.var 75 S75 (0,(0,0,0),(0,0,0),replicate 8 0,false))]) (fun r2' h7=>?_) (fun J2_0=>?_)
     ·subst h7
      refine eb (sq rfl ?_)
      obtain ⟨r3,F1,F0⟩:=obd F0
      refine run_cut (fun r3'=>r3=r3') (fun r3=>[(2,.ptr 5000 [] 0),(4,.ptr 5040 [] 0)]) (fun r3=>[(5000,.var 75 S75 r3),(5040,.var 75 S75 (0,(0,0,0),(0,0,0),replicate 8 0,false))]) (fun r3' h8=>?_) (fun J3_0=>?_)
      ·subst h8
       refine sq rfl (rg [(4,.ptr 5040 [] 0)] [(5040,.var 75 S75 r3)] [] [] 5041 rfl (by kernel_rfl) c0 ?_)
       obtain rfl:=inj F0
       exact ret_pure (q:=[.v S75 r3]) [S75] rfl rfl (by kernel_rfl)
      rcases Bool.eq_false_or_eq_true r2.2.2.2.2 with h9|h9
      ·replace F1:=ift h9 F1
       refine rg [(2,.ptr 5000 [] 0),(4,.ptr 5040 [] 0)] [(5000,.var 75 S75 (r2.1,r2.2.1,r2.2.2.1,r2.2.2.2.1,true)),(5040,.var 75 S75 (0,(0,0,0),(0,0,0),replicate 8 0,false))] [] [(2,true)] 5041 rfl (by kernel_rfl) (cc h9 c0) ?_
       exact J3_0 _ (inj F1).symm
      ·replace F1:=ifn h9 F1
       refine rg [(2,.ptr 5000 [] 0),(4,.ptr 5040 [] 0)] [(5000,.var 75 S75 (r2.1,r2.2.1,r2.2.2.1,r2.2.2.2.1,x1.2.2.2.2.2.2.2.1)),(5040,.var 75 S75 (0,(0,0,0),(0,0,0),replicate 8 0,false))] [] [(2,false)] 5041 rfl (by kernel_rfl) (cc h9 c0) ?_
       exact J3_0 _ (inj F1).symm
     refine run_if rfl rfl (fun h10=>?_) (fun h10=>?_)
     ·replace F1:=ift h10 F1
      refine rG [(2,.ptr 5000 [] 0),(3,.ptr 5020 [] 0),(4,.ptr 5040 [] 0)] [(5000,.var 75 S75 (x0.1,x1.2.2.1,x0.2.2.1,x1.2.2.2.2.1,x0.2.2.2.2)),(5020,.var 110 S110 x1),(5040,.var 75 S75 (0,(0,0,0),(0,0,0),replicate 8 0,false))] [] [] 5041 rfl rfl (by kernel_rfl) (cc (show (.v (.arr 8 (.int .u32)) x1.2.2.2.2.1:AVal)=(.v (.arr 8 (.int .u32)) x1.2.2.2.2.1) from rfl) c0) ?_
      exact J2_0 _ (inj F1).symm
     ·replace F1:=ifn h10 F1
      refine sq rfl (rg [(2,.ptr 5000 [] 0),(3,.ptr 5020 [] 0),(4,.ptr 5040 [] 0),(58,vb (t2==0))] [(5000,.var 75 S75 x0),(5020,.var 110 S110 x1),(5040,.var 75 S75 (0,(0,0,0),(0,0,0),replicate 8 0,false))] [] [] 5041 rfl (by kernel_rfl) c0 ?_)
      refine run_if rfl rfl (fun h11=>?_) (fun h11=>?_)
      ·replace F1:=ift h11 F1
       obtain ⟨t3,h12,F1⟩:=obd F1
       refine rg [(2,.ptr 5000 [] 0),(3,.ptr 5020 [] 0),(4,.ptr 5040 [] 0)] [(5000,.var 75 S75 (x0.1,x0.2.1,x0.2.2.1,t3,x0.2.2.2.2)),(5020,.var 110 S110 x1),(5040,.var 75 S75 (0,(0,0,0),(0,0,0),replicate 8 0,false))] [(4,⟨[],.v (.sl (.arr 8 (.int .u32))) [x0.2.2.2.1,x1.2.2.2.2.1],none⟩),(5,⟨[.v (.sl (.arr 8 (.int .u32)))],.v (.arr 8 (.int .u32)) t3,none⟩)] [] 5041 rfl (by kernel_rfl) (cc (W_cut_Union h12) c0) ?_
       exact J2_0 _ (inj F1).symm
      ·replace F1:=ifn h11 F1
       refine sk rfl (tm (ρ':=[(2,.ptr 5000 [] 0),(3,.ptr 5020 [] 0),(4,.ptr 5040 [] 0)]) (H':=[(5000,.var 75 S75 x0),(5020,.var 110 S110 x1),(5040,.var 75 S75 (0,(0,0,0),(0,0,0),replicate 8 0,false))]) (by kernel_rfl) (by kernel_rfl) rfl ?_)
       exact J2_0 _ (inj F1).symm
  rcases Bool.eq_false_or_eq_true (decide (x1.2.1>x0.1)) with h13|h13
  ·replace F1:=ift h13 F1
   refine rg [(2,.ptr 5000 [] 0),(3,.ptr 5020 [] 0),(4,.ptr 5040 [] 0),(5,.ptr 5261 [] 0),(6,vi t1),(30,vb true)] [(5000,.var 75 S75 x0),(5020,.var 110 S110 x1),(5040,.var 75 S75 (0,(0,0,0),(0,0,0),replicate 8 0,false)),(5261,.var 75 S75 (x1.2.1,x1.2.2.1,x1.2.2.2.2.2.1,x1.2.2.2.2.1,x1.2.2.2.2.2.2.2.1))] [] [(5,true)] 5262 rfl (by kernel_rfl) (cc h13 c0) ?_
   exact J1_0 _ (inj F1).symm
  ·replace F1:=ifn h13 F1
   refine rg [(2,.ptr 5000 [] 0),(3,.ptr 5020 [] 0),(4,.ptr 5040 [] 0),(5,.ptr 5261 [] 0),(6,vi t1),(30,vb (decide (t1>0)))] [(5000,.var 75 S75 x0),(5020,.var 110 S110 x1),(5040,.var 75 S75 (0,(0,0,0),(0,0,0),replicate 8 0,false)),(5261,.var 75 S75 (x1.2.1,x1.2.2.1,x1.2.2.2.2.2.1,x1.2.2.2.2.1,x1.2.2.2.2.2.2.2.1))] [] [(5,false)] 5262 rfl (by kernel_rfl) (cc h13 c0) ?_
   exact J1_0 _ (inj F1).symm
noncomputable def F_gather_Adopt (x0:S36.ty) (x1:Int) (x2:Int) (x3:S110.ty):Option Bool :=
 (show Option Bool from (F_ident_Compare x3.2.2.2.2.2.1 x0).bind fun t1=>(if (decide (t1>0))=true then (F_ident_Has x3.2.2.2.2.2.2.1 x1 x2).bind fun t2=>(some t2) else some false)).bind (fun r1=>some r1)
theorem W_gather_Adopt {x0:S36.ty} {x1:Int} {x2:Int} {x3:S110.ty} {y:Bool} (F0:F_gather_Adopt x0 x1 x2 x3=some y):Pure Tryz.prog 169 [.v S36 x0,vi x1,.v (.int .u32) x2,.v S110 x3] (vb y):=by
 unfold F_gather_Adopt at F0
 refine pure_of_run @Tryz.call169 @Tryz.func169 rfl rfl fun w M ho=>?_
 refine sq rfl (rg [(1,vi x1),(2,.v (.int .u32) x2),(4,.ptr 5000 [] 0),(7,.ptr 5020 [] 0)] [(5000,.var 36 S36 x0),(5020,.var 110 S110 x3)] [] [] 5000 rfl (by kernel_rfl) c0 (sq rfl ?_))
 obtain ⟨r1,F1,F0⟩:=obd F0
 refine run_cut (fun r1'=>r1=r1') (fun r1=>[(8,vb r1)]) (fun r1=>[]) (fun r1' h1=>?_) (fun J1_0=>?_)
 ·subst h1
  obtain rfl:=inj F0
  exact ret_pure (q:=[vb r1]) [.bool] rfl rfl (by kernel_rfl)
 obtain ⟨t1,h2,F1⟩:=obd F1
 rcases Bool.eq_false_or_eq_true (decide (t1>0)) with h3|h3
 ·replace F1:=ift h3 F1
  obtain ⟨t2,h4,F1⟩:=obd F1
  refine rg [(8,vb t2)] [] [(3,⟨[.v S36,.v S36],vi t1,none⟩),(10,⟨[.v (.arr 8 (.int .u32)),.v (.int .i64),.v (.int .u32)],vb t2,none⟩)] [(5,true)] 5021 rfl (by kernel_rfl) (cc (W_ident_Compare h2) (cc h3 (cc (W_ident_Has h4) c0))) ?_
  exact J1_0 _ (inj F1).symm
 ·replace F1:=ifn h3 F1
  refine rg [(8,vb false)] [] [(3,⟨[.v S36,.v S36],vi t1,none⟩)] [(5,false)] 5021 rfl (by kernel_rfl) (cc (W_ident_Compare h2) (cc h3 c0)) ?_
  exact J1_0 _ (inj F1).symm
abbrev S78:Sh:=(.st (.prod (.int .i64) (.prod (.int .i64) (.prod (.int .u32) (.prod S72 (.prod S36 (.prod (.arr 8 (.int .u32)) (.prod (.arr 8 (.int .u32)) (.prod (.sl S44) (.prod S36 (.prod (.arr 8 (.int .u32)) (.prod (.arr 8 (.int .u32)) (.prod .bool (.prod (.arr 8 S75) (.int .u32)))))))))))))))
noncomputable def F_gather_stands_b2 (t1:(List Int)) (x0:S78.ty) (x1:(List Int)) (s2:Int):Option (Int⊕(Bool⊕Unit)) :=
 if (decide (s2<((length t1:Nat):Int)))=true then if 0≤s2∧s2<((length t1:Nat):Int) then (if 0≤(getD t1 (toNat s2) 0)∧(getD t1 (toNat s2) 0)<((8:Nat):Int) then (show Option Bool from if ((getD t1 (toNat s2) 0) != x0.1)=true then if 0≤(getD t1 (toNat s2) 0)∧(getD t1 (toNat s2) 0)<((8:Nat):Int) then (if ((getD x0.2.2.2.2.2.2.2.2.2.2.2.2.1 (toNat (getD t1 (toNat s2) 0)) S75.dflt).1==(getD x1 (toNat (getD t1 (toNat s2) 0)) 0))=true then (F_ident_Compare (getD x0.2.2.2.2.2.2.2.2.2.2.2.2.1 (toNat (getD t1 (toNat s2) 0)) S75.dflt).2.2.1 x0.2.2.2.2.2.2.2.2.1).bind fun t2=>(some (decide (t2>0))) else some false) else none else some false).bind (fun r3=>if (r3)=true then some (Sum.inr (Sum.inl false)) else some (Sum.inl (wrap .i64 (s2+1)))) else none) else none else some (Sum.inr (Sum.inr ()))
noncomputable def F_gather_stands (x0:S78.ty) (x1:(List Int)):Option Bool :=
 (show Option Bool from if ((wrap .i64 x0.2.2.2.2.2.2.2.2.1.2.1) != x0.1)=true then some true else if (x0.2.2.2.2.2.2.2.2.1.2.2 != x0.2.2.1)=true then some true else some (!(Sh.eqb (.arr 8 (.int .u32)) x0.2.2.2.2.2.2.2.2.2.1 x1))).bind (fun r1=>if (r1)=true then some false else (F_ident_List x1).bind fun t1=>((loopO (F_gather_stands_b2 t1 x0 x1) 0).bind (Sum.elim some (fun j21=>some true))))
theorem W_gather_stands {x0:S78.ty} {x1:(List Int)} {y:Bool} (F0:F_gather_stands x0 x1=some y):Pure Tryz.prog 145 [.v S78 x0,.v (.arr 8 (.int .u32)) x1] (vb y):=by
 unfold F_gather_stands at F0
 refine pure_of_run @Tryz.call145 @Tryz.func145 rfl rfl fun w M ho=>?_
 refine sq rfl (rg [(2,.ptr 5000 [] 0),(3,.ptr 5020 [] 0)] [(5000,.var 78 S78 x0),(5020,.var 46 (.arr 8 (.int .u32)) x1)] [] [] 5000 rfl (by kernel_rfl) c0 (sq rfl (sq rfl ?_)))
 obtain ⟨r1,F1,F0⟩:=obd F0
 refine run_cut (fun r1'=>r1=r1') (fun r1=>[(2,.ptr 5000 [] 0),(3,.ptr 5020 [] 0),(28,vb r1)]) (fun r1=>[(5000,.var 78 S78 x0),(5020,.var 46 (.arr 8 (.int .u32)) x1)]) (fun r1' h1=>?_) (fun J1_0=>?_)
 ·subst h1
  refine run_if rfl rfl (fun h2=>?_) (fun h2=>?_)
  ·replace F0:=ift h2 F0
   refine sq rfl (rg [(4,vb false)] [] [] [] 5021 rfl (by kernel_rfl) c0 ?_)
   obtain rfl:=inj F0
   exact ret_pure (q:=[vb false]) [.bool] rfl rfl (by kernel_rfl)
  ·replace F0:=ifn h2 F0
   refine sk rfl (sq rfl (sq rfl ?_))
   obtain ⟨t1,h3,F0⟩:=obd F0
   refine rg [(2,.ptr 5000 [] 0),(3,.ptr 5020 [] 0),(30,.v (.sl (.int .i64)) t1),(31,vi ((length t1:Nat):Int)),(32,vi 0)] [(5000,.var 78 S78 x0),(5020,.var 46 (.arr 8 (.int .u32)) x1)] [(1,⟨[.v (.arr 8 (.int .u32))],.v (.sl (.int .i64)) t1,none⟩)] [] 5021 rfl (by kernel_rfl) (cc (W_ident_List h3) c0) (bk rfl ?_)
   obtain ⟨r2,hl2,F0⟩:=obd F0
   refine run_cutx 0 rfl (fun j21=>r2=Sum.inr j21) (fun j21=>[]) (fun j21=>[]) (fun j21 h4=>?_) (fun J2_1=>?_)
   ·subst h4
    replace F0:=sumR F0
    refine sq rfl (rg [(4,vb true)] [] [] [] 5000 rfl (by kernel_rfl) c0 ?_)
    obtain rfl:=inj F0
    exact ret_pure (q:=[vb true]) [.bool] rfl rfl (by kernel_rfl)
   refine run_loop rfl (run_loopO hl2 (fun s2=>[(2,.ptr 5000 [] 0),(3,.ptr 5020 [] 0),(30,.v (.sl (.int .i64)) t1),(31,vi ((length t1:Nat):Int)),(32,vi s2)]) (fun s2=>[(5000,.var 78 S78 x0),(5020,.var 46 (.arr 8 (.int .u32)) x1)]) rfl rfl (fun s2 o2 F1 ih2 hr2=>?_))
   unfold F_gather_stands_b2 at F1
   refine run_again (sq rfl (rg [(2,.ptr 5000 [] 0),(3,.ptr 5020 [] 0),(30,.v (.sl (.int .i64)) t1),(31,vi ((length t1:Nat):Int)),(32,vi s2),(33,vb (decide (s2<((length t1:Nat):Int))))] [(5000,.var 78 S78 x0),(5020,.var 46 (.arr 8 (.int .u32)) x1)] [] [] 5021 rfl (by kernel_rfl) c0 (sq rfl ?_)))
   refine run_if rfl rfl (fun h5=>?_) (fun h5=>?_)
   ·replace F1:=ift h5 F1
    refine sk rfl (sq rfl (bk rfl (sq rfl ?_)))
    obtain ⟨h6,F1⟩:=ifg F1
    refine rg [(2,.ptr 5000 [] 0),(3,.ptr 5020 [] 0),(6,vi (getD t1 (toNat s2) 0)),(30,.v (.sl (.int .i64)) t1),(31,vi ((length t1:Nat):Int)),(32,vi s2)] [(5000,.var 78 S78 x0),(5020,.var 46 (.arr 8 (.int .u32)) x1)] [] [] 5021 rfl (by kernel_rfl) (cc h6 c0) (sq rfl ?_)
    obtain ⟨h7,F1⟩:=ifg F1
    refine rg [(2,.ptr 5000 [] 0),(3,.ptr 5020 [] 0),(6,vi (getD t1 (toNat s2) 0)),(7,.ptr 5101 [] 0),(30,.v (.sl (.int .i64)) t1),(31,vi ((length t1:Nat):Int)),(32,vi s2)] [(5000,.var 78 S78 x0),(5020,.var 46 (.arr 8 (.int .u32)) x1),(5101,.var 75 S75 (getD x0.2.2.2.2.2.2.2.2.2.2.2.2.1 (toNat (getD t1 (toNat s2) 0)) S75.dflt))] [] [] 5021 rfl (by kernel_rfl) (cc h7 (cc (show offP S78 [.u,.r,.r,.r,.r,.r,.r,.r,.r,.r,.r,.r,.r,.l,.i (toNat (getD t1 (toNat s2) 0))]=(60+toNat (getD t1 (toNat s2) 0)*16) from offJ (p:=[.u,.r,.r,.r,.r,.r,.r,.r,.r,.r,.r,.r,.r,.l]) (q:=[]) rfl (by kernel_rfl) (by kernel_rfl) (by kernel_rfl)) (cc (oo h7 trivial) c0))) (sq rfl ?_)
    obtain ⟨r3,F2,F1⟩:=obd F1
    refine run_cut (fun r3'=>r3=r3') (fun r3=>[(2,.ptr 5000 [] 0),(3,.ptr 5020 [] 0),(30,.v (.sl (.int .i64)) t1),(31,vi ((length t1:Nat):Int)),(32,vi s2),(59,vb r3)]) (fun r3=>[(5000,.var 78 S78 x0),(5020,.var 46 (.arr 8 (.int .u32)) x1)]) (fun r3' h8=>?_) (fun J3_0=>?_)
    ·subst h8
     refine run_if rfl rfl (fun h9=>?_) (fun h9=>?_)
     ·replace F1:=ift h9 F1
      refine sq rfl (rg [(4,vb false)] [] [] [] 5021 rfl (by kernel_rfl) c0 ?_)
      have e2:=inrI hr2 F1
      subst e2
      replace F0:=sumL F0
      obtain rfl:=inj F0
      exact ret_pure (q:=[vb false]) [.bool] rfl rfl (by kernel_rfl)
     ·replace F1:=ifn h9 F1
      refine sk rfl (eb (rg [(2,.ptr 5000 [] 0),(3,.ptr 5020 [] 0),(30,.v (.sl (.int .i64)) t1),(31,vi ((length t1:Nat):Int)),(32,vi (wrap .i64 (s2+1)))] [(5000,.var 78 S78 x0),(5020,.var 46 (.arr 8 (.int .u32)) x1)] [] [] 5021 rfl (by kernel_rfl) c0 ?_))
      exact ih2 _ (inj F1).symm
    rcases Bool.eq_false_or_eq_true ((getD t1 (toNat s2) 0) != x0.1) with h10|h10
    ·replace F2:=ift h10 F2
     obtain ⟨h11,F2⟩:=ifg F2
     rcases Bool.eq_false_or_eq_true ((getD x0.2.2.2.2.2.2.2.2.2.2.2.2.1 (toNat (getD t1 (toNat s2) 0)) S75.dflt).1==(getD x1 (toNat (getD t1 (toNat s2) 0)) 0)) with h12|h12
     ·replace F2:=ift h12 F2
      obtain ⟨t2,h13,F2⟩:=obd F2
      refine rG [(2,.ptr 5000 [] 0),(3,.ptr 5020 [] 0),(30,.v (.sl (.int .i64)) t1),(31,vi ((length t1:Nat):Int)),(32,vi s2),(59,vb (decide (t2>0)))] [(5000,.var 78 S78 x0),(5020,.var 46 (.arr 8 (.int .u32)) x1)] [(17,⟨[.v S36,.v S36],vi t2,none⟩)] [(4,true),(12,true)] 5102 rfl rfl (by kernel_rfl) (cc h10 (cc h11 (cc (show offP (.arr 8 (.int .u32)) [.i (toNat (getD t1 (toNat s2) 0))]=(0+toNat (getD t1 (toNat s2) 0)*1) from offJ (p:=[]) (q:=[]) rfl (by kernel_rfl) (by kernel_rfl) (by kernel_rfl)) (cc (oo h11 trivial) (cc h12 (cc (W_ident_Compare h13) c0)))))) ?_
      exact J3_0 _ (inj F2).symm
     ·replace F2:=ifn h12 F2
      refine rG [(2,.ptr 5000 [] 0),(3,.ptr 5020 [] 0),(30,.v (.sl (.int .i64)) t1),(31,vi ((length t1:Nat):Int)),(32,vi s2),(59,vb false)] [(5000,.var 78 S78 x0),(5020,.var 46 (.arr 8 (.int .u32)) x1)] [] [(4,true),(12,false)] 5102 rfl rfl (by kernel_rfl) (cc h10 (cc h11 (cc (show offP (.arr 8 (.int .u32)) [.i (toNat (getD t1 (toNat s2) 0))]=(0+toNat (getD t1 (toNat s2) 0)*1) from offJ (p:=[]) (q:=[]) rfl (by kernel_rfl) (by kernel_rfl) (by kernel_rfl)) (cc (oo h11 trivial) (cc h12 c0))))) ?_
      exact J3_0 _ (inj F2).symm
    ·replace F2:=ifn h10 F2
     refine rG [(2,.ptr 5000 [] 0),(3,.ptr 5020 [] 0),(30,.v (.sl (.int .i64)) t1),(31,vi ((length t1:Nat):Int)),(32,vi s2),(59,vb false)] [(5000,.var 78 S78 x0),(5020,.var 46 (.arr 8 (.int .u32)) x1)] [] [(4,false)] 5102 rfl rfl (by kernel_rfl) (cc h10 c0) ?_
     exact J3_0 _ (inj F2).symm
   ·replace F1:=ifn h5 F1
    refine run_exit rfl rfl (tm (ρ':=[]) (H':=[]) (by kernel_rfl) (by kernel_rfl) rfl ?_)
    exact J2_1 _ (inrI hr2 F1).symm
 rcases Bool.eq_false_or_eq_true ((wrap .i64 x0.2.2.2.2.2.2.2.2.1.2.1) != x0.1) with h14|h14
 ·replace F1:=ift h14 F1
  refine rg [(2,.ptr 5000 [] 0),(3,.ptr 5020 [] 0),(28,vb true)] [(5000,.var 78 S78 x0),(5020,.var 46 (.arr 8 (.int .u32)) x1)] [] [(7,true)] 5021 rfl (by kernel_rfl) (cc h14 c0) ?_
  exact J1_0 _ (inj F1).symm
 ·replace F1:=ifn h14 F1
  rcases Bool.eq_false_or_eq_true (x0.2.2.2.2.2.2.2.2.1.2.2 != x0.2.2.1) with h15|h15
  ·replace F1:=ift h15 F1
   refine rg [(2,.ptr 5000 [] 0),(3,.ptr 5020 [] 0),(28,vb true)] [(5000,.var 78 S78 x0),(5020,.var 46 (.arr 8 (.int .u32)) x1)] [] [(7,false),(15,true)] 5021 rfl (by kernel_rfl) (cc h14 (cc h15 c0)) ?_
   exact J1_0 _ (inj F1).symm
  ·replace F1:=ifn h15 F1
   refine rg [(2,.ptr 5000 [] 0),(3,.ptr 5020 [] 0),(28,vb (!(Sh.eqb (.arr 8 (.int .u32)) x0.2.2.2.2.2.2.2.2.2.1 x1)))] [(5000,.var 78 S78 x0),(5020,.var 46 (.arr 8 (.int .u32)) x1)] [] [(7,false),(15,false)] 5021 rfl (by kernel_rfl) (cc h14 (cc h15 c0)) ?_
   exact J1_0 _ (inj F1).symm
noncomputable def F_gather_Propose (x0:S78.ty) (x1:(List Int)):Option (S36.ty×Bool) :=
 (F_ident_Least x1).bind fun t1=>((show Option Bool from if (!t1.2)=true then some true else if (t1.1 != x0.1)=true then some true else if (x0.2.2.2.2.2.2.2.2.2.2.2.2.2==4294967295)=true then some true else (F_gather_stands x0 x1).bind fun t2=>(some t2)).bind (fun r1=>if (r1)=true then some ((0,0,0),false) else some ((wrap .u32 (x0.2.2.2.2.2.2.2.2.2.2.2.2.2+1),wrap .u32 x0.1,x0.2.2.1),true)))
theorem W_gather_Propose {x0:S78.ty} {x1:(List Int)} {y:(S36.ty×Bool)} (F0:F_gather_Propose x0 x1=some y):Pure Tryz.prog 114 [.v S78 x0,.v (.arr 8 (.int .u32)) x1] (.tup [.v S36 y.1,vb y.2]):=by
 unfold F_gather_Propose at F0
 refine pure_of_run @Tryz.call114 @Tryz.func114 rfl rfl fun w M ho=>?_
 refine sq rfl (rg [(2,.ptr 5000 [] 0),(3,.ptr 5020 [] 0),(4,.ptr 5040 [] 0)] [(5000,.var 78 S78 x0),(5020,.var 46 (.arr 8 (.int .u32)) x1),(5040,.var 36 S36 (0,0,0))] [] [] 5000 rfl (by kernel_rfl) c0 (sq rfl ?_))
 obtain ⟨t1,h1,F0⟩:=obd F0
 refine rg [(2,.ptr 5000 [] 0),(3,.ptr 5020 [] 0),(4,.ptr 5040 [] 0),(6,vi t1.1),(7,vb t1.2)] [(5000,.var 78 S78 x0),(5020,.var 46 (.arr 8 (.int .u32)) x1),(5040,.var 36 S36 (0,0,0))] [(1,⟨[.v (.arr 8 (.int .u32))],.tup [vi t1.1,vb t1.2],none⟩)] [] 5041 rfl (by kernel_rfl) (cc (W_ident_Least h1) c0) (sq rfl (sq rfl ?_))
 obtain ⟨r1,F1,F0⟩:=obd F0
 refine run_cut (fun r1'=>r1=r1') (fun r1=>[(2,.ptr 5000 [] 0),(4,.ptr 5040 [] 0),(30,vb r1)]) (fun r1=>[(5000,.var 78 S78 x0),(5040,.var 36 S36 (0,0,0))]) (fun r1' h2=>?_) (fun J1_0=>?_)
 ·subst h2
  refine run_if rfl rfl (fun h3=>?_) (fun h3=>?_)
  ·replace F0:=ift h3 F0
   refine sq rfl (rg [(4,.ptr 5040 [] 0),(5,vb false)] [(5040,.var 36 S36 (0,0,0))] [] [] 5041 rfl (by kernel_rfl) c0 ?_)
   obtain rfl:=inj F0
   exact ret_pure (q:=[.v S36 (0,0,0),vb false]) [S36,.bool] rfl rfl (by kernel_rfl)
  ·replace F0:=ifn h3 F0
   refine sk rfl (sq rfl (rg [(4,.ptr 5040 [] 0),(5,vb true)] [(5040,.var 36 S36 (wrap .u32 (x0.2.2.2.2.2.2.2.2.2.2.2.2.2+1),wrap .u32 x0.1,x0.2.2.1))] [] [] 5041 rfl (by kernel_rfl) c0 ?_))
   obtain rfl:=inj F0
   exact ret_pure (q:=[.v S36 (wrap .u32 (x0.2.2.2.2.2.2.2.2.2.2.2.2.2+1),wrap .u32 x0.1,x0.2.2.1),vb true]) [S36,.bool] rfl rfl (by kernel_rfl)
 rcases Bool.eq_false_or_eq_true (!t1.2) with h4|h4
 ·replace F1:=ift h4 F1
  refine rg [(2,.ptr 5000 [] 0),(4,.ptr 5040 [] 0),(30,vb true)] [(5000,.var 78 S78 x0),(5040,.var 36 S36 (0,0,0))] [] [(2,true)] 5041 rfl (by kernel_rfl) (cc h4 c0) ?_
  exact J1_0 _ (inj F1).symm
 ·replace F1:=ifn h4 F1
  rcases Bool.eq_false_or_eq_true (t1.1 != x0.1) with h5|h5
  ·replace F1:=ift h5 F1
   refine rg [(2,.ptr 5000 [] 0),(4,.ptr 5040 [] 0),(30,vb true)] [(5000,.var 78 S78 x0),(5040,.var 36 S36 (0,0,0))] [] [(2,false),(8,true)] 5041 rfl (by kernel_rfl) (cc h4 (cc h5 c0)) ?_
   exact J1_0 _ (inj F1).symm
  ·replace F1:=ifn h5 F1
   rcases Bool.eq_false_or_eq_true (x0.2.2.2.2.2.2.2.2.2.2.2.2.2==4294967295) with h6|h6
   ·replace F1:=ift h6 F1
    refine rg [(2,.ptr 5000 [] 0),(4,.ptr 5040 [] 0),(30,vb true)] [(5000,.var 78 S78 x0),(5040,.var 36 S36 (0,0,0))] [] [(2,false),(8,false),(13,true)] 5041 rfl (by kernel_rfl) (cc h4 (cc h5 (cc h6 c0))) ?_
    exact J1_0 _ (inj F1).symm
   ·replace F1:=ifn h6 F1
    obtain ⟨t2,h7,F1⟩:=obd F1
    refine rg [(2,.ptr 5000 [] 0),(4,.ptr 5040 [] 0),(30,vb t2)] [(5000,.var 78 S78 x0),(5040,.var 36 S36 (0,0,0))] [(16,⟨[.v S78,.v (.arr 8 (.int .u32))],vb t2,none⟩)] [(2,false),(8,false),(13,false)] 5041 rfl (by kernel_rfl) (cc h4 (cc h5 (cc h6 (cc (W_gather_stands h7) c0)))) ?_
    exact J1_0 _ (inj F1).symm
noncomputable def F_gather_each_b1 (t1:(List Int)) (x0:S78.ty) (x1:(S75.ty→Option Bool)) (s1:Int):Option (Int⊕(Bool⊕Unit)) :=
 if (decide (s1<((length t1:Nat):Int)))=true then if 0≤s1∧s1<((length t1:Nat):Int) then (show Option Bool from if ((getD t1 (toNat s1) 0) != x0.1)=true then if 0≤(getD t1 (toNat s1) 0)∧(getD t1 (toNat s1) 0)<((8:Nat):Int) then (if 0≤(getD t1 (toNat s1) 0)∧(getD t1 (toNat s1) 0)<((8:Nat):Int) then (if ((getD x0.2.2.2.2.2.2.2.2.2.2.2.2.1 (toNat (getD t1 (toNat s1) 0)) S75.dflt).1 != (getD x0.2.2.2.2.2.2.2.2.2.1 (toNat (getD t1 (toNat s1) 0)) 0))=true then some true else if 0≤(getD t1 (toNat s1) 0)∧(getD t1 (toNat s1) 0)<((8:Nat):Int) then (x1 (getD x0.2.2.2.2.2.2.2.2.2.2.2.2.1 (toNat (getD t1 (toNat s1) 0)) S75.dflt)).bind fun t2=>(some (!t2)) else none) else none) else none else some false).bind (fun r2=>if (r2)=true then some (Sum.inr (Sum.inl false)) else some (Sum.inl (wrap .i64 (s1+1)))) else none else some (Sum.inr (Sum.inr ()))
noncomputable def F_gather_each (x0:S78.ty) (x1:(S75.ty→Option Bool)):Option Bool :=
 (F_ident_List x0.2.2.2.2.2.2.2.2.2.1).bind fun t1=>((loopO (F_gather_each_b1 t1 x0 x1) 0).bind (Sum.elim some (fun j11=>some true)))
theorem W_gather_each {x0:S78.ty} {x1:(S75.ty→Option Bool)} {y:Bool} (F0:F_gather_each x0 x1=some y):Pure Tryz.prog 177 [.v S78 x0,.v (.fn S75 .bool) x1] (vb y):=by
 unfold F_gather_each at F0
 refine pure_of_run @Tryz.call177 @Tryz.func177 rfl rfl fun w M ho=>?_
 refine sq rfl (rg [(1,.v (.fn S75 .bool) x1),(2,.ptr 5000 [] 0)] [(5000,.var 78 S78 x0)] [] [] 5000 rfl (by kernel_rfl) c0 (sq rfl (sq rfl ?_)))
 obtain ⟨t1,h1,F0⟩:=obd F0
 refine rg [(1,.v (.fn S75 .bool) x1),(2,.ptr 5000 [] 0),(9,.v (.sl (.int .i64)) t1),(10,vi ((length t1:Nat):Int)),(11,vi 0)] [(5000,.var 78 S78 x0)] [(2,⟨[.v (.arr 8 (.int .u32))],.v (.sl (.int .i64)) t1,none⟩)] [] 5001 rfl (by kernel_rfl) (cc (W_ident_List h1) c0) (bk rfl ?_)
 obtain ⟨r1,hl1,F0⟩:=obd F0
 refine run_cutx 0 rfl (fun j11=>r1=Sum.inr j11) (fun j11=>[]) (fun j11=>[]) (fun j11 h2=>?_) (fun J1_1=>?_)
 ·subst h2
  replace F0:=sumR F0
  refine sq rfl (rg [(4,vb true)] [] [] [] 5000 rfl (by kernel_rfl) c0 ?_)
  obtain rfl:=inj F0
  exact ret_pure (q:=[vb true]) [.bool] rfl rfl (by kernel_rfl)
 refine run_loop rfl (run_loopO hl1 (fun s1=>[(1,.v (.fn S75 .bool) x1),(2,.ptr 5000 [] 0),(9,.v (.sl (.int .i64)) t1),(10,vi ((length t1:Nat):Int)),(11,vi s1)]) (fun s1=>[(5000,.var 78 S78 x0)]) rfl rfl (fun s1 o1 F1 ih1 hr1=>?_))
 unfold F_gather_each_b1 at F1
 refine run_again (sq rfl (rg [(1,.v (.fn S75 .bool) x1),(2,.ptr 5000 [] 0),(9,.v (.sl (.int .i64)) t1),(10,vi ((length t1:Nat):Int)),(11,vi s1),(12,vb (decide (s1<((length t1:Nat):Int))))] [(5000,.var 78 S78 x0)] [] [] 5001 rfl (by kernel_rfl) c0 (sq rfl ?_)))
 refine run_if rfl rfl (fun h3=>?_) (fun h3=>?_)
 ·replace F1:=ift h3 F1
  refine sk rfl (sq rfl (bk rfl (sq rfl ?_)))
  obtain ⟨h4,F1⟩:=ifg F1
  refine rg [(1,.v (.fn S75 .bool) x1),(2,.ptr 5000 [] 0),(6,vi (getD t1 (toNat s1) 0)),(9,.v (.sl (.int .i64)) t1),(10,vi ((length t1:Nat):Int)),(11,vi s1)] [(5000,.var 78 S78 x0)] [] [] 5001 rfl (by kernel_rfl) (cc h4 c0) (sq rfl ?_)
  obtain ⟨r2,F2,F1⟩:=obd F1
  refine run_cut (fun r2'=>r2=r2') (fun r2=>[(1,.v (.fn S75 .bool) x1),(2,.ptr 5000 [] 0),(9,.v (.sl (.int .i64)) t1),(10,vi ((length t1:Nat):Int)),(11,vi s1),(39,vb r2)]) (fun r2=>[(5000,.var 78 S78 x0)]) (fun r2' h5=>?_) (fun J2_0=>?_)
  ·subst h5
   refine run_if rfl rfl (fun h6=>?_) (fun h6=>?_)
   ·replace F1:=ift h6 F1
    refine sq rfl (rg [(4,vb false)] [] [] [] 5001 rfl (by kernel_rfl) c0 ?_)
    have e1:=inrI hr1 F1
    subst e1
    replace F0:=sumL F0
    obtain rfl:=inj F0
    exact ret_pure (q:=[vb false]) [.bool] rfl rfl (by kernel_rfl)
   ·replace F1:=ifn h6 F1
    refine sk rfl (eb (rg [(1,.v (.fn S75 .bool) x1),(2,.ptr 5000 [] 0),(9,.v (.sl (.int .i64)) t1),(10,vi ((length t1:Nat):Int)),(11,vi (wrap .i64 (s1+1)))] [(5000,.var 78 S78 x0)] [] [] 5001 rfl (by kernel_rfl) c0 ?_))
    exact ih1 _ (inj F1).symm
  rcases Bool.eq_false_or_eq_true ((getD t1 (toNat s1) 0) != x0.1) with h7|h7
  ·replace F2:=ift h7 F2
   obtain ⟨h8,F2⟩:=ifg F2
   obtain ⟨h9,F2⟩:=ifg F2
   rcases Bool.eq_false_or_eq_true ((getD x0.2.2.2.2.2.2.2.2.2.2.2.2.1 (toNat (getD t1 (toNat s1) 0)) S75.dflt).1 != (getD x0.2.2.2.2.2.2.2.2.2.1 (toNat (getD t1 (toNat s1) 0)) 0)) with h10|h10
   ·replace F2:=ift h10 F2
    refine rG [(1,.v (.fn S75 .bool) x1),(2,.ptr 5000 [] 0),(9,.v (.sl (.int .i64)) t1),(10,vi ((length t1:Nat):Int)),(11,vi s1),(39,vb true)] [(5000,.var 78 S78 x0)] [] [(4,true),(15,true)] 5001 rfl rfl (by kernel_rfl) (cc h7 (cc h8 (cc (show offP S78 [.u,.r,.r,.r,.r,.r,.r,.r,.r,.r,.r,.r,.r,.l,.i (toNat (getD t1 (toNat s1) 0)),.u,.l]=(60+toNat (getD t1 (toNat s1) 0)*16) from offJ (p:=[.u,.r,.r,.r,.r,.r,.r,.r,.r,.r,.r,.r,.r,.l]) (q:=[.u,.l]) rfl (by kernel_rfl) (by kernel_rfl) (by kernel_rfl)) (cc (oo h8 trivial) (cc h9 (cc (show offP S78 [.u,.r,.r,.r,.r,.r,.r,.r,.r,.r,.l,.i (toNat (getD t1 (toNat s1) 0))]=(43+toNat (getD t1 (toNat s1) 0)*1) from offJ (p:=[.u,.r,.r,.r,.r,.r,.r,.r,.r,.r,.l]) (q:=[]) rfl (by kernel_rfl) (by kernel_rfl) (by kernel_rfl)) (cc (oo h9 trivial) (cc h10 c0)))))))) ?_
    exact J2_0 _ (inj F2).symm
   ·replace F2:=ifn h10 F2
    obtain ⟨h11,F2⟩:=ifg F2
    obtain ⟨t2,h12,F2⟩:=obd F2
    refine rG [(1,.v (.fn S75 .bool) x1),(2,.ptr 5000 [] 0),(9,.v (.sl (.int .i64)) t1),(10,vi ((length t1:Nat):Int)),(11,vi s1),(39,vb (!t2))] [(5000,.var 78 S78 x0)] [(21,⟨[],vb t2,none⟩)] [(4,true),(15,false)] 5001 rfl rfl (by kernel_rfl) (cc h7 (cc h8 (cc (show offP S78 [.u,.r,.r,.r,.r,.r,.r,.r,.r,.r,.r,.r,.r,.l,.i (toNat (getD t1 (toNat s1) 0)),.u,.l]=(60+toNat (getD t1 (toNat s1) 0)*16) from offJ (p:=[.u,.r,.r,.r,.r,.r,.r,.r,.r,.r,.r,.r,.r,.l]) (q:=[.u,.l]) rfl (by kernel_rfl) (by kernel_rfl) (by kernel_rfl)) (cc (oo h8 trivial) (cc h9 (cc (show offP S78 [.u,.r,.r,.r,.r,.r,.r,.r,.r,.r,.l,.i (toNat (getD t1 (toNat s1) 0))]=(43+toNat (getD t1 (toNat s1) 0)*1) from offJ (p:=[.u,.r,.r,.r,.r,.r,.r,.r,.r,.r,.l]) (q:=[]) rfl (by kernel_rfl) (by kernel_rfl) (by kernel_rfl)) (cc (oo h9 trivial) (cc h10 (cc h11 (cc (show offP S78 [.u,.r,.r,.r,.r,.r,.r,.r,.r,.r,.r,.r,.r,.l,.i (toNat (getD t1 (toNat s1) 0))]=(60+toNat (getD t1 (toNat s1) 0)*16) from offJ (p:=[.u,.r,.r,.r,.r,.r,.r,.r,.r,.r,.r,.r,.r,.l]) (q:=[]) rfl (by kernel_rfl) (by kernel_rfl) (by kernel_rfl)) (cc (oo h11 trivial) (cc h12 c0)))))))))))) ?_
    exact J2_0 _ (inj F2).symm
  ·replace F2:=ifn h7 F2
   refine rG [(1,.v (.fn S75 .bool) x1),(2,.ptr 5000 [] 0),(9,.v (.sl (.int .i64)) t1),(10,vi ((length t1:Nat):Int)),(11,vi s1),(39,vb false)] [(5000,.var 78 S78 x0)] [] [(4,false)] 5001 rfl rfl (by kernel_rfl) (cc h7 c0) ?_
   exact J2_0 _ (inj F2).symm
 ·replace F1:=ifn h3 F1
  refine run_exit rfl rfl (tm (ρ':=[]) (H':=[]) (by kernel_rfl) (by kernel_rfl) rfl ?_)
  exact J1_1 _ (inrI hr1 F1).symm
noncomputable def F_gather_All_1 (x0:S75.ty) (x1:S78.ty):Option Bool :=
 some (Sh.eqb S36 x0.2.2.1 x1.2.2.2.2.2.2.2.2.1)
theorem W_gather_All_1 {x0:S75.ty} {x1:S78.ty} {y:Bool} (F0:F_gather_All_1 x0 x1=some y):Pure Tryz.prog 178 [.v S75 x0,.fp S78 x1] (vb y):=by
 unfold F_gather_All_1 at F0
 refine pure_of_run @Tryz.call178 @Tryz.func178 rfl rfl fun w M ho=>?_
 refine sq rfl (rg [(1,.fp S78 x1),(2,.ptr 5000 [] 0)] [(5000,.var 75 S75 x0)] [] [] 5000 rfl (by kernel_rfl) c0 (sq rfl (rg [(3,vb (Sh.eqb S36 x0.2.2.1 x1.2.2.2.2.2.2.2.2.1))] [] [] [] 5001 rfl (by kernel_rfl) c0 ?_)))
 obtain rfl:=inj F0
 exact ret_pure (q:=[vb (Sh.eqb S36 x0.2.2.1 x1.2.2.2.2.2.2.2.2.1)]) [.bool] rfl rfl (by kernel_rfl)
noncomputable def F_gather_All (x0:S78.ty):Option Bool :=
 (F_gather_each x0 (fun x=>F_gather_All_1 x x0)).bind fun t1=>(some t1)
theorem W_gather_All {x0:S78.ty} {y:Bool} (F0:F_gather_All x0=some y):Pure Tryz.prog 146 [.v S78 x0] (vb y):=by
 unfold F_gather_All at F0
 refine pure_of_run @Tryz.call146 @Tryz.func146 rfl rfl fun w M ho=>?_
 refine sq rfl (rg [(1,.ptr 5000 [] 0)] [(5000,.var 78 S78 x0)] [] [] 5000 rfl (by kernel_rfl) c0 (sq rfl ?_))
 obtain ⟨t1,h1,F0⟩:=obd F0
 refine rg [(2,vb t1)] [] [(2,⟨[.v S78,.fn S75 .bool (fun x=>F_gather_All_1 x x0)],vb t1,none⟩)] [] 5001 rfl (by kernel_rfl) (cc (show Enters Tryz.prog 178 from Tryz.call178) (cc (show ∀x y,(fun x=>F_gather_All_1 x x0) x=some y→Pure Tryz.prog 178 (.v S75 x::[.fp S78 x0]) (.v .bool y) from fun x y h=>W_gather_All_1 h) (cc (W_gather_each h1) c0))) ?_
 obtain rfl:=inj F0
 exact ret_pure (q:=[vb t1]) [.bool] rfl rfl (by kernel_rfl)
noncomputable def F_gather_Target_b1 (t1:(List Int)) (x0:S78.ty) (s1:(Int×(List Int))):Option ((Int×(List Int))⊕(List Int)) :=
 if (decide (s1.1<((length t1:Nat):Int)))=true then if 0≤s1.1∧s1.1<((length t1:Nat):Int) then (if 0≤(getD t1 (toNat s1.1) 0)∧(getD t1 (toNat s1.1) 0)<((8:Nat):Int) then (show Option Bool from if ((getD t1 (toNat s1.1) 0) != x0.1)=true then if 0≤(getD t1 (toNat s1.1) 0)∧(getD t1 (toNat s1.1) 0)<((8:Nat):Int) then (if ((getD x0.2.2.2.2.2.2.2.2.2.2.2.2.1 (toNat (getD t1 (toNat s1.1) 0)) S75.dflt).1==(getD x0.2.2.2.2.2.2.2.2.2.1 (toNat (getD t1 (toNat s1.1) 0)) 0))=true then if (Sh.eqb S36 (getD x0.2.2.2.2.2.2.2.2.2.2.2.2.1 (toNat (getD t1 (toNat s1.1) 0)) S75.dflt).2.1 x0.2.2.2.2.1)=true then some (Sh.eqb S36 (getD x0.2.2.2.2.2.2.2.2.2.2.2.2.1 (toNat (getD t1 (toNat s1.1) 0)) S75.dflt).2.2.1 x0.2.2.2.2.2.2.2.2.1) else some false else some false) else none else some false).bind (fun r2=>if (r2)=true then (F_cut_Union [s1.2,(getD x0.2.2.2.2.2.2.2.2.2.2.2.2.1 (toNat (getD t1 (toNat s1.1) 0)) S75.dflt).2.2.2.1]).bind fun t2=>(some (Sum.inl (wrap .i64 (s1.1+1),t2))) else some (Sum.inl (wrap .i64 (s1.1+1),s1.2))) else none) else none else some (Sum.inr s1.2)
noncomputable def F_gather_Target (x0:S78.ty):Option (List Int) :=
 (F_ident_List x0.2.2.2.2.2.2.2.2.2.1).bind fun t1=>((loopO (F_gather_Target_b1 t1 x0) (0,x0.2.2.2.2.2.2.2.2.2.2.1)).bind (fun r1=>some r1))
theorem W_gather_Target {x0:S78.ty} {y:(List Int)} (F0:F_gather_Target x0=some y):Pure Tryz.prog 148 [.v S78 x0] (.v (.arr 8 (.int .u32)) y):=by
 unfold F_gather_Target at F0
 refine pure_of_run @Tryz.call148 @Tryz.func148 rfl rfl fun w M ho=>?_
 refine sq rfl (rg [(1,.ptr 5000 [] 0),(2,.ptr 5020 [] 0)] [(5000,.var 78 S78 x0),(5020,.var 52 (.arr 8 (.int .u32)) (replicate 8 0))] [] [] 5000 rfl (by kernel_rfl) c0 (sq rfl (rg [(1,.ptr 5000 [] 0),(2,.ptr 5020 [] 0),(3,.ptr 5061 [] 0)] [(5000,.var 78 S78 x0),(5020,.var 52 (.arr 8 (.int .u32)) (replicate 8 0)),(5061,.var 52 (.arr 8 (.int .u32)) x0.2.2.2.2.2.2.2.2.2.2.1)] [] [] 5021 rfl (by kernel_rfl) c0 (sq rfl (sq rfl ?_)))))
 obtain ⟨t1,h1,F0⟩:=obd F0
 refine rg [(1,.ptr 5000 [] 0),(2,.ptr 5020 [] 0),(3,.ptr 5061 [] 0),(11,.v (.sl (.int .i64)) t1),(12,vi ((length t1:Nat):Int)),(13,vi 0)] [(5000,.var 78 S78 x0),(5020,.var 52 (.arr 8 (.int .u32)) (replicate 8 0)),(5061,.var 52 (.arr 8 (.int .u32)) x0.2.2.2.2.2.2.2.2.2.2.1)] [(2,⟨[.v (.arr 8 (.int .u32))],.v (.sl (.int .i64)) t1,none⟩)] [] 5062 rfl (by kernel_rfl) (cc (W_ident_List h1) c0) (bk rfl ?_)
 obtain ⟨r1,hl1,F0⟩:=obd F0
 refine run_cutx 0 rfl (fun r1'=>r1=r1') (fun r1=>[(2,.ptr 5020 [] 0),(3,.ptr 5061 [] 0)]) (fun r1=>[(5020,.var 52 (.arr 8 (.int .u32)) (replicate 8 0)),(5061,.var 52 (.arr 8 (.int .u32)) r1)]) (fun r1' h2=>?_) (fun J1_0=>?_)
 ·subst h2
  refine sq rfl (rg [(2,.ptr 5020 [] 0)] [(5020,.var 52 (.arr 8 (.int .u32)) r1)] [] [] 5062 rfl (by kernel_rfl) c0 ?_)
  obtain rfl:=inj F0
  exact ret_pure (q:=[.v (.arr 8 (.int .u32)) r1]) [(.arr 8 (.int .u32))] rfl rfl (by kernel_rfl)
 refine run_loop rfl (run_loopO hl1 (fun s1=>[(1,.ptr 5000 [] 0),(2,.ptr 5020 [] 0),(3,.ptr 5061 [] 0),(11,.v (.sl (.int .i64)) t1),(12,vi ((length t1:Nat):Int)),(13,vi s1.1)]) (fun s1=>[(5000,.var 78 S78 x0),(5020,.var 52 (.arr 8 (.int .u32)) (replicate 8 0)),(5061,.var 52 (.arr 8 (.int .u32)) s1.2)]) rfl rfl (fun s1 o1 F1 ih1 hr1=>?_))
 unfold F_gather_Target_b1 at F1
 refine run_again (sq rfl (rg [(1,.ptr 5000 [] 0),(2,.ptr 5020 [] 0),(3,.ptr 5061 [] 0),(11,.v (.sl (.int .i64)) t1),(12,vi ((length t1:Nat):Int)),(13,vi s1.1),(14,vb (decide (s1.1<((length t1:Nat):Int))))] [(5000,.var 78 S78 x0),(5020,.var 52 (.arr 8 (.int .u32)) (replicate 8 0)),(5061,.var 52 (.arr 8 (.int .u32)) s1.2)] [] [] 5062 rfl (by kernel_rfl) c0 (sq rfl ?_)))
 refine run_if rfl rfl (fun h3=>?_) (fun h3=>?_)
 ·replace F1:=ift h3 F1
  refine sk rfl (sq rfl (bk rfl (sq rfl ?_)))
  obtain ⟨h4,F1⟩:=ifg F1
  refine rg [(1,.ptr 5000 [] 0),(2,.ptr 5020 [] 0),(3,.ptr 5061 [] 0),(5,vi (getD t1 (toNat s1.1) 0)),(11,.v (.sl (.int .i64)) t1),(12,vi ((length t1:Nat):Int)),(13,vi s1.1)] [(5000,.var 78 S78 x0),(5020,.var 52 (.arr 8 (.int .u32)) (replicate 8 0)),(5061,.var 52 (.arr 8 (.int .u32)) s1.2)] [] [] 5062 rfl (by kernel_rfl) (cc h4 c0) (sq rfl ?_)
  obtain ⟨h5,F1⟩:=ifg F1
  refine rg [(1,.ptr 5000 [] 0),(2,.ptr 5020 [] 0),(3,.ptr 5061 [] 0),(5,vi (getD t1 (toNat s1.1) 0)),(6,.ptr 5142 [] 0),(11,.v (.sl (.int .i64)) t1),(12,vi ((length t1:Nat):Int)),(13,vi s1.1)] [(5000,.var 78 S78 x0),(5020,.var 52 (.arr 8 (.int .u32)) (replicate 8 0)),(5061,.var 52 (.arr 8 (.int .u32)) s1.2),(5142,.var 75 S75 (getD x0.2.2.2.2.2.2.2.2.2.2.2.2.1 (toNat (getD t1 (toNat s1.1) 0)) S75.dflt))] [] [] 5062 rfl (by kernel_rfl) (cc h5 (cc (show offP S78 [.u,.r,.r,.r,.r,.r,.r,.r,.r,.r,.r,.r,.r,.l,.i (toNat (getD t1 (toNat s1.1) 0))]=(60+toNat (getD t1 (toNat s1.1) 0)*16) from offJ (p:=[.u,.r,.r,.r,.r,.r,.r,.r,.r,.r,.r,.r,.r,.l]) (q:=[]) rfl (by kernel_rfl) (by kernel_rfl) (by kernel_rfl)) (cc (oo h5 trivial) c0))) (sq rfl ?_)
  obtain ⟨r2,F2,F1⟩:=obd F1
  refine run_cut (fun r2'=>r2=r2') (fun r2=>[(1,.ptr 5000 [] 0),(2,.ptr 5020 [] 0),(3,.ptr 5061 [] 0),(6,.ptr 5142 [] 0),(11,.v (.sl (.int .i64)) t1),(12,vi ((length t1:Nat):Int)),(13,vi s1.1),(47,vb r2)]) (fun r2=>[(5000,.var 78 S78 x0),(5020,.var 52 (.arr 8 (.int .u32)) (replicate 8 0)),(5061,.var 52 (.arr 8 (.int .u32)) s1.2),(5142,.var 75 S75 (getD x0.2.2.2.2.2.2.2.2.2.2.2.2.1 (toNat (getD t1 (toNat s1.1) 0)) S75.dflt))]) (fun r2' h6=>?_) (fun J2_0=>?_)
  ·subst h6
   refine run_if rfl rfl (fun h7=>?_) (fun h7=>?_)
   ·replace F1:=ift h7 F1
    obtain ⟨t2,h8,F1⟩:=obd F1
    refine rg [(1,.ptr 5000 [] 0),(2,.ptr 5020 [] 0),(3,.ptr 5061 [] 0),(11,.v (.sl (.int .i64)) t1),(12,vi ((length t1:Nat):Int)),(13,vi s1.1)] [(5000,.var 78 S78 x0),(5020,.var 52 (.arr 8 (.int .u32)) (replicate 8 0)),(5061,.var 52 (.arr 8 (.int .u32)) t2)] [(3,⟨[],.v (.sl (.arr 8 (.int .u32))) [s1.2,(getD x0.2.2.2.2.2.2.2.2.2.2.2.2.1 (toNat (getD t1 (toNat s1.1) 0)) S75.dflt).2.2.2.1],none⟩),(4,⟨[.v (.sl (.arr 8 (.int .u32)))],.v (.arr 8 (.int .u32)) t2,none⟩)] [] 5143 rfl (by kernel_rfl) (cc (W_cut_Union h8) c0) (eb (rg [(1,.ptr 5000 [] 0),(2,.ptr 5020 [] 0),(3,.ptr 5061 [] 0),(11,.v (.sl (.int .i64)) t1),(12,vi ((length t1:Nat):Int)),(13,vi (wrap .i64 (s1.1+1)))] [(5000,.var 78 S78 x0),(5020,.var 52 (.arr 8 (.int .u32)) (replicate 8 0)),(5061,.var 52 (.arr 8 (.int .u32)) t2)] [] [] 5062 rfl (by kernel_rfl) c0 ?_))
    exact ih1 _ (inj F1).symm
   ·replace F1:=ifn h7 F1
    refine sk rfl (eb (rg [(1,.ptr 5000 [] 0),(2,.ptr 5020 [] 0),(3,.ptr 5061 [] 0),(11,.v (.sl (.int .i64)) t1),(12,vi ((length t1:Nat):Int)),(13,vi (wrap .i64 (s1.1+1)))] [(5000,.var 78 S78 x0),(5020,.var 52 (.arr 8 (.int .u32)) (replicate 8 0)),(5061,.var 52 (.arr 8 (.int .u32)) s1.2)] [] [] 5143 rfl (by kernel_rfl) c0 ?_))
    exact ih1 _ (inj F1).symm
  rcases Bool.eq_false_or_eq_true ((getD t1 (toNat s1.1) 0) != x0.1) with h9|h9
  ·replace F2:=ift h9 F2
   obtain ⟨h10,F2⟩:=ifg F2
   rcases Bool.eq_false_or_eq_true ((getD x0.2.2.2.2.2.2.2.2.2.2.2.2.1 (toNat (getD t1 (toNat s1.1) 0)) S75.dflt).1==(getD x0.2.2.2.2.2.2.2.2.2.1 (toNat (getD t1 (toNat s1.1) 0)) 0)) with h11|h11
   ·replace F2:=ift h11 F2
    rcases Bool.eq_false_or_eq_true (Sh.eqb S36 (getD x0.2.2.2.2.2.2.2.2.2.2.2.2.1 (toNat (getD t1 (toNat s1.1) 0)) S75.dflt).2.1 x0.2.2.2.2.1) with h12|h12
    ·replace F2:=ift h12 F2
     refine rG [(1,.ptr 5000 [] 0),(2,.ptr 5020 [] 0),(3,.ptr 5061 [] 0),(6,.ptr 5142 [] 0),(11,.v (.sl (.int .i64)) t1),(12,vi ((length t1:Nat):Int)),(13,vi s1.1),(47,vb (Sh.eqb S36 (getD x0.2.2.2.2.2.2.2.2.2.2.2.2.1 (toNat (getD t1 (toNat s1.1) 0)) S75.dflt).2.2.1 x0.2.2.2.2.2.2.2.2.1))] [(5000,.var 78 S78 x0),(5020,.var 52 (.arr 8 (.int .u32)) (replicate 8 0)),(5061,.var 52 (.arr 8 (.int .u32)) s1.2),(5142,.var 75 S75 (getD x0.2.2.2.2.2.2.2.2.2.2.2.2.1 (toNat (getD t1 (toNat s1.1) 0)) S75.dflt))] [] [(4,true),(13,true),(20,true)] 5143 rfl rfl (by kernel_rfl) (cc h9 (cc h10 (cc (show offP S78 [.u,.r,.r,.r,.r,.r,.r,.r,.r,.r,.l,.i (toNat (getD t1 (toNat s1.1) 0))]=(43+toNat (getD t1 (toNat s1.1) 0)*1) from offJ (p:=[.u,.r,.r,.r,.r,.r,.r,.r,.r,.r,.l]) (q:=[]) rfl (by kernel_rfl) (by kernel_rfl) (by kernel_rfl)) (cc (oo h10 trivial) (cc h11 (cc h12 c0)))))) ?_
     exact J2_0 _ (inj F2).symm
    ·replace F2:=ifn h12 F2
     refine rG [(1,.ptr 5000 [] 0),(2,.ptr 5020 [] 0),(3,.ptr 5061 [] 0),(6,.ptr 5142 [] 0),(11,.v (.sl (.int .i64)) t1),(12,vi ((length t1:Nat):Int)),(13,vi s1.1),(47,vb false)] [(5000,.var 78 S78 x0),(5020,.var 52 (.arr 8 (.int .u32)) (replicate 8 0)),(5061,.var 52 (.arr 8 (.int .u32)) s1.2),(5142,.var 75 S75 (getD x0.2.2.2.2.2.2.2.2.2.2.2.2.1 (toNat (getD t1 (toNat s1.1) 0)) S75.dflt))] [] [(4,true),(13,true),(20,false)] 5143 rfl rfl (by kernel_rfl) (cc h9 (cc h10 (cc (show offP S78 [.u,.r,.r,.r,.r,.r,.r,.r,.r,.r,.l,.i (toNat (getD t1 (toNat s1.1) 0))]=(43+toNat (getD t1 (toNat s1.1) 0)*1) from offJ (p:=[.u,.r,.r,.r,.r,.r,.r,.r,.r,.r,.l]) (q:=[]) rfl (by kernel_rfl) (by kernel_rfl) (by kernel_rfl)) (cc (oo h10 trivial) (cc h11 (cc h12 c0)))))) ?_
     exact J2_0 _ (inj F2).symm
   ·replace F2:=ifn h11 F2
    refine rG [(1,.ptr 5000 [] 0),(2,.ptr 5020 [] 0),(3,.ptr 5061 [] 0),(6,.ptr 5142 [] 0),(11,.v (.sl (.int .i64)) t1),(12,vi ((length t1:Nat):Int)),(13,vi s1.1),(47,vb false)] [(5000,.var 78 S78 x0),(5020,.var 52 (.arr 8 (.int .u32)) (replicate 8 0)),(5061,.var 52 (.arr 8 (.int .u32)) s1.2),(5142,.var 75 S75 (getD x0.2.2.2.2.2.2.2.2.2.2.2.2.1 (toNat (getD t1 (toNat s1.1) 0)) S75.dflt))] [] [(4,true),(13,false)] 5143 rfl rfl (by kernel_rfl) (cc h9 (cc h10 (cc (show offP S78 [.u,.r,.r,.r,.r,.r,.r,.r,.r,.r,.l,.i (toNat (getD t1 (toNat s1.1) 0))]=(43+toNat (getD t1 (toNat s1.1) 0)*1) from offJ (p:=[.u,.r,.r,.r,.r,.r,.r,.r,.r,.r,.l]) (q:=[]) rfl (by kernel_rfl) (by kernel_rfl) (by kernel_rfl)) (cc (oo h10 trivial) (cc h11 c0))))) ?_
    exact J2_0 _ (inj F2).symm
  ·replace F2:=ifn h9 F2
   refine rG [(1,.ptr 5000 [] 0),(2,.ptr 5020 [] 0),(3,.ptr 5061 [] 0),(6,.ptr 5142 [] 0),(11,.v (.sl (.int .i64)) t1),(12,vi ((length t1:Nat):Int)),(13,vi s1.1),(47,vb false)] [(5000,.var 78 S78 x0),(5020,.var 52 (.arr 8 (.int .u32)) (replicate 8 0)),(5061,.var 52 (.arr 8 (.int .u32)) s1.2),(5142,.var 75 S75 (getD x0.2.2.2.2.2.2.2.2.2.2.2.2.1 (toNat (getD t1 (toNat s1.1) 0)) S75.dflt))] [] [(4,false)] 5143 rfl rfl (by kernel_rfl) (cc h9 c0) ?_
   exact J2_0 _ (inj F2).symm
 ·replace F1:=ifn h3 F1
  refine run_exit rfl rfl (tm (ρ':=[(2,.ptr 5020 [] 0),(3,.ptr 5061 [] 0)]) (H':=[(5020,.var 52 (.arr 8 (.int .u32)) (replicate 8 0)),(5061,.var 52 (.arr 8 (.int .u32)) s1.2)]) (by kernel_rfl) (by kernel_rfl) rfl ?_)
  exact J1_0 _ (inrI hr1 F1).symm
noncomputable def F_gather_Done_1 (x0:S75.ty) (x1:S78.ty):Option Bool :=
 (show Option Bool from if (Sh.eqb S36 x0.2.2.1 x1.2.2.2.2.2.2.2.2.1)=true then if x0.2.2.2.2=true then some true else some (Sh.eqb S36 x0.2.1 x1.2.2.2.2.2.2.2.2.1) else some (Sh.eqb S36 x0.2.1 x1.2.2.2.2.2.2.2.2.1)).bind (fun r1=>some r1)
theorem W_gather_Done_1 {x0:S75.ty} {x1:S78.ty} {y:Bool} (F0:F_gather_Done_1 x0 x1=some y):Pure Tryz.prog 180 [.v S75 x0,.fp S78 x1] (vb y):=by
 unfold F_gather_Done_1 at F0
 refine pure_of_run @Tryz.call180 @Tryz.func180 rfl rfl fun w M ho=>?_
 refine sq rfl (rg [(1,.fp S78 x1),(2,.ptr 5000 [] 0)] [(5000,.var 75 S75 x0)] [] [] 5000 rfl (by kernel_rfl) c0 (sq rfl ?_))
 obtain ⟨r1,F1,F0⟩:=obd F0
 refine run_cut (fun r1'=>r1=r1') (fun r1=>[(3,vb r1)]) (fun r1=>[]) (fun r1' h1=>?_) (fun J1_0=>?_)
 ·subst h1
  obtain rfl:=inj F0
  exact ret_pure (q:=[vb r1]) [.bool] rfl rfl (by kernel_rfl)
 rcases Bool.eq_false_or_eq_true (Sh.eqb S36 x0.2.2.1 x1.2.2.2.2.2.2.2.2.1) with h2|h2
 ·replace F1:=ift h2 F1
  rcases Bool.eq_false_or_eq_true x0.2.2.2.2 with h3|h3
  ·replace F1:=ift h3 F1
   refine rg [(3,vb true)] [] [] [(5,true),(9,true)] 5001 rfl (by kernel_rfl) (cc h2 (cc h3 c0)) ?_
   exact J1_0 _ (inj F1).symm
  ·replace F1:=ifn h3 F1
   refine rg [(3,vb (Sh.eqb S36 x0.2.1 x1.2.2.2.2.2.2.2.2.1))] [] [] [(5,true),(9,false)] 5001 rfl (by kernel_rfl) (cc h2 (cc h3 c0)) ?_
   exact J1_0 _ (inj F1).symm
 ·replace F1:=ifn h2 F1
  refine rg [(3,vb (Sh.eqb S36 x0.2.1 x1.2.2.2.2.2.2.2.2.1))] [] [] [(5,false)] 5001 rfl (by kernel_rfl) (cc h2 c0) ?_
  exact J1_0 _ (inj F1).symm
noncomputable def F_gather_Done (x0:S78.ty):Option Bool :=
 (F_gather_each x0 (fun x=>F_gather_Done_1 x x0)).bind fun t1=>(some t1)
theorem W_gather_Done {x0:S78.ty} {y:Bool} (F0:F_gather_Done x0=some y):Pure Tryz.prog 149 [.v S78 x0] (vb y):=by
 unfold F_gather_Done at F0
 refine pure_of_run @Tryz.call149 @Tryz.func149 rfl rfl fun w M ho=>?_
 refine sq rfl (rg [(1,.ptr 5000 [] 0)] [(5000,.var 78 S78 x0)] [] [] 5000 rfl (by kernel_rfl) c0 (sq rfl ?_))
 obtain ⟨t1,h1,F0⟩:=obd F0
 refine rg [(2,vb t1)] [] [(2,⟨[.v S78,.fn S75 .bool (fun x=>F_gather_Done_1 x x0)],vb t1,none⟩)] [] 5001 rfl (by kernel_rfl) (cc (show Enters Tryz.prog 180 from Tryz.call180) (cc (show ∀x y,(fun x=>F_gather_Done_1 x x0) x=some y→Pure Tryz.prog 180 (.v S75 x::[.fp S78 x0]) (.v .bool y) from fun x y h=>W_gather_Done_1 h) (cc (W_gather_each h1) c0))) ?_
 obtain rfl:=inj F0
 exact ret_pure (q:=[vb t1]) [.bool] rfl rfl (by kernel_rfl)
end Go.Proofs.YtjcbamenfaoffaaGreatDoor
