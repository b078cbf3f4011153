/- Laws of my own that the statement leans on; part H8. -/
import Derived.Test.YtjcbamenfaoffaaGreatDoorH7
set_option linter.unusedVariables false
set_option linter.unusedSimpArgs false
open List (length replicate getD drop take)
open Option.some (inj injEq)
open Int (toNat)
open Go.IntKind (wrap)
set_option maxRecDepth 100000
namespace Go.Proofs.YtjcbamenfaoffaaGreatDoor
open Go.RowKit
noncomputable def F_lossy_Put (x0:(List S93.ty)) (x1:(List S93.ty)):Option (List S93.ty) :=
 if ((0:Int)≤mn ((length x1:Nat):Int) (mx 0 (wrap .i64 ((4096:Int)-((length x0:Nat):Int))))∧0≤toNat (mn ((length x1:Nat):Int) (mx 0 (wrap .i64 ((4096:Int)-((length x0:Nat):Int)))))∧toNat (mn ((length x1:Nat):Int) (mx 0 (wrap .i64 ((4096:Int)-((length x0:Nat):Int)))))≤length x1) then (F_slices_Concat_api_Letter_api_Letter [x0,drop 0 (take (toNat (mn ((length x1:Nat):Int) (mx 0 (wrap .i64 ((4096:Int)-((length x0:Nat):Int)))))) x1)]).bind fun t1=>(some t1) else none
theorem W_lossy_Put {x0:(List S93.ty)} {x1:(List S93.ty)} {y:(List S93.ty)} (F0:F_lossy_Put x0 x1=some y):Pure Tryz.prog 90 [.v (.sl S93) x0,.v (.sl S93) x1] (.v (.sl S93) y):=by
 unfold F_lossy_Put at F0
 refine pure_of_run @Tryz.call90 @Tryz.func90 rfl rfl fun w M ho=>?_
 refine sq rfl (rg [(0,.v (.sl S93) x0),(1,.v (.sl S93) x1)] [] [] [] 5000 rfl (by kernel_rfl) c0 (sq rfl (rg [(0,.v (.sl S93) x0),(1,.v (.sl S93) x1),(5,vi (mx 0 (wrap .i64 ((4096:Int)-((length x0:Nat):Int)))))] [] [] [] 5000 rfl (by kernel_rfl) c0 (sq rfl ?_))))
 obtain ⟨h1,F0⟩:=ifg F0
 obtain ⟨t1,h2,F0⟩:=obd F0
 refine rg [(4,.v (.sl S93) t1)] [] [(7,⟨[],.v (.sl (.sl S93)) [x0,drop 0 (take (toNat (mn ((length x1:Nat):Int) (mx 0 (wrap .i64 ((4096:Int)-((length x0:Nat):Int)))))) x1)],none⟩),(8,⟨[.v (.sl (.sl S93))],.v (.sl S93) t1,none⟩)] [] 5000 rfl (by kernel_rfl) (cc h1.1 (cc h1.2.1 (cc h1.2.2 (cc (W_slices_Concat_api_Letter_api_Letter h2) c0)))) ?_
 obtain rfl:=inj F0
 exact ret_pure (q:=[.v (.sl S93) t1]) [(.sl S93)] rfl rfl (by kernel_rfl)
noncomputable def F_lossy_places_b1 (x0:(List S93.ty)) (x1:Int) (x2:Int) (s1:(Int×(List Int))):Option ((Int×(List Int))⊕(List Int)) :=
 if (decide (s1.1<((length x0:Nat):Int)))=true then if 0≤s1.1∧s1.1<((length x0:Nat):Int) then (show Option Bool from if ((getD x0 (toNat s1.1) S93.dflt).1==x1)=true then some ((getD x0 (toNat s1.1) S93.dflt).2.1==x2) else some false).bind (fun r2=>if (r2)=true then if apOk (length s1.2+1) 8 then (some (Sum.inl (wrap .i64 (s1.1+1),s1.2++[s1.1]))) else none else some (Sum.inl (wrap .i64 (s1.1+1),s1.2))) else none else some (Sum.inr s1.2)
noncomputable def F_lossy_places (x0:(List S93.ty)) (x1:Int) (x2:Int):Option (List Int) :=
 (loopO (F_lossy_places_b1 x0 x1 x2) (0,[])).bind (fun r1=>some r1)
theorem W_lossy_places {x0:(List S93.ty)} {x1:Int} {x2:Int} {y:(List Int)} (F0:F_lossy_places x0 x1 x2=some y):Pure Tryz.prog 161 [.v (.sl S93) x0,vi x1,vi x2] (.v (.sl (.int .i64)) y):=by
 unfold F_lossy_places at F0
 refine pure_of_run @Tryz.call161 @Tryz.func161 rfl rfl fun w M ho=>?_
 refine sq rfl (rg [(0,.v (.sl S93) x0),(1,vi x1),(2,vi x2)] [] [] [] 5000 rfl (by kernel_rfl) c0 (sq rfl (rg [(0,.v (.sl S93) x0),(1,vi x1),(2,vi x2),(7,.v (.nl .any) ())] [] [] [] 5000 rfl (by kernel_rfl) c0 (sq rfl (sq rfl (rg [(1,vi x1),(2,vi x2),(7,.v (.nl .any) ()),(10,.v (.sl S93) x0),(11,vi ((length x0:Nat):Int)),(12,vi 0)] [] [] [] 5000 rfl (by kernel_rfl) c0 (bk rfl (run_nilrow (ρ':=[(1,vi x1),(2,vi x2),(7,.row 1107),(10,.v (.sl S93) x0),(11,vi ((length x0:Nat):Int)),(12,vi 0)]) 7 1107 3 (.int .i64) rfl (by kernel_rfl) (by kernel_rfl) ?_))))))))
 obtain ⟨r1,hl1,F0⟩:=obd F0
 refine run_cutx 0 rfl (fun r1'=>r1=r1') (fun r1=>[(7,.row 1107)]) (fun r1=>[(1107,.row 3 (.int .i64) r1)]) (fun r1' h1=>?_) (fun J1_0=>?_)
 ·subst h1
  refine sq rfl (rg [(6,.row 1107)] [(1107,.row 3 (.int .i64) r1)] [] [] 5000 rfl (by kernel_rfl) c0 ?_)
  obtain rfl:=inj F0
  refine run_frz (ρ':=[(6,.v (.sl (.int .i64)) r1)]) (H':=[]) 1107 rfl rfl rfl (by kernel_rfl) (by kernel_rfl) ?_
  exact ret_pure (q:=[.v (.sl (.int .i64)) r1]) [(.sl (.int .i64))] rfl rfl (by kernel_rfl)
 refine run_loop rfl (run_loopO hl1 (fun s1=>[(1,vi x1),(2,vi x2),(7,.row 1107),(10,.v (.sl S93) x0),(11,vi ((length x0:Nat):Int)),(12,vi s1.1)]) (fun s1=>[(1107,.row 3 (.int .i64) s1.2)]) rfl rfl (fun s1 o1 F1 ih1 hr1=>?_))
 unfold F_lossy_places_b1 at F1
 refine run_again (sq rfl (rg [(1,vi x1),(2,vi x2),(7,.row 1107),(10,.v (.sl S93) x0),(11,vi ((length x0:Nat):Int)),(12,vi s1.1),(13,vb (decide (s1.1<((length x0:Nat):Int))))] [(1107,.row 3 (.int .i64) s1.2)] [] [] 5000 rfl (by kernel_rfl) c0 (sq rfl ?_)))
 refine run_if rfl rfl (fun h2=>?_) (fun h2=>?_)
 ·replace F1:=ift h2 F1
  refine sk rfl (sq rfl (bk rfl (sq rfl ?_)))
  obtain ⟨h3,F1⟩:=ifg F1
  refine rg [(1,vi x1),(2,vi x2),(7,.row 1107),(8,vi s1.1),(9,.ptr 5060 [] 0),(10,.v (.sl S93) x0),(11,vi ((length x0:Nat):Int)),(12,vi s1.1)] [(1107,.row 3 (.int .i64) s1.2),(5060,.var 93 S93 (getD x0 (toNat s1.1) S93.dflt))] [] [] 5000 rfl (by kernel_rfl) (cc h3 c0) (sq rfl ?_)
  obtain ⟨r2,F2,F1⟩:=obd F1
  refine run_cut (fun r2'=>r2=r2') (fun r2=>[(1,vi x1),(2,vi x2),(7,.row 1107),(8,vi s1.1),(10,.v (.sl S93) x0),(11,vi ((length x0:Nat):Int)),(12,vi s1.1),(26,vb r2)]) (fun r2=>[(1107,.row 3 (.int .i64) s1.2)]) (fun r2' h4=>?_) (fun J2_0=>?_)
  ·subst h4
   refine run_if rfl rfl (fun h5=>?_) (fun h5=>?_)
   ·replace F1:=ift h5 F1
    obtain ⟨h6,F1⟩:=ifg F1
    refine rg [(1,vi x1),(2,vi x2),(7,.row 5060),(10,.v (.sl S93) x0),(11,vi ((length x0:Nat):Int)),(12,vi s1.1)] [(5060,.row 3 (.int .i64) (s1.2++[s1.1]))] [] [] 5000 rfl (by kernel_rfl) (cc h6.1 (cc h6.2 c0)) (eb (rg [(1,vi x1),(2,vi x2),(7,.row 5060),(10,.v (.sl S93) x0),(11,vi ((length x0:Nat):Int)),(12,vi (wrap .i64 (s1.1+1)))] [(5060,.row 3 (.int .i64) (s1.2++[s1.1]))] [] [] 5061 rfl (by kernel_rfl) c0 (run_ren (ρ':=[(1,vi x1),(2,vi x2),(7,.row 1107),(10,.v (.sl S93) x0),(11,vi ((length x0:Nat):Int)),(12,vi (wrap .i64 (s1.1+1)))]) (H':=[(1107,.row 3 (.int .i64) (s1.2++[s1.1]))]) 5060 1107 rfl (by kernel_rfl) rfl (by kernel_rfl) rfl ?_)))
    exact ih1 _ (inj F1).symm
   ·replace F1:=ifn h5 F1
    refine sk rfl (eb (rg [(1,vi x1),(2,vi x2),(7,.row 1107),(10,.v (.sl S93) x0),(11,vi ((length x0:Nat):Int)),(12,vi (wrap .i64 (s1.1+1)))] [(1107,.row 3 (.int .i64) s1.2)] [] [] 5000 rfl (by kernel_rfl) c0 ?_))
    exact ih1 _ (inj F1).symm
  rcases Bool.eq_false_or_eq_true ((getD x0 (toNat s1.1) S93.dflt).1==x1) with h7|h7
  ·replace F2:=ift h7 F2
   refine rg [(1,vi x1),(2,vi x2),(7,.row 1107),(8,vi s1.1),(10,.v (.sl S93) x0),(11,vi ((length x0:Nat):Int)),(12,vi s1.1),(26,vb ((getD x0 (toNat s1.1) S93.dflt).2.1==x2))] [(1107,.row 3 (.int .i64) s1.2)] [] [(4,true)] 5061 rfl (by kernel_rfl) (cc h7 c0) ?_
   exact J2_0 _ (inj F2).symm
  ·replace F2:=ifn h7 F2
   refine rg [(1,vi x1),(2,vi x2),(7,.row 1107),(8,vi s1.1),(10,.v (.sl S93) x0),(11,vi ((length x0:Nat):Int)),(12,vi s1.1),(26,vb false)] [(1107,.row 3 (.int .i64) s1.2)] [] [(4,false)] 5061 rfl (by kernel_rfl) (cc h7 c0) ?_
   exact J2_0 _ (inj F2).symm
 ·replace F1:=ifn h2 F1
  refine run_exit rfl rfl (tm (ρ':=[(7,.row 1107)]) (H':=[(1107,.row 3 (.int .i64) s1.2)]) (by kernel_rfl) (by kernel_rfl) rfl ?_)
  exact J1_0 _ (inrI hr1 F1).symm
noncomputable def F_lossy_Find (x0:(List S93.ty)) (x1:Int) (x2:Int) (x3:Int):Option (Int×Bool) :=
 (F_lossy_places x0 x1 x2).bind fun t1=>(if (((length t1:Nat):Int)==0)=true then some (0,false) else if ((length t1:Nat):Int)≠(0:Int) then (if ((length t1:Nat):Int)≠(0:Int) then (if 0≤(Int.tmod (wrap .i64 ((Int.tmod x3 ((length t1:Nat):Int))+((length t1:Nat):Int))) ((length t1:Nat):Int))∧(Int.tmod (wrap .i64 ((Int.tmod x3 ((length t1:Nat):Int))+((length t1:Nat):Int))) ((length t1:Nat):Int))<((length t1:Nat):Int) then (some (getD t1 (toNat (Int.tmod (wrap .i64 ((Int.tmod x3 ((length t1:Nat):Int))+((length t1:Nat):Int))) ((length t1:Nat):Int))) 0,true)) else none) else none) else none)
theorem W_lossy_Find {x0:(List S93.ty)} {x1:Int} {x2:Int} {x3:Int} {y:(Int×Bool)} (F0:F_lossy_Find x0 x1 x2 x3=some y):Pure Tryz.prog 129 [.v (.sl S93) x0,vi x1,vi x2,vi x3] (.tup [vi y.1,vb y.2]):=by
 unfold F_lossy_Find at F0
 refine pure_of_run @Tryz.call129 @Tryz.func129 rfl rfl fun w M ho=>?_
 refine sq rfl (rg [(0,.v (.sl S93) x0),(1,vi x1),(2,vi x2),(3,vi x3)] [] [] [] 5000 rfl (by kernel_rfl) c0 (sq rfl ?_))
 obtain ⟨t1,h1,F0⟩:=obd F0
 refine rg [(3,vi x3),(10,.v (.sl (.int .i64)) t1)] [] [(3,⟨[.v (.sl S93),.v (.int .i64),.v (.int .i64)],.v (.sl (.int .i64)) t1,none⟩)] [] 5000 rfl (by kernel_rfl) (cc (W_lossy_places h1) c0) (sq rfl (rg [(3,vi x3),(10,.v (.sl (.int .i64)) t1),(11,vi ((length t1:Nat):Int))] [] [] [] 5000 rfl (by kernel_rfl) c0 (sq rfl (sq rfl (rg [(3,vi x3),(10,.v (.sl (.int .i64)) t1),(11,vi ((length t1:Nat):Int)),(19,vb (((length t1:Nat):Int)==0))] [] [] [] 5000 rfl (by kernel_rfl) c0 ?_)))))
 refine run_if rfl rfl (fun h2=>?_) (fun h2=>?_)
 ·replace F0:=ift h2 F0
  refine sq rfl (rg [(8,vi 0),(9,vb false)] [] [] [] 5000 rfl (by kernel_rfl) c0 ?_)
  obtain rfl:=inj F0
  exact ret_pure (q:=[vi 0,vb false]) [(.int .i64),.bool] rfl rfl (by kernel_rfl)
 ·replace F0:=ifn h2 F0
  refine sk rfl (sq rfl ?_)
  obtain ⟨h3,F0⟩:=ifg F0
  obtain ⟨h4,F0⟩:=ifg F0
  obtain ⟨h5,F0⟩:=ifg F0
  refine rg [(8,vi (getD t1 (toNat (Int.tmod (wrap .i64 ((Int.tmod x3 ((length t1:Nat):Int))+((length t1:Nat):Int))) ((length t1:Nat):Int))) 0)),(9,vb true)] [] [] [] 5000 rfl (by kernel_rfl) (cc h3 (cc h4 (cc h5 c0))) ?_
  obtain rfl:=inj F0
  exact ret_pure (q:=[vi (getD t1 (toNat (Int.tmod (wrap .i64 ((Int.tmod x3 ((length t1:Nat):Int))+((length t1:Nat):Int))) ((length t1:Nat):Int))) 0),vb true]) [(.int .i64),.bool] rfl rfl (by kernel_rfl)
noncomputable def F_lossy_Take (x0:(List S93.ty)) (x1:Int) (x2:Int) (x3:Int):Option ((List S93.ty)×S93.ty×Bool) :=
 (F_slices_Clone_api_Letter_api_Letter x0).bind fun t1=>((F_lossy_Find x0 x1 x2 x3).bind fun t2=>(if (!t2.2)=true then some (t1,(0,0,[],false),false) else (F_slices_Delete_api_Letter_api_Letter t1 t2.1 (wrap .i64 (t2.1+1))).bind fun t3=>(if 0≤t2.1∧t2.1<((length x0:Nat):Int) then (some (t3,getD x0 (toNat t2.1) S93.dflt,true)) else none)))
theorem W_lossy_Take {x0:(List S93.ty)} {x1:Int} {x2:Int} {x3:Int} {y:((List S93.ty)×S93.ty×Bool)} (F0:F_lossy_Take x0 x1 x2 x3=some y):Pure Tryz.prog 92 [.v (.sl S93) x0,vi x1,vi x2,vi x3] (.tup [.v (.sl S93) y.1,.v S93 y.2.1,vb y.2.2]):=by
 unfold F_lossy_Take at F0
 refine pure_of_run @Tryz.call92 @Tryz.func92 rfl rfl fun w M ho=>?_
 refine sq rfl (rg [(0,.v (.sl S93) x0),(1,vi x1),(2,vi x2),(3,vi x3),(9,.ptr 5020 [] 0)] [(5020,.var 93 S93 (0,0,[],false))] [] [] 5000 rfl (by kernel_rfl) c0 (sq rfl ?_))
 obtain ⟨t1,h1,F0⟩:=obd F0
 refine rg [(0,.v (.sl S93) x0),(1,vi x1),(2,vi x2),(3,vi x3),(9,.ptr 5020 [] 0),(11,.row 5041)] [(5020,.var 93 S93 (0,0,[],false)),(5041,.row 93 S93 t1)] [(1,⟨[.v (.sl S93)],.row 0,some ([],[(0,.row 93 S93 t1)])⟩)] [] 5021 rfl (by kernel_rfl) (cc (W_slices_Clone_api_Letter_api_Letter h1) c0) (sq rfl ?_)
 obtain ⟨t2,h2,F0⟩:=obd F0
 refine rg [(0,.v (.sl S93) x0),(9,.ptr 5020 [] 0),(11,.row 5041),(12,vi t2.1),(13,vb t2.2)] [(5020,.var 93 S93 (0,0,[],false)),(5041,.row 93 S93 t1)] [(4,⟨[.v (.sl S93),.v (.int .i64),.v (.int .i64),.v (.int .i64)],.tup [vi t2.1,vb t2.2],none⟩)] [] 5042 rfl (by kernel_rfl) (cc (W_lossy_Find h2) c0) (sq rfl (sq rfl (rg [(0,.v (.sl S93) x0),(9,.ptr 5020 [] 0),(11,.row 5041),(12,vi t2.1),(25,vb (!t2.2))] [(5020,.var 93 S93 (0,0,[],false)),(5041,.row 93 S93 t1)] [] [] 5042 rfl (by kernel_rfl) c0 ?_)))
 refine run_if rfl rfl (fun h3=>?_) (fun h3=>?_)
 ·replace F0:=ift h3 F0
  refine sq rfl (rg [(8,.row 5041),(9,.ptr 5020 [] 0),(10,vb false)] [(5020,.var 93 S93 (0,0,[],false)),(5041,.row 93 S93 t1)] [] [] 5042 rfl (by kernel_rfl) c0 ?_)
  obtain rfl:=inj F0
  refine run_frz (ρ':=[(8,.v (.sl S93) t1),(9,.ptr 5020 [] 0),(10,vb false)]) (H':=[(5020,.var 93 S93 (0,0,[],false))]) 5041 rfl rfl rfl (by kernel_rfl) (by kernel_rfl) ?_
  exact ret_pure (q:=[.v (.sl S93) t1,.v S93 (0,0,[],false),vb false]) [(.sl S93),S93,.bool] rfl rfl (by kernel_rfl)
 ·replace F0:=ifn h3 F0
  refine sk rfl (sq rfl ?_)
  obtain ⟨t3,h4,F0⟩:=obd F0
  obtain ⟨h5,F0⟩:=ifg F0
  refine rG [(8,.row 5123),(9,.ptr 5020 [] 0),(10,vb true)] [(5020,.var 93 S93 (getD x0 (toNat t2.1) S93.dflt)),(5123,.row 93 S93 t3)] [(4,⟨[.v .unit,.v (.int .i64),.v (.int .i64)],.row 1,some ([5041],[(1,.row 93 S93 t3)])⟩)] [] 5042 rfl rfl (by kernel_rfl) (cc (W_slices_Delete_api_Letter_api_Letter h4) (cc h5 c0)) ?_
  obtain rfl:=inj F0
  refine run_frz (ρ':=[(8,.v (.sl S93) t3),(9,.ptr 5020 [] 0),(10,vb true)]) (H':=[(5020,.var 93 S93 (getD x0 (toNat t2.1) S93.dflt))]) 5123 rfl rfl rfl (by kernel_rfl) (by kernel_rfl) ?_
  exact ret_pure (q:=[.v (.sl S93) t3,.v S93 (getD x0 (toNat t2.1) S93.dflt),vb true]) [(.sl S93),S93,.bool] rfl rfl (by kernel_rfl)
noncomputable def F_lossy_Turn_b2 (t1:(List S93.ty)) (t2:(Int×Bool)) (x4:Int) (x5:Int) (s2:(Int×(List Int))):Option ((Int×(List Int))⊕(List Int)) :=
 if (decide (s2.1<(mn 4 (wrap .i64 (((length (byI (getD t1 (toNat t2.1) S93.dflt).2.2.1):Nat):Int)-x4)))))=true then if 0≤(wrap .i64 (x4+s2.1))∧(wrap .i64 (x4+s2.1))<((length s2.2:Nat):Int) then (if (0:Int)≤(wrap .i64 ((8:Int)*s2.1)) then (if 0≤(wrap .i64 (x4+s2.1))∧(wrap .i64 (x4+s2.1))<((length s2.2:Nat):Int) then (some (Sum.inl (wrap .i64 (s2.1+1),List.set s2.2 (toNat (wrap .i64 (x4+s2.1))) (bits .xor .u8 (getD s2.2 (toNat (wrap .i64 (x4+s2.1))) 0) (wrap .u8 (Int.fdiv x5 (2^min (toNat (wrap .i64 ((8:Int)*s2.1))) 32))))))) else none) else none) else none else some (Sum.inr s2.2)
noncomputable def F_lossy_Turn (x0:(List S93.ty)) (x1:Int) (x2:Int) (x3:Int) (x4:Int) (x5:Int):Option (List S93.ty) :=
 (F_slices_Clone_api_Letter_api_Letter x0).bind fun t1=>((F_lossy_Find x0 x1 x2 x3).bind fun t2=>((show Option Bool from if (!t2.2)=true then some true else if (decide (x4<0))=true then some true else if 0≤t2.1∧t2.1<((length x0:Nat):Int) then (if (decide (x4≥((length (getD x0 (toNat t2.1) S93.dflt).2.2.1:Nat):Int)))=true then some true else if 0≤t2.1∧t2.1<((length x0:Nat):Int) then (some (getD x0 (toNat t2.1) S93.dflt).2.2.2) else none) else none).bind (fun r1=>if (r1)=true then some t1 else if 0≤t2.1∧t2.1<((length t1:Nat):Int) then (loopO (F_lossy_Turn_b2 t1 t2 x4 x5) (0,byI (getD t1 (toNat t2.1) S93.dflt).2.2.1)).bind (fun r2=>if 0≤t2.1∧t2.1<((length x0:Nat):Int) then (if 0≤t2.1∧t2.1<((length t1:Nat):Int) then (if 0≤t2.1∧t2.1<((length (List.set t1 (toNat t2.1) ((getD t1 (toNat t2.1) S93.dflt).1,(getD t1 (toNat t2.1) S93.dflt).2.1,iBy r2,(getD t1 (toNat t2.1) S93.dflt).2.2.2)):Nat):Int) then (some (List.set (List.set t1 (toNat t2.1) ((getD t1 (toNat t2.1) S93.dflt).1,(getD t1 (toNat t2.1) S93.dflt).2.1,iBy r2,(getD t1 (toNat t2.1) S93.dflt).2.2.2)) (toNat t2.1) ((getD (List.set t1 (toNat t2.1) ((getD t1 (toNat t2.1) S93.dflt).1,(getD t1 (toNat t2.1) S93.dflt).2.1,iBy r2,(getD t1 (toNat t2.1) S93.dflt).2.2.2)) (toNat t2.1) S93.dflt).1,(getD (List.set t1 (toNat t2.1) ((getD t1 (toNat t2.1) S93.dflt).1,(getD t1 (toNat t2.1) S93.dflt).2.1,iBy r2,(getD t1 (toNat t2.1) S93.dflt).2.2.2)) (toNat t2.1) S93.dflt).2.1,(getD (List.set t1 (toNat t2.1) ((getD t1 (toNat t2.1) S93.dflt).1,(getD t1 (toNat t2.1) S93.dflt).2.1,iBy r2,(getD t1 (toNat t2.1) S93.dflt).2.2.2)) (toNat t2.1) S93.dflt).2.2.1,!((iBy r2)==(getD x0 (toNat t2.1) S93.dflt).2.2.1)))) else none) else none) else none) else none)))
theorem W_lossy_Turn {x0:(List S93.ty)} {x1:Int} {x2:Int} {x3:Int} {x4:Int} {x5:Int} {y:(List S93.ty)} (F0:F_lossy_Turn x0 x1 x2 x3 x4 x5=some y):Pure Tryz.prog 91 [.v (.sl S93) x0,vi x1,vi x2,vi x3,vi x4,.v (.int .u32) x5] (.v (.sl S93) y):=by
 unfold F_lossy_Turn at F0
 refine pure_of_run @Tryz.call91 @Tryz.func91 rfl rfl fun w M ho=>?_
 refine sq rfl (rg [(0,.v (.sl S93) x0),(1,vi x1),(2,vi x2),(3,vi x3),(4,vi x4),(5,.v (.int .u32) x5)] [] [] [] 5000 rfl (by kernel_rfl) c0 (sq rfl ?_))
 obtain ⟨t1,h1,F0⟩:=obd F0
 refine rg [(0,.v (.sl S93) x0),(1,vi x1),(2,vi x2),(3,vi x3),(4,vi x4),(5,.v (.int .u32) x5),(13,.row 5020)] [(5020,.row 93 S93 t1)] [(1,⟨[.v (.sl S93)],.row 0,some ([],[(0,.row 93 S93 t1)])⟩)] [] 5000 rfl (by kernel_rfl) (cc (W_slices_Clone_api_Letter_api_Letter h1) c0) (sq rfl ?_)
 obtain ⟨t2,h2,F0⟩:=obd F0
 refine rg [(0,.v (.sl S93) x0),(4,vi x4),(5,.v (.int .u32) x5),(13,.row 5020),(14,vi t2.1),(15,vb t2.2)] [(5020,.row 93 S93 t1)] [(4,⟨[.v (.sl S93),.v (.int .i64),.v (.int .i64),.v (.int .i64)],.tup [vi t2.1,vb t2.2],none⟩)] [] 5021 rfl (by kernel_rfl) (cc (W_lossy_Find h2) c0) (sq rfl (sq rfl ?_))
 obtain ⟨r1,F1,F0⟩:=obd F0
 refine run_cut (fun r1'=>r1=r1') (fun r1=>[(0,.v (.sl S93) x0),(4,vi x4),(5,.v (.int .u32) x5),(13,.row 5020),(14,vi t2.1),(50,vb r1)]) (fun r1=>[(5020,.row 93 S93 t1)]) (fun r1' h3=>?_) (fun J1_0=>?_)
 ·subst h3
  refine run_if rfl rfl (fun h4=>?_) (fun h4=>?_)
  ·replace F0:=ift h4 F0
   refine sq rfl (rg [(12,.row 5020)] [(5020,.row 93 S93 t1)] [] [] 5021 rfl (by kernel_rfl) c0 ?_)
   obtain rfl:=inj F0
   refine run_frz (ρ':=[(12,.v (.sl S93) t1)]) (H':=[]) 5020 rfl rfl rfl (by kernel_rfl) (by kernel_rfl) ?_
   exact ret_pure (q:=[.v (.sl S93) t1]) [(.sl S93)] rfl rfl (by kernel_rfl)
  ·replace F0:=ifn h4 F0
   refine sk rfl (sq rfl ?_)
   obtain ⟨h5,F0⟩:=ifg F0
   refine rg [(0,.v (.sl S93) x0),(4,vi x4),(5,.v (.int .u32) x5),(13,.row 5020),(14,vi t2.1),(16,.row 5121)] [(5020,.row 93 S93 t1),(5121,.row 5 .mb (byI (getD t1 (toNat t2.1) S93.dflt).2.2.1))] [] [] 5021 rfl (by kernel_rfl) (cc h5 (cc (@rfl Nat ((toNat t2.1*4)+2)) (cc (oo h5 trivial) c0))) (sq rfl (sq rfl (rg [(0,.v (.sl S93) x0),(4,vi x4),(5,.v (.int .u32) x5),(13,.row 5020),(14,vi t2.1),(16,.row 5121),(62,vi (mn 4 (wrap .i64 (((length (byI (getD t1 (toNat t2.1) S93.dflt).2.2.1):Nat):Int)-x4)))),(63,vi 0)] [(5020,.row 93 S93 t1),(5121,.row 5 .mb (byI (getD t1 (toNat t2.1) S93.dflt).2.2.1))] [] [] 5122 rfl (by kernel_rfl) c0 (bk rfl ?_))))
   obtain ⟨r2,hl2,F0⟩:=obd F0
   refine run_cutx 0 rfl (fun r2'=>r2=r2') (fun r2=>[(0,.v (.sl S93) x0),(13,.row 5020),(14,vi t2.1),(16,.row 5121)]) (fun r2=>[(5020,.row 93 S93 t1),(5121,.row 5 .mb r2)]) (fun r2' h6=>?_) (fun J2_0=>?_)
   ·subst h6
    refine sq rfl ?_
    obtain ⟨h7,F0⟩:=ifg F0
    obtain ⟨h8,F0⟩:=ifg F0
    obtain ⟨h9,F0⟩:=ifg F0
    refine rG [(13,.row 5020)] [(5020,.row 93 S93 (List.set (List.set t1 (toNat t2.1) ((getD t1 (toNat t2.1) S93.dflt).1,(getD t1 (toNat t2.1) S93.dflt).2.1,iBy r2,(getD t1 (toNat t2.1) S93.dflt).2.2.2)) (toNat t2.1) ((getD (List.set t1 (toNat t2.1) ((getD t1 (toNat t2.1) S93.dflt).1,(getD t1 (toNat t2.1) S93.dflt).2.1,iBy r2,(getD t1 (toNat t2.1) S93.dflt).2.2.2)) (toNat t2.1) S93.dflt).1,(getD (List.set t1 (toNat t2.1) ((getD t1 (toNat t2.1) S93.dflt).1,(getD t1 (toNat t2.1) S93.dflt).2.1,iBy r2,(getD t1 (toNat t2.1) S93.dflt).2.2.2)) (toNat t2.1) S93.dflt).2.1,(getD (List.set t1 (toNat t2.1) ((getD t1 (toNat t2.1) S93.dflt).1,(getD t1 (toNat t2.1) S93.dflt).2.1,iBy r2,(getD t1 (toNat t2.1) S93.dflt).2.2.2)) (toNat t2.1) S93.dflt).2.2.1,!((iBy r2)==(getD x0 (toNat t2.1) S93.dflt).2.2.1))))] [] [] 5122 rfl rfl (by kernel_rfl) (cc h7 (cc h8 (cc (@rfl Nat ((toNat t2.1*4)+2)) (cc (oo h8 trivial) (cc h9 (cc (@rfl Nat ((toNat t2.1*4)+3)) (cc (oo h9 trivial) c0))))))) (sq rfl (rg [(12,.row 5020)] [(5020,.row 93 S93 (List.set (List.set t1 (toNat t2.1) ((getD t1 (toNat t2.1) S93.dflt).1,(getD t1 (toNat t2.1) S93.dflt).2.1,iBy r2,(getD t1 (toNat t2.1) S93.dflt).2.2.2)) (toNat t2.1) ((getD (List.set t1 (toNat t2.1) ((getD t1 (toNat t2.1) S93.dflt).1,(getD t1 (toNat t2.1) S93.dflt).2.1,iBy r2,(getD t1 (toNat t2.1) S93.dflt).2.2.2)) (toNat t2.1) S93.dflt).1,(getD (List.set t1 (toNat t2.1) ((getD t1 (toNat t2.1) S93.dflt).1,(getD t1 (toNat t2.1) S93.dflt).2.1,iBy r2,(getD t1 (toNat t2.1) S93.dflt).2.2.2)) (toNat t2.1) S93.dflt).2.1,(getD (List.set t1 (toNat t2.1) ((getD t1 (toNat t2.1) S93.dflt).1,(getD t1 (toNat t2.1) S93.dflt).2.1,iBy r2,(getD t1 (toNat t2.1) S93.dflt).2.2.2)) (toNat t2.1) S93.dflt).2.2.1,!((iBy r2)==(getD x0 (toNat t2.1) S93.dflt).2.2.1))))] [] [] 5021 rfl (by kernel_rfl) c0 ?_))
    obtain rfl:=inj F0
    refine run_frz (ρ':=[(12,.v (.sl S93) (List.set (List.set t1 (toNat t2.1) ((getD t1 (toNat t2.1) S93.dflt).1,(getD t1 (toNat t2.1) S93.dflt).2.1,iBy r2,(getD t1 (toNat t2.1) S93.dflt).2.2.2)) (toNat t2.1) ((getD (List.set t1 (toNat t2.1) ((getD t1 (toNat t2.1) S93.dflt).1,(getD t1 (toNat t2.1) S93.dflt).2.1,iBy r2,(getD t1 (toNat t2.1) S93.dflt).2.2.2)) (toNat t2.1) S93.dflt).1,(getD (List.set t1 (toNat t2.1) ((getD t1 (toNat t2.1) S93.dflt).1,(getD t1 (toNat t2.1) S93.dflt).2.1,iBy r2,(getD t1 (toNat t2.1) S93.dflt).2.2.2)) (toNat t2.1) S93.dflt).2.1,(getD (List.set t1 (toNat t2.1) ((getD t1 (toNat t2.1) S93.dflt).1,(getD t1 (toNat t2.1) S93.dflt).2.1,iBy r2,(getD t1 (toNat t2.1) S93.dflt).2.2.2)) (toNat t2.1) S93.dflt).2.2.1,!((iBy r2)==(getD x0 (toNat t2.1) S93.dflt).2.2.1))))]) (H':=[]) 5020 rfl rfl rfl (by kernel_rfl) (by kernel_rfl) ?_
    exact ret_pure (q:=[.v (.sl S93) (List.set (List.set t1 (toNat t2.1) ((getD t1 (toNat t2.1) S93.dflt).1,(getD t1 (toNat t2.1) S93.dflt).2.1,iBy r2,(getD t1 (toNat t2.1) S93.dflt).2.2.2)) (toNat t2.1) ((getD (List.set t1 (toNat t2.1) ((getD t1 (toNat t2.1) S93.dflt).1,(getD t1 (toNat t2.1) S93.dflt).2.1,iBy r2,(getD t1 (toNat t2.1) S93.dflt).2.2.2)) (toNat t2.1) S93.dflt).1,(getD (List.set t1 (toNat t2.1) ((getD t1 (toNat t2.1) S93.dflt).1,(getD t1 (toNat t2.1) S93.dflt).2.1,iBy r2,(getD t1 (toNat t2.1) S93.dflt).2.2.2)) (toNat t2.1) S93.dflt).2.1,(getD (List.set t1 (toNat t2.1) ((getD t1 (toNat t2.1) S93.dflt).1,(getD t1 (toNat t2.1) S93.dflt).2.1,iBy r2,(getD t1 (toNat t2.1) S93.dflt).2.2.2)) (toNat t2.1) S93.dflt).2.2.1,!((iBy r2)==(getD x0 (toNat t2.1) S93.dflt).2.2.1)))]) [(.sl S93)] rfl rfl (by kernel_rfl)
   refine run_loop rfl (run_loopO hl2 (fun s2=>[(0,.v (.sl S93) x0),(4,vi x4),(5,.v (.int .u32) x5),(13,.row 5020),(14,vi t2.1),(16,.row 5121),(62,vi (mn 4 (wrap .i64 (((length (byI (getD t1 (toNat t2.1) S93.dflt).2.2.1):Nat):Int)-x4)))),(63,vi s2.1)]) (fun s2=>[(5020,.row 93 S93 t1),(5121,.row 5 .mb s2.2)]) rfl rfl (fun s2 o2 F1 ih2 hr2=>?_))
   unfold F_lossy_Turn_b2 at F1
   refine run_again (sq rfl (rg [(0,.v (.sl S93) x0),(4,vi x4),(5,.v (.int .u32) x5),(13,.row 5020),(14,vi t2.1),(16,.row 5121),(62,vi (mn 4 (wrap .i64 (((length (byI (getD t1 (toNat t2.1) S93.dflt).2.2.1):Nat):Int)-x4)))),(63,vi s2.1),(64,vb (decide (s2.1<(mn 4 (wrap .i64 (((length (byI (getD t1 (toNat t2.1) S93.dflt).2.2.1):Nat):Int)-x4))))))] [(5020,.row 93 S93 t1),(5121,.row 5 .mb s2.2)] [] [] 5122 rfl (by kernel_rfl) c0 (sq rfl ?_)))
   refine run_if rfl rfl (fun h10=>?_) (fun h10=>?_)
   ·replace F1:=ift h10 F1
    refine sk rfl (sq rfl (bk rfl (sq rfl (rg [(0,.v (.sl S93) x0),(4,vi x4),(5,.v (.int .u32) x5),(13,.row 5020),(14,vi t2.1),(16,.row 5121),(17,vi s2.1),(62,vi (mn 4 (wrap .i64 (((length (byI (getD t1 (toNat t2.1) S93.dflt).2.2.1):Nat):Int)-x4)))),(63,vi s2.1)] [(5020,.row 93 S93 t1),(5121,.row 5 .mb s2.2)] [] [] 5122 rfl (by kernel_rfl) c0 ?_))))
    obtain ⟨h11,F1⟩:=ifg F1
    obtain ⟨h12,F1⟩:=ifg F1
    obtain ⟨h13,F1⟩:=ifg F1
    refine rG [(0,.v (.sl S93) x0),(4,vi x4),(5,.v (.int .u32) x5),(13,.row 5020),(14,vi t2.1),(16,.row 5121),(62,vi (mn 4 (wrap .i64 (((length (byI (getD t1 (toNat t2.1) S93.dflt).2.2.1):Nat):Int)-x4)))),(63,vi s2.1)] [(5020,.row 93 S93 t1),(5121,.row 5 .mb (List.set s2.2 (toNat (wrap .i64 (x4+s2.1))) (bits .xor .u8 (getD s2.2 (toNat (wrap .i64 (x4+s2.1))) 0) (wrap .u8 (Int.fdiv x5 (2^min (toNat (wrap .i64 ((8:Int)*s2.1))) 32))))))] [] [] 5122 rfl rfl (by kernel_rfl) (cc h11 (cc (@rfl Nat (toNat (wrap .i64 (x4+s2.1))*1)) (cc (oo h11 trivial) (cc h12 (cc h13 (cc (@rfl Nat (toNat (wrap .i64 (x4+s2.1))*1)) (cc (oo h13 trivial) c0))))))) (eb (rg [(0,.v (.sl S93) x0),(4,vi x4),(5,.v (.int .u32) x5),(13,.row 5020),(14,vi t2.1),(16,.row 5121),(62,vi (mn 4 (wrap .i64 (((length (byI (getD t1 (toNat t2.1) S93.dflt).2.2.1):Nat):Int)-x4)))),(63,vi (wrap .i64 (s2.1+1)))] [(5020,.row 93 S93 t1),(5121,.row 5 .mb (List.set s2.2 (toNat (wrap .i64 (x4+s2.1))) (bits .xor .u8 (getD s2.2 (toNat (wrap .i64 (x4+s2.1))) 0) (wrap .u8 (Int.fdiv x5 (2^min (toNat (wrap .i64 ((8:Int)*s2.1))) 32))))))] [] [] 5122 rfl (by kernel_rfl) c0 ?_))
    exact ih2 _ (inj F1).symm
   ·replace F1:=ifn h10 F1
    refine run_exit rfl rfl (tm (ρ':=[(0,.v (.sl S93) x0),(13,.row 5020),(14,vi t2.1),(16,.row 5121)]) (H':=[(5020,.row 93 S93 t1),(5121,.row 5 .mb s2.2)]) (by kernel_rfl) (by kernel_rfl) rfl ?_)
    exact J2_0 _ (inrI hr2 F1).symm
 rcases Bool.eq_false_or_eq_true (!t2.2) with h14|h14
 ·replace F1:=ift h14 F1
  refine rg [(0,.v (.sl S93) x0),(4,vi x4),(5,.v (.int .u32) x5),(13,.row 5020),(14,vi t2.1),(50,vb true)] [(5020,.row 93 S93 t1)] [] [(2,true)] 5021 rfl (by kernel_rfl) (cc h14 c0) ?_
  exact J1_0 _ (inj F1).symm
 ·replace F1:=ifn h14 F1
  rcases Bool.eq_false_or_eq_true (decide (x4<0)) with h15|h15
  ·replace F1:=ift h15 F1
   refine rg [(0,.v (.sl S93) x0),(4,vi x4),(5,.v (.int .u32) x5),(13,.row 5020),(14,vi t2.1),(50,vb true)] [(5020,.row 93 S93 t1)] [] [(2,false),(6,true)] 5021 rfl (by kernel_rfl) (cc h14 (cc h15 c0)) ?_
   exact J1_0 _ (inj F1).symm
  ·replace F1:=ifn h15 F1
   obtain ⟨h16,F1⟩:=ifg F1
   rcases Bool.eq_false_or_eq_true (decide (x4≥((length (getD x0 (toNat t2.1) S93.dflt).2.2.1:Nat):Int))) with h17|h17
   ·replace F1:=ift h17 F1
    refine rg [(0,.v (.sl S93) x0),(4,vi x4),(5,.v (.int .u32) x5),(13,.row 5020),(14,vi t2.1),(50,vb true)] [(5020,.row 93 S93 t1)] [] [(2,false),(6,false),(16,true)] 5021 rfl (by kernel_rfl) (cc h14 (cc h15 (cc h16 (cc h17 c0)))) ?_
    exact J1_0 _ (inj F1).symm
   ·replace F1:=ifn h17 F1
    obtain ⟨h18,F1⟩:=ifg F1
    refine rg [(0,.v (.sl S93) x0),(4,vi x4),(5,.v (.int .u32) x5),(13,.row 5020),(14,vi t2.1),(50,vb (getD x0 (toNat t2.1) S93.dflt).2.2.2)] [(5020,.row 93 S93 t1)] [] [(2,false),(6,false),(16,false)] 5021 rfl (by kernel_rfl) (cc h14 (cc h15 (cc h16 (cc h17 (cc h18 c0))))) ?_
    exact J1_0 _ (inj F1).symm
abbrev S29:Sh:=(.st (.prod (.int .i64) (.prod (.sl S78) (.prod (.sl .bool) (.sl S93)))))
abbrev Z29:Sh:=(.st (.prod (.int .i64) (.prod (.nl S78) (.prod (.nl .bool) (.nl S93)))))
noncomputable def F_cluster_Begin_b2 (x0:Int) (x1:Int) (s2:(Int×(List S78.ty)×(List Bool))):Option ((Int×(List S78.ty)×(List Bool))⊕((S29.ty×Bool)⊕((List S78.ty)×(List Bool)))) :=
 if (decide (s2.1<x0))=true then (F_core_Start s2.1 1 x1).bind fun t1=>(if (!t1.2)=true then some (Sum.inr (Sum.inl ((0,[],[],[]),false))) else if apOk (length s2.2.1+1) 792 then (if apOk (length s2.2.2+1) 1 then (some (Sum.inl (wrap .i64 (s2.1+1),s2.2.1++[t1.1],s2.2.2++[true]))) else none) else none) else some (Sum.inr (Sum.inr (s2.2.1,s2.2.2)))
noncomputable def F_cluster_Begin (x0:Int) (x1:Int):Option (S29.ty×Bool) :=
 (show Option Bool from if (decide (x0<1))=true then some true else some (decide (x0>8))).bind (fun r1=>if (r1)=true then some ((0,[],[],[]),false) else (loopO (F_cluster_Begin_b2 x0 x1) (0,[],[])).bind (Sum.elim some (fun j21=>some ((x1,j21.1,j21.2,[]),true))))
theorem W_cluster_Begin {x0:Int} {x1:Int} {y:(S29.ty×Bool)} (F0:F_cluster_Begin x0 x1=some y):Pure Tryz.prog 17 [vi x0,vi x1] (.tup [.v S29 y.1,vb y.2]):=by
 unfold F_cluster_Begin at F0
 refine pure_of_run @Tryz.call17 @Tryz.func17 rfl rfl fun w M ho=>?_
 refine sq rfl (rg [(0,vi x0),(1,vi x1),(4,.ptr 5000 [] 0)] [(5000,.var 29 Z29 (0,(),(),()))] [] [] 5000 rfl (by kernel_rfl) c0 (run_nilF (H':=[(1000,.row 78 S78 []),(5000,.var 29 (.st (.prod (.int .i64) (.prod .ref (.prod (.nl .bool) (.nl S93))))) (0,1000,(),()))]) 5000 1000 [.u,.r,.l] 78 S78 rfl rfl rfl rfl rfl rfl (by kernel_rfl) rfl (run_nilF (H':=[(1001,.row 4 .bool []),(1000,.row 78 S78 []),(5000,.var 29 (.st (.prod (.int .i64) (.prod .ref (.prod .ref (.nl S93))))) (0,1000,1001,()))]) 5000 1001 [.u,.r,.r,.l] 4 .bool rfl rfl rfl rfl rfl rfl (by kernel_rfl) rfl (sq rfl (sq rfl ?_)))))
 obtain ⟨r1,F1,F0⟩:=obd F0
 refine run_cut (fun r1'=>r1=r1') (fun r1=>[(0,vi x0),(1,vi x1),(4,.ptr 5000 [] 0),(15,vb r1)]) (fun r1=>[(1000,.row 78 S78 []),(1001,.row 4 .bool []),(5000,.var 29 (.st (.prod (.int .i64) (.prod .ref (.prod .ref (.nl S93))))) (0,1000,1001,()))]) (fun r1' h1=>?_) (fun J1_0=>?_)
 ·subst h1
  refine run_if rfl rfl (fun h2=>?_) (fun h2=>?_)
  ·replace F0:=ift h2 F0
   refine sq rfl (rg [(4,.ptr 5000 [] 0),(5,vb false)] [(5000,.var 29 Z29 (0,(),(),()))] [] [] 5001 rfl (by kernel_rfl) c0 (run_nilF (H':=[(1000,.row 78 S78 []),(5000,.var 29 (.st (.prod (.int .i64) (.prod .ref (.prod (.nl .bool) (.nl S93))))) (0,1000,(),()))]) 5000 1000 [.u,.r,.l] 78 S78 rfl rfl rfl rfl rfl rfl (by kernel_rfl) rfl (run_nilF (H':=[(1001,.row 4 .bool []),(1000,.row 78 S78 []),(5000,.var 29 (.st (.prod (.int .i64) (.prod .ref (.prod .ref (.nl S93))))) (0,1000,1001,()))]) 5000 1001 [.u,.r,.r,.l] 4 .bool rfl rfl rfl rfl rfl rfl (by kernel_rfl) rfl ?_)))
   obtain rfl:=inj F0
   refine tm (ρ':=[(4,.ptr 5000 [] 0),(5,vb false)]) (H':=[(1000,.row 78 S78 []),(1001,.row 4 .bool []),(5000,.var 29 (.st (.prod (.int .i64) (.prod .ref (.prod .ref (.nl S93))))) (0,1000,1001,()))]) (by kernel_rfl) (by kernel_rfl) rfl (run_frzC (ρ':=[(4,.ptr 5000 [] 0),(5,vb false)]) (H':=[(1001,.row 4 .bool []),(5000,.var 29 (.st (.prod (.int .i64) (.prod (.sl S78) (.prod .ref (.nl S93))))) (0,[],1001,()))]) 1000 rfl rfl rfl (by kernel_rfl) (by kernel_rfl) (run_frzC (ρ':=[(4,.ptr 5000 [] 0),(5,vb false)]) (H':=[(5000,.var 29 (.st (.prod (.int .i64) (.prod (.sl S78) (.prod (.sl .bool) (.nl S93))))) (0,[],[],()))]) 1001 rfl rfl rfl (by kernel_rfl) (by kernel_rfl) ?_))
   exact ret_pure (q:=[.v S29 (0,[],[],[]),vb false]) [S29,.bool] rfl rfl (by kernel_rfl)
  ·replace F0:=ifn h2 F0
   refine sk rfl (sq rfl (rg [(0,vi x0),(1,vi x1),(4,.ptr 5000 [] 0),(6,.ptr 5041 [] 0)] [(1000,.row 78 S78 []),(1001,.row 4 .bool []),(5000,.var 29 (.st (.prod (.int .i64) (.prod .ref (.prod .ref (.nl S93))))) (0,1000,1001,())),(5041,.var 29 Z29 (x1,(),(),()))] [] [] 5001 rfl (by kernel_rfl) c0 (run_nilF (H':=[(1064,.row 78 S78 []),(1000,.row 78 S78 []),(1001,.row 4 .bool []),(5000,.var 29 (.st (.prod (.int .i64) (.prod .ref (.prod .ref (.nl S93))))) (0,1000,1001,())),(5041,.var 29 (.st (.prod (.int .i64) (.prod .ref (.prod (.nl .bool) (.nl S93))))) (x1,1064,(),()))]) 5041 1064 [.u,.r,.l] 78 S78 rfl rfl rfl rfl rfl rfl (by kernel_rfl) rfl (run_nilF (H':=[(1065,.row 4 .bool []),(1064,.row 78 S78 []),(1000,.row 78 S78 []),(1001,.row 4 .bool []),(5000,.var 29 (.st (.prod (.int .i64) (.prod .ref (.prod .ref (.nl S93))))) (0,1000,1001,())),(5041,.var 29 (.st (.prod (.int .i64) (.prod .ref (.prod .ref (.nl S93))))) (x1,1064,1065,()))]) 5041 1065 [.u,.r,.r,.l] 4 .bool rfl rfl rfl rfl rfl rfl (by kernel_rfl) rfl (sq rfl (sq rfl (rg [(1,vi x1),(4,.ptr 5000 [] 0),(6,.ptr 5041 [] 0),(19,vi x0),(20,vi 0)] [(1000,.row 78 S78 []),(1001,.row 4 .bool []),(1064,.row 78 S78 []),(1065,.row 4 .bool []),(5000,.var 29 (.st (.prod (.int .i64) (.prod .ref (.prod .ref (.nl S93))))) (0,1000,1001,())),(5041,.var 29 (.st (.prod (.int .i64) (.prod .ref (.prod .ref (.nl S93))))) (x1,1064,1065,()))] [] [] 5042 rfl (by kernel_rfl) c0 (bk rfl ?_))))))))
   obtain ⟨r2,hl2,F0⟩:=obd F0
   refine run_cutx 0 rfl (fun j21=>r2=Sum.inr j21) (fun j21=>[(4,.ptr 5000 [] 0),(6,.ptr 5041 [] 0)]) (fun j21=>[(1000,.row 78 S78 []),(1001,.row 4 .bool []),(1064,.row 78 S78 j21.1),(1065,.row 4 .bool j21.2),(5000,.var 29 (.st (.prod (.int .i64) (.prod .ref (.prod .ref (.nl S93))))) (0,1000,1001,())),(5041,.var 29 (.st (.prod (.int .i64) (.prod .ref (.prod .ref (.nl S93))))) (x1,1064,1065,()))]) (fun j21 h3=>?_) (fun J2_1=>?_)
   ·subst h3
    replace F0:=sumR F0
    refine sq rfl (rg [(4,.ptr 5000 [] 0),(5,vb true)] [(1064,.row 78 S78 j21.1),(1065,.row 4 .bool j21.2),(5000,.var 29 (.st (.prod (.int .i64) (.prod .ref (.prod .ref (.nl S93))))) (x1,1064,1065,()))] [] [] 5042 rfl (by kernel_rfl) c0 (run_renF (ρ':=[(4,.ptr 5000 [] 0),(5,vb true)]) (H':=[(1000,.row 78 S78 j21.1),(1065,.row 4 .bool j21.2),(5000,.var 29 (.st (.prod (.int .i64) (.prod .ref (.prod .ref (.nl S93))))) (x1,1000,1065,()))]) 1064 1000 rfl (by kernel_rfl) rfl rfl (by kernel_rfl) rfl (run_renF (ρ':=[(4,.ptr 5000 [] 0),(5,vb true)]) (H':=[(1001,.row 4 .bool j21.2),(1000,.row 78 S78 j21.1),(5000,.var 29 (.st (.prod (.int .i64) (.prod .ref (.prod .ref (.nl S93))))) (x1,1000,1001,()))]) 1065 1001 rfl (by kernel_rfl) rfl rfl (by kernel_rfl) rfl ?_)))
    obtain rfl:=inj F0
    refine tm (ρ':=[(4,.ptr 5000 [] 0),(5,vb true)]) (H':=[(1000,.row 78 S78 j21.1),(1001,.row 4 .bool j21.2),(5000,.var 29 (.st (.prod (.int .i64) (.prod .ref (.prod .ref (.nl S93))))) (x1,1000,1001,()))]) (by kernel_rfl) (by kernel_rfl) rfl (run_frzC (ρ':=[(4,.ptr 5000 [] 0),(5,vb true)]) (H':=[(1001,.row 4 .bool j21.2),(5000,.var 29 (.st (.prod (.int .i64) (.prod (.sl S78) (.prod .ref (.nl S93))))) (x1,j21.1,1001,()))]) 1000 rfl rfl rfl (by kernel_rfl) (by kernel_rfl) (run_frzC (ρ':=[(4,.ptr 5000 [] 0),(5,vb true)]) (H':=[(5000,.var 29 (.st (.prod (.int .i64) (.prod (.sl S78) (.prod (.sl .bool) (.nl S93))))) (x1,j21.1,j21.2,()))]) 1001 rfl rfl rfl (by kernel_rfl) (by kernel_rfl) ?_))
    exact ret_pure (q:=[.v S29 (x1,j21.1,j21.2,[]),vb true]) [S29,.bool] rfl rfl (by kernel_rfl)
   refine run_loop rfl (run_loopO hl2 (fun s2=>[(1,vi x1),(4,.ptr 5000 [] 0),(6,.ptr 5041 [] 0),(19,vi x0),(20,vi s2.1)]) (fun s2=>[(1000,.row 78 S78 []),(1001,.row 4 .bool []),(1064,.row 78 S78 s2.2.1),(1065,.row 4 .bool s2.2.2),(5000,.var 29 (.st (.prod (.int .i64) (.prod .ref (.prod .ref (.nl S93))))) (0,1000,1001,())),(5041,.var 29 (.st (.prod (.int .i64) (.prod .ref (.prod .ref (.nl S93))))) (x1,1064,1065,()))]) rfl rfl (fun s2 o2 F1 ih2 hr2=>?_))
   unfold F_cluster_Begin_b2 at F1
   refine run_again (sq rfl (rg [(1,vi x1),(4,.ptr 5000 [] 0),(6,.ptr 5041 [] 0),(19,vi x0),(20,vi s2.1),(21,vb (decide (s2.1<x0)))] [(1000,.row 78 S78 []),(1001,.row 4 .bool []),(1064,.row 78 S78 s2.2.1),(1065,.row 4 .bool s2.2.2),(5000,.var 29 (.st (.prod (.int .i64) (.prod .ref (.prod .ref (.nl S93))))) (0,1000,1001,())),(5041,.var 29 (.st (.prod (.int .i64) (.prod .ref (.prod .ref (.nl S93))))) (x1,1064,1065,()))] [] [] 5042 rfl (by kernel_rfl) c0 (sq rfl ?_)))
   refine run_if rfl rfl (fun h4=>?_) (fun h4=>?_)
   ·replace F1:=ift h4 F1
    refine sk rfl (sq rfl (bk rfl (sq rfl (rg [(1,vi x1),(4,.ptr 5000 [] 0),(6,.ptr 5041 [] 0),(7,vi s2.1),(19,vi x0),(20,vi s2.1)] [(1000,.row 78 S78 []),(1001,.row 4 .bool []),(1064,.row 78 S78 s2.2.1),(1065,.row 4 .bool s2.2.2),(5000,.var 29 (.st (.prod (.int .i64) (.prod .ref (.prod .ref (.nl S93))))) (0,1000,1001,())),(5041,.var 29 (.st (.prod (.int .i64) (.prod .ref (.prod .ref (.nl S93))))) (x1,1064,1065,()))] [] [] 5042 rfl (by kernel_rfl) c0 (sq rfl ?_)))))
    obtain ⟨t1,h5,F1⟩:=obd F1
    refine rg [(1,vi x1),(4,.ptr 5000 [] 0),(6,.ptr 5041 [] 0),(8,.ptr 5162 [] 0),(9,vb t1.2),(19,vi x0),(20,vi s2.1)] [(1000,.row 78 S78 []),(1001,.row 4 .bool []),(1064,.row 78 S78 s2.2.1),(1065,.row 4 .bool s2.2.2),(5000,.var 29 (.st (.prod (.int .i64) (.prod .ref (.prod .ref (.nl S93))))) (0,1000,1001,())),(5041,.var 29 (.st (.prod (.int .i64) (.prod .ref (.prod .ref (.nl S93))))) (x1,1064,1065,())),(5162,.var 78 S78 t1.1)] [(2,⟨[.v (.int .i64),.v (.int .u32),.v (.int .i64)],.tup [.v S78 t1.1,vb t1.2],none⟩)] [] 5042 rfl (by kernel_rfl) (cc (W_core_Start h5) c0) (sq rfl (sq rfl (rg [(1,vi x1),(4,.ptr 5000 [] 0),(6,.ptr 5041 [] 0),(8,.ptr 5162 [] 0),(19,vi x0),(20,vi s2.1),(30,vb (!t1.2))] [(1000,.row 78 S78 []),(1001,.row 4 .bool []),(1064,.row 78 S78 s2.2.1),(1065,.row 4 .bool s2.2.2),(5000,.var 29 (.st (.prod (.int .i64) (.prod .ref (.prod .ref (.nl S93))))) (0,1000,1001,())),(5041,.var 29 (.st (.prod (.int .i64) (.prod .ref (.prod .ref (.nl S93))))) (x1,1064,1065,())),(5162,.var 78 S78 t1.1)] [] [] 5163 rfl (by kernel_rfl) c0 ?_)))
    refine run_if rfl rfl (fun h6=>?_) (fun h6=>?_)
    ·replace F1:=ift h6 F1
     refine sq rfl (rg [(4,.ptr 5000 [] 0),(5,vb false)] [(5000,.var 29 Z29 (0,(),(),()))] [] [] 5163 rfl (by kernel_rfl) c0 (run_nilF (H':=[(1000,.row 78 S78 []),(5000,.var 29 (.st (.prod (.int .i64) (.prod .ref (.prod (.nl .bool) (.nl S93))))) (0,1000,(),()))]) 5000 1000 [.u,.r,.l] 78 S78 rfl rfl rfl rfl rfl rfl (by kernel_rfl) rfl (run_nilF (H':=[(1001,.row 4 .bool []),(1000,.row 78 S78 []),(5000,.var 29 (.st (.prod (.int .i64) (.prod .ref (.prod .ref (.nl S93))))) (0,1000,1001,()))]) 5000 1001 [.u,.r,.r,.l] 4 .bool rfl rfl rfl rfl rfl rfl (by kernel_rfl) rfl ?_)))
     have e2:=inrI hr2 F1
     subst e2
     replace F0:=sumL F0
     obtain rfl:=inj F0
     refine tm (ρ':=[(4,.ptr 5000 [] 0),(5,vb false)]) (H':=[(1000,.row 78 S78 []),(1001,.row 4 .bool []),(5000,.var 29 (.st (.prod (.int .i64) (.prod .ref (.prod .ref (.nl S93))))) (0,1000,1001,()))]) (by kernel_rfl) (by kernel_rfl) rfl (run_frzC (ρ':=[(4,.ptr 5000 [] 0),(5,vb false)]) (H':=[(1001,.row 4 .bool []),(5000,.var 29 (.st (.prod (.int .i64) (.prod (.sl S78) (.prod .ref (.nl S93))))) (0,[],1001,()))]) 1000 rfl rfl rfl (by kernel_rfl) (by kernel_rfl) (run_frzC (ρ':=[(4,.ptr 5000 [] 0),(5,vb false)]) (H':=[(5000,.var 29 (.st (.prod (.int .i64) (.prod (.sl S78) (.prod (.sl .bool) (.nl S93))))) (0,[],[],()))]) 1001 rfl rfl rfl (by kernel_rfl) (by kernel_rfl) ?_))
     exact ret_pure (q:=[.v S29 (0,[],[],[]),vb false]) [S29,.bool] rfl rfl (by kernel_rfl)
    ·replace F1:=ifn h6 F1
     refine sk rfl (sq rfl ?_)
     obtain ⟨h7,F1⟩:=ifg F1
     refine rg [(1,vi x1),(4,.ptr 5000 [] 0),(6,.ptr 5041 [] 0),(19,vi x0),(20,vi s2.1)] [(1000,.row 78 S78 []),(1001,.row 4 .bool []),(1065,.row 4 .bool s2.2.2),(5000,.var 29 (.st (.prod (.int .i64) (.prod .ref (.prod .ref (.nl S93))))) (0,1000,1001,())),(5041,.var 29 (.st (.prod (.int .i64) (.prod .ref (.prod .ref (.nl S93))))) (x1,5243,1065,())),(5243,.row 78 S78 (s2.2.1++[t1.1]))] [] [] 5163 rfl (by kernel_rfl) (cc h7.1 (cc h7.2 c0)) (run_renF (ρ':=[(1,vi x1),(4,.ptr 5000 [] 0),(6,.ptr 5041 [] 0),(19,vi x0),(20,vi s2.1)]) (H':=[(1064,.row 78 S78 (s2.2.1++[t1.1])),(1000,.row 78 S78 []),(1001,.row 4 .bool []),(1065,.row 4 .bool s2.2.2),(5000,.var 29 (.st (.prod (.int .i64) (.prod .ref (.prod .ref (.nl S93))))) (0,1000,1001,())),(5041,.var 29 (.st (.prod (.int .i64) (.prod .ref (.prod .ref (.nl S93))))) (x1,1064,1065,()))]) 5243 1064 rfl (by kernel_rfl) rfl rfl (by kernel_rfl) rfl ?_)
     obtain ⟨h8,F1⟩:=ifg F1
     refine rg [(1,vi x1),(4,.ptr 5000 [] 0),(6,.ptr 5041 [] 0),(19,vi x0),(20,vi s2.1)] [(1000,.row 78 S78 []),(1001,.row 4 .bool []),(1064,.row 78 S78 (s2.2.1++[t1.1])),(5000,.var 29 (.st (.prod (.int .i64) (.prod .ref (.prod .ref (.nl S93))))) (0,1000,1001,())),(5041,.var 29 (.st (.prod (.int .i64) (.prod .ref (.prod .ref (.nl S93))))) (x1,1064,5102,())),(5102,.row 4 .bool (s2.2.2++[true]))] [] [] 5042 rfl (by kernel_rfl) (cc h8.1 (cc h8.2 c0)) (run_renF (ρ':=[(1,vi x1),(4,.ptr 5000 [] 0),(6,.ptr 5041 [] 0),(19,vi x0),(20,vi s2.1)]) (H':=[(1065,.row 4 .bool (s2.2.2++[true])),(1000,.row 78 S78 []),(1001,.row 4 .bool []),(1064,.row 78 S78 (s2.2.1++[t1.1])),(5000,.var 29 (.st (.prod (.int .i64) (.prod .ref (.prod .ref (.nl S93))))) (0,1000,1001,())),(5041,.var 29 (.st (.prod (.int .i64) (.prod .ref (.prod .ref (.nl S93))))) (x1,1064,1065,()))]) 5102 1065 rfl (by kernel_rfl) rfl rfl (by kernel_rfl) rfl (eb (rg [(1,vi x1),(4,.ptr 5000 [] 0),(6,.ptr 5041 [] 0),(19,vi x0),(20,vi (wrap .i64 (s2.1+1)))] [(1000,.row 78 S78 []),(1001,.row 4 .bool []),(1064,.row 78 S78 (s2.2.1++[t1.1])),(1065,.row 4 .bool (s2.2.2++[true])),(5000,.var 29 (.st (.prod (.int .i64) (.prod .ref (.prod .ref (.nl S93))))) (0,1000,1001,())),(5041,.var 29 (.st (.prod (.int .i64) (.prod .ref (.prod .ref (.nl S93))))) (x1,1064,1065,()))] [] [] 5042 rfl (by kernel_rfl) c0 ?_)))
     exact ih2 _ (inj F1).symm
   ·replace F1:=ifn h4 F1
    refine run_exit rfl rfl (tm (ρ':=[(4,.ptr 5000 [] 0),(6,.ptr 5041 [] 0)]) (H':=[(1000,.row 78 S78 []),(1001,.row 4 .bool []),(1064,.row 78 S78 s2.2.1),(1065,.row 4 .bool s2.2.2),(5000,.var 29 (.st (.prod (.int .i64) (.prod .ref (.prod .ref (.nl S93))))) (0,1000,1001,())),(5041,.var 29 (.st (.prod (.int .i64) (.prod .ref (.prod .ref (.nl S93))))) (x1,1064,1065,()))]) (by kernel_rfl) (by kernel_rfl) rfl ?_)
    exact J2_1 _ (inrI hr2 F1).symm
 rcases Bool.eq_false_or_eq_true (decide (x0<1)) with h9|h9
 ·replace F1:=ift h9 F1
  refine rg [(0,vi x0),(1,vi x1),(4,.ptr 5000 [] 0),(15,vb true)] [(1000,.row 78 S78 []),(1001,.row 4 .bool []),(5000,.var 29 (.st (.prod (.int .i64) (.prod .ref (.prod .ref (.nl S93))))) (0,1000,1001,()))] [] [(2,true)] 5001 rfl (by kernel_rfl) (cc h9 c0) ?_
  exact J1_0 _ (inj F1).symm
 ·replace F1:=ifn h9 F1
  refine rg [(0,vi x0),(1,vi x1),(4,.ptr 5000 [] 0),(15,vb (decide (x0>8)))] [(1000,.row 78 S78 []),(1001,.row 4 .bool []),(5000,.var 29 (.st (.prod (.int .i64) (.prod .ref (.prod .ref (.nl S93))))) (0,1000,1001,()))] [] [(2,false)] 5001 rfl (by kernel_rfl) (cc h9 c0) ?_
  exact J1_0 _ (inj F1).symm
abbrev S50:Sh:=(.st (.prod (.int .i64) (.prod (.int .u32) (.prod S36 S48))))
abbrev S98:Sh:=(.st (.prod S29 (.sl S50)))
noncomputable def F_cluster_run_has (x0:S98.ty) (x1:Int):Option Bool :=
 (show Option Bool from if (decide (x1≥0))=true then if (decide (x1<((length x0.1.2.1:Nat):Int)))=true then if (decide (x1<((length x0.1.2.2.1:Nat):Int)))=true then if 0≤x1∧x1<((length x0.1.2.2.1:Nat):Int) then (some (getD x0.1.2.2.1 (toNat x1) false)) else none else some false else some false else some false).bind (fun r1=>some r1)
theorem W_cluster_run_has {x0:S98.ty} {x1:Int} {y:Bool} (F0:F_cluster_run_has x0 x1=some y):Pure Tryz.prog 53 [.fp S98 x0,vi x1] (vb y):=by
 unfold F_cluster_run_has at F0
 refine pure_of_run @Tryz.call53 @Tryz.func53 rfl rfl fun w M ho=>?_
 refine sq rfl (rg [(0,.fp S98 x0),(1,vi x1)] [] [] [] 5000 rfl (by kernel_rfl) c0 (sq rfl ?_))
 obtain ⟨r1,F1,F0⟩:=obd F0
 refine run_cut (fun r1'=>r1=r1') (fun r1=>[(4,vb r1)]) (fun r1=>[]) (fun r1' h1=>?_) (fun J1_0=>?_)
 ·subst h1
  obtain rfl:=inj F0
  exact ret_pure (q:=[vb r1]) [.bool] rfl rfl (by kernel_rfl)
 rcases Bool.eq_false_or_eq_true (decide (x1≥0)) with h2|h2
 ·replace F1:=ift h2 F1
  rcases Bool.eq_false_or_eq_true (decide (x1<((length x0.1.2.1:Nat):Int))) with h3|h3
  ·replace F1:=ift h3 F1
   rcases Bool.eq_false_or_eq_true (decide (x1<((length x0.1.2.2.1:Nat):Int))) with h4|h4
   ·replace F1:=ift h4 F1
    obtain ⟨h5,F1⟩:=ifg F1
    refine rg [(4,vb (getD x0.1.2.2.1 (toNat x1) false))] [] [] [(2,true),(12,true),(22,true)] 5000 rfl (by kernel_rfl) (cc h2 (cc h3 (cc h4 (cc h5 c0)))) ?_
    exact J1_0 _ (inj F1).symm
   ·replace F1:=ifn h4 F1
    refine rg [(4,vb false)] [] [] [(2,true),(12,true),(22,false)] 5000 rfl (by kernel_rfl) (cc h2 (cc h3 (cc h4 c0))) ?_
    exact J1_0 _ (inj F1).symm
  ·replace F1:=ifn h3 F1
   refine rg [(4,vb false)] [] [] [(2,true),(12,false)] 5000 rfl (by kernel_rfl) (cc h2 (cc h3 c0)) ?_
   exact J1_0 _ (inj F1).symm
 ·replace F1:=ifn h2 F1
  refine rg [(4,vb false)] [] [] [(2,false)] 5000 rfl (by kernel_rfl) (cc h2 c0) ?_
  exact J1_0 _ (inj F1).symm
abbrev O29:Sh:=(.st (.prod (.int .i64) (.prod .ref (.prod .ref (.sl S93)))))
abbrev O98:Sh:=(.st (.prod O29 .ref))
noncomputable def F_cluster_run_tell_b1 (x0:S98.ty) (x1:Int) (x3:(List S48.ty)) (s1:(Int×S36.ty×(List S50.ty))):Option ((Int×S36.ty×(List S50.ty))⊕(List S50.ty)) :=
 if (decide (s1.1<((length x3:Nat):Int)))=true then if 0≤s1.1∧s1.1<((length x3:Nat):Int) then (if 0≤x1∧x1<((length x0.1.2.1:Nat):Int) then (if apOk (length s1.2.2+1) 432 then (if (getD x3 (toNat s1.1) S48.dflt).1=true then some (Sum.inl (wrap .i64 (s1.1+1),(getD x3 (toNat s1.1) S48.dflt).2.2.1,s1.2.2++[(x1,(getD x0.1.2.1 (toNat x1) S78.dflt).2.2.1,s1.2.1,getD x3 (toNat s1.1) S48.dflt)])) else some (Sum.inl (wrap .i64 (s1.1+1),s1.2.1,s1.2.2++[(x1,(getD x0.1.2.1 (toNat x1) S78.dflt).2.2.1,s1.2.1,getD x3 (toNat s1.1) S48.dflt)]))) else none) else none) else none else some (Sum.inr s1.2.2)
noncomputable def F_cluster_run_tell (x0:S98.ty) (x1:Int) (x2:S36.ty) (x3:(List S48.ty)):Option S98.ty :=
 (loopO (F_cluster_run_tell_b1 x0 x1 x3) (0,x2,x0.2)).bind (fun r1=>some (x0.1,r1))
theorem W_cluster_run_tell {x0:S98.ty} {x1:Int} {x2:S36.ty} {x3:(List S48.ty)} {y:S98.ty} (F0:F_cluster_run_tell x0 x1 x2 x3=some y):Mut Tryz.prog 87 4 [.ptr 0 [] 0,vi x1,.v S36 x2,.v (.sl S48) x3] [(0,.var 98 O98 ((x0.1.1,1,2,x0.1.2.2.2),3)),(1,.row 78 S78 x0.1.2.1),(2,.row 4 .bool x0.1.2.2.1),(3,.row 50 S50 x0.2)] (.tup []) [(0,.var 98 O98 ((y.1.1,1000,1001,y.1.2.2.2),1002)),(1000,.row 78 S78 y.1.2.1),(1001,.row 4 .bool y.1.2.2.1),(1002,.row 50 S50 y.2)]:=by
 unfold F_cluster_run_tell at F0
 refine mut_of_run @Tryz.call87 @Tryz.func87 rfl rfl fun b=>?_
 refine run_renF (ρ':=[(0,.ptr 0 [] 0),(1,vi x1),(2,.v S36 x2),(3,.v (.sl S48) x3)]) (H':=[(1000,.row 78 S78 x0.1.2.1),(0,.var 98 O98 ((x0.1.1,1000,2,x0.1.2.2.2),3)),(2,.row 4 .bool x0.1.2.2.1),(3,.row 50 S50 x0.2)]) 1 1000 rfl (by kernel_rfl) rfl rfl (by kernel_rfl) rfl (run_renF (ρ':=[(0,.ptr 0 [] 0),(1,vi x1),(2,.v S36 x2),(3,.v (.sl S48) x3)]) (H':=[(1001,.row 4 .bool x0.1.2.2.1),(1000,.row 78 S78 x0.1.2.1),(0,.var 98 O98 ((x0.1.1,1000,1001,x0.1.2.2.2),3)),(3,.row 50 S50 x0.2)]) 2 1001 rfl (by kernel_rfl) rfl rfl (by kernel_rfl) rfl (run_renF (ρ':=[(0,.ptr 0 [] 0),(1,vi x1),(2,.v S36 x2),(3,.v (.sl S48) x3)]) (H':=[(1002,.row 50 S50 x0.2),(1001,.row 4 .bool x0.1.2.2.1),(1000,.row 78 S78 x0.1.2.1),(0,.var 98 O98 ((x0.1.1,1000,1001,x0.1.2.2.2),1002))]) 3 1002 rfl (by kernel_rfl) rfl rfl (by kernel_rfl) rfl (sq rfl (rg [(0,.ptr 0 [] 0),(1,vi x1),(3,.v (.sl S48) x3),(6,.ptr 5000 [] 0)] [(0,.var 98 O98 ((x0.1.1,1000,1001,x0.1.2.2.2),1002)),(1000,.row 78 S78 x0.1.2.1),(1001,.row 4 .bool x0.1.2.2.1),(1002,.row 50 S50 x0.2),(5000,.var 36 S36 x2)] [] [] 5000 rfl (by kernel_rfl) c0 (sq rfl (rg [(0,.ptr 0 [] 0),(1,vi x1),(6,.ptr 5000 [] 0),(10,.v (.sl S48) x3),(11,vi ((length x3:Nat):Int)),(12,vi 0)] [(0,.var 98 O98 ((x0.1.1,1000,1001,x0.1.2.2.2),1002)),(1000,.row 78 S78 x0.1.2.1),(1001,.row 4 .bool x0.1.2.2.1),(1002,.row 50 S50 x0.2),(5000,.var 36 S36 x2)] [] [] 5001 rfl (by kernel_rfl) c0 (bk rfl ?_)))))))
 obtain ⟨r1,hl1,F0⟩:=obd F0
 refine run_cutx 0 rfl (fun r1'=>r1=r1') (fun r1=>[]) (fun r1=>[(0,.var 98 O98 ((x0.1.1,1000,1001,x0.1.2.2.2),1002)),(1000,.row 78 S78 x0.1.2.1),(1001,.row 4 .bool x0.1.2.2.1),(1002,.row 50 S50 r1)]) (fun r1' h1=>?_) (fun J1_0=>?_)
 ·subst h1
  obtain rfl:=inj F0
  exact fall_mut (q:=[]) [] [0,1000,1001,1002] rfl (by kernel_rfl) rfl (by kernel_rfl)
 refine run_loop rfl (run_loopO hl1 (fun s1=>[(0,.ptr 0 [] 0),(1,vi x1),(6,.ptr 5000 [] 0),(10,.v (.sl S48) x3),(11,vi ((length x3:Nat):Int)),(12,vi s1.1)]) (fun s1=>[(0,.var 98 O98 ((x0.1.1,1000,1001,x0.1.2.2.2),1002)),(1000,.row 78 S78 x0.1.2.1),(1001,.row 4 .bool x0.1.2.2.1),(1002,.row 50 S50 s1.2.2),(5000,.var 36 S36 s1.2.1)]) rfl rfl (fun s1 o1 F1 ih1 hr1=>?_))
 unfold F_cluster_run_tell_b1 at F1
 refine run_again (sq rfl (rg [(0,.ptr 0 [] 0),(1,vi x1),(6,.ptr 5000 [] 0),(10,.v (.sl S48) x3),(11,vi ((length x3:Nat):Int)),(12,vi s1.1),(13,vb (decide (s1.1<((length x3:Nat):Int))))] [(0,.var 98 O98 ((x0.1.1,1000,1001,x0.1.2.2.2),1002)),(1000,.row 78 S78 x0.1.2.1),(1001,.row 4 .bool x0.1.2.2.1),(1002,.row 50 S50 s1.2.2),(5000,.var 36 S36 s1.2.1)] [] [] 5001 rfl (by kernel_rfl) c0 (sq rfl ?_)))
 refine run_if rfl rfl (fun h2=>?_) (fun h2=>?_)
 ·replace F1:=ift h2 F1
  refine sk rfl (sq rfl (bk rfl (sq rfl ?_)))
  obtain ⟨h3,F1⟩:=ifg F1
  refine rg [(0,.ptr 0 [] 0),(1,vi x1),(6,.ptr 5000 [] 0),(9,.ptr 5041 [] 0),(10,.v (.sl S48) x3),(11,vi ((length x3:Nat):Int)),(12,vi s1.1)] [(0,.var 98 O98 ((x0.1.1,1000,1001,x0.1.2.2.2),1002)),(1000,.row 78 S78 x0.1.2.1),(1001,.row 4 .bool x0.1.2.2.1),(1002,.row 50 S50 s1.2.2),(5000,.var 36 S36 s1.2.1),(5041,.var 48 S48 (getD x3 (toNat s1.1) S48.dflt))] [] [] 5001 rfl (by kernel_rfl) (cc h3 c0) (sq rfl ?_)
  obtain ⟨h4,F1⟩:=ifg F1
  obtain ⟨h5,F1⟩:=ifg F1
  refine rG [(0,.ptr 0 [] 0),(1,vi x1),(6,.ptr 5000 [] 0),(9,.ptr 5041 [] 0),(10,.v (.sl S48) x3),(11,vi ((length x3:Nat):Int)),(12,vi s1.1)] [(0,.var 98 O98 ((x0.1.1,1000,1001,x0.1.2.2.2),5422)),(1000,.row 78 S78 x0.1.2.1),(1001,.row 4 .bool x0.1.2.2.1),(5000,.var 36 S36 s1.2.1),(5041,.var 48 S48 (getD x3 (toNat s1.1) S48.dflt)),(5422,.row 50 S50 (s1.2.2++[(x1,(getD x0.1.2.1 (toNat x1) S78.dflt).2.2.1,s1.2.1,getD x3 (toNat s1.1) S48.dflt)]))] [] [] 5042 rfl rfl (by kernel_rfl) (cc h4 (cc (@rfl Nat ((toNat x1*189)+2)) (cc (oo h4 trivial) (cc h5.1 (cc h5.2 (cc (show (.row 1002:AVal)=(.row 1002) from rfl) c0)))))) (run_renF (ρ':=[(0,.ptr 0 [] 0),(1,vi x1),(6,.ptr 5000 [] 0),(9,.ptr 5041 [] 0),(10,.v (.sl S48) x3),(11,vi ((length x3:Nat):Int)),(12,vi s1.1)]) (H':=[(1002,.row 50 S50 (s1.2.2++[(x1,(getD x0.1.2.1 (toNat x1) S78.dflt).2.2.1,s1.2.1,getD x3 (toNat s1.1) S48.dflt)])),(0,.var 98 O98 ((x0.1.1,1000,1001,x0.1.2.2.2),1002)),(1000,.row 78 S78 x0.1.2.1),(1001,.row 4 .bool x0.1.2.2.1),(5000,.var 36 S36 s1.2.1),(5041,.var 48 S48 (getD x3 (toNat s1.1) S48.dflt))]) 5422 1002 rfl (by kernel_rfl) rfl rfl (by kernel_rfl) rfl (sq rfl (rg [(0,.ptr 0 [] 0),(1,vi x1),(6,.ptr 5000 [] 0),(9,.ptr 5041 [] 0),(10,.v (.sl S48) x3),(11,vi ((length x3:Nat):Int)),(12,vi s1.1),(39,vb (getD x3 (toNat s1.1) S48.dflt).1)] [(0,.var 98 O98 ((x0.1.1,1000,1001,x0.1.2.2.2),1002)),(1000,.row 78 S78 x0.1.2.1),(1001,.row 4 .bool x0.1.2.2.1),(1002,.row 50 S50 (s1.2.2++[(x1,(getD x0.1.2.1 (toNat x1) S78.dflt).2.2.1,s1.2.1,getD x3 (toNat s1.1) S48.dflt)])),(5000,.var 36 S36 s1.2.1),(5041,.var 48 S48 (getD x3 (toNat s1.1) S48.dflt))] [] [] 5042 rfl (by kernel_rfl) c0 ?_)))
  refine run_if rfl rfl (fun h6=>?_) (fun h6=>?_)
  ·replace F1:=ift h6 F1
   refine rg [(0,.ptr 0 [] 0),(1,vi x1),(6,.ptr 5000 [] 0),(10,.v (.sl S48) x3),(11,vi ((length x3:Nat):Int)),(12,vi s1.1)] [(0,.var 98 O98 ((x0.1.1,1000,1001,x0.1.2.2.2),1002)),(1000,.row 78 S78 x0.1.2.1),(1001,.row 4 .bool x0.1.2.2.1),(1002,.row 50 S50 (s1.2.2++[(x1,(getD x0.1.2.1 (toNat x1) S78.dflt).2.2.1,s1.2.1,getD x3 (toNat s1.1) S48.dflt)])),(5000,.var 36 S36 (getD x3 (toNat s1.1) S48.dflt).2.2.1)] [] [] 5042 rfl (by kernel_rfl) c0 (eb (rg [(0,.ptr 0 [] 0),(1,vi x1),(6,.ptr 5000 [] 0),(10,.v (.sl S48) x3),(11,vi ((length x3:Nat):Int)),(12,vi (wrap .i64 (s1.1+1)))] [(0,.var 98 O98 ((x0.1.1,1000,1001,x0.1.2.2.2),1002)),(1000,.row 78 S78 x0.1.2.1),(1001,.row 4 .bool x0.1.2.2.1),(1002,.row 50 S50 (s1.2.2++[(x1,(getD x0.1.2.1 (toNat x1) S78.dflt).2.2.1,s1.2.1,getD x3 (toNat s1.1) S48.dflt)])),(5000,.var 36 S36 (getD x3 (toNat s1.1) S48.dflt).2.2.1)] [] [] 5001 rfl (by kernel_rfl) c0 ?_))
   exact ih1 _ (inj F1).symm
  ·replace F1:=ifn h6 F1
   refine sk rfl (eb (rg [(0,.ptr 0 [] 0),(1,vi x1),(6,.ptr 5000 [] 0),(10,.v (.sl S48) x3),(11,vi ((length x3:Nat):Int)),(12,vi (wrap .i64 (s1.1+1)))] [(0,.var 98 O98 ((x0.1.1,1000,1001,x0.1.2.2.2),1002)),(1000,.row 78 S78 x0.1.2.1),(1001,.row 4 .bool x0.1.2.2.1),(1002,.row 50 S50 (s1.2.2++[(x1,(getD x0.1.2.1 (toNat x1) S78.dflt).2.2.1,s1.2.1,getD x3 (toNat s1.1) S48.dflt)])),(5000,.var 36 S36 s1.2.1)] [] [] 5042 rfl (by kernel_rfl) c0 ?_))
   exact ih1 _ (inj F1).symm
 ·replace F1:=ifn h2 F1
  refine run_exit rfl rfl (tm (ρ':=[]) (H':=[(0,.var 98 O98 ((x0.1.1,1000,1001,x0.1.2.2.2),1002)),(1000,.row 78 S78 x0.1.2.1),(1001,.row 4 .bool x0.1.2.2.1),(1002,.row 50 S50 s1.2.2)]) (by kernel_rfl) (by kernel_rfl) rfl ?_)
  exact J1_0 _ (inrI hr1 F1).symm
noncomputable def F_cluster_run_tick_b2 (t3:S98.ty) (t5:(Str×Int)) (x1:Int) (s2:(Int×((Int×(Unit×(Unit×(List S93.ty))))×Unit))):Option ((Int×((Int×(Unit×(Unit×(List S93.ty))))×Unit))⊕((Int×(Unit×(Unit×(List S93.ty))))×Unit)) :=
 if (decide (s2.1<((length t3.1.2.1:Nat):Int)))=true then (show Option Bool from if (s2.1 != x1)=true then some (t5.2==0) else some false).bind (fun r3=>if (r3)=true then (F_lossy_Put s2.2.1.2.2.2 [(x1,s2.1,t5.1,false)]).bind fun t6=>(some (Sum.inl (wrap .i64 (s2.1+1),(s2.2.1.1,(),(),t6),()))) else some (Sum.inl (wrap .i64 (s2.1+1),(s2.2.1.1,(),(),s2.2.1.2.2.2),()))) else some (Sum.inr ((s2.2.1.1,(),(),s2.2.1.2.2.2),()))
noncomputable def F_cluster_run_tick (x0:S98.ty) (x1:Int) (x2:(List (List S39.ty))):Option S98.ty :=
 (F_frame_Check x2).bind fun t1=>((show Option (List (List S39.ty)) from if (t1 != 0)=true then some (replicate 3 (replicate 2 (0,0,0,0,0,[]))) else some x2).bind (fun r1=>if 0≤x1∧x1<((length x0.1.2.1:Nat):Int) then (if 0≤x1∧x1<((length x0.1.2.1:Nat):Int) then (F_core_Tick (getD x0.1.2.1 (toNat x1) S78.dflt) r1).bind fun t2=>(if 0≤x1∧x1<((length x0.1.2.1:Nat):Int) then (F_cluster_run_tell ((x0.1.1,List.set x0.1.2.1 (toNat x1) t2.1,x0.1.2.2),x0.2) x1 (getD x0.1.2.1 (toNat x1) S78.dflt).2.2.2.2.1 t2.2.2).bind fun t3=>((F_core_Packet t2.1).bind fun t4=>((F_packet_Encode t4).bind fun t5=>((loopO (F_cluster_run_tick_b2 t3 t5 x1) (0,(t3.1.1,(),(),t3.1.2.2.2),())).bind (fun r2=>some ((r2.1.1,t3.1.2.1,t3.1.2.2.1,r2.1.2.2.2),t3.2))))) else none) else none) else none))
theorem W_cluster_run_tick {x0:S98.ty} {x1:Int} {x2:(List (List S39.ty))} {y:S98.ty} (F0:F_cluster_run_tick x0 x1 x2=some y):Mut Tryz.prog 54 4 [.ptr 0 [] 0,vi x1,.v (.arr 3 (.arr 2 S39)) x2] [(0,.var 98 O98 ((x0.1.1,1,2,x0.1.2.2.2),3)),(1,.row 78 S78 x0.1.2.1),(2,.row 4 .bool x0.1.2.2.1),(3,.row 50 S50 x0.2)] (.tup []) [(0,.var 98 O98 ((y.1.1,1000,1001,y.1.2.2.2),1002)),(1000,.row 78 S78 y.1.2.1),(1001,.row 4 .bool y.1.2.2.1),(1002,.row 50 S50 y.2)]:=by
 unfold F_cluster_run_tick at F0
 refine mut_of_run @Tryz.call54 @Tryz.func54 rfl rfl fun b=>?_
 refine run_renF (ρ':=[(0,.ptr 0 [] 0),(1,vi x1),(2,.v (.arr 3 (.arr 2 S39)) x2)]) (H':=[(1000,.row 78 S78 x0.1.2.1),(0,.var 98 O98 ((x0.1.1,1000,2,x0.1.2.2.2),3)),(2,.row 4 .bool x0.1.2.2.1),(3,.row 50 S50 x0.2)]) 1 1000 rfl (by kernel_rfl) rfl rfl (by kernel_rfl) rfl (run_renF (ρ':=[(0,.ptr 0 [] 0),(1,vi x1),(2,.v (.arr 3 (.arr 2 S39)) x2)]) (H':=[(1001,.row 4 .bool x0.1.2.2.1),(1000,.row 78 S78 x0.1.2.1),(0,.var 98 O98 ((x0.1.1,1000,1001,x0.1.2.2.2),3)),(3,.row 50 S50 x0.2)]) 2 1001 rfl (by kernel_rfl) rfl rfl (by kernel_rfl) rfl (run_renF (ρ':=[(0,.ptr 0 [] 0),(1,vi x1),(2,.v (.arr 3 (.arr 2 S39)) x2)]) (H':=[(1002,.row 50 S50 x0.2),(1001,.row 4 .bool x0.1.2.2.1),(1000,.row 78 S78 x0.1.2.1),(0,.var 98 O98 ((x0.1.1,1000,1001,x0.1.2.2.2),1002))]) 3 1002 rfl (by kernel_rfl) rfl rfl (by kernel_rfl) rfl (sq rfl (rg [(0,.ptr 0 [] 0),(1,vi x1),(5,.ptr 5000 [] 0)] [(0,.var 98 O98 ((x0.1.1,1000,1001,x0.1.2.2.2),1002)),(1000,.row 78 S78 x0.1.2.1),(1001,.row 4 .bool x0.1.2.2.1),(1002,.row 50 S50 x0.2),(5000,.var 42 (.arr 3 (.arr 2 S39)) x2)] [] [] 5000 rfl (by kernel_rfl) c0 (sq rfl (sq rfl ?_))))))
 obtain ⟨t1,h1,F0⟩:=obd F0
 refine rg [(0,.ptr 0 [] 0),(1,vi x1),(5,.ptr 5000 [] 0),(15,vb (t1 != 0))] [(0,.var 98 O98 ((x0.1.1,1000,1001,x0.1.2.2.2),1002)),(1000,.row 78 S78 x0.1.2.1),(1001,.row 4 .bool x0.1.2.2.1),(1002,.row 50 S50 x0.2),(5000,.var 42 (.arr 3 (.arr 2 S39)) x2)] [(1,⟨[.v (.arr 3 (.arr 2 S39))],vi t1,none⟩)] [] 5001 rfl (by kernel_rfl) (cc (W_frame_Check h1) c0) ?_
 obtain ⟨r1,F1,F0⟩:=obd F0
 refine run_cut (fun r1'=>r1=r1') (fun r1=>[(0,.ptr 0 [] 0),(1,vi x1),(5,.ptr 5000 [] 0)]) (fun r1=>[(0,.var 98 O98 ((x0.1.1,1000,1001,x0.1.2.2.2),1002)),(1000,.row 78 S78 x0.1.2.1),(1001,.row 4 .bool x0.1.2.2.1),(1002,.row 50 S50 x0.2),(5000,.var 42 (.arr 3 (.arr 2 S39)) r1)]) (fun r1' h2=>?_) (fun J1_0=>?_)
 ·subst h2
  refine sq rfl ?_
  obtain ⟨h3,F0⟩:=ifg F0
  refine rg [(0,.ptr 0 [] 0),(1,vi x1),(5,.ptr 5000 [] 0),(6,.ptr 5181 [] 0)] [(0,.var 98 O98 ((x0.1.1,1000,1001,x0.1.2.2.2),1002)),(1000,.row 78 S78 x0.1.2.1),(1001,.row 4 .bool x0.1.2.2.1),(1002,.row 50 S50 x0.2),(5000,.var 42 (.arr 3 (.arr 2 S39)) r1),(5181,.var 36 S36 (getD x0.1.2.1 (toNat x1) S78.dflt).2.2.2.2.1)] [] [] 5001 rfl (by kernel_rfl) (cc h3 (cc (@rfl Nat ((toNat x1*189)+20)) (cc (oo h3 trivial) c0))) (sq rfl ?_)
  obtain ⟨h4,F0⟩:=ifg F0
  obtain ⟨t2,h5,F0⟩:=obd F0
  refine rG [(0,.ptr 0 [] 0),(1,vi x1),(6,.ptr 5181 [] 0),(7,.ptr 5462 [] 0),(9,.v (.sl S48) t2.2.2)] [(0,.var 98 O98 ((x0.1.1,1000,1001,x0.1.2.2.2),1002)),(1000,.row 78 S78 x0.1.2.1),(1001,.row 4 .bool x0.1.2.2.1),(1002,.row 50 S50 x0.2),(5181,.var 36 S36 (getD x0.1.2.1 (toNat x1) S78.dflt).2.2.2.2.1),(5462,.var 78 S78 t2.1)] [(9,⟨[.v S78,.v (.arr 3 (.arr 2 S39))],.tup [.v S78 t2.1,vb t2.2.1,.v (.sl S48) t2.2.2],none⟩)] [] 5182 rfl rfl (by kernel_rfl) (cc h4 (cc (@rfl Nat (toNat x1*189)) (cc (oo h4 trivial) (cc (W_core_Tick h5) (cc (show (.row 1000:AVal)=(.row 1000) from rfl) (cc (show (.ptr 1000 [.i (toNat x1)] (toNat x1*189):AVal)=(.ptr 1000 [.i (toNat x1)] (toNat x1*189)) from rfl) (cc h4 (cc (show (.v S78 (getD x0.1.2.1 (toNat x1) S78.dflt):AVal)=(.v S78 (getD x0.1.2.1 (toNat x1) S78.dflt)) from rfl) (cc (@rfl Nat (toNat x1*189)) (cc (oo h4 trivial) (cc (show (.v (.arr 3 (.arr 2 S39)) r1:AVal)=(.v (.arr 3 (.arr 2 S39)) r1) from rfl) c0))))))))))) (sq rfl ?_)
  obtain ⟨h6,F0⟩:=ifg F0
  refine rG [(0,.ptr 0 [] 0),(1,vi x1),(6,.ptr 5181 [] 0),(7,.ptr 5462 [] 0),(9,.v (.sl S48) t2.2.2)] [(0,.var 98 O98 ((x0.1.1,1000,1001,x0.1.2.2.2),1002)),(1000,.row 78 S78 (List.set x0.1.2.1 (toNat x1) t2.1)),(1001,.row 4 .bool x0.1.2.2.1),(1002,.row 50 S50 x0.2),(5181,.var 36 S36 (getD x0.1.2.1 (toNat x1) S78.dflt).2.2.2.2.1),(5462,.var 78 S78 t2.1)] [] [] 5463 rfl rfl (by kernel_rfl) (cc h6 (cc (@rfl Nat (toNat x1*189)) (cc (oo h6 trivial) c0))) (sq rfl ?_)
  obtain ⟨t3,h7,F0⟩:=obd F0
  refine rg [(0,.ptr 0 [] 0),(1,vi x1),(7,.ptr 5462 [] 0)] [(0,.var 98 O98 ((t3.1.1,6543,6544,t3.1.2.2.2),6545)),(5462,.var 78 S78 t2.1),(6543,.row 78 S78 t3.1.2.1),(6544,.row 4 .bool t3.1.2.2.1),(6545,.row 50 S50 t3.2)] [(4,⟨[.v .unit,.v (.int .i64),.v S36,.v (.sl S48)],.tup [],some ([0,1000,1001,1002],[(0,.var 98 O98 ((t3.1.1,1000,1001,t3.1.2.2.2),1002)),(1000,.row 78 S78 t3.1.2.1),(1001,.row 4 .bool t3.1.2.2.1),(1002,.row 50 S50 t3.2)])⟩)] [] 5463 rfl (by kernel_rfl) (cc (W_cluster_run_tell h7) c0) (run_renF (ρ':=[(0,.ptr 0 [] 0),(1,vi x1),(7,.ptr 5462 [] 0)]) (H':=[(1000,.row 78 S78 t3.1.2.1),(0,.var 98 O98 ((t3.1.1,1000,6544,t3.1.2.2.2),6545)),(5462,.var 78 S78 t2.1),(6544,.row 4 .bool t3.1.2.2.1),(6545,.row 50 S50 t3.2)]) 6543 1000 rfl (by kernel_rfl) rfl rfl (by kernel_rfl) rfl (run_renF (ρ':=[(0,.ptr 0 [] 0),(1,vi x1),(7,.ptr 5462 [] 0)]) (H':=[(1001,.row 4 .bool t3.1.2.2.1),(1000,.row 78 S78 t3.1.2.1),(0,.var 98 O98 ((t3.1.1,1000,1001,t3.1.2.2.2),6545)),(5462,.var 78 S78 t2.1),(6545,.row 50 S50 t3.2)]) 6544 1001 rfl (by kernel_rfl) rfl rfl (by kernel_rfl) rfl (run_renF (ρ':=[(0,.ptr 0 [] 0),(1,vi x1),(7,.ptr 5462 [] 0)]) (H':=[(1002,.row 50 S50 t3.2),(1001,.row 4 .bool t3.1.2.2.1),(1000,.row 78 S78 t3.1.2.1),(0,.var 98 O98 ((t3.1.1,1000,1001,t3.1.2.2.2),1002)),(5462,.var 78 S78 t2.1)]) 6545 1002 rfl (by kernel_rfl) rfl rfl (by kernel_rfl) rfl (sq rfl ?_))))
  obtain ⟨t4,h8,F0⟩:=obd F0
  obtain ⟨t5,h9,F0⟩:=obd F0
  refine rg [(0,.ptr 0 [] 0),(1,vi x1),(10,vs t5.1),(11,vi t5.2)] [(0,.var 98 O98 ((t3.1.1,1000,1001,t3.1.2.2.2),1002)),(1000,.row 78 S78 t3.1.2.1),(1001,.row 4 .bool t3.1.2.2.1),(1002,.row 50 S50 t3.2)] [(1,⟨[.v S78],.v S110 t4,none⟩),(2,⟨[.v S110],.tup [vs t5.1,vi t5.2],none⟩)] [] 5463 rfl (by kernel_rfl) (cc (W_core_Packet h8) (cc (W_packet_Encode h9) c0)) (sq rfl (rg [(0,.ptr 0 [] 0),(1,vi x1),(10,vs t5.1),(11,vi t5.2),(64,vi ((length t3.1.2.1:Nat):Int)),(65,vi 0)] [(0,.var 98 O98 ((t3.1.1,1000,1001,t3.1.2.2.2),1002)),(1000,.row 78 S78 t3.1.2.1),(1001,.row 4 .bool t3.1.2.2.1),(1002,.row 50 S50 t3.2)] [] [] 5000 rfl (by kernel_rfl) c0 (bk rfl ?_)))
  obtain ⟨r2,hl2,F0⟩:=obd F0
  refine run_cutx 0 rfl (fun r2'=>r2=r2') (fun r2=>[]) (fun r2=>[(0,.var 98 O98 ((r2.1.1,1000,1001,r2.1.2.2.2),1002)),(1000,.row 78 S78 t3.1.2.1),(1001,.row 4 .bool t3.1.2.2.1),(1002,.row 50 S50 t3.2)]) (fun r2' h10=>?_) (fun J2_0=>?_)
  ·subst h10
   obtain rfl:=inj F0
   exact fall_mut (q:=[]) [] [0,1000,1001,1002] rfl (by kernel_rfl) rfl (by kernel_rfl)
  refine run_loop rfl (run_loopO hl2 (fun s2=>[(0,.ptr 0 [] 0),(1,vi x1),(10,vs t5.1),(11,vi t5.2),(64,vi ((length t3.1.2.1:Nat):Int)),(65,vi s2.1)]) (fun s2=>[(0,.var 98 O98 ((s2.2.1.1,1000,1001,s2.2.1.2.2.2),1002)),(1000,.row 78 S78 t3.1.2.1),(1001,.row 4 .bool t3.1.2.2.1),(1002,.row 50 S50 t3.2)]) rfl rfl (fun s2 o2 F1 ih2 hr2=>?_))
  unfold F_cluster_run_tick_b2 at F1
  refine run_again (sq rfl (rg [(0,.ptr 0 [] 0),(1,vi x1),(10,vs t5.1),(11,vi t5.2),(64,vi ((length t3.1.2.1:Nat):Int)),(65,vi s2.1),(66,vb (decide (s2.1<((length t3.1.2.1:Nat):Int))))] [(0,.var 98 O98 ((s2.2.1.1,1000,1001,s2.2.1.2.2.2),1002)),(1000,.row 78 S78 t3.1.2.1),(1001,.row 4 .bool t3.1.2.2.1),(1002,.row 50 S50 t3.2)] [] [] 5000 rfl (by kernel_rfl) c0 (sq rfl ?_)))
  refine run_if rfl rfl (fun h11=>?_) (fun h11=>?_)
  ·replace F1:=ift h11 F1
   refine sk rfl (sq rfl (bk rfl (sq rfl (rg [(0,.ptr 0 [] 0),(1,vi x1),(10,vs t5.1),(11,vi t5.2),(12,vi s2.1),(64,vi ((length t3.1.2.1:Nat):Int)),(65,vi s2.1)] [(0,.var 98 O98 ((s2.2.1.1,1000,1001,s2.2.1.2.2.2),1002)),(1000,.row 78 S78 t3.1.2.1),(1001,.row 4 .bool t3.1.2.2.1),(1002,.row 50 S50 t3.2)] [] [] 5000 rfl (by kernel_rfl) c0 (sq rfl ?_)))))
   obtain ⟨r3,F2,F1⟩:=obd F1
   refine run_cut (fun r3'=>r3=r3') (fun r3=>[(0,.ptr 0 [] 0),(1,vi x1),(10,vs t5.1),(11,vi t5.2),(12,vi s2.1),(64,vi ((length t3.1.2.1:Nat):Int)),(65,vi s2.1),(74,vb r3)]) (fun r3=>[(0,.var 98 O98 ((s2.2.1.1,1000,1001,s2.2.1.2.2.2),1002)),(1000,.row 78 S78 t3.1.2.1),(1001,.row 4 .bool t3.1.2.2.1),(1002,.row 50 S50 t3.2)]) (fun r3' h12=>?_) (fun J3_0=>?_)
   ·subst h12
    refine run_if rfl rfl (fun h13=>?_) (fun h13=>?_)
    ·replace F1:=ift h13 F1
     obtain ⟨t6,h14,F1⟩:=obd F1
     refine rg [(0,.ptr 0 [] 0),(1,vi x1),(10,vs t5.1),(11,vi t5.2),(64,vi ((length t3.1.2.1:Nat):Int)),(65,vi s2.1)] [(0,.var 98 O98 ((s2.2.1.1,1000,1001,t6),1002)),(1000,.row 78 S78 t3.1.2.1),(1001,.row 4 .bool t3.1.2.2.1),(1002,.row 50 S50 t3.2)] [(10,⟨[],.v (.sl S93) [(x1,s2.1,t5.1,false)],none⟩),(11,⟨[.v (.sl S93),.v (.sl S93)],.v (.sl S93) t6,none⟩)] [] 5000 rfl (by kernel_rfl) (cc (W_lossy_Put h14) c0) (eb (rg [(0,.ptr 0 [] 0),(1,vi x1),(10,vs t5.1),(11,vi t5.2),(64,vi ((length t3.1.2.1:Nat):Int)),(65,vi (wrap .i64 (s2.1+1)))] [(0,.var 98 O98 ((s2.2.1.1,1000,1001,t6),1002)),(1000,.row 78 S78 t3.1.2.1),(1001,.row 4 .bool t3.1.2.2.1),(1002,.row 50 S50 t3.2)] [] [] 5000 rfl (by kernel_rfl) c0 ?_))
     exact ih2 _ (inj F1).symm
    ·replace F1:=ifn h13 F1
     refine sk rfl (eb (rg [(0,.ptr 0 [] 0),(1,vi x1),(10,vs t5.1),(11,vi t5.2),(64,vi ((length t3.1.2.1:Nat):Int)),(65,vi (wrap .i64 (s2.1+1)))] [(0,.var 98 O98 ((s2.2.1.1,1000,1001,s2.2.1.2.2.2),1002)),(1000,.row 78 S78 t3.1.2.1),(1001,.row 4 .bool t3.1.2.2.1),(1002,.row 50 S50 t3.2)] [] [] 5000 rfl (by kernel_rfl) c0 ?_))
     exact ih2 _ (inj F1).symm
   rcases Bool.eq_false_or_eq_true (s2.1 != x1) with h15|h15
   ·replace F2:=ift h15 F2
    refine rg [(0,.ptr 0 [] 0),(1,vi x1),(10,vs t5.1),(11,vi t5.2),(12,vi s2.1),(64,vi ((length t3.1.2.1:Nat):Int)),(65,vi s2.1),(74,vb (t5.2==0))] [(0,.var 98 O98 ((s2.2.1.1,1000,1001,s2.2.1.2.2.2),1002)),(1000,.row 78 S78 t3.1.2.1),(1001,.row 4 .bool t3.1.2.2.1),(1002,.row 50 S50 t3.2)] [] [(3,true)] 5000 rfl (by kernel_rfl) (cc h15 c0) ?_
    exact J3_0 _ (inj F2).symm
   ·replace F2:=ifn h15 F2
    refine rg [(0,.ptr 0 [] 0),(1,vi x1),(10,vs t5.1),(11,vi t5.2),(12,vi s2.1),(64,vi ((length t3.1.2.1:Nat):Int)),(65,vi s2.1),(74,vb false)] [(0,.var 98 O98 ((s2.2.1.1,1000,1001,s2.2.1.2.2.2),1002)),(1000,.row 78 S78 t3.1.2.1),(1001,.row 4 .bool t3.1.2.2.1),(1002,.row 50 S50 t3.2)] [] [(3,false)] 5000 rfl (by kernel_rfl) (cc h15 c0) ?_
    exact J3_0 _ (inj F2).symm
  ·replace F1:=ifn h11 F1
   refine run_exit rfl rfl (tm (ρ':=[]) (H':=[(0,.var 98 O98 ((s2.2.1.1,1000,1001,s2.2.1.2.2.2),1002)),(1000,.row 78 S78 t3.1.2.1),(1001,.row 4 .bool t3.1.2.2.1),(1002,.row 50 S50 t3.2)]) (by kernel_rfl) (by kernel_rfl) rfl ?_)
   exact J2_0 _ (inrI hr2 F1).symm
 refine run_if rfl rfl (fun h16=>?_) (fun h16=>?_)
 ·replace F1:=ift h16 F1
  refine rg [(0,.ptr 0 [] 0),(1,vi x1),(5,.ptr 5000 [] 0)] [(0,.var 98 O98 ((x0.1.1,1000,1001,x0.1.2.2.2),1002)),(1000,.row 78 S78 x0.1.2.1),(1001,.row 4 .bool x0.1.2.2.1),(1002,.row 50 S50 x0.2),(5000,.var 42 (.arr 3 (.arr 2 S39)) (replicate 3 (replicate 2 (0,0,0,0,0,[]))))] [] [] 5001 rfl (by kernel_rfl) c0 ?_
  exact J1_0 _ (inj F1).symm
 ·replace F1:=ifn h16 F1
  refine sk rfl (tm (ρ':=[(0,.ptr 0 [] 0),(1,vi x1),(5,.ptr 5000 [] 0)]) (H':=[(0,.var 98 O98 ((x0.1.1,1000,1001,x0.1.2.2.2),1002)),(1000,.row 78 S78 x0.1.2.1),(1001,.row 4 .bool x0.1.2.2.1),(1002,.row 50 S50 x0.2),(5000,.var 42 (.arr 3 (.arr 2 S39)) x2)]) (by kernel_rfl) (by kernel_rfl) rfl ?_)
  exact J1_0 _ (inj F1).symm
noncomputable def F_cluster_run_arrive (x0:S98.ty) (x1:S93.ty):Option S98.ty :=
 (F_packet_Decode x1.2.2.1).bind fun t1=>((show Option Bool from if (t1.2 != 0)=true then some true else (F_cluster_run_has x0 x1.2.1).bind fun t4=>(some (!t4))).bind (fun r1=>if (r1)=true then some x0 else if 0≤x1.2.1∧x1.2.1<((length x0.1.2.1:Nat):Int) then (if 0≤x1.2.1∧x1.2.1<((length x0.1.2.1:Nat):Int) then (F_core_Receive (getD x0.1.2.1 (toNat x1.2.1) S78.dflt) t1.1).bind fun t2=>(if 0≤x1.2.1∧x1.2.1<((length x0.1.2.1:Nat):Int) then (F_cluster_run_tell ((x0.1.1,List.set x0.1.2.1 (toNat x1.2.1) t2.1,x0.1.2.2),x0.2) x1.2.1 (getD x0.1.2.1 (toNat x1.2.1) S78.dflt).2.2.2.2.1 t2.2.2).bind fun t3=>(some t3) else none) else none) else none))
theorem W_cluster_run_arrive {x0:S98.ty} {x1:S93.ty} {y:S98.ty} (F0:F_cluster_run_arrive x0 x1=some y):Mut Tryz.prog 93 4 [.ptr 0 [] 0,.v S93 x1] [(0,.var 98 O98 ((x0.1.1,1,2,x0.1.2.2.2),3)),(1,.row 78 S78 x0.1.2.1),(2,.row 4 .bool x0.1.2.2.1),(3,.row 50 S50 x0.2)] (.tup []) [(0,.var 98 O98 ((y.1.1,1000,1001,y.1.2.2.2),1002)),(1000,.row 78 S78 y.1.2.1),(1001,.row 4 .bool y.1.2.2.1),(1002,.row 50 S50 y.2)]:=by
 unfold F_cluster_run_arrive at F0
 refine mut_of_run @Tryz.call93 @Tryz.func93 rfl rfl fun b=>?_
 refine run_renF (ρ':=[(0,.ptr 0 [] 0),(1,.v S93 x1)]) (H':=[(1000,.row 78 S78 x0.1.2.1),(0,.var 98 O98 ((x0.1.1,1000,2,x0.1.2.2.2),3)),(2,.row 4 .bool x0.1.2.2.1),(3,.row 50 S50 x0.2)]) 1 1000 rfl (by kernel_rfl) rfl rfl (by kernel_rfl) rfl (run_renF (ρ':=[(0,.ptr 0 [] 0),(1,.v S93 x1)]) (H':=[(1001,.row 4 .bool x0.1.2.2.1),(1000,.row 78 S78 x0.1.2.1),(0,.var 98 O98 ((x0.1.1,1000,1001,x0.1.2.2.2),3)),(3,.row 50 S50 x0.2)]) 2 1001 rfl (by kernel_rfl) rfl rfl (by kernel_rfl) rfl (run_renF (ρ':=[(0,.ptr 0 [] 0),(1,.v S93 x1)]) (H':=[(1002,.row 50 S50 x0.2),(1001,.row 4 .bool x0.1.2.2.1),(1000,.row 78 S78 x0.1.2.1),(0,.var 98 O98 ((x0.1.1,1000,1001,x0.1.2.2.2),1002))]) 3 1002 rfl (by kernel_rfl) rfl rfl (by kernel_rfl) rfl (sq rfl (rg [(0,.ptr 0 [] 0),(3,.ptr 5000 [] 0)] [(0,.var 98 O98 ((x0.1.1,1000,1001,x0.1.2.2.2),1002)),(1000,.row 78 S78 x0.1.2.1),(1001,.row 4 .bool x0.1.2.2.1),(1002,.row 50 S50 x0.2),(5000,.var 93 S93 x1)] [] [] 5000 rfl (by kernel_rfl) c0 (sq rfl ?_)))))
 obtain ⟨t1,h1,F0⟩:=obd F0
 refine rg [(0,.ptr 0 [] 0),(3,.ptr 5000 [] 0),(4,.ptr 5121 [] 0),(5,vi t1.2)] [(0,.var 98 O98 ((x0.1.1,1000,1001,x0.1.2.2.2),1002)),(1000,.row 78 S78 x0.1.2.1),(1001,.row 4 .bool x0.1.2.2.1),(1002,.row 50 S50 x0.2),(5000,.var 93 S93 x1),(5121,.var 110 S110 t1.1)] [(2,⟨[.v .str],.tup [.v S110 t1.1,vi t1.2],none⟩)] [] 5001 rfl (by kernel_rfl) (cc (W_packet_Decode h1) c0) (sq rfl (sq rfl ?_))
 obtain ⟨r1,F1,F0⟩:=obd F0
 refine run_cut (fun r1'=>r1=r1') (fun r1=>[(0,.ptr 0 [] 0),(3,.ptr 5000 [] 0),(4,.ptr 5121 [] 0),(24,vb r1)]) (fun r1=>[(0,.var 98 O98 ((x0.1.1,1000,1001,x0.1.2.2.2),1002)),(1000,.row 78 S78 x0.1.2.1),(1001,.row 4 .bool x0.1.2.2.1),(1002,.row 50 S50 x0.2),(5000,.var 93 S93 x1),(5121,.var 110 S110 t1.1)]) (fun r1' h2=>?_) (fun J1_0=>?_)
 ·subst h2
  refine run_if rfl rfl (fun h3=>?_) (fun h3=>?_)
  ·replace F0:=ift h3 F0
   refine tm (ρ':=[]) (H':=[(0,.var 98 O98 ((x0.1.1,1000,1001,x0.1.2.2.2),1002)),(1000,.row 78 S78 x0.1.2.1),(1001,.row 4 .bool x0.1.2.2.1),(1002,.row 50 S50 x0.2)]) (by kernel_rfl) (by kernel_rfl) rfl ?_
   obtain rfl:=inj F0
   exact ret_mut (q:=[]) [] [0,1000,1001,1002] rfl rfl (by kernel_rfl) rfl (by kernel_rfl)
  ·replace F0:=ifn h3 F0
   refine sk rfl (sq rfl ?_)
   obtain ⟨h4,F0⟩:=ifg F0
   refine rG [(0,.ptr 0 [] 0),(3,.ptr 5000 [] 0),(4,.ptr 5121 [] 0),(6,.ptr 5322 [] 0)] [(0,.var 98 O98 ((x0.1.1,1000,1001,x0.1.2.2.2),1002)),(1000,.row 78 S78 x0.1.2.1),(1001,.row 4 .bool x0.1.2.2.1),(1002,.row 50 S50 x0.2),(5000,.var 93 S93 x1),(5121,.var 110 S110 t1.1),(5322,.var 36 S36 (getD x0.1.2.1 (toNat x1.2.1) S78.dflt).2.2.2.2.1)] [] [] 5122 rfl rfl (by kernel_rfl) (cc h4 (cc (@rfl Nat ((toNat x1.2.1*189)+20)) (cc (oo h4 trivial) (cc (show (.row 1000:AVal)=(.row 1000) from rfl) (cc (show (vi x1.2.1:AVal)=(vi x1.2.1) from rfl) (cc (show (.ptr 1000 [.i (toNat x1.2.1)] (toNat x1.2.1*189):AVal)=(.ptr 1000 [.i (toNat x1.2.1)] (toNat x1.2.1*189)) from rfl) (cc h4 (cc (show (.v S36 (getD x0.1.2.1 (toNat x1.2.1) S78.dflt).2.2.2.2.1:AVal)=(.v S36 (getD x0.1.2.1 (toNat x1.2.1) S78.dflt).2.2.2.2.1) from rfl) (cc (@rfl Nat ((toNat x1.2.1*189)+20)) (cc (oo h4 trivial) c0)))))))))) (sq rfl ?_)
   obtain ⟨h5,F0⟩:=ifg F0
   obtain ⟨t2,h6,F0⟩:=obd F0
   refine rG [(0,.ptr 0 [] 0),(3,.ptr 5000 [] 0),(6,.ptr 5322 [] 0),(7,.ptr 5623 [] 0),(9,.v (.sl S48) t2.2.2)] [(0,.var 98 O98 ((x0.1.1,1000,1001,x0.1.2.2.2),1002)),(1000,.row 78 S78 x0.1.2.1),(1001,.row 4 .bool x0.1.2.2.1),(1002,.row 50 S50 x0.2),(5000,.var 93 S93 x1),(5322,.var 36 S36 (getD x0.1.2.1 (toNat x1.2.1) S78.dflt).2.2.2.2.1),(5623,.var 78 S78 t2.1)] [(10,⟨[.v S78,.v S110],.tup [.v S78 t2.1,vb t2.2.1,.v (.sl S48) t2.2.2],none⟩)] [] 5323 rfl rfl (by kernel_rfl) (cc h5 (cc (@rfl Nat (toNat x1.2.1*189)) (cc (oo h5 trivial) (cc (W_core_Receive h6) (cc (show (.row 1000:AVal)=(.row 1000) from rfl) (cc (show (vi x1.2.1:AVal)=(vi x1.2.1) from rfl) (cc (show (.ptr 1000 [.i (toNat x1.2.1)] (toNat x1.2.1*189):AVal)=(.ptr 1000 [.i (toNat x1.2.1)] (toNat x1.2.1*189)) from rfl) (cc h5 (cc (show (.v S78 (getD x0.1.2.1 (toNat x1.2.1) S78.dflt):AVal)=(.v S78 (getD x0.1.2.1 (toNat x1.2.1) S78.dflt)) from rfl) (cc (@rfl Nat (toNat x1.2.1*189)) (cc (oo h5 trivial) (cc (show (.v S110 t1.1:AVal)=(.v S110 t1.1) from rfl) c0)))))))))))) (sq rfl ?_)
   obtain ⟨h7,F0⟩:=ifg F0
   refine rG [(0,.ptr 0 [] 0),(3,.ptr 5000 [] 0),(6,.ptr 5322 [] 0),(9,.v (.sl S48) t2.2.2)] [(0,.var 98 O98 ((x0.1.1,1000,1001,x0.1.2.2.2),1002)),(1000,.row 78 S78 (List.set x0.1.2.1 (toNat x1.2.1) t2.1)),(1001,.row 4 .bool x0.1.2.2.1),(1002,.row 50 S50 x0.2),(5000,.var 93 S93 x1),(5322,.var 36 S36 (getD x0.1.2.1 (toNat x1.2.1) S78.dflt).2.2.2.2.1)] [] [] 5624 rfl rfl (by kernel_rfl) (cc h7 (cc (@rfl Nat (toNat x1.2.1*189)) (cc (oo h7 trivial) c0))) ?_
   obtain ⟨t3,h8,F0⟩:=obd F0
   refine rg [] [(0,.var 98 O98 ((t3.1.1,6423,6424,t3.1.2.2.2),6425)),(6423,.row 78 S78 t3.1.2.1),(6424,.row 4 .bool t3.1.2.2.1),(6425,.row 50 S50 t3.2)] [(5,⟨[.v .unit,.v (.int .i64),.v S36,.v (.sl S48)],.tup [],some ([0,1000,1001,1002],[(0,.var 98 O98 ((t3.1.1,1000,1001,t3.1.2.2.2),1002)),(1000,.row 78 S78 t3.1.2.1),(1001,.row 4 .bool t3.1.2.2.1),(1002,.row 50 S50 t3.2)])⟩)] [] 5323 rfl (by kernel_rfl) (cc (W_cluster_run_tell h8) c0) (run_renF (ρ':=[]) (H':=[(1000,.row 78 S78 t3.1.2.1),(0,.var 98 O98 ((t3.1.1,1000,6424,t3.1.2.2.2),6425)),(6424,.row 4 .bool t3.1.2.2.1),(6425,.row 50 S50 t3.2)]) 6423 1000 rfl (by kernel_rfl) rfl rfl (by kernel_rfl) rfl (run_renF (ρ':=[]) (H':=[(1001,.row 4 .bool t3.1.2.2.1),(1000,.row 78 S78 t3.1.2.1),(0,.var 98 O98 ((t3.1.1,1000,1001,t3.1.2.2.2),6425)),(6425,.row 50 S50 t3.2)]) 6424 1001 rfl (by kernel_rfl) rfl rfl (by kernel_rfl) rfl (run_renF (ρ':=[]) (H':=[(1002,.row 50 S50 t3.2),(1001,.row 4 .bool t3.1.2.2.1),(1000,.row 78 S78 t3.1.2.1),(0,.var 98 O98 ((t3.1.1,1000,1001,t3.1.2.2.2),1002))]) 6425 1002 rfl (by kernel_rfl) rfl rfl (by kernel_rfl) rfl (tm (ρ':=[]) (H':=[(0,.var 98 O98 ((t3.1.1,1000,1001,t3.1.2.2.2),1002)),(1000,.row 78 S78 t3.1.2.1),(1001,.row 4 .bool t3.1.2.2.1),(1002,.row 50 S50 t3.2)]) (by kernel_rfl) (by kernel_rfl) rfl ?_))))
   obtain rfl:=inj F0
   exact fall_mut (q:=[]) [] [0,1000,1001,1002] rfl (by kernel_rfl) rfl (by kernel_rfl)
 rcases Bool.eq_false_or_eq_true (t1.2 != 0) with h9|h9
 ·replace F1:=ift h9 F1
  refine rg [(0,.ptr 0 [] 0),(3,.ptr 5000 [] 0),(4,.ptr 5121 [] 0),(24,vb true)] [(0,.var 98 O98 ((x0.1.1,1000,1001,x0.1.2.2.2),1002)),(1000,.row 78 S78 x0.1.2.1),(1001,.row 4 .bool x0.1.2.2.1),(1002,.row 50 S50 x0.2),(5000,.var 93 S93 x1),(5121,.var 110 S110 t1.1)] [] [(2,true)] 5122 rfl (by kernel_rfl) (cc h9 c0) ?_
  exact J1_0 _ (inj F1).symm
 ·replace F1:=ifn h9 F1
  obtain ⟨t4,h10,F1⟩:=obd F1
  refine rg [(0,.ptr 0 [] 0),(3,.ptr 5000 [] 0),(4,.ptr 5121 [] 0),(24,vb (!t4))] [(0,.var 98 O98 ((x0.1.1,1000,1001,x0.1.2.2.2),1002)),(1000,.row 78 S78 x0.1.2.1),(1001,.row 4 .bool x0.1.2.2.1),(1002,.row 50 S50 x0.2),(5000,.var 93 S93 x1),(5121,.var 110 S110 t1.1)] [(6,⟨[.fp S98,.v (.int .i64)],vb t4,none⟩)] [(2,false)] 5122 rfl (by kernel_rfl) (cc h9 (cc (W_cluster_run_has h10) c0)) ?_
  exact J1_0 _ (inj F1).symm
abbrev S66:Sh:=(.st (.prod (.int .i64) (.prod (.int .i64) (.prod (.int .i64) (.prod (.int .i64) (.prod (.int .i64) (.prod (.int .u32) (.arr 3 (.arr 2 S39)))))))))
noncomputable def F_cluster_run_letter (x0:S98.ty) (x1:S66.ty):Option S98.ty :=
 if (x1.1==4)=true then (F_lossy_Turn x0.1.2.2.2 x1.2.1 x1.2.2.1 x1.2.2.2.1 x1.2.2.2.2.1 x1.2.2.2.2.2.1).bind fun t1=>(some ((x0.1.1,x0.1.2.1,x0.1.2.2.1,t1),x0.2)) else (F_lossy_Take x0.1.2.2.2 x1.2.1 x1.2.2.1 x1.2.2.2.1).bind fun t2=>(if (!t2.2.2)=true then some x0 else if (x1.1 != 2)=true then if (x1.1 != 3)=true then (F_cluster_run_arrive ((x0.1.1,x0.1.2.1,x0.1.2.2.1,t2.1),x0.2) t2.2.1).bind fun t3=>(some t3) else some ((x0.1.1,x0.1.2.1,x0.1.2.2.1,t2.1),x0.2) else if (x1.1 != 3)=true then (F_cluster_run_arrive x0 t2.2.1).bind fun t4=>(some t4) else some x0)
theorem W_cluster_run_letter {x0:S98.ty} {x1:S66.ty} {y:S98.ty} (F0:F_cluster_run_letter x0 x1=some y):Mut Tryz.prog 55 4 [.ptr 0 [] 0,.v S66 x1] [(0,.var 98 O98 ((x0.1.1,1,2,x0.1.2.2.2),3)),(1,.row 78 S78 x0.1.2.1),(2,.row 4 .bool x0.1.2.2.1),(3,.row 50 S50 x0.2)] (.tup []) [(0,.var 98 O98 ((y.1.1,1000,1001,y.1.2.2.2),1002)),(1000,.row 78 S78 y.1.2.1),(1001,.row 4 .bool y.1.2.2.1),(1002,.row 50 S50 y.2)]:=by
 unfold F_cluster_run_letter at F0
 refine mut_of_run @Tryz.call55 @Tryz.func55 rfl rfl fun b=>?_
 refine run_renF (ρ':=[(0,.ptr 0 [] 0),(1,.v S66 x1)]) (H':=[(1000,.row 78 S78 x0.1.2.1),(0,.var 98 O98 ((x0.1.1,1000,2,x0.1.2.2.2),3)),(2,.row 4 .bool x0.1.2.2.1),(3,.row 50 S50 x0.2)]) 1 1000 rfl (by kernel_rfl) rfl rfl (by kernel_rfl) rfl (run_renF (ρ':=[(0,.ptr 0 [] 0),(1,.v S66 x1)]) (H':=[(1001,.row 4 .bool x0.1.2.2.1),(1000,.row 78 S78 x0.1.2.1),(0,.var 98 O98 ((x0.1.1,1000,1001,x0.1.2.2.2),3)),(3,.row 50 S50 x0.2)]) 2 1001 rfl (by kernel_rfl) rfl rfl (by kernel_rfl) rfl (run_renF (ρ':=[(0,.ptr 0 [] 0),(1,.v S66 x1)]) (H':=[(1002,.row 50 S50 x0.2),(1001,.row 4 .bool x0.1.2.2.1),(1000,.row 78 S78 x0.1.2.1),(0,.var 98 O98 ((x0.1.1,1000,1001,x0.1.2.2.2),1002))]) 3 1002 rfl (by kernel_rfl) rfl rfl (by kernel_rfl) rfl (sq rfl (rg [(0,.ptr 0 [] 0),(3,.ptr 5000 [] 0)] [(0,.var 98 O98 ((x0.1.1,1000,1001,x0.1.2.2.2),1002)),(1000,.row 78 S78 x0.1.2.1),(1001,.row 4 .bool x0.1.2.2.1),(1002,.row 50 S50 x0.2),(5000,.var 66 S66 x1)] [] [] 5000 rfl (by kernel_rfl) c0 (sq rfl (sq rfl (rg [(0,.ptr 0 [] 0),(3,.ptr 5000 [] 0),(9,vb (x1.1==4))] [(0,.var 98 O98 ((x0.1.1,1000,1001,x0.1.2.2.2),1002)),(1000,.row 78 S78 x0.1.2.1),(1001,.row 4 .bool x0.1.2.2.1),(1002,.row 50 S50 x0.2),(5000,.var 66 S66 x1)] [] [] 5001 rfl (by kernel_rfl) c0 ?_)))))))
 refine run_if rfl rfl (fun h1=>?_) (fun h1=>?_)
 ·replace F0:=ift h1 F0
  refine sq rfl ?_
  obtain ⟨t1,h2,F0⟩:=obd F0
  refine rG [] [(0,.var 98 O98 ((x0.1.1,1000,1001,t1),1002)),(1000,.row 78 S78 x0.1.2.1),(1001,.row 4 .bool x0.1.2.2.1),(1002,.row 50 S50 x0.2)] [(16,⟨[.v (.sl S93),.v (.int .i64),.v (.int .i64),.v (.int .i64),.v (.int .i64),.v (.int .u32)],.v (.sl S93) t1,none⟩)] [] 5001 rfl rfl (by kernel_rfl) (cc (W_lossy_Turn h2) c0) ?_
  obtain rfl:=inj F0
  exact ret_mut (q:=[]) [] [0,1000,1001,1002] rfl rfl (by kernel_rfl) rfl (by kernel_rfl)
 ·replace F0:=ifn h1 F0
  refine sk rfl (sq rfl ?_)
  obtain ⟨t2,h3,F0⟩:=obd F0
  refine rG [(0,.ptr 0 [] 0),(3,.ptr 5000 [] 0),(4,.v (.sl S93) t2.1),(5,.ptr 5321 [] 0),(6,vb t2.2.2)] [(0,.var 98 O98 ((x0.1.1,1000,1001,x0.1.2.2.2),1002)),(1000,.row 78 S78 x0.1.2.1),(1001,.row 4 .bool x0.1.2.2.1),(1002,.row 50 S50 x0.2),(5000,.var 66 S66 x1),(5321,.var 93 S93 t2.2.1)] [(11,⟨[.v (.sl S93),.v (.int .i64),.v (.int .i64),.v (.int .i64)],.tup [.v (.sl S93) t2.1,.v S93 t2.2.1,vb t2.2.2],none⟩)] [] 5001 rfl rfl (by kernel_rfl) (cc (W_lossy_Take h3) (cc (show (.v (.sl S93) x0.1.2.2.2:AVal)=(.v (.sl S93) x0.1.2.2.2) from rfl) (cc (show (vi x1.2.1:AVal)=(vi x1.2.1) from rfl) (cc (show (vi x1.2.2.1:AVal)=(vi x1.2.2.1) from rfl) (cc (show (vi x1.2.2.2.1:AVal)=(vi x1.2.2.2.1) from rfl) c0))))) (sq rfl (sq rfl (rg [(0,.ptr 0 [] 0),(3,.ptr 5000 [] 0),(4,.v (.sl S93) t2.1),(5,.ptr 5321 [] 0),(47,vb (!t2.2.2))] [(0,.var 98 O98 ((x0.1.1,1000,1001,x0.1.2.2.2),1002)),(1000,.row 78 S78 x0.1.2.1),(1001,.row 4 .bool x0.1.2.2.1),(1002,.row 50 S50 x0.2),(5000,.var 66 S66 x1),(5321,.var 93 S93 t2.2.1)] [] [] 5322 rfl (by kernel_rfl) c0 ?_)))
  refine run_if rfl rfl (fun h4=>?_) (fun h4=>?_)
  ·replace F0:=ift h4 F0
   refine tm (ρ':=[]) (H':=[(0,.var 98 O98 ((x0.1.1,1000,1001,x0.1.2.2.2),1002)),(1000,.row 78 S78 x0.1.2.1),(1001,.row 4 .bool x0.1.2.2.1),(1002,.row 50 S50 x0.2)]) (by kernel_rfl) (by kernel_rfl) rfl ?_
   obtain rfl:=inj F0
   exact ret_mut (q:=[]) [] [0,1000,1001,1002] rfl rfl (by kernel_rfl) rfl (by kernel_rfl)
  ·replace F0:=ifn h4 F0
   refine sk rfl (sq rfl (sq rfl (rg [(0,.ptr 0 [] 0),(3,.ptr 5000 [] 0),(4,.v (.sl S93) t2.1),(5,.ptr 5321 [] 0),(50,vb (x1.1 != 2))] [(0,.var 98 O98 ((x0.1.1,1000,1001,x0.1.2.2.2),1002)),(1000,.row 78 S78 x0.1.2.1),(1001,.row 4 .bool x0.1.2.2.1),(1002,.row 50 S50 x0.2),(5000,.var 66 S66 x1),(5321,.var 93 S93 t2.2.1)] [] [] 5322 rfl (by kernel_rfl) c0 ?_)))
   refine run_if rfl rfl (fun h5=>?_) (fun h5=>?_)
   ·replace F0:=ift h5 F0
    refine rg [(0,.ptr 0 [] 0),(3,.ptr 5000 [] 0),(5,.ptr 5321 [] 0)] [(0,.var 98 O98 ((x0.1.1,1000,1001,t2.1),1002)),(1000,.row 78 S78 x0.1.2.1),(1001,.row 4 .bool x0.1.2.2.1),(1002,.row 50 S50 x0.2),(5000,.var 66 S66 x1),(5321,.var 93 S93 t2.2.1)] [] [] 5322 rfl (by kernel_rfl) c0 (sq rfl (rg [(0,.ptr 0 [] 0),(5,.ptr 5321 [] 0),(58,vb (x1.1 != 3))] [(0,.var 98 O98 ((x0.1.1,1000,1001,t2.1),1002)),(1000,.row 78 S78 x0.1.2.1),(1001,.row 4 .bool x0.1.2.2.1),(1002,.row 50 S50 x0.2),(5321,.var 93 S93 t2.2.1)] [] [] 5322 rfl (by kernel_rfl) c0 ?_))
    refine run_if rfl rfl (fun h6=>?_) (fun h6=>?_)
    ·replace F0:=ift h6 F0
     obtain ⟨t3,h7,F0⟩:=obd F0
     refine rg [] [(0,.var 98 O98 ((t3.1.1,6362,6363,t3.1.2.2.2),6364)),(6362,.row 78 S78 t3.1.2.1),(6363,.row 4 .bool t3.1.2.2.1),(6364,.row 50 S50 t3.2)] [(2,⟨[.v .unit,.v S93],.tup [],some ([0,1000,1001,1002],[(0,.var 98 O98 ((t3.1.1,1000,1001,t3.1.2.2.2),1002)),(1000,.row 78 S78 t3.1.2.1),(1001,.row 4 .bool t3.1.2.2.1),(1002,.row 50 S50 t3.2)])⟩)] [] 5322 rfl (by kernel_rfl) (cc (W_cluster_run_arrive h7) c0) (run_renF (ρ':=[]) (H':=[(1000,.row 78 S78 t3.1.2.1),(0,.var 98 O98 ((t3.1.1,1000,6363,t3.1.2.2.2),6364)),(6363,.row 4 .bool t3.1.2.2.1),(6364,.row 50 S50 t3.2)]) 6362 1000 rfl (by kernel_rfl) rfl rfl (by kernel_rfl) rfl (run_renF (ρ':=[]) (H':=[(1001,.row 4 .bool t3.1.2.2.1),(1000,.row 78 S78 t3.1.2.1),(0,.var 98 O98 ((t3.1.1,1000,1001,t3.1.2.2.2),6364)),(6364,.row 50 S50 t3.2)]) 6363 1001 rfl (by kernel_rfl) rfl rfl (by kernel_rfl) rfl (run_renF (ρ':=[]) (H':=[(1002,.row 50 S50 t3.2),(1001,.row 4 .bool t3.1.2.2.1),(1000,.row 78 S78 t3.1.2.1),(0,.var 98 O98 ((t3.1.1,1000,1001,t3.1.2.2.2),1002))]) 6364 1002 rfl (by kernel_rfl) rfl rfl (by kernel_rfl) rfl (tm (ρ':=[]) (H':=[(0,.var 98 O98 ((t3.1.1,1000,1001,t3.1.2.2.2),1002)),(1000,.row 78 S78 t3.1.2.1),(1001,.row 4 .bool t3.1.2.2.1),(1002,.row 50 S50 t3.2)]) (by kernel_rfl) (by kernel_rfl) rfl ?_))))
     obtain rfl:=inj F0
     exact fall_mut (q:=[]) [] [0,1000,1001,1002] rfl (by kernel_rfl) rfl (by kernel_rfl)
    ·replace F0:=ifn h6 F0
     refine sk rfl (tm (ρ':=[]) (H':=[(0,.var 98 O98 ((x0.1.1,1000,1001,t2.1),1002)),(1000,.row 78 S78 x0.1.2.1),(1001,.row 4 .bool x0.1.2.2.1),(1002,.row 50 S50 x0.2)]) (by kernel_rfl) (by kernel_rfl) rfl ?_)
     obtain rfl:=inj F0
     exact fall_mut (q:=[]) [] [0,1000,1001,1002] rfl (by kernel_rfl) rfl (by kernel_rfl)
   ·replace F0:=ifn h5 F0
    refine sk rfl (sq rfl (rg [(0,.ptr 0 [] 0),(5,.ptr 5321 [] 0),(58,vb (x1.1 != 3))] [(0,.var 98 O98 ((x0.1.1,1000,1001,x0.1.2.2.2),1002)),(1000,.row 78 S78 x0.1.2.1),(1001,.row 4 .bool x0.1.2.2.1),(1002,.row 50 S50 x0.2),(5321,.var 93 S93 t2.2.1)] [] [] 5322 rfl (by kernel_rfl) c0 ?_))
    refine run_if rfl rfl (fun h8=>?_) (fun h8=>?_)
    ·replace F0:=ift h8 F0
     obtain ⟨t4,h9,F0⟩:=obd F0
     refine rg [] [(0,.var 98 O98 ((t4.1.1,6362,6363,t4.1.2.2.2),6364)),(6362,.row 78 S78 t4.1.2.1),(6363,.row 4 .bool t4.1.2.2.1),(6364,.row 50 S50 t4.2)] [(2,⟨[.v .unit,.v S93],.tup [],some ([0,1000,1001,1002],[(0,.var 98 O98 ((t4.1.1,1000,1001,t4.1.2.2.2),1002)),(1000,.row 78 S78 t4.1.2.1),(1001,.row 4 .bool t4.1.2.2.1),(1002,.row 50 S50 t4.2)])⟩)] [] 5322 rfl (by kernel_rfl) (cc (W_cluster_run_arrive h9) c0) (run_renF (ρ':=[]) (H':=[(1000,.row 78 S78 t4.1.2.1),(0,.var 98 O98 ((t4.1.1,1000,6363,t4.1.2.2.2),6364)),(6363,.row 4 .bool t4.1.2.2.1),(6364,.row 50 S50 t4.2)]) 6362 1000 rfl (by kernel_rfl) rfl rfl (by kernel_rfl) rfl (run_renF (ρ':=[]) (H':=[(1001,.row 4 .bool t4.1.2.2.1),(1000,.row 78 S78 t4.1.2.1),(0,.var 98 O98 ((t4.1.1,1000,1001,t4.1.2.2.2),6364)),(6364,.row 50 S50 t4.2)]) 6363 1001 rfl (by kernel_rfl) rfl rfl (by kernel_rfl) rfl (run_renF (ρ':=[]) (H':=[(1002,.row 50 S50 t4.2),(1001,.row 4 .bool t4.1.2.2.1),(1000,.row 78 S78 t4.1.2.1),(0,.var 98 O98 ((t4.1.1,1000,1001,t4.1.2.2.2),1002))]) 6364 1002 rfl (by kernel_rfl) rfl rfl (by kernel_rfl) rfl (tm (ρ':=[]) (H':=[(0,.var 98 O98 ((t4.1.1,1000,1001,t4.1.2.2.2),1002)),(1000,.row 78 S78 t4.1.2.1),(1001,.row 4 .bool t4.1.2.2.1),(1002,.row 50 S50 t4.2)]) (by kernel_rfl) (by kernel_rfl) rfl ?_))))
     obtain rfl:=inj F0
     exact fall_mut (q:=[]) [] [0,1000,1001,1002] rfl (by kernel_rfl) rfl (by kernel_rfl)
    ·replace F0:=ifn h8 F0
     refine sk rfl (tm (ρ':=[]) (H':=[(0,.var 98 O98 ((x0.1.1,1000,1001,x0.1.2.2.2),1002)),(1000,.row 78 S78 x0.1.2.1),(1001,.row 4 .bool x0.1.2.2.1),(1002,.row 50 S50 x0.2)]) (by kernel_rfl) (by kernel_rfl) rfl ?_)
     obtain rfl:=inj F0
     exact fall_mut (q:=[]) [] [0,1000,1001,1002] rfl (by kernel_rfl) rfl (by kernel_rfl)
noncomputable def F_cluster_run_up (x0:S98.ty) (x1:Int):Option S98.ty :=
 (show Option Bool from if (decide (x1<0))=true then some true else if (decide (x1≥((length x0.1.2.1:Nat):Int)))=true then some true else if (decide (x1≥((length x0.1.2.2.1:Nat):Int)))=true then some true else if 0≤x1∧x1<((length x0.1.2.2.1:Nat):Int) then (if (getD x0.1.2.2.1 (toNat x1) false)=true then some true else if 0≤x1∧x1<((length x0.1.2.1:Nat):Int) then (some ((getD x0.1.2.1 (toNat x1) S78.dflt).2.2.1==4294967295)) else none) else none).bind (fun r1=>if (r1)=true then some x0 else if 0≤x1∧x1<((length x0.1.2.1:Nat):Int) then (F_core_Start x1 (wrap .u32 ((getD x0.1.2.1 (toNat x1) S78.dflt).2.2.1+1)) x0.1.1).bind fun t1=>(if t1.2=true then if 0≤x1∧x1<((length x0.1.2.1:Nat):Int) then (if 0≤x1∧x1<((length x0.1.2.2.1:Nat):Int) then (some ((x0.1.1,List.set x0.1.2.1 (toNat x1) t1.1,List.set x0.1.2.2.1 (toNat x1) true,x0.1.2.2.2),x0.2)) else none) else none else some x0) else none)
theorem W_cluster_run_up {x0:S98.ty} {x1:Int} {y:S98.ty} (F0:F_cluster_run_up x0 x1=some y):Mut Tryz.prog 56 4 [.ptr 0 [] 0,vi x1] [(0,.var 98 O98 ((x0.1.1,1,2,x0.1.2.2.2),3)),(1,.row 78 S78 x0.1.2.1),(2,.row 4 .bool x0.1.2.2.1),(3,.row 50 S50 x0.2)] (.tup []) [(0,.var 98 O98 ((y.1.1,1000,1001,y.1.2.2.2),1002)),(1000,.row 78 S78 y.1.2.1),(1001,.row 4 .bool y.1.2.2.1),(1002,.row 50 S50 y.2)]:=by
 unfold F_cluster_run_up at F0
 refine mut_of_run @Tryz.call56 @Tryz.func56 rfl rfl fun b=>?_
 refine run_renF (ρ':=[(0,.ptr 0 [] 0),(1,vi x1)]) (H':=[(1000,.row 78 S78 x0.1.2.1),(0,.var 98 O98 ((x0.1.1,1000,2,x0.1.2.2.2),3)),(2,.row 4 .bool x0.1.2.2.1),(3,.row 50 S50 x0.2)]) 1 1000 rfl (by kernel_rfl) rfl rfl (by kernel_rfl) rfl (run_renF (ρ':=[(0,.ptr 0 [] 0),(1,vi x1)]) (H':=[(1001,.row 4 .bool x0.1.2.2.1),(1000,.row 78 S78 x0.1.2.1),(0,.var 98 O98 ((x0.1.1,1000,1001,x0.1.2.2.2),3)),(3,.row 50 S50 x0.2)]) 2 1001 rfl (by kernel_rfl) rfl rfl (by kernel_rfl) rfl (run_renF (ρ':=[(0,.ptr 0 [] 0),(1,vi x1)]) (H':=[(1002,.row 50 S50 x0.2),(1001,.row 4 .bool x0.1.2.2.1),(1000,.row 78 S78 x0.1.2.1),(0,.var 98 O98 ((x0.1.1,1000,1001,x0.1.2.2.2),1002))]) 3 1002 rfl (by kernel_rfl) rfl rfl (by kernel_rfl) rfl (sq rfl (sq rfl ?_))))
 obtain ⟨r1,F1,F0⟩:=obd F0
 refine run_cut (fun r1'=>r1=r1') (fun r1=>[(0,.ptr 0 [] 0),(1,vi x1),(49,vb r1)]) (fun r1=>[(0,.var 98 O98 ((x0.1.1,1000,1001,x0.1.2.2.2),1002)),(1000,.row 78 S78 x0.1.2.1),(1001,.row 4 .bool x0.1.2.2.1),(1002,.row 50 S50 x0.2)]) (fun r1' h1=>?_) (fun J1_0=>?_)
 ·subst h1
  refine run_if rfl rfl (fun h2=>?_) (fun h2=>?_)
  ·replace F0:=ift h2 F0
   refine tm (ρ':=[]) (H':=[(0,.var 98 O98 ((x0.1.1,1000,1001,x0.1.2.2.2),1002)),(1000,.row 78 S78 x0.1.2.1),(1001,.row 4 .bool x0.1.2.2.1),(1002,.row 50 S50 x0.2)]) (by kernel_rfl) (by kernel_rfl) rfl ?_
   obtain rfl:=inj F0
   exact ret_mut (q:=[]) [] [0,1000,1001,1002] rfl rfl (by kernel_rfl) rfl (by kernel_rfl)
  ·replace F0:=ifn h2 F0
   refine sk rfl (sq rfl ?_)
   obtain ⟨h3,F0⟩:=ifg F0
   obtain ⟨t1,h4,F0⟩:=obd F0
   refine rG [(0,.ptr 0 [] 0),(1,vi x1),(4,.ptr 5400 [] 0),(5,vb t1.2)] [(0,.var 98 O98 ((x0.1.1,1000,1001,x0.1.2.2.2),1002)),(1000,.row 78 S78 x0.1.2.1),(1001,.row 4 .bool x0.1.2.2.1),(1002,.row 50 S50 x0.2),(5400,.var 78 S78 t1.1)] [(16,⟨[.v (.int .i64),.v (.int .u32),.v (.int .i64)],.tup [.v S78 t1.1,vb t1.2],none⟩)] [] 5000 rfl rfl (by kernel_rfl) (cc h3 (cc (@rfl Nat ((toNat x1*189)+2)) (cc (oo h3 trivial) (cc (W_core_Start h4) (cc (show (.row 1000:AVal)=(.row 1000) from rfl) (cc (show (.ptr 1000 [.i (toNat x1)] (toNat x1*189):AVal)=(.ptr 1000 [.i (toNat x1)] (toNat x1*189)) from rfl) (cc h3 (cc (show (.v (.int .u32) (getD x0.1.2.1 (toNat x1) S78.dflt).2.2.1:AVal)=(.v (.int .u32) (getD x0.1.2.1 (toNat x1) S78.dflt).2.2.1) from rfl) (cc (@rfl Nat ((toNat x1*189)+2)) (cc (oo h3 trivial) (cc (show (vi x0.1.1:AVal)=(vi x0.1.1) from rfl) c0))))))))))) (sq rfl (rg [(0,.ptr 0 [] 0),(1,vi x1),(4,.ptr 5400 [] 0),(70,vb t1.2)] [(0,.var 98 O98 ((x0.1.1,1000,1001,x0.1.2.2.2),1002)),(1000,.row 78 S78 x0.1.2.1),(1001,.row 4 .bool x0.1.2.2.1),(1002,.row 50 S50 x0.2),(5400,.var 78 S78 t1.1)] [] [] 5401 rfl (by kernel_rfl) c0 ?_))
   refine run_if rfl rfl (fun h5=>?_) (fun h5=>?_)
   ·replace F0:=ift h5 F0
    obtain ⟨h6,F0⟩:=ifg F0
    obtain ⟨h7,F0⟩:=ifg F0
    refine rG [] [(0,.var 98 O98 ((x0.1.1,1000,1001,x0.1.2.2.2),1002)),(1000,.row 78 S78 (List.set x0.1.2.1 (toNat x1) t1.1)),(1001,.row 4 .bool (List.set x0.1.2.2.1 (toNat x1) true)),(1002,.row 50 S50 x0.2)] [] [] 5401 rfl rfl (by kernel_rfl) (cc h6 (cc (@rfl Nat (toNat x1*189)) (cc (oo h6 trivial) (cc h7 (cc (@rfl Nat (toNat x1*1)) (cc (oo h7 trivial) c0)))))) ?_
    obtain rfl:=inj F0
    exact fall_mut (q:=[]) [] [0,1000,1001,1002] rfl (by kernel_rfl) rfl (by kernel_rfl)
   ·replace F0:=ifn h5 F0
    refine sk rfl (tm (ρ':=[]) (H':=[(0,.var 98 O98 ((x0.1.1,1000,1001,x0.1.2.2.2),1002)),(1000,.row 78 S78 x0.1.2.1),(1001,.row 4 .bool x0.1.2.2.1),(1002,.row 50 S50 x0.2)]) (by kernel_rfl) (by kernel_rfl) rfl ?_)
    obtain rfl:=inj F0
    exact fall_mut (q:=[]) [] [0,1000,1001,1002] rfl (by kernel_rfl) rfl (by kernel_rfl)
 rcases Bool.eq_false_or_eq_true (decide (x1<0)) with h8|h8
 ·replace F1:=ift h8 F1
  refine rg [(0,.ptr 0 [] 0),(1,vi x1),(49,vb true)] [(0,.var 98 O98 ((x0.1.1,1000,1001,x0.1.2.2.2),1002)),(1000,.row 78 S78 x0.1.2.1),(1001,.row 4 .bool x0.1.2.2.1),(1002,.row 50 S50 x0.2)] [] [(2,true)] 5000 rfl (by kernel_rfl) (cc h8 c0) ?_
  exact J1_0 _ (inj F1).symm
 ·replace F1:=ifn h8 F1
  rcases Bool.eq_false_or_eq_true (decide (x1≥((length x0.1.2.1:Nat):Int))) with h9|h9
  ·replace F1:=ift h9 F1
   refine rg [(0,.ptr 0 [] 0),(1,vi x1),(49,vb true)] [(0,.var 98 O98 ((x0.1.1,1000,1001,x0.1.2.2.2),1002)),(1000,.row 78 S78 x0.1.2.1),(1001,.row 4 .bool x0.1.2.2.1),(1002,.row 50 S50 x0.2)] [] [(2,false),(12,true)] 5000 rfl (by kernel_rfl) (cc h8 (cc h9 c0)) ?_
   exact J1_0 _ (inj F1).symm
  ·replace F1:=ifn h9 F1
   rcases Bool.eq_false_or_eq_true (decide (x1≥((length x0.1.2.2.1:Nat):Int))) with h10|h10
   ·replace F1:=ift h10 F1
    refine rg [(0,.ptr 0 [] 0),(1,vi x1),(49,vb true)] [(0,.var 98 O98 ((x0.1.1,1000,1001,x0.1.2.2.2),1002)),(1000,.row 78 S78 x0.1.2.1),(1001,.row 4 .bool x0.1.2.2.1),(1002,.row 50 S50 x0.2)] [] [(2,false),(12,false),(22,true)] 5000 rfl (by kernel_rfl) (cc h8 (cc h9 (cc h10 c0))) ?_
    exact J1_0 _ (inj F1).symm
   ·replace F1:=ifn h10 F1
    obtain ⟨h11,F1⟩:=ifg F1
    rcases Bool.eq_false_or_eq_true (getD x0.1.2.2.1 (toNat x1) false) with h12|h12
    ·replace F1:=ift h12 F1
     refine rg [(0,.ptr 0 [] 0),(1,vi x1),(49,vb true)] [(0,.var 98 O98 ((x0.1.1,1000,1001,x0.1.2.2.2),1002)),(1000,.row 78 S78 x0.1.2.1),(1001,.row 4 .bool x0.1.2.2.1),(1002,.row 50 S50 x0.2)] [] [(2,false),(12,false),(22,false),(32,true)] 5000 rfl (by kernel_rfl) (cc h8 (cc h9 (cc h10 (cc h11 (cc (@rfl Nat (toNat x1*1)) (cc (oo h11 trivial) (cc h12 c0))))))) ?_
     exact J1_0 _ (inj F1).symm
    ·replace F1:=ifn h12 F1
     obtain ⟨h13,F1⟩:=ifg F1
     refine rg [(0,.ptr 0 [] 0),(1,vi x1),(49,vb ((getD x0.1.2.1 (toNat x1) S78.dflt).2.2.1==4294967295))] [(0,.var 98 O98 ((x0.1.1,1000,1001,x0.1.2.2.2),1002)),(1000,.row 78 S78 x0.1.2.1),(1001,.row 4 .bool x0.1.2.2.1),(1002,.row 50 S50 x0.2)] [] [(2,false),(12,false),(22,false),(32,false)] 5000 rfl (by kernel_rfl) (cc h8 (cc h9 (cc h10 (cc h11 (cc (@rfl Nat (toNat x1*1)) (cc (oo h11 trivial) (cc h12 (cc h13 (cc (@rfl Nat ((toNat x1*189)+2)) (cc (oo h13 trivial) c0)))))))))) ?_
     exact J1_0 _ (inj F1).symm
noncomputable def F_cluster_run_step (x0:S98.ty) (x1:S66.ty):Option S98.ty :=
 if (x1.1==0)=true then (F_cluster_run_has x0 x1.2.1).bind fun t1=>(if (t1)=true then (F_cluster_run_tick x0 x1.2.1 x1.2.2.2.2.2.2).bind fun t2=>(some t2) else some x0) else (show Option Bool from if (x1.1==1)=true then some (x1.1==1) else if (x1.1==2)=true then some (x1.1==2) else if (x1.1==3)=true then some (x1.1==3) else some (x1.1==4)).bind (fun r1=>if (r1)=true then (F_cluster_run_letter x0 x1).bind fun t3=>(some t3) else if (x1.1==5)=true then (F_cluster_run_has x0 x1.2.1).bind fun t4=>(if (t4)=true then if 0≤x1.2.1∧x1.2.1<((length x0.1.2.2.1:Nat):Int) then (some ((x0.1.1,x0.1.2.1,List.set x0.1.2.2.1 (toNat x1.2.1) false,x0.1.2.2.2),x0.2)) else none else some x0) else if (x1.1==6)=true then (F_cluster_run_up x0 x1.2.1).bind fun t5=>(some t5) else some x0)
theorem W_cluster_run_step {x0:S98.ty} {x1:S66.ty} {y:S98.ty} (F0:F_cluster_run_step x0 x1=some y):Mut Tryz.prog 41 4 [.ptr 0 [] 0,.v S66 x1] [(0,.var 98 O98 ((x0.1.1,1,2,x0.1.2.2.2),3)),(1,.row 78 S78 x0.1.2.1),(2,.row 4 .bool x0.1.2.2.1),(3,.row 50 S50 x0.2)] (.tup []) [(0,.var 98 O98 ((y.1.1,1000,1001,y.1.2.2.2),1002)),(1000,.row 78 S78 y.1.2.1),(1001,.row 4 .bool y.1.2.2.1),(1002,.row 50 S50 y.2)]:=by
 unfold F_cluster_run_step at F0
 refine mut_of_run @Tryz.call41 @Tryz.func41 rfl rfl fun b=>?_
 refine run_renF (ρ':=[(0,.ptr 0 [] 0),(1,.v S66 x1)]) (H':=[(1000,.row 78 S78 x0.1.2.1),(0,.var 98 O98 ((x0.1.1,1000,2,x0.1.2.2.2),3)),(2,.row 4 .bool x0.1.2.2.1),(3,.row 50 S50 x0.2)]) 1 1000 rfl (by kernel_rfl) rfl rfl (by kernel_rfl) rfl (run_renF (ρ':=[(0,.ptr 0 [] 0),(1,.v S66 x1)]) (H':=[(1001,.row 4 .bool x0.1.2.2.1),(1000,.row 78 S78 x0.1.2.1),(0,.var 98 O98 ((x0.1.1,1000,1001,x0.1.2.2.2),3)),(3,.row 50 S50 x0.2)]) 2 1001 rfl (by kernel_rfl) rfl rfl (by kernel_rfl) rfl (run_renF (ρ':=[(0,.ptr 0 [] 0),(1,.v S66 x1)]) (H':=[(1002,.row 50 S50 x0.2),(1001,.row 4 .bool x0.1.2.2.1),(1000,.row 78 S78 x0.1.2.1),(0,.var 98 O98 ((x0.1.1,1000,1001,x0.1.2.2.2),1002))]) 3 1002 rfl (by kernel_rfl) rfl rfl (by kernel_rfl) rfl (sq rfl (rg [(0,.ptr 0 [] 0),(3,.ptr 5000 [] 0)] [(0,.var 98 O98 ((x0.1.1,1000,1001,x0.1.2.2.2),1002)),(1000,.row 78 S78 x0.1.2.1),(1001,.row 4 .bool x0.1.2.2.1),(1002,.row 50 S50 x0.2),(5000,.var 66 S66 x1)] [] [] 5000 rfl (by kernel_rfl) c0 (sq rfl (rg [(0,.ptr 0 [] 0),(3,.ptr 5000 [] 0),(5,vi x1.1)] [(0,.var 98 O98 ((x0.1.1,1000,1001,x0.1.2.2.2),1002)),(1000,.row 78 S78 x0.1.2.1),(1001,.row 4 .bool x0.1.2.2.1),(1002,.row 50 S50 x0.2),(5000,.var 66 S66 x1)] [] [] 5001 rfl (by kernel_rfl) c0 (bk rfl (sq rfl (rg [(0,.ptr 0 [] 0),(3,.ptr 5000 [] 0),(5,vi x1.1),(6,vb (x1.1==0))] [(0,.var 98 O98 ((x0.1.1,1000,1001,x0.1.2.2.2),1002)),(1000,.row 78 S78 x0.1.2.1),(1001,.row 4 .bool x0.1.2.2.1),(1002,.row 50 S50 x0.2),(5000,.var 66 S66 x1)] [] [] 5001 rfl (by kernel_rfl) c0 ?_)))))))))
 refine run_if rfl rfl (fun h1=>?_) (fun h1=>?_)
 ·replace F0:=ift h1 F0
  refine sq rfl ?_
  obtain ⟨t1,h2,F0⟩:=obd F0
  refine rg [(0,.ptr 0 [] 0),(3,.ptr 5000 [] 0),(11,vb t1)] [(0,.var 98 O98 ((x0.1.1,1000,1001,x0.1.2.2.2),1002)),(1000,.row 78 S78 x0.1.2.1),(1001,.row 4 .bool x0.1.2.2.1),(1002,.row 50 S50 x0.2),(5000,.var 66 S66 x1)] [(3,⟨[.fp S98,.v (.int .i64)],vb t1,none⟩)] [] 5001 rfl (by kernel_rfl) (cc (W_cluster_run_has h2) c0) ?_
  refine run_if rfl rfl (fun h3=>?_) (fun h3=>?_)
  ·replace F0:=ift h3 F0
   obtain ⟨t2,h4,F0⟩:=obd F0
   refine rg [] [(0,.var 98 O98 ((t2.1.1,6101,6102,t2.1.2.2.2),6103)),(6101,.row 78 S78 t2.1.2.1),(6102,.row 4 .bool t2.1.2.2.1),(6103,.row 50 S50 t2.2)] [(5,⟨[.v .unit,.v (.int .i64),.v (.arr 3 (.arr 2 S39))],.tup [],some ([0,1000,1001,1002],[(0,.var 98 O98 ((t2.1.1,1000,1001,t2.1.2.2.2),1002)),(1000,.row 78 S78 t2.1.2.1),(1001,.row 4 .bool t2.1.2.2.1),(1002,.row 50 S50 t2.2)])⟩)] [] 5001 rfl (by kernel_rfl) (cc (W_cluster_run_tick h4) c0) (run_renF (ρ':=[]) (H':=[(1000,.row 78 S78 t2.1.2.1),(0,.var 98 O98 ((t2.1.1,1000,6102,t2.1.2.2.2),6103)),(6102,.row 4 .bool t2.1.2.2.1),(6103,.row 50 S50 t2.2)]) 6101 1000 rfl (by kernel_rfl) rfl rfl (by kernel_rfl) rfl (run_renF (ρ':=[]) (H':=[(1001,.row 4 .bool t2.1.2.2.1),(1000,.row 78 S78 t2.1.2.1),(0,.var 98 O98 ((t2.1.1,1000,1001,t2.1.2.2.2),6103)),(6103,.row 50 S50 t2.2)]) 6102 1001 rfl (by kernel_rfl) rfl rfl (by kernel_rfl) rfl (run_renF (ρ':=[]) (H':=[(1002,.row 50 S50 t2.2),(1001,.row 4 .bool t2.1.2.2.1),(1000,.row 78 S78 t2.1.2.1),(0,.var 98 O98 ((t2.1.1,1000,1001,t2.1.2.2.2),1002))]) 6103 1002 rfl (by kernel_rfl) rfl rfl (by kernel_rfl) rfl (eb (tm (ρ':=[]) (H':=[(0,.var 98 O98 ((t2.1.1,1000,1001,t2.1.2.2.2),1002)),(1000,.row 78 S78 t2.1.2.1),(1001,.row 4 .bool t2.1.2.2.1),(1002,.row 50 S50 t2.2)]) (by kernel_rfl) (by kernel_rfl) rfl ?_)))))
   obtain rfl:=inj F0
   exact fall_mut (q:=[]) [] [0,1000,1001,1002] rfl (by kernel_rfl) rfl (by kernel_rfl)
  ·replace F0:=ifn h3 F0
   refine sk rfl (eb (tm (ρ':=[]) (H':=[(0,.var 98 O98 ((x0.1.1,1000,1001,x0.1.2.2.2),1002)),(1000,.row 78 S78 x0.1.2.1),(1001,.row 4 .bool x0.1.2.2.1),(1002,.row 50 S50 x0.2)]) (by kernel_rfl) (by kernel_rfl) rfl ?_))
   obtain rfl:=inj F0
   exact fall_mut (q:=[]) [] [0,1000,1001,1002] rfl (by kernel_rfl) rfl (by kernel_rfl)
 ·replace F0:=ifn h1 F0
  refine sq rfl (sq rfl (rg [(0,.ptr 0 [] 0),(3,.ptr 5000 [] 0),(5,vi x1.1),(18,vb (x1.1==1))] [(0,.var 98 O98 ((x0.1.1,1000,1001,x0.1.2.2.2),1002)),(1000,.row 78 S78 x0.1.2.1),(1001,.row 4 .bool x0.1.2.2.1),(1002,.row 50 S50 x0.2),(5000,.var 66 S66 x1)] [] [] 5001 rfl (by kernel_rfl) c0 ?_))
  obtain ⟨r1,F1,F0⟩:=obd F0
  refine run_cut (fun r1'=>r1=r1') (fun r1=>[(0,.ptr 0 [] 0),(3,.ptr 5000 [] 0),(5,vi x1.1),(18,vb r1)]) (fun r1=>[(0,.var 98 O98 ((x0.1.1,1000,1001,x0.1.2.2.2),1002)),(1000,.row 78 S78 x0.1.2.1),(1001,.row 4 .bool x0.1.2.2.1),(1002,.row 50 S50 x0.2),(5000,.var 66 S66 x1)]) (fun r1' h5=>?_) (fun J1_0=>?_)
  ·subst h5
   refine run_if rfl rfl (fun h6=>?_) (fun h6=>?_)
   ·replace F0:=ift h6 F0
    obtain ⟨t3,h7,F0⟩:=obd F0
    refine rg [] [(0,.var 98 O98 ((t3.1.1,6041,6042,t3.1.2.2.2),6043)),(6041,.row 78 S78 t3.1.2.1),(6042,.row 4 .bool t3.1.2.2.1),(6043,.row 50 S50 t3.2)] [(2,⟨[.v .unit,.v S66],.tup [],some ([0,1000,1001,1002],[(0,.var 98 O98 ((t3.1.1,1000,1001,t3.1.2.2.2),1002)),(1000,.row 78 S78 t3.1.2.1),(1001,.row 4 .bool t3.1.2.2.1),(1002,.row 50 S50 t3.2)])⟩)] [] 5001 rfl (by kernel_rfl) (cc (W_cluster_run_letter h7) c0) (run_renF (ρ':=[]) (H':=[(1000,.row 78 S78 t3.1.2.1),(0,.var 98 O98 ((t3.1.1,1000,6042,t3.1.2.2.2),6043)),(6042,.row 4 .bool t3.1.2.2.1),(6043,.row 50 S50 t3.2)]) 6041 1000 rfl (by kernel_rfl) rfl rfl (by kernel_rfl) rfl (run_renF (ρ':=[]) (H':=[(1001,.row 4 .bool t3.1.2.2.1),(1000,.row 78 S78 t3.1.2.1),(0,.var 98 O98 ((t3.1.1,1000,1001,t3.1.2.2.2),6043)),(6043,.row 50 S50 t3.2)]) 6042 1001 rfl (by kernel_rfl) rfl rfl (by kernel_rfl) rfl (run_renF (ρ':=[]) (H':=[(1002,.row 50 S50 t3.2),(1001,.row 4 .bool t3.1.2.2.1),(1000,.row 78 S78 t3.1.2.1),(0,.var 98 O98 ((t3.1.1,1000,1001,t3.1.2.2.2),1002))]) 6043 1002 rfl (by kernel_rfl) rfl rfl (by kernel_rfl) rfl (eb (tm (ρ':=[]) (H':=[(0,.var 98 O98 ((t3.1.1,1000,1001,t3.1.2.2.2),1002)),(1000,.row 78 S78 t3.1.2.1),(1001,.row 4 .bool t3.1.2.2.1),(1002,.row 50 S50 t3.2)]) (by kernel_rfl) (by kernel_rfl) rfl ?_)))))
    obtain rfl:=inj F0
    exact fall_mut (q:=[]) [] [0,1000,1001,1002] rfl (by kernel_rfl) rfl (by kernel_rfl)
   ·replace F0:=ifn h6 F0
    refine sq rfl (rg [(0,.ptr 0 [] 0),(3,.ptr 5000 [] 0),(5,vi x1.1),(26,vb (x1.1==5))] [(0,.var 98 O98 ((x0.1.1,1000,1001,x0.1.2.2.2),1002)),(1000,.row 78 S78 x0.1.2.1),(1001,.row 4 .bool x0.1.2.2.1),(1002,.row 50 S50 x0.2),(5000,.var 66 S66 x1)] [] [] 5001 rfl (by kernel_rfl) c0 ?_)
    refine run_if rfl rfl (fun h8=>?_) (fun h8=>?_)
    ·replace F0:=ift h8 F0
     refine sq rfl ?_
     obtain ⟨t4,h9,F0⟩:=obd F0
     refine rg [(0,.ptr 0 [] 0),(3,.ptr 5000 [] 0),(31,vb t4)] [(0,.var 98 O98 ((x0.1.1,1000,1001,x0.1.2.2.2),1002)),(1000,.row 78 S78 x0.1.2.1),(1001,.row 4 .bool x0.1.2.2.1),(1002,.row 50 S50 x0.2),(5000,.var 66 S66 x1)] [(3,⟨[.fp S98,.v (.int .i64)],vb t4,none⟩)] [] 5001 rfl (by kernel_rfl) (cc (W_cluster_run_has h9) c0) ?_
     refine run_if rfl rfl (fun h10=>?_) (fun h10=>?_)
     ·replace F0:=ift h10 F0
      obtain ⟨h11,F0⟩:=ifg F0
      refine rG [] [(0,.var 98 O98 ((x0.1.1,1000,1001,x0.1.2.2.2),1002)),(1000,.row 78 S78 x0.1.2.1),(1001,.row 4 .bool (List.set x0.1.2.2.1 (toNat x1.2.1) false)),(1002,.row 50 S50 x0.2)] [] [] 5001 rfl rfl (by kernel_rfl) (cc h11 (cc (@rfl Nat (toNat x1.2.1*1)) (cc (oo h11 trivial) c0))) (eb ?_)
      obtain rfl:=inj F0
      exact fall_mut (q:=[]) [] [0,1000,1001,1002] rfl (by kernel_rfl) rfl (by kernel_rfl)
     ·replace F0:=ifn h10 F0
      refine sk rfl (eb (tm (ρ':=[]) (H':=[(0,.var 98 O98 ((x0.1.1,1000,1001,x0.1.2.2.2),1002)),(1000,.row 78 S78 x0.1.2.1),(1001,.row 4 .bool x0.1.2.2.1),(1002,.row 50 S50 x0.2)]) (by kernel_rfl) (by kernel_rfl) rfl ?_))
      obtain rfl:=inj F0
      exact fall_mut (q:=[]) [] [0,1000,1001,1002] rfl (by kernel_rfl) rfl (by kernel_rfl)
    ·replace F0:=ifn h8 F0
     refine sq rfl (rg [(0,.ptr 0 [] 0),(3,.ptr 5000 [] 0),(40,vb (x1.1==6))] [(0,.var 98 O98 ((x0.1.1,1000,1001,x0.1.2.2.2),1002)),(1000,.row 78 S78 x0.1.2.1),(1001,.row 4 .bool x0.1.2.2.1),(1002,.row 50 S50 x0.2),(5000,.var 66 S66 x1)] [] [] 5001 rfl (by kernel_rfl) c0 ?_)
     refine run_if rfl rfl (fun h12=>?_) (fun h12=>?_)
     ·replace F0:=ift h12 F0
      obtain ⟨t5,h13,F0⟩:=obd F0
      refine rg [] [(0,.var 98 O98 ((t5.1.1,6061,6062,t5.1.2.2.2),6063)),(6061,.row 78 S78 t5.1.2.1),(6062,.row 4 .bool t5.1.2.2.1),(6063,.row 50 S50 t5.2)] [(3,⟨[.v .unit,.v (.int .i64)],.tup [],some ([0,1000,1001,1002],[(0,.var 98 O98 ((t5.1.1,1000,1001,t5.1.2.2.2),1002)),(1000,.row 78 S78 t5.1.2.1),(1001,.row 4 .bool t5.1.2.2.1),(1002,.row 50 S50 t5.2)])⟩)] [] 5001 rfl (by kernel_rfl) (cc (W_cluster_run_up h13) c0) (run_renF (ρ':=[]) (H':=[(1000,.row 78 S78 t5.1.2.1),(0,.var 98 O98 ((t5.1.1,1000,6062,t5.1.2.2.2),6063)),(6062,.row 4 .bool t5.1.2.2.1),(6063,.row 50 S50 t5.2)]) 6061 1000 rfl (by kernel_rfl) rfl rfl (by kernel_rfl) rfl (run_renF (ρ':=[]) (H':=[(1001,.row 4 .bool t5.1.2.2.1),(1000,.row 78 S78 t5.1.2.1),(0,.var 98 O98 ((t5.1.1,1000,1001,t5.1.2.2.2),6063)),(6063,.row 50 S50 t5.2)]) 6062 1001 rfl (by kernel_rfl) rfl rfl (by kernel_rfl) rfl (run_renF (ρ':=[]) (H':=[(1002,.row 50 S50 t5.2),(1001,.row 4 .bool t5.1.2.2.1),(1000,.row 78 S78 t5.1.2.1),(0,.var 98 O98 ((t5.1.1,1000,1001,t5.1.2.2.2),1002))]) 6063 1002 rfl (by kernel_rfl) rfl rfl (by kernel_rfl) rfl (eb (tm (ρ':=[]) (H':=[(0,.var 98 O98 ((t5.1.1,1000,1001,t5.1.2.2.2),1002)),(1000,.row 78 S78 t5.1.2.1),(1001,.row 4 .bool t5.1.2.2.1),(1002,.row 50 S50 t5.2)]) (by kernel_rfl) (by kernel_rfl) rfl ?_)))))
      obtain rfl:=inj F0
      exact fall_mut (q:=[]) [] [0,1000,1001,1002] rfl (by kernel_rfl) rfl (by kernel_rfl)
     ·replace F0:=ifn h12 F0
      refine sk rfl (eb (tm (ρ':=[]) (H':=[(0,.var 98 O98 ((x0.1.1,1000,1001,x0.1.2.2.2),1002)),(1000,.row 78 S78 x0.1.2.1),(1001,.row 4 .bool x0.1.2.2.1),(1002,.row 50 S50 x0.2)]) (by kernel_rfl) (by kernel_rfl) rfl ?_))
      obtain rfl:=inj F0
      exact fall_mut (q:=[]) [] [0,1000,1001,1002] rfl (by kernel_rfl) rfl (by kernel_rfl)
  refine run_if rfl rfl (fun h14=>?_) (fun h14=>?_)
  ·replace F1:=ift h14 F1
   refine sk rfl ?_
   exact J1_0 _ (inj F1).symm
  ·replace F1:=ifn h14 F1
   refine sq rfl (rg [(0,.ptr 0 [] 0),(3,.ptr 5000 [] 0),(5,vi x1.1),(18,vb (x1.1==2))] [(0,.var 98 O98 ((x0.1.1,1000,1001,x0.1.2.2.2),1002)),(1000,.row 78 S78 x0.1.2.1),(1001,.row 4 .bool x0.1.2.2.1),(1002,.row 50 S50 x0.2),(5000,.var 66 S66 x1)] [] [] 5001 rfl (by kernel_rfl) c0 ?_)
   refine run_if rfl rfl (fun h15=>?_) (fun h15=>?_)
   ·replace F1:=ift h15 F1
    refine sk rfl ?_
    exact J1_0 _ (inj F1).symm
   ·replace F1:=ifn h15 F1
    refine sq rfl (rg [(0,.ptr 0 [] 0),(3,.ptr 5000 [] 0),(5,vi x1.1),(18,vb (x1.1==3))] [(0,.var 98 O98 ((x0.1.1,1000,1001,x0.1.2.2.2),1002)),(1000,.row 78 S78 x0.1.2.1),(1001,.row 4 .bool x0.1.2.2.1),(1002,.row 50 S50 x0.2),(5000,.var 66 S66 x1)] [] [] 5001 rfl (by kernel_rfl) c0 ?_)
    refine run_if rfl rfl (fun h16=>?_) (fun h16=>?_)
    ·replace F1:=ift h16 F1
     refine sk rfl ?_
     exact J1_0 _ (inj F1).symm
    ·replace F1:=ifn h16 F1
     refine rg [(0,.ptr 0 [] 0),(3,.ptr 5000 [] 0),(5,vi x1.1),(18,vb (x1.1==4))] [(0,.var 98 O98 ((x0.1.1,1000,1001,x0.1.2.2.2),1002)),(1000,.row 78 S78 x0.1.2.1),(1001,.row 4 .bool x0.1.2.2.1),(1002,.row 50 S50 x0.2),(5000,.var 66 S66 x1)] [] [] 5001 rfl (by kernel_rfl) c0 ?_
     exact J1_0 _ (inj F1).symm
noncomputable def F_cluster_Run_b2 (x1:(List S66.ty)) (s2:(Int×((Int×(Unit×(Unit×(List S93.ty))))×Unit)×(List S78.ty)×(List Bool)×(List S50.ty))):Option ((Int×((Int×(Unit×(Unit×(List S93.ty))))×Unit)×(List S78.ty)×(List Bool)×(List S50.ty))⊕(((Int×(Unit×(Unit×(List S93.ty))))×Unit)×(List S78.ty)×(List Bool)×(List S50.ty))) :=
 if (decide (s2.1<((length x1:Nat):Int)))=true then if 0≤s2.1∧s2.1<((length x1:Nat):Int) then (F_cluster_run_step ((s2.2.1.1.1,s2.2.2.1,s2.2.2.2.1,s2.2.1.1.2.2.2),s2.2.2.2.2) (getD x1 (toNat s2.1) S66.dflt)).bind fun t3=>(some (Sum.inl (wrap .i64 (s2.1+1),((t3.1.1,(),(),t3.1.2.2.2),()),t3.1.2.1,t3.1.2.2.1,t3.2))) else none else some (Sum.inr (((s2.2.1.1.1,(),(),s2.2.1.1.2.2.2),()),s2.2.2.1,s2.2.2.2.1,s2.2.2.2.2))
noncomputable def F_cluster_Run_b1 (x0:S29.ty) (s1:(Int×(List S78.ty))):Option ((Int×(List S78.ty))⊕(List S78.ty)) :=
 if (decide (s1.1<((length x0.2.1:Nat):Int)))=true then if 0≤s1.1∧s1.1<((length x0.2.1:Nat):Int) then (F_slices_Clone_api_Kept_api_Kept (getD x0.2.1 (toNat s1.1) S78.dflt).2.2.2.2.2.2.2.1).bind fun t4=>(if apOk (length s1.2+1) 792 then (some (Sum.inl (wrap .i64 (s1.1+1),s1.2++[((getD x0.2.1 (toNat s1.1) S78.dflt).1,(getD x0.2.1 (toNat s1.1) S78.dflt).2.1,(getD x0.2.1 (toNat s1.1) S78.dflt).2.2.1,(getD x0.2.1 (toNat s1.1) S78.dflt).2.2.2.1,(getD x0.2.1 (toNat s1.1) S78.dflt).2.2.2.2.1,(getD x0.2.1 (toNat s1.1) S78.dflt).2.2.2.2.2.1,(getD x0.2.1 (toNat s1.1) S78.dflt).2.2.2.2.2.2.1,t4,(getD x0.2.1 (toNat s1.1) S78.dflt).2.2.2.2.2.2.2.2)]))) else none) else none else some (Sum.inr s1.2)
noncomputable def F_cluster_Run (x0:S29.ty) (x1:(List S66.ty)):Option (S29.ty×(List S50.ty)) :=
 (F_slices_Clone_bool_bool x0.2.2.1).bind fun t1=>((F_slices_Clone_api_Letter_api_Letter x0.2.2.2).bind fun t2=>((loopO (F_cluster_Run_b1 x0) (0,[])).bind (fun r1=>(loopO (F_cluster_Run_b2 x1) (0,((x0.1,(),(),t2),()),r1,t1,[])).bind (fun r2=>some ((r2.1.1.1,r2.2.1,r2.2.2.1,r2.1.1.2.2.2),r2.2.2.2)))))
theorem W_cluster_Run {x0:S29.ty} {x1:(List S66.ty)} {y:(S29.ty×(List S50.ty))} (F0:F_cluster_Run x0 x1=some y):Pure Tryz.prog 27 [.v S29 x0,.v (.sl S66) x1] (.tup [.v S29 y.1,.v (.sl S50) y.2]):=by
 unfold F_cluster_Run at F0
 refine pure_of_run @Tryz.call27 @Tryz.func27 rfl rfl fun w M ho=>?_
 refine sq rfl (rg [(1,.v (.sl S66) x1),(2,.ptr 5000 [] 0),(4,.ptr 5020 [] 0)] [(5000,.var 29 S29 x0),(5020,.var 29 Z29 (0,(),(),()))] [] [] 5000 rfl (by kernel_rfl) c0 (run_nilF (H':=[(1064,.row 78 S78 []),(5000,.var 29 S29 x0),(5020,.var 29 (.st (.prod (.int .i64) (.prod .ref (.prod (.nl .bool) (.nl S93))))) (0,1064,(),()))]) 5020 1064 [.u,.r,.l] 78 S78 rfl rfl rfl rfl rfl rfl (by kernel_rfl) rfl (run_nilF (H':=[(1065,.row 4 .bool []),(1064,.row 78 S78 []),(5000,.var 29 S29 x0),(5020,.var 29 (.st (.prod (.int .i64) (.prod .ref (.prod .ref (.nl S93))))) (0,1064,1065,()))]) 5020 1065 [.u,.r,.r,.l] 4 .bool rfl rfl rfl rfl rfl rfl (by kernel_rfl) rfl (sq rfl ?_))))
 obtain ⟨t1,h1,F0⟩:=obd F0
 obtain ⟨t2,h2,F0⟩:=obd F0
 refine rG [(1,.v (.sl S66) x1),(2,.ptr 5000 [] 0),(4,.ptr 5020 [] 0),(6,.ptr 5221 [] 0)] [(1064,.row 78 S78 []),(1065,.row 4 .bool []),(5000,.var 29 S29 x0),(5020,.var 29 (.st (.prod (.int .i64) (.prod .ref (.prod .ref (.nl S93))))) (0,1064,1065,())),(5101,.row 4 .bool t1),(5221,.var 98 (.st (.prod (.st (.prod (.int .i64) (.prod (.nl S78) (.prod .ref (.sl S93))))) (.nl S50))) ((x0.1,(),5101,t2),()))] [(4,⟨[.v (.sl .bool)],.row 0,some ([],[(0,.row 4 .bool t1)])⟩),(7,⟨[.v (.sl S93)],.v (.sl S93) t2,none⟩)] [] 5021 rfl rfl (by kernel_rfl) (cc (W_slices_Clone_bool_bool h1) (cc (show Pure Tryz.prog 39 [.v (.sl S93) x0.2.2.2] (.v (.sl S93) t2) from pure_of_mut rfl (W_slices_Clone_api_Letter_api_Letter h2)) (cc (show (vi x0.1:AVal)=(vi x0.1) from rfl) (cc (show (.v (.sl S93) x0.2.2.2:AVal)=(.v (.sl S93) x0.2.2.2) from rfl) c0)))) (run_nilF (H':=[(1128,.row 78 S78 []),(1064,.row 78 S78 []),(1065,.row 4 .bool []),(5000,.var 29 S29 x0),(5020,.var 29 (.st (.prod (.int .i64) (.prod .ref (.prod .ref (.nl S93))))) (0,1064,1065,())),(5101,.row 4 .bool t1),(5221,.var 98 (.st (.prod O29 (.nl S50))) ((x0.1,1128,5101,t2),()))]) 5221 1128 [.u,.l,.u,.r,.l] 78 S78 rfl rfl rfl rfl rfl rfl (by kernel_rfl) rfl (run_renF (ρ':=[(1,.v (.sl S66) x1),(2,.ptr 5000 [] 0),(4,.ptr 5020 [] 0),(6,.ptr 5221 [] 0)]) (H':=[(1129,.row 4 .bool t1),(1128,.row 78 S78 []),(1064,.row 78 S78 []),(1065,.row 4 .bool []),(5000,.var 29 S29 x0),(5020,.var 29 (.st (.prod (.int .i64) (.prod .ref (.prod .ref (.nl S93))))) (0,1064,1065,())),(5221,.var 98 (.st (.prod O29 (.nl S50))) ((x0.1,1128,1129,t2),()))]) 5101 1129 rfl (by kernel_rfl) rfl rfl (by kernel_rfl) rfl (run_nilF (H':=[(1130,.row 50 S50 []),(1129,.row 4 .bool t1),(1128,.row 78 S78 []),(1064,.row 78 S78 []),(1065,.row 4 .bool []),(5000,.var 29 S29 x0),(5020,.var 29 (.st (.prod (.int .i64) (.prod .ref (.prod .ref (.nl S93))))) (0,1064,1065,())),(5221,.var 98 O98 ((x0.1,1128,1129,t2),1130))]) 5221 1130 [.u,.r] 50 S50 rfl rfl rfl rfl rfl rfl (by kernel_rfl) rfl (sq rfl (sq rfl (rg [(1,.v (.sl S66) x1),(4,.ptr 5020 [] 0),(6,.ptr 5221 [] 0),(23,.v (.sl S78) x0.2.1),(24,vi ((length x0.2.1:Nat):Int)),(25,vi 0)] [(1064,.row 78 S78 []),(1065,.row 4 .bool []),(1128,.row 78 S78 []),(1129,.row 4 .bool t1),(1130,.row 50 S50 []),(5020,.var 29 (.st (.prod (.int .i64) (.prod .ref (.prod .ref (.nl S93))))) (0,1064,1065,())),(5221,.var 98 O98 ((x0.1,1128,1129,t2),1130))] [] [] 5222 rfl (by kernel_rfl) c0 (bk rfl ?_)))))))
 obtain ⟨r1,hl1,F0⟩:=obd F0
 refine run_cutx 0 rfl (fun r1'=>r1=r1') (fun r1=>[(1,.v (.sl S66) x1),(4,.ptr 5020 [] 0),(6,.ptr 5221 [] 0)]) (fun r1=>[(1064,.row 78 S78 []),(1065,.row 4 .bool []),(1128,.row 78 S78 r1),(1129,.row 4 .bool t1),(1130,.row 50 S50 []),(5020,.var 29 (.st (.prod (.int .i64) (.prod .ref (.prod .ref (.nl S93))))) (0,1064,1065,())),(5221,.var 98 O98 ((x0.1,1128,1129,t2),1130))]) (fun r1' h3=>?_) (fun J1_0=>?_)
 ·subst h3
  refine sq rfl (sq rfl (rg [(4,.ptr 5020 [] 0),(6,.ptr 5221 [] 0),(46,.v (.sl S66) x1),(47,vi ((length x1:Nat):Int)),(48,vi 0)] [(1064,.row 78 S78 []),(1065,.row 4 .bool []),(1128,.row 78 S78 r1),(1129,.row 4 .bool t1),(1130,.row 50 S50 []),(5020,.var 29 (.st (.prod (.int .i64) (.prod .ref (.prod .ref (.nl S93))))) (0,1064,1065,())),(5221,.var 98 O98 ((x0.1,1128,1129,t2),1130))] [] [] 5222 rfl (by kernel_rfl) c0 (bk rfl ?_)))
  obtain ⟨r2,hl2,F0⟩:=obd F0
  refine run_cutx 2 rfl (fun r2'=>r2=r2') (fun r2=>[(4,.ptr 5020 [] 0),(6,.ptr 5221 [] 0)]) (fun r2=>[(1064,.row 78 S78 []),(1065,.row 4 .bool []),(1128,.row 78 S78 r2.2.1),(1129,.row 4 .bool r2.2.2.1),(1130,.row 50 S50 r2.2.2.2),(5020,.var 29 (.st (.prod (.int .i64) (.prod .ref (.prod .ref (.nl S93))))) (0,1064,1065,())),(5221,.var 98 O98 ((r2.1.1.1,1128,1129,r2.1.1.2.2.2),1130))]) (fun r2' h4=>?_) (fun J2_0=>?_)
  ·subst h4
   refine sq rfl (rG [(4,.ptr 5020 [] 0),(5,.row 1130)] [(1128,.row 78 S78 r2.2.1),(1129,.row 4 .bool r2.2.2.1),(1130,.row 50 S50 r2.2.2.2),(5020,.var 29 O29 (r2.1.1.1,1128,1129,r2.1.1.2.2.2))] [] [] 5222 rfl rfl (by kernel_rfl) (cc (show (.row 1130:AVal)=(.row 1130) from rfl) c0) (run_renF (ρ':=[(4,.ptr 5020 [] 0),(5,.row 1130)]) (H':=[(1064,.row 78 S78 r2.2.1),(1129,.row 4 .bool r2.2.2.1),(1130,.row 50 S50 r2.2.2.2),(5020,.var 29 O29 (r2.1.1.1,1064,1129,r2.1.1.2.2.2))]) 1128 1064 rfl (by kernel_rfl) rfl rfl (by kernel_rfl) rfl (run_renF (ρ':=[(4,.ptr 5020 [] 0),(5,.row 1130)]) (H':=[(1065,.row 4 .bool r2.2.2.1),(1064,.row 78 S78 r2.2.1),(1130,.row 50 S50 r2.2.2.2),(5020,.var 29 O29 (r2.1.1.1,1064,1065,r2.1.1.2.2.2))]) 1129 1065 rfl (by kernel_rfl) rfl rfl (by kernel_rfl) rfl ?_)))
   obtain rfl:=inj F0
   refine tm (ρ':=[(4,.ptr 5020 [] 0),(5,.row 1130)]) (H':=[(1064,.row 78 S78 r2.2.1),(1065,.row 4 .bool r2.2.2.1),(1130,.row 50 S50 r2.2.2.2),(5020,.var 29 O29 (r2.1.1.1,1064,1065,r2.1.1.2.2.2))]) (by kernel_rfl) (by kernel_rfl) rfl (run_frzC (ρ':=[(4,.ptr 5020 [] 0),(5,.row 1130)]) (H':=[(1065,.row 4 .bool r2.2.2.1),(1130,.row 50 S50 r2.2.2.2),(5020,.var 29 (.st (.prod (.int .i64) (.prod (.sl S78) (.prod .ref (.sl S93))))) (r2.1.1.1,r2.2.1,1065,r2.1.1.2.2.2))]) 1064 rfl rfl rfl (by kernel_rfl) (by kernel_rfl) (run_frzC (ρ':=[(4,.ptr 5020 [] 0),(5,.row 1130)]) (H':=[(1130,.row 50 S50 r2.2.2.2),(5020,.var 29 S29 (r2.1.1.1,r2.2.1,r2.2.2.1,r2.1.1.2.2.2))]) 1065 rfl rfl rfl (by kernel_rfl) (by kernel_rfl) (run_frz (ρ':=[(4,.ptr 5020 [] 0),(5,.v (.sl S50) r2.2.2.2)]) (H':=[(5020,.var 29 S29 (r2.1.1.1,r2.2.1,r2.2.2.1,r2.1.1.2.2.2))]) 1130 rfl rfl rfl (by kernel_rfl) (by kernel_rfl) ?_)))
   exact ret_pure (q:=[.v S29 (r2.1.1.1,r2.2.1,r2.2.2.1,r2.1.1.2.2.2),.v (.sl S50) r2.2.2.2]) [S29,(.sl S50)] rfl rfl (by kernel_rfl)
  refine run_loop rfl (run_loopO hl2 (fun s2=>[(4,.ptr 5020 [] 0),(6,.ptr 5221 [] 0),(46,.v (.sl S66) x1),(47,vi ((length x1:Nat):Int)),(48,vi s2.1)]) (fun s2=>[(1064,.row 78 S78 []),(1065,.row 4 .bool []),(1128,.row 78 S78 s2.2.2.1),(1129,.row 4 .bool s2.2.2.2.1),(1130,.row 50 S50 s2.2.2.2.2),(5020,.var 29 (.st (.prod (.int .i64) (.prod .ref (.prod .ref (.nl S93))))) (0,1064,1065,())),(5221,.var 98 O98 ((s2.2.1.1.1,1128,1129,s2.2.1.1.2.2.2),1130))]) rfl rfl (fun s2 o2 F1 ih2 hr2=>?_))
  unfold F_cluster_Run_b2 at F1
  refine run_again (sq rfl (rg [(4,.ptr 5020 [] 0),(6,.ptr 5221 [] 0),(46,.v (.sl S66) x1),(47,vi ((length x1:Nat):Int)),(48,vi s2.1),(49,vb (decide (s2.1<((length x1:Nat):Int))))] [(1064,.row 78 S78 []),(1065,.row 4 .bool []),(1128,.row 78 S78 s2.2.2.1),(1129,.row 4 .bool s2.2.2.2.1),(1130,.row 50 S50 s2.2.2.2.2),(5020,.var 29 (.st (.prod (.int .i64) (.prod .ref (.prod .ref (.nl S93))))) (0,1064,1065,())),(5221,.var 98 O98 ((s2.2.1.1.1,1128,1129,s2.2.1.1.2.2.2),1130))] [] [] 5222 rfl (by kernel_rfl) c0 (sq rfl ?_)))
  refine run_if rfl rfl (fun h5=>?_) (fun h5=>?_)
  ·replace F1:=ift h5 F1
   refine sk rfl (sq rfl (bk rfl (sq rfl ?_)))
   obtain ⟨h6,F1⟩:=ifg F1
   refine rg [(4,.ptr 5020 [] 0),(6,.ptr 5221 [] 0),(10,.ptr 5262 [] 0),(46,.v (.sl S66) x1),(47,vi ((length x1:Nat):Int)),(48,vi s2.1)] [(1064,.row 78 S78 []),(1065,.row 4 .bool []),(1128,.row 78 S78 s2.2.2.1),(1129,.row 4 .bool s2.2.2.2.1),(1130,.row 50 S50 s2.2.2.2.2),(5020,.var 29 (.st (.prod (.int .i64) (.prod .ref (.prod .ref (.nl S93))))) (0,1064,1065,())),(5221,.var 98 O98 ((s2.2.1.1.1,1128,1129,s2.2.1.1.2.2.2),1130)),(5262,.var 66 S66 (getD x1 (toNat s2.1) S66.dflt))] [] [] 5222 rfl (by kernel_rfl) (cc h6 c0) ?_
   obtain ⟨t3,h7,F1⟩:=obd F1
   refine rg [(4,.ptr 5020 [] 0),(6,.ptr 5221 [] 0),(46,.v (.sl S66) x1),(47,vi ((length x1:Nat):Int)),(48,vi s2.1)] [(1064,.row 78 S78 []),(1065,.row 4 .bool []),(5020,.var 29 (.st (.prod (.int .i64) (.prod .ref (.prod .ref (.nl S93))))) (0,1064,1065,())),(5221,.var 98 O98 ((t3.1.1,6303,6304,t3.1.2.2.2),6305)),(6303,.row 78 S78 t3.1.2.1),(6304,.row 4 .bool t3.1.2.2.1),(6305,.row 50 S50 t3.2)] [(2,⟨[.v .unit,.v S66],.tup [],some ([5221,1128,1129,1130],[(0,.var 98 O98 ((t3.1.1,1000,1001,t3.1.2.2.2),1002)),(1000,.row 78 S78 t3.1.2.1),(1001,.row 4 .bool t3.1.2.2.1),(1002,.row 50 S50 t3.2)])⟩)] [] 5263 rfl (by kernel_rfl) (cc (W_cluster_run_step h7) c0) (run_renF (ρ':=[(4,.ptr 5020 [] 0),(6,.ptr 5221 [] 0),(46,.v (.sl S66) x1),(47,vi ((length x1:Nat):Int)),(48,vi s2.1)]) (H':=[(1128,.row 78 S78 t3.1.2.1),(1064,.row 78 S78 []),(1065,.row 4 .bool []),(5020,.var 29 (.st (.prod (.int .i64) (.prod .ref (.prod .ref (.nl S93))))) (0,1064,1065,())),(5221,.var 98 O98 ((t3.1.1,1128,6304,t3.1.2.2.2),6305)),(6304,.row 4 .bool t3.1.2.2.1),(6305,.row 50 S50 t3.2)]) 6303 1128 rfl (by kernel_rfl) rfl rfl (by kernel_rfl) rfl (run_renF (ρ':=[(4,.ptr 5020 [] 0),(6,.ptr 5221 [] 0),(46,.v (.sl S66) x1),(47,vi ((length x1:Nat):Int)),(48,vi s2.1)]) (H':=[(1129,.row 4 .bool t3.1.2.2.1),(1128,.row 78 S78 t3.1.2.1),(1064,.row 78 S78 []),(1065,.row 4 .bool []),(5020,.var 29 (.st (.prod (.int .i64) (.prod .ref (.prod .ref (.nl S93))))) (0,1064,1065,())),(5221,.var 98 O98 ((t3.1.1,1128,1129,t3.1.2.2.2),6305)),(6305,.row 50 S50 t3.2)]) 6304 1129 rfl (by kernel_rfl) rfl rfl (by kernel_rfl) rfl (run_renF (ρ':=[(4,.ptr 5020 [] 0),(6,.ptr 5221 [] 0),(46,.v (.sl S66) x1),(47,vi ((length x1:Nat):Int)),(48,vi s2.1)]) (H':=[(1130,.row 50 S50 t3.2),(1129,.row 4 .bool t3.1.2.2.1),(1128,.row 78 S78 t3.1.2.1),(1064,.row 78 S78 []),(1065,.row 4 .bool []),(5020,.var 29 (.st (.prod (.int .i64) (.prod .ref (.prod .ref (.nl S93))))) (0,1064,1065,())),(5221,.var 98 O98 ((t3.1.1,1128,1129,t3.1.2.2.2),1130))]) 6305 1130 rfl (by kernel_rfl) rfl rfl (by kernel_rfl) rfl (eb (rg [(4,.ptr 5020 [] 0),(6,.ptr 5221 [] 0),(46,.v (.sl S66) x1),(47,vi ((length x1:Nat):Int)),(48,vi (wrap .i64 (s2.1+1)))] [(1064,.row 78 S78 []),(1065,.row 4 .bool []),(1128,.row 78 S78 t3.1.2.1),(1129,.row 4 .bool t3.1.2.2.1),(1130,.row 50 S50 t3.2),(5020,.var 29 (.st (.prod (.int .i64) (.prod .ref (.prod .ref (.nl S93))))) (0,1064,1065,())),(5221,.var 98 O98 ((t3.1.1,1128,1129,t3.1.2.2.2),1130))] [] [] 5222 rfl (by kernel_rfl) c0 ?_)))))
   exact ih2 _ (inj F1).symm
  ·replace F1:=ifn h5 F1
   refine run_exit rfl rfl (tm (ρ':=[(4,.ptr 5020 [] 0),(6,.ptr 5221 [] 0)]) (H':=[(1064,.row 78 S78 []),(1065,.row 4 .bool []),(1128,.row 78 S78 s2.2.2.1),(1129,.row 4 .bool s2.2.2.2.1),(1130,.row 50 S50 s2.2.2.2.2),(5020,.var 29 (.st (.prod (.int .i64) (.prod .ref (.prod .ref (.nl S93))))) (0,1064,1065,())),(5221,.var 98 O98 ((s2.2.1.1.1,1128,1129,s2.2.1.1.2.2.2),1130))]) (by kernel_rfl) (by kernel_rfl) rfl ?_)
   exact J2_0 _ (inrI hr2 F1).symm
 refine run_loop rfl (run_loopO hl1 (fun s1=>[(1,.v (.sl S66) x1),(4,.ptr 5020 [] 0),(6,.ptr 5221 [] 0),(23,.v (.sl S78) x0.2.1),(24,vi ((length x0.2.1:Nat):Int)),(25,vi s1.1)]) (fun s1=>[(1064,.row 78 S78 []),(1065,.row 4 .bool []),(1128,.row 78 S78 s1.2),(1129,.row 4 .bool t1),(1130,.row 50 S50 []),(5020,.var 29 (.st (.prod (.int .i64) (.prod .ref (.prod .ref (.nl S93))))) (0,1064,1065,())),(5221,.var 98 O98 ((x0.1,1128,1129,t2),1130))]) rfl rfl (fun s1 o1 F1 ih1 hr1=>?_))
 unfold F_cluster_Run_b1 at F1
 refine run_again (sq rfl (rg [(1,.v (.sl S66) x1),(4,.ptr 5020 [] 0),(6,.ptr 5221 [] 0),(23,.v (.sl S78) x0.2.1),(24,vi ((length x0.2.1:Nat):Int)),(25,vi s1.1),(26,vb (decide (s1.1<((length x0.2.1:Nat):Int))))] [(1064,.row 78 S78 []),(1065,.row 4 .bool []),(1128,.row 78 S78 s1.2),(1129,.row 4 .bool t1),(1130,.row 50 S50 []),(5020,.var 29 (.st (.prod (.int .i64) (.prod .ref (.prod .ref (.nl S93))))) (0,1064,1065,())),(5221,.var 98 O98 ((x0.1,1128,1129,t2),1130))] [] [] 5222 rfl (by kernel_rfl) c0 (sq rfl ?_)))
 refine run_if rfl rfl (fun h8=>?_) (fun h8=>?_)
 ·replace F1:=ift h8 F1
  refine sk rfl (sq rfl (bk rfl (sq rfl ?_)))
  obtain ⟨h9,F1⟩:=ifg F1
  refine rg [(1,.v (.sl S66) x1),(4,.ptr 5020 [] 0),(6,.ptr 5221 [] 0),(8,.ptr 5262 [] 0),(23,.v (.sl S78) x0.2.1),(24,vi ((length x0.2.1:Nat):Int)),(25,vi s1.1)] [(1064,.row 78 S78 []),(1065,.row 4 .bool []),(1128,.row 78 S78 s1.2),(1129,.row 4 .bool t1),(1130,.row 50 S50 []),(5020,.var 29 (.st (.prod (.int .i64) (.prod .ref (.prod .ref (.nl S93))))) (0,1064,1065,())),(5221,.var 98 O98 ((x0.1,1128,1129,t2),1130)),(5262,.var 78 S78 (getD x0.2.1 (toNat s1.1) S78.dflt))] [] [] 5222 rfl (by kernel_rfl) (cc h9 c0) (sq rfl ?_)
  obtain ⟨t4,h10,F1⟩:=obd F1
  refine rg [(1,.v (.sl S66) x1),(4,.ptr 5020 [] 0),(6,.ptr 5221 [] 0),(8,.ptr 5262 [] 0),(23,.v (.sl S78) x0.2.1),(24,vi ((length x0.2.1:Nat):Int)),(25,vi s1.1)] [(1064,.row 78 S78 []),(1065,.row 4 .bool []),(1128,.row 78 S78 s1.2),(1129,.row 4 .bool t1),(1130,.row 50 S50 []),(5020,.var 29 (.st (.prod (.int .i64) (.prod .ref (.prod .ref (.nl S93))))) (0,1064,1065,())),(5221,.var 98 O98 ((x0.1,1128,1129,t2),1130)),(5262,.var 78 S78 ((getD x0.2.1 (toNat s1.1) S78.dflt).1,(getD x0.2.1 (toNat s1.1) S78.dflt).2.1,(getD x0.2.1 (toNat s1.1) S78.dflt).2.2.1,(getD x0.2.1 (toNat s1.1) S78.dflt).2.2.2.1,(getD x0.2.1 (toNat s1.1) S78.dflt).2.2.2.2.1,(getD x0.2.1 (toNat s1.1) S78.dflt).2.2.2.2.2.1,(getD x0.2.1 (toNat s1.1) S78.dflt).2.2.2.2.2.2.1,t4,(getD x0.2.1 (toNat s1.1) S78.dflt).2.2.2.2.2.2.2.2))] [(2,⟨[.v (.sl S44)],.v (.sl S44) t4,none⟩)] [] 5263 rfl (by kernel_rfl) (cc (show Pure Tryz.prog 40 [.v (.sl S44) (getD x0.2.1 (toNat s1.1) S78.dflt).2.2.2.2.2.2.2.1] (.v (.sl S44) t4) from pure_of_mut rfl (W_slices_Clone_api_Kept_api_Kept h10)) c0) ?_
  obtain ⟨h11,F1⟩:=ifg F1
  refine rG [(1,.v (.sl S66) x1),(4,.ptr 5020 [] 0),(6,.ptr 5221 [] 0),(23,.v (.sl S78) x0.2.1),(24,vi ((length x0.2.1:Nat):Int)),(25,vi s1.1)] [(1064,.row 78 S78 []),(1065,.row 4 .bool []),(1129,.row 4 .bool t1),(1130,.row 50 S50 []),(5020,.var 29 (.st (.prod (.int .i64) (.prod .ref (.prod .ref (.nl S93))))) (0,1064,1065,())),(5221,.var 98 O98 ((x0.1,5423,1129,t2),1130)),(5423,.row 78 S78 (s1.2++[((getD x0.2.1 (toNat s1.1) S78.dflt).1,(getD x0.2.1 (toNat s1.1) S78.dflt).2.1,(getD x0.2.1 (toNat s1.1) S78.dflt).2.2.1,(getD x0.2.1 (toNat s1.1) S78.dflt).2.2.2.1,(getD x0.2.1 (toNat s1.1) S78.dflt).2.2.2.2.1,(getD x0.2.1 (toNat s1.1) S78.dflt).2.2.2.2.2.1,(getD x0.2.1 (toNat s1.1) S78.dflt).2.2.2.2.2.2.1,t4,(getD x0.2.1 (toNat s1.1) S78.dflt).2.2.2.2.2.2.2.2)]))] [] [] 5263 rfl rfl (by kernel_rfl) (cc h11.1 (cc h11.2 (cc (show (.row 1128:AVal)=(.row 1128) from rfl) c0))) (run_renF (ρ':=[(1,.v (.sl S66) x1),(4,.ptr 5020 [] 0),(6,.ptr 5221 [] 0),(23,.v (.sl S78) x0.2.1),(24,vi ((length x0.2.1:Nat):Int)),(25,vi s1.1)]) (H':=[(1128,.row 78 S78 (s1.2++[((getD x0.2.1 (toNat s1.1) S78.dflt).1,(getD x0.2.1 (toNat s1.1) S78.dflt).2.1,(getD x0.2.1 (toNat s1.1) S78.dflt).2.2.1,(getD x0.2.1 (toNat s1.1) S78.dflt).2.2.2.1,(getD x0.2.1 (toNat s1.1) S78.dflt).2.2.2.2.1,(getD x0.2.1 (toNat s1.1) S78.dflt).2.2.2.2.2.1,(getD x0.2.1 (toNat s1.1) S78.dflt).2.2.2.2.2.2.1,t4,(getD x0.2.1 (toNat s1.1) S78.dflt).2.2.2.2.2.2.2.2)])),(1064,.row 78 S78 []),(1065,.row 4 .bool []),(1129,.row 4 .bool t1),(1130,.row 50 S50 []),(5020,.var 29 (.st (.prod (.int .i64) (.prod .ref (.prod .ref (.nl S93))))) (0,1064,1065,())),(5221,.var 98 O98 ((x0.1,1128,1129,t2),1130))]) 5423 1128 rfl (by kernel_rfl) rfl rfl (by kernel_rfl) rfl (eb (rg [(1,.v (.sl S66) x1),(4,.ptr 5020 [] 0),(6,.ptr 5221 [] 0),(23,.v (.sl S78) x0.2.1),(24,vi ((length x0.2.1:Nat):Int)),(25,vi (wrap .i64 (s1.1+1)))] [(1064,.row 78 S78 []),(1065,.row 4 .bool []),(1128,.row 78 S78 (s1.2++[((getD x0.2.1 (toNat s1.1) S78.dflt).1,(getD x0.2.1 (toNat s1.1) S78.dflt).2.1,(getD x0.2.1 (toNat s1.1) S78.dflt).2.2.1,(getD x0.2.1 (toNat s1.1) S78.dflt).2.2.2.1,(getD x0.2.1 (toNat s1.1) S78.dflt).2.2.2.2.1,(getD x0.2.1 (toNat s1.1) S78.dflt).2.2.2.2.2.1,(getD x0.2.1 (toNat s1.1) S78.dflt).2.2.2.2.2.2.1,t4,(getD x0.2.1 (toNat s1.1) S78.dflt).2.2.2.2.2.2.2.2)])),(1129,.row 4 .bool t1),(1130,.row 50 S50 []),(5020,.var 29 (.st (.prod (.int .i64) (.prod .ref (.prod .ref (.nl S93))))) (0,1064,1065,())),(5221,.var 98 O98 ((x0.1,1128,1129,t2),1130))] [] [] 5222 rfl (by kernel_rfl) c0 ?_)))
  exact ih1 _ (inj F1).symm
 ·replace F1:=ifn h8 F1
  refine run_exit rfl rfl (tm (ρ':=[(1,.v (.sl S66) x1),(4,.ptr 5020 [] 0),(6,.ptr 5221 [] 0)]) (H':=[(1064,.row 78 S78 []),(1065,.row 4 .bool []),(1128,.row 78 S78 s1.2),(1129,.row 4 .bool t1),(1130,.row 50 S50 []),(5020,.var 29 (.st (.prod (.int .i64) (.prod .ref (.prod .ref (.nl S93))))) (0,1064,1065,())),(5221,.var 98 O98 ((x0.1,1128,1129,t2),1130))]) (by kernel_rfl) (by kernel_rfl) rfl ?_)
  exact J1_0 _ (inrI hr1 F1).symm
noncomputable def F_cluster_Step (x0:S29.ty) (x1:S66.ty):Option (S29.ty×(List S50.ty)) :=
 (F_cluster_Run x0 [x1]).bind fun t1=>(some (t1.1,t1.2))
theorem W_cluster_Step {x0:S29.ty} {x1:S66.ty} {y:(S29.ty×(List S50.ty))} (F0:F_cluster_Step x0 x1=some y):Pure Tryz.prog 20 [.v S29 x0,.v S66 x1] (.tup [.v S29 y.1,.v (.sl S50) y.2]):=by
 unfold F_cluster_Step at F0
 refine pure_of_run @Tryz.call20 @Tryz.func20 rfl rfl fun w M ho=>?_
 refine sq rfl (rg [(2,.ptr 5000 [] 0),(3,.ptr 5020 [] 0),(4,.ptr 5040 [] 0)] [(5000,.var 29 S29 x0),(5020,.var 66 S66 x1),(5040,.var 29 Z29 (0,(),(),()))] [] [] 5000 rfl (by kernel_rfl) c0 (run_nilF (H':=[(1064,.row 78 S78 []),(5000,.var 29 S29 x0),(5020,.var 66 S66 x1),(5040,.var 29 (.st (.prod (.int .i64) (.prod .ref (.prod (.nl .bool) (.nl S93))))) (0,1064,(),()))]) 5040 1064 [.u,.r,.l] 78 S78 rfl rfl rfl rfl rfl rfl (by kernel_rfl) rfl (run_nilF (H':=[(1065,.row 4 .bool []),(1064,.row 78 S78 []),(5000,.var 29 S29 x0),(5020,.var 66 S66 x1),(5040,.var 29 (.st (.prod (.int .i64) (.prod .ref (.prod .ref (.nl S93))))) (0,1064,1065,()))]) 5040 1065 [.u,.r,.r,.l] 4 .bool rfl rfl rfl rfl rfl rfl (by kernel_rfl) rfl (sq rfl ?_))))
 obtain ⟨t1,h1,F0⟩:=obd F0
 refine rg [(4,.ptr 5040 [] 0),(5,.v (.sl S50) t1.2)] [(5040,.var 29 S29 t1.1)] [(2,⟨[],.v (.sl S66) [x1],none⟩),(3,⟨[.v S29,.v (.sl S66)],.tup [.v S29 t1.1,.v (.sl S50) t1.2],none⟩)] [] 5041 rfl (by kernel_rfl) (cc (W_cluster_Run h1) c0) ?_
 obtain rfl:=inj F0
 exact ret_pure (q:=[.v S29 t1.1,.v (.sl S50) t1.2]) [S29,(.sl S50)] rfl rfl (by kernel_rfl)
end Go.Proofs.YtjcbamenfaoffaaGreatDoor
set_option maxRecDepth 100000
namespace Go.Proofs.YtjcbamenfaoffaaGreatDoor
open Go.RowKit
noncomputable def F_congresslaw15_fixed:Option Bool :=
 (F_cluster_Begin 1 3).bind fun t1=>((F_cluster_Begin 9 3).bind fun t2=>((F_cluster_Run t1.1 [(0,0,0,0,0,0,replicate 3 (replicate 2 (0,0,0,0,0,[]))),(0,0,0,0,0,0,replicate 3 (replicate 2 (0,0,0,0,0,[]))),(0,0,0,0,0,0,replicate 3 (replicate 2 (0,0,0,0,0,[])))]).bind fun t3=>((show Option Bool from if t1.2=true then if (!t2.2)=true then if (((length t3.1.2.1:Nat):Int)==1)=true then if (((length t3.2:Nat):Int)==3)=true then if 0≤(2:Int)∧(2:Int)<((length t3.2:Nat):Int) then (if ((getD t3.2 (toNat 2) S50.dflt).2.2.2.2.1.2.1==3)=true then if 0≤(2:Int)∧(2:Int)<((length t3.2:Nat):Int) then (some (!((getD t3.2 (toNat 2) S50.dflt).2.2.2.1))) else none else some false) else none else some false else some false else some false else some false).bind (fun r1=>some r1))))
theorem W_congresslaw15_fixed {y:Bool} (F0:F_congresslaw15_fixed=some y):Pure Tryz.prog 11 [] (vb y):=by
 unfold F_congresslaw15_fixed at F0
 refine pure_of_run @Tryz.call11 @Tryz.func11 rfl rfl fun w M ho=>?_
 refine sq rfl (rg [] [] [] [] 5000 rfl (by kernel_rfl) c0 (sq rfl ?_))
 obtain ⟨t1,h1,F0⟩:=obd F0
 refine rg [(1,.ptr 5080 [] 0),(2,vb t1.2)] [(5080,.var 29 S29 t1.1)] [(0,⟨[.v (.int .i64),.v (.int .i64)],.tup [.v S29 t1.1,vb t1.2],none⟩)] [] 5000 rfl (by kernel_rfl) (cc (W_cluster_Begin h1) c0) (sq rfl ?_)
 obtain ⟨t2,h2,F0⟩:=obd F0
 refine rg [(1,.ptr 5080 [] 0),(2,vb t1.2),(4,vb t2.2)] [(5080,.var 29 S29 t1.1)] [(0,⟨[.v (.int .i64),.v (.int .i64)],.tup [.v S29 t2.1,vb t2.2],none⟩)] [] 5081 rfl (by kernel_rfl) (cc (W_cluster_Begin h2) c0) (sq rfl ?_)
 obtain ⟨t3,h3,F0⟩:=obd F0
 refine rg [(1,.ptr 5080 [] 0),(2,vb t1.2),(4,vb t2.2),(5,.v (.sl S50) t3.2)] [(5080,.var 29 S29 t3.1)] [(4,⟨[],.v (.sl S66) [(0,0,0,0,0,0,replicate 3 (replicate 2 (0,0,0,0,0,[]))),(0,0,0,0,0,0,replicate 3 (replicate 2 (0,0,0,0,0,[]))),(0,0,0,0,0,0,replicate 3 (replicate 2 (0,0,0,0,0,[])))],none⟩),(5,⟨[.v S29,.v (.sl S66)],.tup [.v S29 t3.1,.v (.sl S50) t3.2],none⟩)] [] 5081 rfl (by kernel_rfl) (cc (W_cluster_Run h3) c0) (sq rfl ?_)
 obtain ⟨r1,F1,F0⟩:=obd F0
 refine run_cut (fun r1'=>r1=r1') (fun r1=>[(0,vb r1)]) (fun r1=>[]) (fun r1' h4=>?_) (fun J1_0=>?_)
 ·subst h4
  obtain rfl:=inj F0
  exact ret_pure (q:=[vb r1]) [.bool] rfl rfl (by kernel_rfl)
 rcases Bool.eq_false_or_eq_true t1.2 with h5|h5
 ·replace F1:=ift h5 F1
  rcases Bool.eq_false_or_eq_true (!t2.2) with h6|h6
  ·replace F1:=ift h6 F1
   rcases Bool.eq_false_or_eq_true (((length t3.1.2.1:Nat):Int)==1) with h7|h7
   ·replace F1:=ift h7 F1
    rcases Bool.eq_false_or_eq_true (((length t3.2:Nat):Int)==3) with h8|h8
    ·replace F1:=ift h8 F1
     obtain ⟨h9,F1⟩:=ifg F1
     rcases Bool.eq_false_or_eq_true ((getD t3.2 (toNat 2) S50.dflt).2.2.2.2.1.2.1==3) with h10|h10
     ·replace F1:=ift h10 F1
      obtain ⟨h11,F1⟩:=ifg F1
      refine rg [(0,vb (!((getD t3.2 (toNat 2) S50.dflt).2.2.2.1)))] [] [] [(1,true),(5,true),(11,true),(16,true),(25,true)] 5081 rfl (by kernel_rfl) (cc h5 (cc h6 (cc h7 (cc h8 (cc h9 (cc h10 (cc h11 c0))))))) ?_
      exact J1_0 _ (inj F1).symm
     ·replace F1:=ifn h10 F1
      refine rg [(0,vb false)] [] [] [(1,true),(5,true),(11,true),(16,true),(25,false)] 5081 rfl (by kernel_rfl) (cc h5 (cc h6 (cc h7 (cc h8 (cc h9 (cc h10 c0)))))) ?_
      exact J1_0 _ (inj F1).symm
    ·replace F1:=ifn h8 F1
     refine rg [(0,vb false)] [] [] [(1,true),(5,true),(11,true),(16,false)] 5081 rfl (by kernel_rfl) (cc h5 (cc h6 (cc h7 (cc h8 c0)))) ?_
     exact J1_0 _ (inj F1).symm
   ·replace F1:=ifn h7 F1
    refine rg [(0,vb false)] [] [] [(1,true),(5,true),(11,false)] 5081 rfl (by kernel_rfl) (cc h5 (cc h6 (cc h7 c0))) ?_
    exact J1_0 _ (inj F1).symm
  ·replace F1:=ifn h6 F1
   refine rg [(0,vb false)] [] [] [(1,true),(5,false)] 5081 rfl (by kernel_rfl) (cc h5 (cc h6 c0)) ?_
   exact J1_0 _ (inj F1).symm
 ·replace F1:=ifn h5 F1
  refine rg [(0,vb false)] [] [] [(1,false)] 5081 rfl (by kernel_rfl) (cc h5 c0) ?_
  exact J1_0 _ (inj F1).symm
abbrev S24:Sh:=(.st (.prod (.int .i64) (.prod (.int .i64) (.sl S66))))
end Go.Proofs.YtjcbamenfaoffaaGreatDoor
set_option maxRecDepth 100000
namespace Go.Proofs.YtjcbamenfaoffaaGreatDoor
open Go.RowKit
noncomputable def F_congressref10_Same_b1 (x0:(List S44.ty)) (x1:(List S44.ty)) (s1:Int):Option (Int⊕(Bool⊕Unit)) :=
 if (decide (s1<((length x0:Nat):Int)))=true then if 0≤s1∧s1<((length x0:Nat):Int) then (if 0≤s1∧s1<((length x1:Nat):Int) then (if (!(Sh.eqb S44 (getD x0 (toNat s1) S44.dflt) (getD x1 (toNat s1) S44.dflt)))=true then some (Sum.inr (Sum.inl false)) else some (Sum.inl (wrap .i64 (s1+1)))) else none) else none else some (Sum.inr (Sum.inr ()))
noncomputable def F_congressref10_Same (x0:(List S44.ty)) (x1:(List S44.ty)):Option Bool :=
 if (((length x0:Nat):Int) != ((length x1:Nat):Int))=true then some false else (loopO (F_congressref10_Same_b1 x0 x1) 0).bind (Sum.elim some (fun j11=>some true))
theorem W_congressref10_Same {x0:(List S44.ty)} {x1:(List S44.ty)} {y:Bool} (F0:F_congressref10_Same x0 x1=some y):Pure Tryz.prog 37 [.v (.sl S44) x0,.v (.sl S44) x1] (vb y):=by
 unfold F_congressref10_Same at F0
 refine pure_of_run @Tryz.call37 @Tryz.func37 rfl rfl fun w M ho=>?_
 refine sq rfl (rg [(0,.v (.sl S44) x0),(1,.v (.sl S44) x1)] [] [] [] 5000 rfl (by kernel_rfl) c0 (sq rfl (sq rfl (rg [(0,.v (.sl S44) x0),(1,.v (.sl S44) x1),(10,vb (((length x0:Nat):Int) != ((length x1:Nat):Int)))] [] [] [] 5000 rfl (by kernel_rfl) c0 ?_))))
 refine run_if rfl rfl (fun h1=>?_) (fun h1=>?_)
 ·replace F0:=ift h1 F0
  refine sq rfl (rg [(4,vb false)] [] [] [] 5000 rfl (by kernel_rfl) c0 ?_)
  obtain rfl:=inj F0
  exact ret_pure (q:=[vb false]) [.bool] rfl rfl (by kernel_rfl)
 ·replace F0:=ifn h1 F0
  refine sk rfl (sq rfl (sq rfl (rg [(0,.v (.sl S44) x0),(1,.v (.sl S44) x1),(5,vi 0)] [] [] [] 5000 rfl (by kernel_rfl) c0 (bk rfl ?_))))
  obtain ⟨r1,hl1,F0⟩:=obd F0
  refine run_cutx 0 rfl (fun j11=>r1=Sum.inr j11) (fun j11=>[]) (fun j11=>[]) (fun j11 h2=>?_) (fun J1_1=>?_)
  ·subst h2
   replace F0:=sumR F0
   refine sq rfl (rg [(4,vb true)] [] [] [] 5000 rfl (by kernel_rfl) c0 ?_)
   obtain rfl:=inj F0
   exact ret_pure (q:=[vb true]) [.bool] rfl rfl (by kernel_rfl)
  refine run_loop rfl (run_loopO hl1 (fun s1=>[(0,.v (.sl S44) x0),(1,.v (.sl S44) x1),(5,vi s1)]) (fun s1=>[]) rfl rfl (fun s1 o1 F1 ih1 hr1=>?_))
  unfold F_congressref10_Same_b1 at F1
  refine run_again (sq rfl (sq rfl (rg [(0,.v (.sl S44) x0),(1,.v (.sl S44) x1),(5,vi s1),(14,vb (decide (s1<((length x0:Nat):Int))))] [] [] [] 5000 rfl (by kernel_rfl) c0 ?_)))
  refine run_if rfl rfl (fun h3=>?_) (fun h3=>?_)
  ·replace F1:=ift h3 F1
   refine sk rfl (sq rfl (bk rfl (sq rfl ?_)))
   obtain ⟨h4,F1⟩:=ifg F1
   obtain ⟨h5,F1⟩:=ifg F1
   refine rG [(0,.v (.sl S44) x0),(1,.v (.sl S44) x1),(5,vi s1),(25,vb (!(Sh.eqb S44 (getD x0 (toNat s1) S44.dflt) (getD x1 (toNat s1) S44.dflt))))] [] [] [] 5000 rfl rfl (by kernel_rfl) (cc h4 (cc h5 c0)) ?_
   refine run_if rfl rfl (fun h6=>?_) (fun h6=>?_)
   ·replace F1:=ift h6 F1
    refine sq rfl (rg [(4,vb false)] [] [] [] 5000 rfl (by kernel_rfl) c0 ?_)
    have e1:=inrI hr1 F1
    subst e1
    replace F0:=sumL F0
    obtain rfl:=inj F0
    exact ret_pure (q:=[vb false]) [.bool] rfl rfl (by kernel_rfl)
   ·replace F1:=ifn h6 F1
    refine sk rfl (eb (rg [(0,.v (.sl S44) x0),(1,.v (.sl S44) x1),(5,vi (wrap .i64 (s1+1)))] [] [] [] 5000 rfl (by kernel_rfl) c0 ?_))
    exact ih1 _ (inj F1).symm
  ·replace F1:=ifn h3 F1
   refine run_exit rfl rfl (tm (ρ':=[]) (H':=[]) (by kernel_rfl) (by kernel_rfl) rfl ?_)
   exact J1_1 _ (inrI hr1 F1).symm
noncomputable def F_congressref13_Is (x0:S78.ty) (x1:S78.ty):Option Bool :=
 (show Option Bool from if (x0.1==x1.1)=true then if (x0.2.1==x1.2.1)=true then if (x0.2.2.1==x1.2.2.1)=true then if (Sh.eqb S72 x0.2.2.2.1 x1.2.2.2.1)=true then if (Sh.eqb S36 x0.2.2.2.2.1 x1.2.2.2.2.1)=true then if (Sh.eqb (.arr 8 (.int .u32)) x0.2.2.2.2.2.1 x1.2.2.2.2.2.1)=true then some (Sh.eqb (.arr 8 (.int .u32)) x0.2.2.2.2.2.2.1 x1.2.2.2.2.2.2.1) else some false else some false else some false else some false else some false else some false).bind (fun r1=>(show Option Bool from if (r1)=true then (F_congressref10_Same x0.2.2.2.2.2.2.2.1 x1.2.2.2.2.2.2.2.1).bind fun t1=>(if (t1)=true then if (Sh.eqb S36 x0.2.2.2.2.2.2.2.2.1 x1.2.2.2.2.2.2.2.2.1)=true then if (Sh.eqb (.arr 8 (.int .u32)) x0.2.2.2.2.2.2.2.2.2.1 x1.2.2.2.2.2.2.2.2.2.1)=true then if (Sh.eqb (.arr 8 (.int .u32)) x0.2.2.2.2.2.2.2.2.2.2.1 x1.2.2.2.2.2.2.2.2.2.2.1)=true then if (x0.2.2.2.2.2.2.2.2.2.2.2.1==x1.2.2.2.2.2.2.2.2.2.2.2.1)=true then if (Sh.eqb (.arr 8 S75) x0.2.2.2.2.2.2.2.2.2.2.2.2.1 x1.2.2.2.2.2.2.2.2.2.2.2.2.1)=true then some (x0.2.2.2.2.2.2.2.2.2.2.2.2.2==x1.2.2.2.2.2.2.2.2.2.2.2.2.2) else some false else some false else some false else some false else some false else some false) else some false).bind (fun r2=>some r2))
theorem W_congressref13_Is {x0:S78.ty} {x1:S78.ty} {y:Bool} (F0:F_congressref13_Is x0 x1=some y):Pure Tryz.prog 24 [.v S78 x0,.v S78 x1] (vb y):=by
 unfold F_congressref13_Is at F0
 refine pure_of_run @Tryz.call24 @Tryz.func24 rfl rfl fun w M ho=>?_
 refine sq rfl (rg [(2,.ptr 5000 [] 0),(3,.ptr 5020 [] 0)] [(5000,.var 78 S78 x0),(5020,.var 78 S78 x1)] [] [] 5000 rfl (by kernel_rfl) c0 (sq rfl ?_))
 obtain ⟨r1,F1,F0⟩:=obd F0
 refine run_cut (fun r1'=>r1=r1') (fun r1=>[(2,.ptr 5000 [] 0),(3,.ptr 5020 [] 0),(5,vb r1)]) (fun r1=>[(5000,.var 78 S78 x0),(5020,.var 78 S78 x1)]) (fun r1' h1=>?_) (fun J1_0=>?_)
 ·subst h1
  refine sq rfl ?_
  obtain ⟨r2,F1,F0⟩:=obd F0
  refine run_cut (fun r2'=>r2=r2') (fun r2=>[(4,vb r2)]) (fun r2=>[]) (fun r2' h2=>?_) (fun J2_0=>?_)
  ·subst h2
   obtain rfl:=inj F0
   exact ret_pure (q:=[vb r2]) [.bool] rfl rfl (by kernel_rfl)
  rcases Bool.eq_false_or_eq_true (r1) with h3|h3
  ·replace F1:=ift h3 F1
   obtain ⟨t1,h4,F1⟩:=obd F1
   rcases Bool.eq_false_or_eq_true (t1) with h5|h5
   ·replace F1:=ift h5 F1
    rcases Bool.eq_false_or_eq_true (Sh.eqb S36 x0.2.2.2.2.2.2.2.2.1 x1.2.2.2.2.2.2.2.2.1) with h6|h6
    ·replace F1:=ift h6 F1
     rcases Bool.eq_false_or_eq_true (Sh.eqb (.arr 8 (.int .u32)) x0.2.2.2.2.2.2.2.2.2.1 x1.2.2.2.2.2.2.2.2.2.1) with h7|h7
     ·replace F1:=ift h7 F1
      rcases Bool.eq_false_or_eq_true (Sh.eqb (.arr 8 (.int .u32)) x0.2.2.2.2.2.2.2.2.2.2.1 x1.2.2.2.2.2.2.2.2.2.2.1) with h8|h8
      ·replace F1:=ift h8 F1
       rcases Bool.eq_false_or_eq_true (x0.2.2.2.2.2.2.2.2.2.2.2.1==x1.2.2.2.2.2.2.2.2.2.2.2.1) with h9|h9
       ·replace F1:=ift h9 F1
        rcases Bool.eq_false_or_eq_true (Sh.eqb (.arr 8 S75) x0.2.2.2.2.2.2.2.2.2.2.2.2.1 x1.2.2.2.2.2.2.2.2.2.2.2.2.1) with h10|h10
        ·replace F1:=ift h10 F1
         refine rg [(4,vb (x0.2.2.2.2.2.2.2.2.2.2.2.2.2==x1.2.2.2.2.2.2.2.2.2.2.2.2.2))] [] [(6,⟨[.v (.sl S44),.v (.sl S44)],vb t1,none⟩)] [(1,true),(8,true),(15,true),(22,true),(29,true),(36,true),(43,true)] 5021 rfl (by kernel_rfl) (cc h3 (cc (W_congressref10_Same h4) (cc h5 (cc h6 (cc h7 (cc h8 (cc h9 (cc h10 c0)))))))) ?_
         exact J2_0 _ (inj F1).symm
        ·replace F1:=ifn h10 F1
         refine rg [(4,vb false)] [] [(6,⟨[.v (.sl S44),.v (.sl S44)],vb t1,none⟩)] [(1,true),(8,true),(15,true),(22,true),(29,true),(36,true),(43,false)] 5021 rfl (by kernel_rfl) (cc h3 (cc (W_congressref10_Same h4) (cc h5 (cc h6 (cc h7 (cc h8 (cc h9 (cc h10 c0)))))))) ?_
         exact J2_0 _ (inj F1).symm
       ·replace F1:=ifn h9 F1
        refine rg [(4,vb false)] [] [(6,⟨[.v (.sl S44),.v (.sl S44)],vb t1,none⟩)] [(1,true),(8,true),(15,true),(22,true),(29,true),(36,false)] 5021 rfl (by kernel_rfl) (cc h3 (cc (W_congressref10_Same h4) (cc h5 (cc h6 (cc h7 (cc h8 (cc h9 c0))))))) ?_
        exact J2_0 _ (inj F1).symm
      ·replace F1:=ifn h8 F1
       refine rg [(4,vb false)] [] [(6,⟨[.v (.sl S44),.v (.sl S44)],vb t1,none⟩)] [(1,true),(8,true),(15,true),(22,true),(29,false)] 5021 rfl (by kernel_rfl) (cc h3 (cc (W_congressref10_Same h4) (cc h5 (cc h6 (cc h7 (cc h8 c0)))))) ?_
       exact J2_0 _ (inj F1).symm
     ·replace F1:=ifn h7 F1
      refine rg [(4,vb false)] [] [(6,⟨[.v (.sl S44),.v (.sl S44)],vb t1,none⟩)] [(1,true),(8,true),(15,true),(22,false)] 5021 rfl (by kernel_rfl) (cc h3 (cc (W_congressref10_Same h4) (cc h5 (cc h6 (cc h7 c0))))) ?_
      exact J2_0 _ (inj F1).symm
    ·replace F1:=ifn h6 F1
     refine rg [(4,vb false)] [] [(6,⟨[.v (.sl S44),.v (.sl S44)],vb t1,none⟩)] [(1,true),(8,true),(15,false)] 5021 rfl (by kernel_rfl) (cc h3 (cc (W_congressref10_Same h4) (cc h5 (cc h6 c0)))) ?_
     exact J2_0 _ (inj F1).symm
   ·replace F1:=ifn h5 F1
    refine rg [(4,vb false)] [] [(6,⟨[.v (.sl S44),.v (.sl S44)],vb t1,none⟩)] [(1,true),(8,false)] 5021 rfl (by kernel_rfl) (cc h3 (cc (W_congressref10_Same h4) (cc h5 c0))) ?_
    exact J2_0 _ (inj F1).symm
  ·replace F1:=ifn h3 F1
   refine rg [(4,vb false)] [] [] [(1,false)] 5021 rfl (by kernel_rfl) (cc h3 c0) ?_
   exact J2_0 _ (inj F1).symm
 rcases Bool.eq_false_or_eq_true (x0.1==x1.1) with h11|h11
 ·replace F1:=ift h11 F1
  rcases Bool.eq_false_or_eq_true (x0.2.1==x1.2.1) with h12|h12
  ·replace F1:=ift h12 F1
   rcases Bool.eq_false_or_eq_true (x0.2.2.1==x1.2.2.1) with h13|h13
   ·replace F1:=ift h13 F1
    rcases Bool.eq_false_or_eq_true (Sh.eqb S72 x0.2.2.2.1 x1.2.2.2.1) with h14|h14
    ·replace F1:=ift h14 F1
     rcases Bool.eq_false_or_eq_true (Sh.eqb S36 x0.2.2.2.2.1 x1.2.2.2.2.1) with h15|h15
     ·replace F1:=ift h15 F1
      rcases Bool.eq_false_or_eq_true (Sh.eqb (.arr 8 (.int .u32)) x0.2.2.2.2.2.1 x1.2.2.2.2.2.1) with h16|h16
      ·replace F1:=ift h16 F1
       refine rg [(2,.ptr 5000 [] 0),(3,.ptr 5020 [] 0),(5,vb (Sh.eqb (.arr 8 (.int .u32)) x0.2.2.2.2.2.2.1 x1.2.2.2.2.2.2.1))] [(5000,.var 78 S78 x0),(5020,.var 78 S78 x1)] [] [(5,true),(12,true),(19,true),(26,true),(33,true),(40,true)] 5021 rfl (by kernel_rfl) (cc h11 (cc h12 (cc h13 (cc h14 (cc h15 (cc h16 c0)))))) ?_
       exact J1_0 _ (inj F1).symm
      ·replace F1:=ifn h16 F1
       refine rg [(2,.ptr 5000 [] 0),(3,.ptr 5020 [] 0),(5,vb false)] [(5000,.var 78 S78 x0),(5020,.var 78 S78 x1)] [] [(5,true),(12,true),(19,true),(26,true),(33,true),(40,false)] 5021 rfl (by kernel_rfl) (cc h11 (cc h12 (cc h13 (cc h14 (cc h15 (cc h16 c0)))))) ?_
       exact J1_0 _ (inj F1).symm
     ·replace F1:=ifn h15 F1
      refine rg [(2,.ptr 5000 [] 0),(3,.ptr 5020 [] 0),(5,vb false)] [(5000,.var 78 S78 x0),(5020,.var 78 S78 x1)] [] [(5,true),(12,true),(19,true),(26,true),(33,false)] 5021 rfl (by kernel_rfl) (cc h11 (cc h12 (cc h13 (cc h14 (cc h15 c0))))) ?_
      exact J1_0 _ (inj F1).symm
    ·replace F1:=ifn h14 F1
     refine rg [(2,.ptr 5000 [] 0),(3,.ptr 5020 [] 0),(5,vb false)] [(5000,.var 78 S78 x0),(5020,.var 78 S78 x1)] [] [(5,true),(12,true),(19,true),(26,false)] 5021 rfl (by kernel_rfl) (cc h11 (cc h12 (cc h13 (cc h14 c0)))) ?_
     exact J1_0 _ (inj F1).symm
   ·replace F1:=ifn h13 F1
    refine rg [(2,.ptr 5000 [] 0),(3,.ptr 5020 [] 0),(5,vb false)] [(5000,.var 78 S78 x0),(5020,.var 78 S78 x1)] [] [(5,true),(12,true),(19,false)] 5021 rfl (by kernel_rfl) (cc h11 (cc h12 (cc h13 c0))) ?_
    exact J1_0 _ (inj F1).symm
  ·replace F1:=ifn h12 F1
   refine rg [(2,.ptr 5000 [] 0),(3,.ptr 5020 [] 0),(5,vb false)] [(5000,.var 78 S78 x0),(5020,.var 78 S78 x1)] [] [(5,true),(12,false)] 5021 rfl (by kernel_rfl) (cc h11 (cc h12 c0)) ?_
   exact J1_0 _ (inj F1).symm
 ·replace F1:=ifn h11 F1
  refine rg [(2,.ptr 5000 [] 0),(3,.ptr 5020 [] 0),(5,vb false)] [(5000,.var 78 S78 x0),(5020,.var 78 S78 x1)] [] [(5,false)] 5021 rfl (by kernel_rfl) (cc h11 c0) ?_
  exact J1_0 _ (inj F1).symm
noncomputable def F_congressref13_Plain_b1 (x0:S78.ty) (s1:(Int×(List S44.ty))):Option ((Int×(List S44.ty))⊕(List S44.ty)) :=
 if (decide (s1.1<((length x0.2.2.2.2.2.2.2.1:Nat):Int)))=true then if 0≤s1.1∧s1.1<((length x0.2.2.2.2.2.2.2.1:Nat):Int) then (if 0≤s1.1∧s1.1<((length x0.2.2.2.2.2.2.2.1:Nat):Int) then (if apOk (length s1.2+1) 352 then (some (Sum.inl (wrap .i64 (s1.1+1),s1.2++[((getD x0.2.2.2.2.2.2.2.1 (toNat s1.1) S44.dflt).1,(getD x0.2.2.2.2.2.2.2.1 (toNat s1.1) S44.dflt).2.1,replicate 3 (replicate 2 (0,0,0,0,0,[])))]))) else none) else none) else none else some (Sum.inr s1.2)
noncomputable def F_congressref13_Plain (x0:S78.ty):Option S78.ty :=
 (loopO (F_congressref13_Plain_b1 x0) (0,[])).bind (fun r1=>some (x0.1,x0.2.1,x0.2.2.1,x0.2.2.2.1,x0.2.2.2.2.1,x0.2.2.2.2.2.1,x0.2.2.2.2.2.2.1,r1,x0.2.2.2.2.2.2.2.2))
theorem W_congressref13_Plain {x0:S78.ty} {y:S78.ty} (F0:F_congressref13_Plain x0=some y):Pure Tryz.prog 25 [.v S78 x0] (.v S78 y):=by
 unfold F_congressref13_Plain at F0
 refine pure_of_run @Tryz.call25 @Tryz.func25 rfl rfl fun w M ho=>?_
 refine sq rfl (rg [(1,.ptr 5000 [] 0),(2,.ptr 5020 [] 0)] [(5000,.var 78 S78 x0),(5020,.var 78 Z78 (0,0,0,(0,replicate 8 0,replicate 8 0),(0,0,0),replicate 8 0,replicate 8 0,(),(0,0,0),replicate 8 0,replicate 8 0,false,replicate 8 (0,(0,0,0),(0,0,0),replicate 8 0,false),0))] [] [] 5000 rfl (by kernel_rfl) c0 (sq rfl (rg [(1,.ptr 5000 [] 0),(2,.ptr 5020 [] 0),(3,.row 5021)] [(5000,.var 78 S78 x0),(5020,.var 78 Z78 (0,0,0,(0,replicate 8 0,replicate 8 0),(0,0,0),replicate 8 0,replicate 8 0,(),(0,0,0),replicate 8 0,replicate 8 0,false,replicate 8 (0,(0,0,0),(0,0,0),replicate 8 0,false),0)),(5021,.row 44 S44 [])] [] [] 5021 rfl (by kernel_rfl) c0 (sq rfl (sq rfl (rg [(1,.ptr 5000 [] 0),(2,.ptr 5020 [] 0),(3,.row 5021),(4,vi 0)] [(5000,.var 78 S78 x0),(5020,.var 78 Z78 (0,0,0,(0,replicate 8 0,replicate 8 0),(0,0,0),replicate 8 0,replicate 8 0,(),(0,0,0),replicate 8 0,replicate 8 0,false,replicate 8 (0,(0,0,0),(0,0,0),replicate 8 0,false),0)),(5021,.row 44 S44 [])] [] [] 5022 rfl (by kernel_rfl) c0 (bk rfl (run_ren (ρ':=[(1,.ptr 5000 [] 0),(2,.ptr 5020 [] 0),(3,.row 1103),(4,vi 0)]) (H':=[(1103,.row 44 S44 []),(5000,.var 78 S78 x0),(5020,.var 78 Z78 (0,0,0,(0,replicate 8 0,replicate 8 0),(0,0,0),replicate 8 0,replicate 8 0,(),(0,0,0),replicate 8 0,replicate 8 0,false,replicate 8 (0,(0,0,0),(0,0,0),replicate 8 0,false),0))]) 5021 1103 rfl (by kernel_rfl) rfl (by kernel_rfl) rfl ?_))))))))
 obtain ⟨r1,hl1,F0⟩:=obd F0
 refine run_cutx 0 rfl (fun r1'=>r1=r1') (fun r1=>[(1,.ptr 5000 [] 0),(2,.ptr 5020 [] 0),(3,.row 1103)]) (fun r1=>[(1103,.row 44 S44 r1),(5000,.var 78 S78 x0),(5020,.var 78 Z78 (0,0,0,(0,replicate 8 0,replicate 8 0),(0,0,0),replicate 8 0,replicate 8 0,(),(0,0,0),replicate 8 0,replicate 8 0,false,replicate 8 (0,(0,0,0),(0,0,0),replicate 8 0,false),0))]) (fun r1' h1=>?_) (fun J1_0=>?_)
 ·subst h1
  refine sq rfl (rg [(1,.ptr 5000 [] 0),(2,.ptr 5020 [] 0)] [(1103,.row 44 S44 r1),(5000,.var 78 (.st (.prod (.int .i64) (.prod (.int .i64) (.prod (.int .u32) (.prod S72 (.prod S36 (.prod (.arr 8 (.int .u32)) (.prod (.arr 8 (.int .u32)) (.prod .ref (.prod S36 (.prod (.arr 8 (.int .u32)) (.prod (.arr 8 (.int .u32)) (.prod .bool (.prod (.arr 8 S75) (.int .u32))))))))))))))) (x0.1,x0.2.1,x0.2.2.1,x0.2.2.2.1,x0.2.2.2.2.1,x0.2.2.2.2.2.1,x0.2.2.2.2.2.2.1,1103,x0.2.2.2.2.2.2.2.2)),(5020,.var 78 Z78 (0,0,0,(0,replicate 8 0,replicate 8 0),(0,0,0),replicate 8 0,replicate 8 0,(),(0,0,0),replicate 8 0,replicate 8 0,false,replicate 8 (0,(0,0,0),(0,0,0),replicate 8 0,false),0))] [] [] 5021 rfl (by kernel_rfl) c0 (sq rfl (rg [(2,.ptr 5020 [] 0)] [(1103,.row 44 S44 r1),(5020,.var 78 (.st (.prod (.int .i64) (.prod (.int .i64) (.prod (.int .u32) (.prod S72 (.prod S36 (.prod (.arr 8 (.int .u32)) (.prod (.arr 8 (.int .u32)) (.prod .ref (.prod S36 (.prod (.arr 8 (.int .u32)) (.prod (.arr 8 (.int .u32)) (.prod .bool (.prod (.arr 8 S75) (.int .u32))))))))))))))) (x0.1,x0.2.1,x0.2.2.1,x0.2.2.2.1,x0.2.2.2.2.1,x0.2.2.2.2.2.1,x0.2.2.2.2.2.2.1,1103,x0.2.2.2.2.2.2.2.2))] [] [] 5021 rfl (by kernel_rfl) c0 ?_)))
  obtain rfl:=inj F0
  refine run_frzC (ρ':=[(2,.ptr 5020 [] 0)]) (H':=[(5020,.var 78 S78 (x0.1,x0.2.1,x0.2.2.1,x0.2.2.2.1,x0.2.2.2.2.1,x0.2.2.2.2.2.1,x0.2.2.2.2.2.2.1,r1,x0.2.2.2.2.2.2.2.2))]) 1103 rfl rfl rfl (by kernel_rfl) (by kernel_rfl) ?_
  exact ret_pure (q:=[.v S78 (x0.1,x0.2.1,x0.2.2.1,x0.2.2.2.1,x0.2.2.2.2.1,x0.2.2.2.2.2.1,x0.2.2.2.2.2.2.1,r1,x0.2.2.2.2.2.2.2.2)]) [S78] rfl rfl (by kernel_rfl)
 refine run_loop rfl (run_loopO hl1 (fun s1=>[(1,.ptr 5000 [] 0),(2,.ptr 5020 [] 0),(3,.row 1103),(4,vi s1.1)]) (fun s1=>[(1103,.row 44 S44 s1.2),(5000,.var 78 S78 x0),(5020,.var 78 Z78 (0,0,0,(0,replicate 8 0,replicate 8 0),(0,0,0),replicate 8 0,replicate 8 0,(),(0,0,0),replicate 8 0,replicate 8 0,false,replicate 8 (0,(0,0,0),(0,0,0),replicate 8 0,false),0))]) rfl rfl (fun s1 o1 F1 ih1 hr1=>?_))
 unfold F_congressref13_Plain_b1 at F1
 refine run_again (sq rfl (sq rfl (rg [(1,.ptr 5000 [] 0),(2,.ptr 5020 [] 0),(3,.row 1103),(4,vi s1.1),(10,vb (decide (s1.1<((length x0.2.2.2.2.2.2.2.1:Nat):Int))))] [(1103,.row 44 S44 s1.2),(5000,.var 78 S78 x0),(5020,.var 78 Z78 (0,0,0,(0,replicate 8 0,replicate 8 0),(0,0,0),replicate 8 0,replicate 8 0,(),(0,0,0),replicate 8 0,replicate 8 0,false,replicate 8 (0,(0,0,0),(0,0,0),replicate 8 0,false),0))] [] [] 5021 rfl (by kernel_rfl) c0 ?_)))
 refine run_if rfl rfl (fun h2=>?_) (fun h2=>?_)
 ·replace F1:=ift h2 F1
  refine sk rfl (sq rfl (bk rfl ?_))
  obtain ⟨h3,F1⟩:=ifg F1
  obtain ⟨h4,F1⟩:=ifg F1
  obtain ⟨h5,F1⟩:=ifg F1
  refine rG [(1,.ptr 5000 [] 0),(2,.ptr 5020 [] 0),(3,.row 5321),(4,vi s1.1)] [(5000,.var 78 S78 x0),(5020,.var 78 Z78 (0,0,0,(0,replicate 8 0,replicate 8 0),(0,0,0),replicate 8 0,replicate 8 0,(),(0,0,0),replicate 8 0,replicate 8 0,false,replicate 8 (0,(0,0,0),(0,0,0),replicate 8 0,false),0)),(5321,.row 44 S44 (s1.2++[((getD x0.2.2.2.2.2.2.2.1 (toNat s1.1) S44.dflt).1,(getD x0.2.2.2.2.2.2.2.1 (toNat s1.1) S44.dflt).2.1,replicate 3 (replicate 2 (0,0,0,0,0,[])))]))] [] [] 5021 rfl rfl (by kernel_rfl) (cc h3 (cc h4 (cc h5.1 (cc h5.2 c0)))) (eb (rg [(1,.ptr 5000 [] 0),(2,.ptr 5020 [] 0),(3,.row 5321),(4,vi (wrap .i64 (s1.1+1)))] [(5000,.var 78 S78 x0),(5020,.var 78 Z78 (0,0,0,(0,replicate 8 0,replicate 8 0),(0,0,0),replicate 8 0,replicate 8 0,(),(0,0,0),replicate 8 0,replicate 8 0,false,replicate 8 (0,(0,0,0),(0,0,0),replicate 8 0,false),0)),(5321,.row 44 S44 (s1.2++[((getD x0.2.2.2.2.2.2.2.1 (toNat s1.1) S44.dflt).1,(getD x0.2.2.2.2.2.2.2.1 (toNat s1.1) S44.dflt).2.1,replicate 3 (replicate 2 (0,0,0,0,0,[])))]))] [] [] 5322 rfl (by kernel_rfl) c0 (run_ren (ρ':=[(1,.ptr 5000 [] 0),(2,.ptr 5020 [] 0),(3,.row 1103),(4,vi (wrap .i64 (s1.1+1)))]) (H':=[(1103,.row 44 S44 (s1.2++[((getD x0.2.2.2.2.2.2.2.1 (toNat s1.1) S44.dflt).1,(getD x0.2.2.2.2.2.2.2.1 (toNat s1.1) S44.dflt).2.1,replicate 3 (replicate 2 (0,0,0,0,0,[])))])),(5000,.var 78 S78 x0),(5020,.var 78 Z78 (0,0,0,(0,replicate 8 0,replicate 8 0),(0,0,0),replicate 8 0,replicate 8 0,(),(0,0,0),replicate 8 0,replicate 8 0,false,replicate 8 (0,(0,0,0),(0,0,0),replicate 8 0,false),0))]) 5321 1103 rfl (by kernel_rfl) rfl (by kernel_rfl) rfl ?_)))
  exact ih1 _ (inj F1).symm
 ·replace F1:=ifn h2 F1
  refine run_exit rfl rfl (tm (ρ':=[(1,.ptr 5000 [] 0),(2,.ptr 5020 [] 0),(3,.row 1103)]) (H':=[(1103,.row 44 S44 s1.2),(5000,.var 78 S78 x0),(5020,.var 78 Z78 (0,0,0,(0,replicate 8 0,replicate 8 0),(0,0,0),replicate 8 0,replicate 8 0,(),(0,0,0),replicate 8 0,replicate 8 0,false,replicate 8 (0,(0,0,0),(0,0,0),replicate 8 0,false),0))]) (by kernel_rfl) (by kernel_rfl) rfl ?_)
  exact J1_0 _ (inrI hr1 F1).symm
noncomputable def F_congressref15_Same_b1 (x0:(List S50.ty)) (x1:(List S50.ty)) (s1:Int):Option (Int⊕(Bool⊕Unit)) :=
 if (decide (s1<((length x0:Nat):Int)))=true then if 0≤s1∧s1<((length x0:Nat):Int) then (if 0≤s1∧s1<((length x1:Nat):Int) then (if (!(Sh.eqb S50 (getD x0 (toNat s1) S50.dflt) (getD x1 (toNat s1) S50.dflt)))=true then some (Sum.inr (Sum.inl false)) else some (Sum.inl (wrap .i64 (s1+1)))) else none) else none else some (Sum.inr (Sum.inr ()))
noncomputable def F_congressref15_Same (x0:(List S50.ty)) (x1:(List S50.ty)):Option Bool :=
 if (((length x0:Nat):Int) != ((length x1:Nat):Int))=true then some false else (loopO (F_congressref15_Same_b1 x0 x1) 0).bind (Sum.elim some (fun j11=>some true))
theorem W_congressref15_Same {x0:(List S50.ty)} {x1:(List S50.ty)} {y:Bool} (F0:F_congressref15_Same x0 x1=some y):Pure Tryz.prog 22 [.v (.sl S50) x0,.v (.sl S50) x1] (vb y):=by
 unfold F_congressref15_Same at F0
 refine pure_of_run @Tryz.call22 @Tryz.func22 rfl rfl fun w M ho=>?_
 refine sq rfl (rg [(0,.v (.sl S50) x0),(1,.v (.sl S50) x1)] [] [] [] 5000 rfl (by kernel_rfl) c0 (sq rfl (sq rfl (rg [(0,.v (.sl S50) x0),(1,.v (.sl S50) x1),(10,vb (((length x0:Nat):Int) != ((length x1:Nat):Int)))] [] [] [] 5000 rfl (by kernel_rfl) c0 ?_))))
 refine run_if rfl rfl (fun h1=>?_) (fun h1=>?_)
 ·replace F0:=ift h1 F0
  refine sq rfl (rg [(4,vb false)] [] [] [] 5000 rfl (by kernel_rfl) c0 ?_)
  obtain rfl:=inj F0
  exact ret_pure (q:=[vb false]) [.bool] rfl rfl (by kernel_rfl)
 ·replace F0:=ifn h1 F0
  refine sk rfl (sq rfl (sq rfl (rg [(0,.v (.sl S50) x0),(1,.v (.sl S50) x1),(5,vi 0)] [] [] [] 5000 rfl (by kernel_rfl) c0 (bk rfl ?_))))
  obtain ⟨r1,hl1,F0⟩:=obd F0
  refine run_cutx 0 rfl (fun j11=>r1=Sum.inr j11) (fun j11=>[]) (fun j11=>[]) (fun j11 h2=>?_) (fun J1_1=>?_)
  ·subst h2
   replace F0:=sumR F0
   refine sq rfl (rg [(4,vb true)] [] [] [] 5000 rfl (by kernel_rfl) c0 ?_)
   obtain rfl:=inj F0
   exact ret_pure (q:=[vb true]) [.bool] rfl rfl (by kernel_rfl)
  refine run_loop rfl (run_loopO hl1 (fun s1=>[(0,.v (.sl S50) x0),(1,.v (.sl S50) x1),(5,vi s1)]) (fun s1=>[]) rfl rfl (fun s1 o1 F1 ih1 hr1=>?_))
  unfold F_congressref15_Same_b1 at F1
  refine run_again (sq rfl (sq rfl (rg [(0,.v (.sl S50) x0),(1,.v (.sl S50) x1),(5,vi s1),(14,vb (decide (s1<((length x0:Nat):Int))))] [] [] [] 5000 rfl (by kernel_rfl) c0 ?_)))
  refine run_if rfl rfl (fun h3=>?_) (fun h3=>?_)
  ·replace F1:=ift h3 F1
   refine sk rfl (sq rfl (bk rfl (sq rfl ?_)))
   obtain ⟨h4,F1⟩:=ifg F1
   obtain ⟨h5,F1⟩:=ifg F1
   refine rG [(0,.v (.sl S50) x0),(1,.v (.sl S50) x1),(5,vi s1),(25,vb (!(Sh.eqb S50 (getD x0 (toNat s1) S50.dflt) (getD x1 (toNat s1) S50.dflt))))] [] [] [] 5000 rfl rfl (by kernel_rfl) (cc h4 (cc h5 c0)) ?_
   refine run_if rfl rfl (fun h6=>?_) (fun h6=>?_)
   ·replace F1:=ift h6 F1
    refine sq rfl (rg [(4,vb false)] [] [] [] 5000 rfl (by kernel_rfl) c0 ?_)
    have e1:=inrI hr1 F1
    subst e1
    replace F0:=sumL F0
    obtain rfl:=inj F0
    exact ret_pure (q:=[vb false]) [.bool] rfl rfl (by kernel_rfl)
   ·replace F1:=ifn h6 F1
    refine sk rfl (eb (rg [(0,.v (.sl S50) x0),(1,.v (.sl S50) x1),(5,vi (wrap .i64 (s1+1)))] [] [] [] 5000 rfl (by kernel_rfl) c0 ?_))
    exact ih1 _ (inj F1).symm
  ·replace F1:=ifn h3 F1
   refine run_exit rfl rfl (tm (ρ':=[]) (H':=[]) (by kernel_rfl) (by kernel_rfl) rfl ?_)
   exact J1_1 _ (inrI hr1 F1).symm
noncomputable def F_congressref15_Blank_b1 (x0:(List S50.ty)) (s1:(Int×(List S50.ty))):Option ((Int×(List S50.ty))⊕(List S50.ty)) :=
 if (decide (s1.1<((length x0:Nat):Int)))=true then if 0≤s1.1∧s1.1<((length x0:Nat):Int) then (if apOk (length s1.2+1) 432 then (some (Sum.inl (wrap .i64 (s1.1+1),s1.2++[((getD x0 (toNat s1.1) S50.dflt).1,(getD x0 (toNat s1.1) S50.dflt).2.1,(getD x0 (toNat s1.1) S50.dflt).2.2.1,(getD x0 (toNat s1.1) S50.dflt).2.2.2.1,((getD x0 (toNat s1.1) S50.dflt).2.2.2.2.1.1,(getD x0 (toNat s1.1) S50.dflt).2.2.2.2.1.2.1,replicate 3 (replicate 2 (0,0,0,0,0,[]))),(getD x0 (toNat s1.1) S50.dflt).2.2.2.2.2)]))) else none) else none else some (Sum.inr s1.2)
noncomputable def F_congressref15_Blank (x0:(List S50.ty)):Option (List S50.ty) :=
 (loopO (F_congressref15_Blank_b1 x0) (0,[])).bind (fun r1=>some r1)
theorem W_congressref15_Blank {x0:(List S50.ty)} {y:(List S50.ty)} (F0:F_congressref15_Blank x0=some y):Pure Tryz.prog 23 [.v (.sl S50) x0] (.v (.sl S50) y):=by
 unfold F_congressref15_Blank at F0
 refine pure_of_run @Tryz.call23 @Tryz.func23 rfl rfl fun w M ho=>?_
 refine sq rfl (rg [(0,.v (.sl S50) x0)] [] [] [] 5000 rfl (by kernel_rfl) c0 (sq rfl (rg [(0,.v (.sl S50) x0),(3,.row 5000)] [(5000,.row 50 S50 [])] [] [] 5000 rfl (by kernel_rfl) c0 (sq rfl (sq rfl (rg [(0,.v (.sl S50) x0),(3,.row 5000),(4,vi 0)] [(5000,.row 50 S50 [])] [] [] 5001 rfl (by kernel_rfl) c0 (bk rfl (run_ren (ρ':=[(0,.v (.sl S50) x0),(3,.row 1103),(4,vi 0)]) (H':=[(1103,.row 50 S50 [])]) 5000 1103 rfl (by kernel_rfl) rfl (by kernel_rfl) rfl ?_))))))))
 obtain ⟨r1,hl1,F0⟩:=obd F0
 refine run_cutx 0 rfl (fun r1'=>r1=r1') (fun r1=>[(3,.row 1103)]) (fun r1=>[(1103,.row 50 S50 r1)]) (fun r1' h1=>?_) (fun J1_0=>?_)
 ·subst h1
  refine sq rfl (rg [(2,.row 1103)] [(1103,.row 50 S50 r1)] [] [] 5000 rfl (by kernel_rfl) c0 ?_)
  obtain rfl:=inj F0
  refine run_frz (ρ':=[(2,.v (.sl S50) r1)]) (H':=[]) 1103 rfl rfl rfl (by kernel_rfl) (by kernel_rfl) ?_
  exact ret_pure (q:=[.v (.sl S50) r1]) [(.sl S50)] rfl rfl (by kernel_rfl)
 refine run_loop rfl (run_loopO hl1 (fun s1=>[(0,.v (.sl S50) x0),(3,.row 1103),(4,vi s1.1)]) (fun s1=>[(1103,.row 50 S50 s1.2)]) rfl rfl (fun s1 o1 F1 ih1 hr1=>?_))
 unfold F_congressref15_Blank_b1 at F1
 refine run_again (sq rfl (sq rfl (rg [(0,.v (.sl S50) x0),(3,.row 1103),(4,vi s1.1),(10,vb (decide (s1.1<((length x0:Nat):Int))))] [(1103,.row 50 S50 s1.2)] [] [] 5000 rfl (by kernel_rfl) c0 ?_)))
 refine run_if rfl rfl (fun h2=>?_) (fun h2=>?_)
 ·replace F1:=ift h2 F1
  refine sk rfl (sq rfl (bk rfl (sq rfl ?_)))
  obtain ⟨h3,F1⟩:=ifg F1
  refine rg [(0,.v (.sl S50) x0),(3,.row 1103),(4,vi s1.1),(5,.ptr 5080 [] 0)] [(1103,.row 50 S50 s1.2),(5080,.var 50 S50 (getD x0 (toNat s1.1) S50.dflt))] [] [] 5000 rfl (by kernel_rfl) (cc h3 c0) (sq rfl (rg [(0,.v (.sl S50) x0),(3,.row 1103),(4,vi s1.1),(5,.ptr 5080 [] 0)] [(1103,.row 50 S50 s1.2),(5080,.var 50 S50 ((getD x0 (toNat s1.1) S50.dflt).1,(getD x0 (toNat s1.1) S50.dflt).2.1,(getD x0 (toNat s1.1) S50.dflt).2.2.1,(getD x0 (toNat s1.1) S50.dflt).2.2.2.1,((getD x0 (toNat s1.1) S50.dflt).2.2.2.2.1.1,(getD x0 (toNat s1.1) S50.dflt).2.2.2.2.1.2.1,replicate 3 (replicate 2 (0,0,0,0,0,[]))),(getD x0 (toNat s1.1) S50.dflt).2.2.2.2.2))] [] [] 5081 rfl (by kernel_rfl) c0 ?_))
  obtain ⟨h4,F1⟩:=ifg F1
  refine rg [(0,.v (.sl S50) x0),(3,.row 5141),(4,vi s1.1)] [(5141,.row 50 S50 (s1.2++[((getD x0 (toNat s1.1) S50.dflt).1,(getD x0 (toNat s1.1) S50.dflt).2.1,(getD x0 (toNat s1.1) S50.dflt).2.2.1,(getD x0 (toNat s1.1) S50.dflt).2.2.2.1,((getD x0 (toNat s1.1) S50.dflt).2.2.2.2.1.1,(getD x0 (toNat s1.1) S50.dflt).2.2.2.2.1.2.1,replicate 3 (replicate 2 (0,0,0,0,0,[]))),(getD x0 (toNat s1.1) S50.dflt).2.2.2.2.2)]))] [] [] 5081 rfl (by kernel_rfl) (cc h4.1 (cc h4.2 c0)) (eb (rg [(0,.v (.sl S50) x0),(3,.row 5141),(4,vi (wrap .i64 (s1.1+1)))] [(5141,.row 50 S50 (s1.2++[((getD x0 (toNat s1.1) S50.dflt).1,(getD x0 (toNat s1.1) S50.dflt).2.1,(getD x0 (toNat s1.1) S50.dflt).2.2.1,(getD x0 (toNat s1.1) S50.dflt).2.2.2.1,((getD x0 (toNat s1.1) S50.dflt).2.2.2.2.1.1,(getD x0 (toNat s1.1) S50.dflt).2.2.2.2.1.2.1,replicate 3 (replicate 2 (0,0,0,0,0,[]))),(getD x0 (toNat s1.1) S50.dflt).2.2.2.2.2)]))] [] [] 5142 rfl (by kernel_rfl) c0 (run_ren (ρ':=[(0,.v (.sl S50) x0),(3,.row 1103),(4,vi (wrap .i64 (s1.1+1)))]) (H':=[(1103,.row 50 S50 (s1.2++[((getD x0 (toNat s1.1) S50.dflt).1,(getD x0 (toNat s1.1) S50.dflt).2.1,(getD x0 (toNat s1.1) S50.dflt).2.2.1,(getD x0 (toNat s1.1) S50.dflt).2.2.2.1,((getD x0 (toNat s1.1) S50.dflt).2.2.2.2.1.1,(getD x0 (toNat s1.1) S50.dflt).2.2.2.2.1.2.1,replicate 3 (replicate 2 (0,0,0,0,0,[]))),(getD x0 (toNat s1.1) S50.dflt).2.2.2.2.2)]))]) 5141 1103 rfl (by kernel_rfl) rfl (by kernel_rfl) rfl ?_)))
  exact ih1 _ (inj F1).symm
 ·replace F1:=ifn h2 F1
  refine run_exit rfl rfl (tm (ρ':=[(3,.row 1103)]) (H':=[(1103,.row 50 S50 s1.2)]) (by kernel_rfl) (by kernel_rfl) rfl ?_)
  exact J1_0 _ (inrI hr1 F1).symm
noncomputable def F_congresslaw15_ClusterBlind_b6 (t4:(S29.ty×(List S50.ty))) (t5:(S29.ty×(List S50.ty))) (s6:Int):Option (Int⊕(Bool⊕Unit)) :=
 if (decide (s6<((length t4.1.2.1:Nat):Int)))=true then if 0≤s6∧s6<((length t4.1.2.1:Nat):Int) then (F_congressref13_Plain (getD t4.1.2.1 (toNat s6) S78.dflt)).bind fun t6=>(if 0≤s6∧s6<((length t5.1.2.1:Nat):Int) then (F_congressref13_Plain (getD t5.1.2.1 (toNat s6) S78.dflt)).bind fun t7=>((F_congressref13_Is t6 t7).bind fun t8=>(if (!t8)=true then some (Sum.inr (Sum.inl false)) else some (Sum.inl (wrap .i64 (s6+1))))) else none) else none else some (Sum.inr (Sum.inr ()))
noncomputable def F_congresslaw15_ClusterBlind_b2 (x0:S24.ty) (x1:(List (List (List S39.ty)))) (s2:(Int×S29.ty×S29.ty)):Option ((Int×S29.ty×S29.ty)⊕(Bool⊕Unit)) :=
 (show Option Bool from if (decide (s2.1<((length x0.2.2:Nat):Int)))=true then some (decide (s2.1<100)) else some false).bind (fun r3=>if (r3)=true then if 0≤s2.1∧s2.1<((length x0.2.2:Nat):Int) then (F_cluster_Step s2.2.1 (getD x0.2.2 (toNat s2.1) S66.dflt)).bind fun t4=>((show Option S66.ty from if (decide (s2.1<((length x1:Nat):Int)))=true then if 0≤s2.1∧s2.1<((length x1:Nat):Int) then (some ((getD x0.2.2 (toNat s2.1) S66.dflt).1,(getD x0.2.2 (toNat s2.1) S66.dflt).2.1,(getD x0.2.2 (toNat s2.1) S66.dflt).2.2.1,(getD x0.2.2 (toNat s2.1) S66.dflt).2.2.2.1,(getD x0.2.2 (toNat s2.1) S66.dflt).2.2.2.2.1,(getD x0.2.2 (toNat s2.1) S66.dflt).2.2.2.2.2.1,getD x1 (toNat s2.1) (replicate 3 (replicate 2 (0,0,0,0,0,[]))))) else none else some ((getD x0.2.2 (toNat s2.1) S66.dflt).1,(getD x0.2.2 (toNat s2.1) S66.dflt).2.1,(getD x0.2.2 (toNat s2.1) S66.dflt).2.2.1,(getD x0.2.2 (toNat s2.1) S66.dflt).2.2.2.1,(getD x0.2.2 (toNat s2.1) S66.dflt).2.2.2.2.1,(getD x0.2.2 (toNat s2.1) S66.dflt).2.2.2.2.2.1,replicate 3 (replicate 2 (0,0,0,0,0,[])))).bind (fun r4=>(F_cluster_Step s2.2.2 r4).bind fun t5=>((show Option Bool from (F_congressref15_Blank t4.2).bind fun t9=>((F_congressref15_Blank t5.2).bind fun t10=>((F_congressref15_Same t9 t10).bind fun t11=>(if (!t11)=true then some true else if (((length t4.1.2.2.2:Nat):Int) != ((length t5.1.2.2.2:Nat):Int))=true then some true else some (((length t4.1.2.1:Nat):Int) != ((length t5.1.2.1:Nat):Int)))))).bind (fun r5=>if (r5)=true then some (Sum.inr (Sum.inl false)) else (loopO (F_congresslaw15_ClusterBlind_b6 t4 t5) 0).bind (Sum.elim (fun y6=>some (Sum.inr (Sum.inl y6))) (fun j61=>some (Sum.inl (wrap .i64 (s2.1+1),t4.1,t5.1)))))))) else none else some (Sum.inr (Sum.inr ())))
noncomputable def F_congresslaw15_ClusterBlind (x0:S24.ty) (x1:(List (List (List S39.ty)))):Option Bool :=
 (F_cluster_Begin x0.1 x0.2.1).bind fun t1=>((F_cluster_Begin x0.1 x0.2.1).bind fun t2=>((show Option Bool from (F_congresslaw15_fixed ).bind fun t12=>(if (!t12)=true then some true else some (!t1.2))).bind (fun r1=>if (r1)=true then (F_congresslaw15_fixed ).bind fun t3=>(some t3) else (loopO (F_congresslaw15_ClusterBlind_b2 x0 x1) (0,t1.1,t2.1)).bind (Sum.elim some (fun j21=>some true)))))
theorem W_congresslaw15_ClusterBlind {x0:S24.ty} {x1:(List (List (List S39.ty)))} {y:Bool} (F0:F_congresslaw15_ClusterBlind x0 x1=some y):Pure Tryz.prog 8 [.v S24 x0,.v (.sl (.arr 3 (.arr 2 S39))) x1] (vb y):=by
 unfold F_congresslaw15_ClusterBlind at F0
 refine pure_of_run @Tryz.call8 @Tryz.func8 rfl rfl fun w M ho=>?_
 refine sq rfl (rg [(1,.v (.sl (.arr 3 (.arr 2 S39))) x1),(2,.ptr 5000 [] 0)] [(5000,.var 24 S24 x0)] [] [] 5000 rfl (by kernel_rfl) c0 (sq rfl ?_))
 obtain ⟨t1,h1,F0⟩:=obd F0
 refine rg [(1,.v (.sl (.arr 3 (.arr 2 S39))) x1),(2,.ptr 5000 [] 0),(5,.ptr 5161 [] 0),(6,vb t1.2)] [(5000,.var 24 S24 x0),(5161,.var 29 S29 t1.1)] [(4,⟨[.v (.int .i64),.v (.int .i64)],.tup [.v S29 t1.1,vb t1.2],none⟩)] [] 5001 rfl (by kernel_rfl) (cc (W_cluster_Begin h1) c0) (sq rfl ?_)
 obtain ⟨t2,h2,F0⟩:=obd F0
 refine rg [(1,.v (.sl (.arr 3 (.arr 2 S39))) x1),(2,.ptr 5000 [] 0),(5,.ptr 5161 [] 0),(6,vb t1.2),(7,.ptr 5322 [] 0)] [(5000,.var 24 S24 x0),(5161,.var 29 S29 t1.1),(5322,.var 29 S29 t2.1)] [(4,⟨[.v (.int .i64),.v (.int .i64)],.tup [.v S29 t2.1,vb t2.2],none⟩)] [] 5162 rfl (by kernel_rfl) (cc (W_cluster_Begin h2) c0) (sq rfl (sq rfl ?_))
 obtain ⟨r1,F1,F0⟩:=obd F0
 refine run_cut (fun r1'=>r1=r1') (fun r1=>[(1,.v (.sl (.arr 3 (.arr 2 S39))) x1),(2,.ptr 5000 [] 0),(5,.ptr 5161 [] 0),(7,.ptr 5322 [] 0),(37,vb r1)]) (fun r1=>[(5000,.var 24 S24 x0),(5161,.var 29 S29 t1.1),(5322,.var 29 S29 t2.1)]) (fun r1' h3=>?_) (fun J1_0=>?_)
 ·subst h3
  refine run_if rfl rfl (fun h4=>?_) (fun h4=>?_)
  ·replace F0:=ift h4 F0
   refine sq rfl ?_
   obtain ⟨t3,h5,F0⟩:=obd F0
   refine rg [(4,vb t3)] [] [(0,⟨[],vb t3,none⟩)] [] 5323 rfl (by kernel_rfl) (cc (W_congresslaw15_fixed h5) c0) ?_
   obtain rfl:=inj F0
   exact ret_pure (q:=[vb t3]) [.bool] rfl rfl (by kernel_rfl)
  ·replace F0:=ifn h4 F0
   refine sk rfl (sq rfl (sq rfl (rg [(1,.v (.sl (.arr 3 (.arr 2 S39))) x1),(2,.ptr 5000 [] 0),(5,.ptr 5161 [] 0),(7,.ptr 5322 [] 0),(9,vi 0)] [(5000,.var 24 S24 x0),(5161,.var 29 S29 t1.1),(5322,.var 29 S29 t2.1)] [] [] 5323 rfl (by kernel_rfl) c0 (bk rfl ?_))))
   obtain ⟨r2,hl2,F0⟩:=obd F0
   refine run_cutx 0 rfl (fun j21=>r2=Sum.inr j21) (fun j21=>[]) (fun j21=>[]) (fun j21 h6=>?_) (fun J2_1=>?_)
   ·subst h6
    replace F0:=sumR F0
    refine sq rfl (rg [(4,vb true)] [] [] [] 5000 rfl (by kernel_rfl) c0 ?_)
    obtain rfl:=inj F0
    exact ret_pure (q:=[vb true]) [.bool] rfl rfl (by kernel_rfl)
   refine run_loop rfl (run_loopO hl2 (fun s2=>[(1,.v (.sl (.arr 3 (.arr 2 S39))) x1),(2,.ptr 5000 [] 0),(5,.ptr 5161 [] 0),(7,.ptr 5322 [] 0),(9,vi s2.1)]) (fun s2=>[(5000,.var 24 S24 x0),(5161,.var 29 S29 s2.2.1),(5322,.var 29 S29 s2.2.2)]) rfl rfl (fun s2 o2 F1 ih2 hr2=>?_))
   unfold F_congresslaw15_ClusterBlind_b2 at F1
   refine run_again (sq rfl (sq rfl ?_))
   obtain ⟨r3,F2,F1⟩:=obd F1
   refine run_cut (fun r3'=>r3=r3') (fun r3=>[(1,.v (.sl (.arr 3 (.arr 2 S39))) x1),(2,.ptr 5000 [] 0),(5,.ptr 5161 [] 0),(7,.ptr 5322 [] 0),(9,vi s2.1),(47,vb r3)]) (fun r3=>[(5000,.var 24 S24 x0),(5161,.var 29 S29 s2.2.1),(5322,.var 29 S29 s2.2.2)]) (fun r3' h7=>?_) (fun J3_0=>?_)
   ·subst h7
    refine run_if rfl rfl (fun h8=>?_) (fun h8=>?_)
    ·replace F1:=ift h8 F1
     refine sk rfl (sq rfl (bk rfl (sq rfl ?_)))
     obtain ⟨h9,F1⟩:=ifg F1
     refine rg [(1,.v (.sl (.arr 3 (.arr 2 S39))) x1),(2,.ptr 5000 [] 0),(5,.ptr 5161 [] 0),(7,.ptr 5322 [] 0),(9,vi s2.1),(10,.ptr 5423 [] 0)] [(5000,.var 24 S24 x0),(5161,.var 29 S29 s2.2.1),(5322,.var 29 S29 s2.2.2),(5423,.var 66 S66 (getD x0.2.2 (toNat s2.1) S66.dflt))] [] [] 5323 rfl (by kernel_rfl) (cc h9 c0) (sq rfl ?_)
     obtain ⟨t4,h10,F1⟩:=obd F1
     refine rg [(1,.v (.sl (.arr 3 (.arr 2 S39))) x1),(2,.ptr 5000 [] 0),(5,.ptr 5161 [] 0),(7,.ptr 5322 [] 0),(9,vi s2.1),(10,.ptr 5423 [] 0),(11,.ptr 5544 [] 0),(12,.v (.sl S50) t4.2)] [(5000,.var 24 S24 x0),(5161,.var 29 S29 s2.2.1),(5322,.var 29 S29 s2.2.2),(5423,.var 66 S66 (getD x0.2.2 (toNat s2.1) S66.dflt)),(5544,.var 29 S29 t4.1)] [(2,⟨[.v S29,.v S66],.tup [.v S29 t4.1,.v (.sl S50) t4.2],none⟩)] [] 5424 rfl (by kernel_rfl) (cc (W_cluster_Step h10) c0) (sq rfl (rg [(1,.v (.sl (.arr 3 (.arr 2 S39))) x1),(2,.ptr 5000 [] 0),(5,.ptr 5161 [] 0),(7,.ptr 5322 [] 0),(9,vi s2.1),(10,.ptr 5423 [] 0),(11,.ptr 5544 [] 0),(12,.v (.sl S50) t4.2)] [(5000,.var 24 S24 x0),(5161,.var 29 S29 s2.2.1),(5322,.var 29 S29 s2.2.2),(5423,.var 66 S66 ((getD x0.2.2 (toNat s2.1) S66.dflt).1,(getD x0.2.2 (toNat s2.1) S66.dflt).2.1,(getD x0.2.2 (toNat s2.1) S66.dflt).2.2.1,(getD x0.2.2 (toNat s2.1) S66.dflt).2.2.2.1,(getD x0.2.2 (toNat s2.1) S66.dflt).2.2.2.2.1,(getD x0.2.2 (toNat s2.1) S66.dflt).2.2.2.2.2.1,replicate 3 (replicate 2 (0,0,0,0,0,[])))),(5544,.var 29 S29 t4.1)] [] [] 5545 rfl (by kernel_rfl) c0 (sq rfl (sq rfl (rg [(1,.v (.sl (.arr 3 (.arr 2 S39))) x1),(2,.ptr 5000 [] 0),(5,.ptr 5161 [] 0),(7,.ptr 5322 [] 0),(9,vi s2.1),(10,.ptr 5423 [] 0),(11,.ptr 5544 [] 0),(12,.v (.sl S50) t4.2),(66,vb (decide (s2.1<((length x1:Nat):Int))))] [(5000,.var 24 S24 x0),(5161,.var 29 S29 s2.2.1),(5322,.var 29 S29 s2.2.2),(5423,.var 66 S66 ((getD x0.2.2 (toNat s2.1) S66.dflt).1,(getD x0.2.2 (toNat s2.1) S66.dflt).2.1,(getD x0.2.2 (toNat s2.1) S66.dflt).2.2.1,(getD x0.2.2 (toNat s2.1) S66.dflt).2.2.2.1,(getD x0.2.2 (toNat s2.1) S66.dflt).2.2.2.2.1,(getD x0.2.2 (toNat s2.1) S66.dflt).2.2.2.2.2.1,replicate 3 (replicate 2 (0,0,0,0,0,[])))),(5544,.var 29 S29 t4.1)] [] [] 5545 rfl (by kernel_rfl) c0 ?_)))))
     obtain ⟨r4,F2,F1⟩:=obd F1
     refine run_cut (fun r4'=>r4=r4') (fun r4=>[(1,.v (.sl (.arr 3 (.arr 2 S39))) x1),(2,.ptr 5000 [] 0),(5,.ptr 5161 [] 0),(7,.ptr 5322 [] 0),(9,vi s2.1),(10,.ptr 5423 [] 0),(11,.ptr 5544 [] 0),(12,.v (.sl S50) t4.2)]) (fun r4=>[(5000,.var 24 S24 x0),(5161,.var 29 S29 s2.2.1),(5322,.var 29 S29 s2.2.2),(5423,.var 66 S66 r4),(5544,.var 29 S29 t4.1)]) (fun r4' h11=>?_) (fun J4_0=>?_)
     ·subst h11
      refine sq rfl ?_
      obtain ⟨t5,h12,F1⟩:=obd F1
      refine rg [(1,.v (.sl (.arr 3 (.arr 2 S39))) x1),(2,.ptr 5000 [] 0),(5,.ptr 5161 [] 0),(7,.ptr 5322 [] 0),(9,vi s2.1),(11,.ptr 5544 [] 0),(12,.v (.sl S50) t4.2),(13,.ptr 5665 [] 0),(14,.v (.sl S50) t5.2)] [(5000,.var 24 S24 x0),(5161,.var 29 S29 s2.2.1),(5322,.var 29 S29 s2.2.2),(5544,.var 29 S29 t4.1),(5665,.var 29 S29 t5.1)] [(2,⟨[.v S29,.v S66],.tup [.v S29 t5.1,.v (.sl S50) t5.2],none⟩)] [] 5545 rfl (by kernel_rfl) (cc (W_cluster_Step h12) c0) (sq rfl (sq rfl ?_))
      obtain ⟨r5,F2,F1⟩:=obd F1
      refine run_cut (fun r5'=>r5=r5') (fun r5=>[(1,.v (.sl (.arr 3 (.arr 2 S39))) x1),(2,.ptr 5000 [] 0),(5,.ptr 5161 [] 0),(7,.ptr 5322 [] 0),(9,vi s2.1),(11,.ptr 5544 [] 0),(13,.ptr 5665 [] 0),(101,vb r5)]) (fun r5=>[(5000,.var 24 S24 x0),(5161,.var 29 S29 s2.2.1),(5322,.var 29 S29 s2.2.2),(5544,.var 29 S29 t4.1),(5665,.var 29 S29 t5.1)]) (fun r5' h13=>?_) (fun J5_0=>?_)
      ·subst h13
       refine run_if rfl rfl (fun h14=>?_) (fun h14=>?_)
       ·replace F1:=ift h14 F1
        refine sq rfl (rg [(4,vb false)] [] [] [] 5666 rfl (by kernel_rfl) c0 ?_)
        have e2:=inrI hr2 F1
        subst e2
        replace F0:=sumL F0
        obtain rfl:=inj F0
        exact ret_pure (q:=[vb false]) [.bool] rfl rfl (by kernel_rfl)
       ·replace F1:=ifn h14 F1
        refine sk rfl (sq rfl (sq rfl (rg [(1,.v (.sl (.arr 3 (.arr 2 S39))) x1),(2,.ptr 5000 [] 0),(5,.ptr 5161 [] 0),(7,.ptr 5322 [] 0),(9,vi s2.1),(11,.ptr 5544 [] 0),(13,.ptr 5665 [] 0),(15,vi 0)] [(5000,.var 24 S24 x0),(5161,.var 29 S29 s2.2.1),(5322,.var 29 S29 s2.2.2),(5544,.var 29 S29 t4.1),(5665,.var 29 S29 t5.1)] [] [] 5666 rfl (by kernel_rfl) c0 (bk rfl ?_))))
        obtain ⟨r6,hl6,F1⟩:=obd F1
        refine run_cutx 2 rfl (fun j61=>r6=Sum.inr j61) (fun j61=>[(1,.v (.sl (.arr 3 (.arr 2 S39))) x1),(2,.ptr 5000 [] 0),(5,.ptr 5161 [] 0),(7,.ptr 5322 [] 0),(9,vi s2.1),(11,.ptr 5544 [] 0),(13,.ptr 5665 [] 0)]) (fun j61=>[(5000,.var 24 S24 x0),(5161,.var 29 S29 s2.2.1),(5322,.var 29 S29 s2.2.2),(5544,.var 29 S29 t4.1),(5665,.var 29 S29 t5.1)]) (fun j61 h15=>?_) (fun J6_1=>?_)
        ·subst h15
         replace F1:=sumR F1
         refine rG [(1,.v (.sl (.arr 3 (.arr 2 S39))) x1),(2,.ptr 5000 [] 0),(5,.ptr 5161 [] 0),(7,.ptr 5322 [] 0),(9,vi s2.1)] [(5000,.var 24 S24 x0),(5161,.var 29 S29 t4.1),(5322,.var 29 S29 t5.1)] [] [] 5666 rfl rfl (by kernel_rfl) (cc (show (.v S29 t5.1:AVal)=(.v S29 t5.1) from rfl) c0) (eb (rg [(1,.v (.sl (.arr 3 (.arr 2 S39))) x1),(2,.ptr 5000 [] 0),(5,.ptr 5161 [] 0),(7,.ptr 5322 [] 0),(9,vi (wrap .i64 (s2.1+1)))] [(5000,.var 24 S24 x0),(5161,.var 29 S29 t4.1),(5322,.var 29 S29 t5.1)] [] [] 5323 rfl (by kernel_rfl) c0 ?_))
         exact ih2 _ (inj F1).symm
        refine run_loop rfl (run_loopO hl6 (fun s6=>[(1,.v (.sl (.arr 3 (.arr 2 S39))) x1),(2,.ptr 5000 [] 0),(5,.ptr 5161 [] 0),(7,.ptr 5322 [] 0),(9,vi s2.1),(11,.ptr 5544 [] 0),(13,.ptr 5665 [] 0),(15,vi s6)]) (fun s6=>[(5000,.var 24 S24 x0),(5161,.var 29 S29 s2.2.1),(5322,.var 29 S29 s2.2.2),(5544,.var 29 S29 t4.1),(5665,.var 29 S29 t5.1)]) rfl rfl (fun s6 o6 F2 ih6 hr6=>?_))
        unfold F_congresslaw15_ClusterBlind_b6 at F2
        refine run_again (sq rfl (sq rfl (rg [(1,.v (.sl (.arr 3 (.arr 2 S39))) x1),(2,.ptr 5000 [] 0),(5,.ptr 5161 [] 0),(7,.ptr 5322 [] 0),(9,vi s2.1),(11,.ptr 5544 [] 0),(13,.ptr 5665 [] 0),(15,vi s6),(106,vb (decide (s6<((length t4.1.2.1:Nat):Int))))] [(5000,.var 24 S24 x0),(5161,.var 29 S29 s2.2.1),(5322,.var 29 S29 s2.2.2),(5544,.var 29 S29 t4.1),(5665,.var 29 S29 t5.1)] [] [] 5666 rfl (by kernel_rfl) c0 ?_)))
        refine run_if rfl rfl (fun h16=>?_) (fun h16=>?_)
        ·replace F2:=ift h16 F2
         refine sk rfl (sq rfl (bk rfl (sq rfl ?_)))
         obtain ⟨h17,F2⟩:=ifg F2
         obtain ⟨t6,h18,F2⟩:=obd F2
         obtain ⟨h19,F2⟩:=ifg F2
         obtain ⟨t7,h20,F2⟩:=obd F2
         obtain ⟨t8,h21,F2⟩:=obd F2
         refine rG [(1,.v (.sl (.arr 3 (.arr 2 S39))) x1),(2,.ptr 5000 [] 0),(5,.ptr 5161 [] 0),(7,.ptr 5322 [] 0),(9,vi s2.1),(11,.ptr 5544 [] 0),(13,.ptr 5665 [] 0),(15,vi s6),(122,vb (!t8))] [(5000,.var 24 S24 x0),(5161,.var 29 S29 s2.2.1),(5322,.var 29 S29 s2.2.2),(5544,.var 29 S29 t4.1),(5665,.var 29 S29 t5.1)] [(5,⟨[.v S78],.v S78 t6,none⟩),(11,⟨[.v S78],.v S78 t7,none⟩),(12,⟨[.v S78,.v S78],vb t8,none⟩)] [] 5666 rfl rfl (by kernel_rfl) (cc h17 (cc (W_congressref13_Plain h18) (cc h19 (cc (W_congressref13_Plain h20) (cc (W_congressref13_Is h21) c0))))) ?_
         refine run_if rfl rfl (fun h22=>?_) (fun h22=>?_)
         ·replace F2:=ift h22 F2
          refine sq rfl (rg [(4,vb false)] [] [] [] 5666 rfl (by kernel_rfl) c0 ?_)
          have e6:=inrI hr6 F2
          subst e6
          replace F1:=sumL F1
          have e2:=inrI hr2 F1
          subst e2
          replace F0:=sumL F0
          obtain rfl:=inj F0
          exact ret_pure (q:=[vb false]) [.bool] rfl rfl (by kernel_rfl)
         ·replace F2:=ifn h22 F2
          refine sk rfl (eb (rg [(1,.v (.sl (.arr 3 (.arr 2 S39))) x1),(2,.ptr 5000 [] 0),(5,.ptr 5161 [] 0),(7,.ptr 5322 [] 0),(9,vi s2.1),(11,.ptr 5544 [] 0),(13,.ptr 5665 [] 0),(15,vi (wrap .i64 (s6+1)))] [(5000,.var 24 S24 x0),(5161,.var 29 S29 s2.2.1),(5322,.var 29 S29 s2.2.2),(5544,.var 29 S29 t4.1),(5665,.var 29 S29 t5.1)] [] [] 5666 rfl (by kernel_rfl) c0 ?_))
          exact ih6 _ (inj F2).symm
        ·replace F2:=ifn h16 F2
         refine run_exit rfl rfl (tm (ρ':=[(1,.v (.sl (.arr 3 (.arr 2 S39))) x1),(2,.ptr 5000 [] 0),(5,.ptr 5161 [] 0),(7,.ptr 5322 [] 0),(9,vi s2.1),(11,.ptr 5544 [] 0),(13,.ptr 5665 [] 0)]) (H':=[(5000,.var 24 S24 x0),(5161,.var 29 S29 s2.2.1),(5322,.var 29 S29 s2.2.2),(5544,.var 29 S29 t4.1),(5665,.var 29 S29 t5.1)]) (by kernel_rfl) (by kernel_rfl) rfl ?_)
         exact J6_1 _ (inrI hr6 F2).symm
      obtain ⟨t9,h23,F2⟩:=obd F2
      obtain ⟨t10,h24,F2⟩:=obd F2
      obtain ⟨t11,h25,F2⟩:=obd F2
      rcases Bool.eq_false_or_eq_true (!t11) with h26|h26
      ·replace F2:=ift h26 F2
       refine rg [(1,.v (.sl (.arr 3 (.arr 2 S39))) x1),(2,.ptr 5000 [] 0),(5,.ptr 5161 [] 0),(7,.ptr 5322 [] 0),(9,vi s2.1),(11,.ptr 5544 [] 0),(13,.ptr 5665 [] 0),(101,vb true)] [(5000,.var 24 S24 x0),(5161,.var 29 S29 s2.2.1),(5322,.var 29 S29 s2.2.2),(5544,.var 29 S29 t4.1),(5665,.var 29 S29 t5.1)] [(1,⟨[.v (.sl S50)],.v (.sl S50) t9,none⟩),(3,⟨[.v (.sl S50)],.v (.sl S50) t10,none⟩),(4,⟨[.v (.sl S50),.v (.sl S50)],vb t11,none⟩)] [(6,true)] 5666 rfl (by kernel_rfl) (cc (W_congressref15_Blank h23) (cc (W_congressref15_Blank h24) (cc (W_congressref15_Same h25) (cc h26 c0)))) ?_
       exact J5_0 _ (inj F2).symm
      ·replace F2:=ifn h26 F2
       rcases Bool.eq_false_or_eq_true (((length t4.1.2.2.2:Nat):Int) != ((length t5.1.2.2.2:Nat):Int)) with h27|h27
       ·replace F2:=ift h27 F2
        refine rg [(1,.v (.sl (.arr 3 (.arr 2 S39))) x1),(2,.ptr 5000 [] 0),(5,.ptr 5161 [] 0),(7,.ptr 5322 [] 0),(9,vi s2.1),(11,.ptr 5544 [] 0),(13,.ptr 5665 [] 0),(101,vb true)] [(5000,.var 24 S24 x0),(5161,.var 29 S29 s2.2.1),(5322,.var 29 S29 s2.2.2),(5544,.var 29 S29 t4.1),(5665,.var 29 S29 t5.1)] [(1,⟨[.v (.sl S50)],.v (.sl S50) t9,none⟩),(3,⟨[.v (.sl S50)],.v (.sl S50) t10,none⟩),(4,⟨[.v (.sl S50),.v (.sl S50)],vb t11,none⟩)] [(6,false),(15,true)] 5666 rfl (by kernel_rfl) (cc (W_congressref15_Blank h23) (cc (W_congressref15_Blank h24) (cc (W_congressref15_Same h25) (cc h26 (cc h27 c0))))) ?_
        exact J5_0 _ (inj F2).symm
       ·replace F2:=ifn h27 F2
        refine rg [(1,.v (.sl (.arr 3 (.arr 2 S39))) x1),(2,.ptr 5000 [] 0),(5,.ptr 5161 [] 0),(7,.ptr 5322 [] 0),(9,vi s2.1),(11,.ptr 5544 [] 0),(13,.ptr 5665 [] 0),(101,vb (((length t4.1.2.1:Nat):Int) != ((length t5.1.2.1:Nat):Int)))] [(5000,.var 24 S24 x0),(5161,.var 29 S29 s2.2.1),(5322,.var 29 S29 s2.2.2),(5544,.var 29 S29 t4.1),(5665,.var 29 S29 t5.1)] [(1,⟨[.v (.sl S50)],.v (.sl S50) t9,none⟩),(3,⟨[.v (.sl S50)],.v (.sl S50) t10,none⟩),(4,⟨[.v (.sl S50),.v (.sl S50)],vb t11,none⟩)] [(6,false),(15,false)] 5666 rfl (by kernel_rfl) (cc (W_congressref15_Blank h23) (cc (W_congressref15_Blank h24) (cc (W_congressref15_Same h25) (cc h26 (cc h27 c0))))) ?_
        exact J5_0 _ (inj F2).symm
     refine run_if rfl rfl (fun h28=>?_) (fun h28=>?_)
     ·replace F2:=ift h28 F2
      obtain ⟨h29,F2⟩:=ifg F2
      refine rg [(1,.v (.sl (.arr 3 (.arr 2 S39))) x1),(2,.ptr 5000 [] 0),(5,.ptr 5161 [] 0),(7,.ptr 5322 [] 0),(9,vi s2.1),(10,.ptr 5423 [] 0),(11,.ptr 5544 [] 0),(12,.v (.sl S50) t4.2)] [(5000,.var 24 S24 x0),(5161,.var 29 S29 s2.2.1),(5322,.var 29 S29 s2.2.2),(5423,.var 66 S66 ((getD x0.2.2 (toNat s2.1) S66.dflt).1,(getD x0.2.2 (toNat s2.1) S66.dflt).2.1,(getD x0.2.2 (toNat s2.1) S66.dflt).2.2.1,(getD x0.2.2 (toNat s2.1) S66.dflt).2.2.2.1,(getD x0.2.2 (toNat s2.1) S66.dflt).2.2.2.2.1,(getD x0.2.2 (toNat s2.1) S66.dflt).2.2.2.2.2.1,getD x1 (toNat s2.1) (replicate 3 (replicate 2 (0,0,0,0,0,[]))))),(5544,.var 29 S29 t4.1)] [] [] 5545 rfl (by kernel_rfl) (cc h29 c0) ?_
      exact J4_0 _ (inj F2).symm
     ·replace F2:=ifn h28 F2
      refine sk rfl (tm (ρ':=[(1,.v (.sl (.arr 3 (.arr 2 S39))) x1),(2,.ptr 5000 [] 0),(5,.ptr 5161 [] 0),(7,.ptr 5322 [] 0),(9,vi s2.1),(10,.ptr 5423 [] 0),(11,.ptr 5544 [] 0),(12,.v (.sl S50) t4.2)]) (H':=[(5000,.var 24 S24 x0),(5161,.var 29 S29 s2.2.1),(5322,.var 29 S29 s2.2.2),(5423,.var 66 S66 ((getD x0.2.2 (toNat s2.1) S66.dflt).1,(getD x0.2.2 (toNat s2.1) S66.dflt).2.1,(getD x0.2.2 (toNat s2.1) S66.dflt).2.2.1,(getD x0.2.2 (toNat s2.1) S66.dflt).2.2.2.1,(getD x0.2.2 (toNat s2.1) S66.dflt).2.2.2.2.1,(getD x0.2.2 (toNat s2.1) S66.dflt).2.2.2.2.2.1,replicate 3 (replicate 2 (0,0,0,0,0,[])))),(5544,.var 29 S29 t4.1)]) (by kernel_rfl) (by kernel_rfl) rfl ?_)
      exact J4_0 _ (inj F2).symm
    ·replace F1:=ifn h8 F1
     refine run_exit rfl rfl (tm (ρ':=[]) (H':=[]) (by kernel_rfl) (by kernel_rfl) rfl ?_)
     exact J2_1 _ (inrI hr2 F1).symm
   rcases Bool.eq_false_or_eq_true (decide (s2.1<((length x0.2.2:Nat):Int))) with h30|h30
   ·replace F2:=ift h30 F2
    refine rg [(1,.v (.sl (.arr 3 (.arr 2 S39))) x1),(2,.ptr 5000 [] 0),(5,.ptr 5161 [] 0),(7,.ptr 5322 [] 0),(9,vi s2.1),(47,vb (decide (s2.1<100)))] [(5000,.var 24 S24 x0),(5161,.var 29 S29 s2.2.1),(5322,.var 29 S29 s2.2.2)] [] [(5,true)] 5323 rfl (by kernel_rfl) (cc h30 c0) ?_
    exact J3_0 _ (inj F2).symm
   ·replace F2:=ifn h30 F2
    refine rg [(1,.v (.sl (.arr 3 (.arr 2 S39))) x1),(2,.ptr 5000 [] 0),(5,.ptr 5161 [] 0),(7,.ptr 5322 [] 0),(9,vi s2.1),(47,vb false)] [(5000,.var 24 S24 x0),(5161,.var 29 S29 s2.2.1),(5322,.var 29 S29 s2.2.2)] [] [(5,false)] 5323 rfl (by kernel_rfl) (cc h30 c0) ?_
    exact J3_0 _ (inj F2).symm
 obtain ⟨t12,h31,F1⟩:=obd F1
 rcases Bool.eq_false_or_eq_true (!t12) with h32|h32
 ·replace F1:=ift h32 F1
  refine rg [(1,.v (.sl (.arr 3 (.arr 2 S39))) x1),(2,.ptr 5000 [] 0),(5,.ptr 5161 [] 0),(7,.ptr 5322 [] 0),(37,vb true)] [(5000,.var 24 S24 x0),(5161,.var 29 S29 t1.1),(5322,.var 29 S29 t2.1)] [(0,⟨[],vb t12,none⟩)] [(2,true)] 5323 rfl (by kernel_rfl) (cc (W_congresslaw15_fixed h31) (cc h32 c0)) ?_
  exact J1_0 _ (inj F1).symm
 ·replace F1:=ifn h32 F1
  refine rg [(1,.v (.sl (.arr 3 (.arr 2 S39))) x1),(2,.ptr 5000 [] 0),(5,.ptr 5161 [] 0),(7,.ptr 5322 [] 0),(37,vb (!t1.2))] [(5000,.var 24 S24 x0),(5161,.var 29 S29 t1.1),(5322,.var 29 S29 t2.1)] [(0,⟨[],vb t12,none⟩)] [(2,false)] 5323 rfl (by kernel_rfl) (cc (W_congresslaw15_fixed h31) (cc h32 c0)) ?_
  exact J1_0 _ (inj F1).symm
end Go.Proofs.YtjcbamenfaoffaaGreatDoor
